import Derived.Test.YtnepjgnnppfibaaQ20

section
/- The lowest surface: it lies in the enclosure and meets the tolerance; the reference's. -/
namespace Go.Proofs.Ytnepjgnnppfibaa
open Go Go.RowKit Go.Shelf

theorem bnd_comm (p s : Int) (i k : Nat) : bndF p s i k = bndF p s k i := by
  unfold bndF
  rw [show ((i : Int) - (k : Int)).natAbs = ((k : Int) - (i : Int)).natAbs by omega]
theorem bnd_self {p s : Int} (hp : 0 ≤ p) (i : Nat) : bndF p s i i = 0 := by
  unfold bndF
  rw [show (((i : Int) - (i : Int)).natAbs : Int) = 0 by omega, Int.mul_zero]
  omega
theorem bnd_tri {p s : Int} (hp : 0 ≤ p) (hs : 0 ≤ s) (i j k : Nat) : bndF p s i k ≤ bndF p s i j + bndF p s j k := by
  unfold bndF
  have h1 : s * (((i : Int) - (k : Int)).natAbs : Int) ≤ s * ((((i : Int) - (j : Int)).natAbs : Int) + (((j : Int) - (k : Int)).natAbs : Int)) := Int.mul_le_mul_of_nonneg_left (by omega) hs
  rw [Int.mul_add] at h1
  have h2 : 0 ≤ s * (((i : Int) - (j : Int)).natAbs : Int) := Int.mul_nonneg hs (by omega)
  have h3 : 0 ≤ s * (((j : Int) - (k : Int)).natAbs : Int) := Int.mul_nonneg hs (by omega)
  omega
theorem low_ge (l : List (Int × Int)) (p s : Int) (i : Nat) : ∀ m, (l.getD i (0, 0)).1 ≤ lowF l p s i m ∧ ∀ k, k < m → (l.getD k (0, 0)).1 - bndF p s i k ≤ lowF l p s i m := by
  intro m
  induction m with
  | zero => exact ⟨Int.le_refl _, fun k hk => by omega⟩
  | succ m ih =>
    rw [lowF_succ]
    refine ⟨by have := ih.1; omega, fun k hk => ?_⟩
    by_cases h : k = m
    · subst h; omega
    · have := ih.2 k (by omega); omega
theorem low_at (l : List (Int × Int)) (p s : Int) (i : Nat) : ∀ m, lowF l p s i m = (l.getD i (0, 0)).1 ∨ ∃ k, k < m ∧ lowF l p s i m = (l.getD k (0, 0)).1 - bndF p s i k := by
  intro m
  induction m with
  | zero => exact .inl rfl
  | succ m ih =>
    rw [lowF_succ]
    by_cases h : lowF l p s i m ≤ (l.getD m (0, 0)).1 - bndF p s i m
    · exact .inr ⟨m, by omega, by omega⟩
    · rcases ih with h1 | ⟨k, hk, h1⟩
      · exact .inl (by omega)
      · exact .inr ⟨k, by omega, by omega⟩
theorem low_of {l : List (Int × Int)} {p s : Int} (hp : 0 ≤ p) {i m : Nat} (hi : i < m) : ∃ k, k < m ∧ lowF l p s i m = (l.getD k (0, 0)).1 - bndF p s i k := by
  rcases low_at l p s i m with h | h
  · exact ⟨i, hi, by rw [h, bnd_self hp]; omega⟩
  · exact h
theorem surf_hi {l : List (Int × Int)} {p s : Int} {n : Nat} (hn : l.length = n) (hr : ∀ x ∈ l, -100000 ≤ x.1 ∧ x.1 ≤ x.2 ∧ x.2 ≤ 100000) (hp : 0 ≤ p) (h : firstP n (refB l p s) = none) {i : Nat} (hi : i < n) : (l.getD i (0, 0)).1 ≤ lowF l p s i n ∧ lowF l p s i n ≤ (l.getD i (0, 0)).2 := by
  refine ⟨(low_ge l p s i n).1, ?_⟩
  obtain ⟨k, hk, h1⟩ := low_of (l := l) (s := s) hp hi
  by_cases e : k = i
  · subst e
    rw [h1, bnd_self hp]
    have hx : l[k]? = some (l[k]'(by omega)) := List.getElem?_eq_getElem (by omega)
    have := hr _ (List.mem_of_getElem? hx)
    rw [getD_of hx]
    omega
  · have h2 := firstP_no h hk hi e
    unfold refB at h2
    have h3 := of_decide_eq_false h2
    have := bnd_comm p s i k
    omega
theorem surf_near {l : List (Int × Int)} {p s : Int} {n : Nat} (hp : 0 ≤ p) (hs : 0 ≤ s) {i k : Nat} (hi : i < n) (hk : k < n) : lowF l p s i n - lowF l p s k n ≤ bndF p s i k := by
  obtain ⟨j, hj, h1⟩ := low_of (l := l) (s := s) hp hi
  have h2 := (low_ge l p s k n).2 j hj
  have h3 := bnd_tri hp hs k i j
  have h4 := bnd_comm p s i k
  omega
theorem surf_getD {l : List (Int × Int)} {p s : Int} {n : Nat} (hn : l.length = n) {i : Nat} (hi : i < n) : (surfF l p s n).getD i 0 = lowF l p s i n := by
  unfold surfF
  refine getD_of ?_
  rw [List.getElem?_map, List.getElem?_range hi, hn]
  rfl
theorem surf_len (l : List (Int × Int)) (p s : Int) (n : Nat) : (surfF l p s n).length = n := by unfold surfF; simp
theorem surf_meets {l : List (Int × Int)} {p s : Int} {n : Nat} (hn : l.length = n) (hE : judgeErr l p s = 0) : meetErr (surfF l p s n) p s = 0 ∧ firstP n (meetB (surfF l p s n) p s) = none := by
  obtain ⟨hE1, hE2⟩ := judgeErr_ok hE
  obtain ⟨n1, n2, hr⟩ := encl_ok hE1
  obtain ⟨t1, t2, t3, t4⟩ := tol_ok hE2
  refine ⟨?_, firstP_none fun x hx => ?_⟩
  · have h1 : heightsErr (surfF l p s n) = 0 := by
      unfold heightsErr
      rw [surf_len, if_neg (by omega), if_neg]
      intro h
      obtain ⟨z, hz, h2⟩ := List.any_eq_true.1 h
      unfold surfF at hz
      obtain ⟨i, hi, rfl⟩ := List.mem_map.1 hz
      have h3 := lowF_in (i := i) hr t1 t3 l.length
      have h4 := hgtB_iff.2 h3
      rw [h4] at h2
      cases h2
    unfold meetErr
    rw [h1, if_neg (by simp)]
    exact hE2
  · obtain ⟨hi, hk, hne⟩ := mem_pairs.1 hx
    unfold meetB
    rw [surf_getD hn hi, surf_getD hn hk]
    have h1 := surf_near (l := l) t1 t3 hi hk
    have h2 := surf_near (l := l) t1 t3 hk hi
    have h3 := bnd_comm p s x.1 x.2
    rw [Bool.and_eq_false_iff]
    exact .inr (decide_eq_false (by omega))

set_option maxRecDepth 100000 in
set_option maxHeartbeats 4000000 in
theorem rsurface_no (A : Option Addr) (n c : Nat) (l : List (Int × Int)) (p s : Int) (hE : judgeErr l p s = 0) (a b : Nat) (ho : firstP n (refB l p s) = some (a, b)) (w : World) (hx : Reads w w.heap.size 2 A n (cells2 l)) :
    Calls Try.prog 46 #[.slice A n c, .agg #[.int .i64 p, .int .i64 s]] w fun e w' => e = .returned (.tuple #[.slice none 0 0, .bool false]) ∧ Below w.heap.size w w' := by
  have HX := Lib.hid hx
  have HE := Lib.hid hE
  have HO := Lib.hid (show firstP n (refB l p s) = if true then some (a, b) else none from ho)
  clear hx hE ho
  go_enter Try.func46, Try.ntmps46
  go_wp2_with fail
  generalize hwn : (w.alloc (.cells #[.int .i64 (p), .int .i64 (s)] 38)) = w1
  have hbn : Below w.heap.size w w1 := by rw [← hwn]; repeat' (first | exact Below.refl _ _ | refine below_drewN ?_ _ | refine Below.drew ?_ | refine Below.alloc ?_ (by first | omega | (simp; done) | (simp; omega) | (simp [World.setCell]; omega)) _ | refine Below.setCell ?_ (by first | omega | (simp; done) | (simp; omega)) _)
  have HB1 := Lib.hid (show Below w.heap.size w w1 from hbn)
  have K0_1 := Lib.hid (show Blk w1 (w.heap.size) 38 #[.int .i64 (p), .int .i64 (s)] by rw [← hwn]; repeat' (first | exact Blk.at_ _ (by first | rfl | (simp; done) | (simp; omega)) _ _ | refine Blk.drewN ?_ _ | refine Blk.drew ?_ | refine Blk.alloc ?_ _ | refine Blk.far ?_ (by first | omega | (simp; done) | (simp; omega)) _ | assumption))
  have HN1 := Lib.hid hbn
  have hz1 := hbn.size
  clear hwn hbn
  have l0_1 : w.heap.size < w1.heap.size := K0_1.out.lt
  have z0_0_1 : w1.cell? ⟨w.heap.size, 0, none⟩ = some (.int .i64 (p)) := K0_1.out.cell 0
  have z0_1_1 : w1.cell? ⟨w.heap.size, 1, none⟩ = some (.int .i64 (s)) := K0_1.out.cell 1
  refine (refused_is A n c l p s HE.out a b true HO.out (fun h => by cases h) _ ((HX.out.below HB1.out).more HB1.out.size)).mono ?_
  rintro e w2 ⟨rfl, hb⟩
  have HB2 := Lib.hid (show Below w.heap.size w w2 from step_below hb (by repeat' (first | exact Below.refl _ _ | exact HB1.out | refine below_drewN ?_ _ | refine Below.drew ?_ | refine Below.alloc ?_ (by first | omega | (simp; done) | (simp; omega) | (simp [World.setCell]; omega)) _ | refine Below.setCell ?_ (by first | omega | (simp; done) | (simp; omega)) _ | assumption)))
  have K0_2 := Lib.hid (step_blk hb (show Blk _ (w.heap.size) 38 #[.int .i64 (p), .int .i64 (s)] by repeat' (first | exact K0_1.out | exact Blk.at_ _ (by first | rfl | (simp; done) | (simp; omega)) _ _ | refine Blk.drewN ?_ _ | refine Blk.drew ?_ | refine Blk.alloc ?_ _ | refine Blk.far ?_ (by first | omega | (simp; done) | (simp; omega)) _ | assumption)))
  have hz2 := hb.size
  try simp only [World.size_alloc, World.drewN, World.drew] at hz2
  clear hb K0_1 z0_0_1 z0_1_1 l0_1
  have l0_2 : w.heap.size < w2.heap.size := K0_2.out.lt
  have z0_0_2 : w2.cell? ⟨w.heap.size, 0, none⟩ = some (.int .i64 (p)) := K0_2.out.cell 0
  have z0_1_2 : w2.cell? ⟨w.heap.size, 1, none⟩ = some (.int .i64 (s)) := K0_2.out.cell 1
  go_wp2
  go_ret2
  exact ⟨rfl, by repeat' (first | exact Below.refl _ _ | exact HB2.out | refine below_drewN ?_ _ | refine Below.drew ?_ | refine Below.alloc ?_ (by first | omega | (simp; done) | (simp; omega) | (simp [World.setCell]; omega)) _ | refine Below.setCell ?_ (by first | omega | (simp; done) | (simp; omega)) _ | assumption)⟩

set_option maxRecDepth 100000 in
set_option maxHeartbeats 4000000 in
theorem rsurface_ok (A : Option Addr) (n c : Nat) (l : List (Int × Int)) (p s : Int) (hE : judgeErr l p s = 0) (ho : firstP n (refB l p s) = none) (w : World) (hx : Reads w w.heap.size 2 A n (cells2 l)) :
    Calls Try.prog 46 #[.slice A n c, .agg #[.int .i64 p, .int .i64 s]] w fun e w' => ∃ A' c', e = .returned (.tuple #[.slice A' n c', .bool true]) ∧ Below w.heap.size w w' ∧ Reads w' w'.heap.size 1 A' n ((surfF l p s n).map (.int .i64)) := by
  have hl := hx.len2
  obtain ⟨hE1, hE2⟩ := judgeErr_ok hE
  obtain ⟨n1, n2, hr⟩ := encl_ok hE1
  obtain ⟨t1, t2, t3, t4⟩ := tol_ok hE2
  rw [hl] at n1 n2
  have HX := Lib.hid hx
  have HE := Lib.hid hE
  have HO := Lib.hid (show firstP n (refB l p s) = if false then some (0, 0) else none from ho)
  have HL := Lib.hid hl
  have HRG := Lib.hid hr
  clear hE ho hl hE1 hE2 hr hx
  go_enter Try.func46, Try.ntmps46
  go_wp2_with fail
  generalize hwn : (w.alloc (.cells #[.int .i64 (p), .int .i64 (s)] 38)) = w1
  have hbn : Below w.heap.size w w1 := by rw [← hwn]; repeat' (first | exact Below.refl _ _ | refine below_drewN ?_ _ | refine Below.drew ?_ | refine Below.alloc ?_ (by first | omega | (simp; done) | (simp; omega) | (simp [World.setCell]; omega)) _ | refine Below.setCell ?_ (by first | omega | (simp; done) | (simp; omega)) _)
  have HB1 := Lib.hid (show Below w.heap.size w w1 from hbn)
  have K0_1 := Lib.hid (show Blk w1 (w.heap.size) 38 #[.int .i64 (p), .int .i64 (s)] by rw [← hwn]; repeat' (first | exact Blk.at_ _ (by first | rfl | (simp; done) | (simp; omega)) _ _ | refine Blk.drewN ?_ _ | refine Blk.drew ?_ | refine Blk.alloc ?_ _ | refine Blk.far ?_ (by first | omega | (simp; done) | (simp; omega)) _ | assumption))
  have HN1 := Lib.hid hbn
  have hz1 := hbn.size
  clear hwn hbn
  have l0_1 : w.heap.size < w1.heap.size := K0_1.out.lt
  have z0_0_1 : w1.cell? ⟨w.heap.size, 0, none⟩ = some (.int .i64 (p)) := K0_1.out.cell 0
  have z0_1_1 : w1.cell? ⟨w.heap.size, 1, none⟩ = some (.int .i64 (s)) := K0_1.out.cell 1
  refine (refused_is A n c l p s HE.out 0 0 false HO.out (fun _ => ⟨rfl, rfl⟩) _ ((HX.out.below HB1.out).more HB1.out.size)).mono ?_
  rintro e w2 ⟨rfl, hb⟩
  have HB2 := Lib.hid (show Below w.heap.size w w2 from step_below hb (by repeat' (first | exact Below.refl _ _ | exact HB1.out | refine below_drewN ?_ _ | refine Below.drew ?_ | refine Below.alloc ?_ (by first | omega | (simp; done) | (simp; omega) | (simp [World.setCell]; omega)) _ | refine Below.setCell ?_ (by first | omega | (simp; done) | (simp; omega)) _ | assumption)))
  have K0_2 := Lib.hid (step_blk hb (show Blk _ (w.heap.size) 38 #[.int .i64 (p), .int .i64 (s)] by repeat' (first | exact K0_1.out | exact Blk.at_ _ (by first | rfl | (simp; done) | (simp; omega)) _ _ | refine Blk.drewN ?_ _ | refine Blk.drew ?_ | refine Blk.alloc ?_ _ | refine Blk.far ?_ (by first | omega | (simp; done) | (simp; omega)) _ | assumption)))
  have hz2 := hb.size
  try simp only [World.size_alloc, World.drewN, World.drew] at hz2
  clear hb K0_1 z0_0_1 z0_1_1 l0_1
  have l0_2 : w.heap.size < w2.heap.size := K0_2.out.lt
  have z0_0_2 : w2.cell? ⟨w.heap.size, 0, none⟩ = some (.int .i64 (p)) := K0_2.out.cell 0
  have z0_1_2 : w2.cell? ⟨w.heap.size, 1, none⟩ = some (.int .i64 (s)) := K0_2.out.cell 1
  go_wp2
  generalize hwn : (w2.alloc (.cells #[.int .i64 (0), .int .i64 (0)] 39)) = w3
  have hbn : Below w2.heap.size w2 w3 := by rw [← hwn]; repeat' (first | exact Below.refl _ _ | refine below_drewN ?_ _ | refine Below.drew ?_ | refine Below.alloc ?_ (by first | omega | (simp; done) | (simp; omega) | (simp [World.setCell]; omega)) _ | refine Below.setCell ?_ (by first | omega | (simp; done) | (simp; omega)) _)
  have HB3 := Lib.hid (show Below w.heap.size w w3 from HB2.out.trans (hbn.mono HB2.out.size))
  have K0_3 := Lib.hid (step_blk hbn K0_2.out)
  have K1_3 := Lib.hid (show Blk w3 (w2.heap.size) 39 #[.int .i64 (0), .int .i64 (0)] by rw [← hwn]; repeat' (first | exact Blk.at_ _ (by first | rfl | (simp; done) | (simp; omega)) _ _ | refine Blk.drewN ?_ _ | refine Blk.drew ?_ | refine Blk.alloc ?_ _ | refine Blk.far ?_ (by first | omega | (simp; done) | (simp; omega)) _ | assumption))
  have HN3 := Lib.hid hbn
  have hz3 := hbn.size
  clear hwn hbn K0_2 l0_2 z0_0_2 z0_1_2
  have l0_3 : w.heap.size < w3.heap.size := K0_3.out.lt
  have z0_0_3 : w3.cell? ⟨w.heap.size, 0, none⟩ = some (.int .i64 (p)) := K0_3.out.cell 0
  have z0_1_3 : w3.cell? ⟨w.heap.size, 1, none⟩ = some (.int .i64 (s)) := K0_3.out.cell 1
  have l1_3 : w2.heap.size < w3.heap.size := K1_3.out.lt
  have z1_0_3 : w3.cell? ⟨w2.heap.size, 0, none⟩ = some (.int .i64 (0)) := K1_3.out.cell 0
  have z1_1_3 : w3.cell? ⟨w2.heap.size, 1, none⟩ = some (.int .i64 (0)) := K1_3.out.cell 1
  have hs3 := HB3.out.size
  have KT := K0_3
  go_loopw [8, 9] (fun v i wr => ∃ k : Nat, k ≤ n ∧ i = .int .i64 k ∧ Below w3.heap.size w3 wr ∧ wr.ownsRow w3.heap.size 3 1 v k ((surfF l p s k).map (.int .i64))) (fun _ i _ => n - (intOf i).toNat)
  case atStart => exact ⟨0, by omega, rfl, Below.refl _ _, World.ownsRow_nil _ _ _ _⟩
  case round =>
    obtain ⟨k0, hk, rfl, hb, ho⟩ := hrel
    obtain ⟨w4, hnm⟩ : ∃ z : World, z = wr := ⟨_, rfl⟩
    subst hnm
    have HOW := Lib.hid ho
    have HBR := Lib.hid hb
    have hk0 := Blk.below KT.out hb KT.out.lt
    have hb' := HB3.out.trans (hb.mono HB3.out.size)
    have hrd := HX.out.below hb'
    clear hb ho
    have HB4 := Lib.hid hb'
    have K0_4 := Lib.hid (show Blk w4 (w.heap.size) 38 #[.int .i64 (p), .int .i64 (s)] from hk0)
    clear hb' hk0
    have l0_4 : w.heap.size < w4.heap.size := K0_4.out.lt
    have z0_0_4 : w4.cell? ⟨w.heap.size, 0, none⟩ = some (.int .i64 (p)) := K0_4.out.cell 0
    have z0_1_4 : w4.cell? ⟨w.heap.size, 1, none⟩ = some (.int .i64 (s)) := K0_4.out.cell 1
    by_cases hlt : k0 < n
    rotate_left
    · obtain rfl : k0 = n := by omega
      obtain ⟨A6, c6, rfl, hr6⟩ := own_reads HOW.out
      have HR6 := Lib.hid hr6
      clear hr6 hrd
      go_wp2
      go_ret2
      exact ⟨A6, c6, rfl, by repeat' (first | exact Below.refl _ _ | exact HB4.out | refine below_drewN ?_ _ | refine Below.drew ?_ | refine Below.alloc ?_ (by first | omega | (simp; done) | (simp; omega) | (simp [World.setCell]; omega)) _ | refine Below.setCell ?_ (by first | omega | (simp; done) | (simp; omega)) _ | assumption), HR6.out⟩
    have KU := K0_4
    obtain ⟨xb, xo, pq, rfl, hxb, hpq, c0, c1⟩ := hrd.pair hlt
    obtain ⟨pa, pv⟩ := pq
    simp only at c0 c1
    have hkk : (k0 : Int) < (n : Int) := by omega
    have hlow0 : lowF l p s k0 0 = pa := by show (l.getD k0 (0, 0)).1 = pa; rw [getD_of hpq]
    have HLOW0 := Lib.hid hlow0
    clear hpq hlow0 hrd
    go_wp2
    clear c0 c1
    go_loopw [10, 11] (fun v i wr => ∃ j : Nat, j ≤ n ∧ v = .int .i64 (lowF l p s k0 j) ∧ i = .int .i64 j ∧ Below w4.heap.size w4 wr) (fun _ i _ => n - (intOf i).toNat)
    case atStart => exact ⟨0, by omega, by rw [HLOW0.out], rfl, Below.refl _ _⟩
    case round =>
      obtain ⟨j, hj, rfl, rfl, hb⟩ := hrel
      obtain ⟨w5, hnm⟩ : ∃ z : World, z = wr := ⟨_, rfl⟩
      subst hnm
      have HBJ := Lib.hid hb
      have hk0 := Blk.below KU.out hb KU.out.lt
      have hb' := HB4.out.trans (hb.mono HB4.out.size)
      have hrd := HX.out.below hb'
      clear hb
      have HB5 := Lib.hid hb'
      have K0_5 := Lib.hid (show Blk w5 (w.heap.size) 38 #[.int .i64 (p), .int .i64 (s)] from hk0)
      clear hb' hk0
      have l0_5 : w.heap.size < w5.heap.size := K0_5.out.lt
      have z0_0_5 : w5.cell? ⟨w.heap.size, 0, none⟩ = some (.int .i64 (p)) := K0_5.out.cell 0
      have z0_1_5 : w5.cell? ⟨w.heap.size, 1, none⟩ = some (.int .i64 (s)) := K0_5.out.cell 1
      by_cases hjt : j < n
      · obtain ⟨yb, yo, qq, hA, hyb, hqq, d0, d1⟩ := hrd.pair hjt
        obtain ⟨rfl, rfl⟩ : xb = yb ∧ xo = yo := by simpa using hA
        obtain ⟨qa, qv⟩ := qq
        simp only at d0 d1
        have rq := HRG.out _ (List.mem_of_getElem? hqq)
        simp only at rq
        obtain ⟨b, hb⟩ : ∃ b, bndF p s k0 j = b := ⟨_, rfl⟩
        obtain ⟨a, ha⟩ : ∃ a, lowF l p s k0 j = a := ⟨_, rfl⟩
        obtain ⟨g, hg⟩ : ∃ g, (if a < qa - b then qa - b else a) = g := ⟨_, rfl⟩
        have hbi := bnd_in (i := k0) (k := j) t1 t2 t3 (s := s)
        have hai := lowF_in (i := k0) HRG.out t1 t3 j
        rw [hb] at hbi
        rw [ha] at hai
        have hnext : lowF l p s k0 (j + 1) = g := by rw [lowF_succ, ha, hb, getD_of hqq, ← hg]; simp only; omega
        have hjj : (j : Int) < (n : Int) := by omega
        have e3 := IntWalk.i64_in (qa - b) ⟨by omega, by omega⟩
        have HBD := Lib.hid hb
        have HG := Lib.hid hg
        have HNEXT := Lib.hid hnext
        have l5x : xb < w5.heap.size := by have := l0_5; omega
        rw [ha]
        clear hqq hA hrd hb ha hg hnext d1
        have C0_5 := Lib.hid d0
        clear d0
        go_wp2
        refine Fx.regionW (fun W f w' => Below W.heap.size W w') (by kernel_rfl) (by kernel_rfl) ?_ ?_
        · intro f hf0
          exact below_drewN (Below.refl _ _) 1
        repeat (first
          | (refine Fx.skip_ (by rfl) (fun f w h => h) ?_; simp only [Act.put, List.setIfInBounds_toArray, List.set_cons_zero, List.set_cons_succ])
          | (refine Fx.val_ ?_ (by rfl) ?_ (fun f w h => h) ?_
             rotate_left
             · intro f w' hD hk
               have hb := hD
               have kb0 := step_blk hb (show Blk _ (w.heap.size) 38 #[.int .i64 (p), .int .i64 (s)] by repeat' (first | exact K0_5.out | exact Blk.at_ _ (by first | rfl | (simp; done) | (simp; omega)) _ _ | refine Blk.drewN ?_ _ | refine Blk.drew ?_ | refine Blk.alloc ?_ _ | refine Blk.far ?_ (by first | omega | (simp; done) | (simp; omega)) _ | assumption))
               have y0_0 : w'.cell? ⟨w.heap.size, 0, none⟩ = some (.int .i64 (p)) := kb0.cell 0
               have y0_1 : w'.cell? ⟨w.heap.size, 1, none⟩ = some (.int .i64 (s)) := kb0.cell 1
               have yc0 : w'.cell? ⟨xb, xo + j * 2, none⟩ = some (.int .i64 (qa)) := step_cell hb (show World.cell? _ ⟨xb, xo + j * 2, none⟩ = some (.int .i64 (qa)) by first | exact C0_5.out | go_simp) (by have := l5x; first | omega | (simp; omega))
               clear kb0
               clear hk hD hb
               go_simp
               try rfl
             simp only [Act.put, List.setIfInBounds_toArray, List.set_cons_zero, List.set_cons_succ]))
        refine Fx.call_ (.int .i64 (b)) ?_ ?_ (by rfl) ?_ ?_ ?_
        rotate_left 2
        · intro w'
          go_simp
          refine ⟨?_, ?_⟩ <;> rfl
        · intro f w' hD hk
          exact (rbound_is p s k0 j b HBD.out w' t1 t2 t3 t4 (by omega) (by omega)).mono fun e w'' ⟨he, hw⟩ => ⟨he, step_below hw hD⟩
        simp only [Act.put, List.setIfInBounds_toArray, List.set_cons_zero, List.set_cons_succ]
        repeat (first
          | (refine Fx.skip_ (by rfl) (fun f w h => h) ?_; simp only [Act.put, List.setIfInBounds_toArray, List.set_cons_zero, List.set_cons_succ])
          | (refine Fx.val_ ?_ (by rfl) ?_ (fun f w h => h) ?_
             rotate_left
             · intro f w' hD hk
               have hb := hD
               have kb0 := step_blk hb (show Blk _ (w.heap.size) 38 #[.int .i64 (p), .int .i64 (s)] by repeat' (first | exact K0_5.out | exact Blk.at_ _ (by first | rfl | (simp; done) | (simp; omega)) _ _ | refine Blk.drewN ?_ _ | refine Blk.drew ?_ | refine Blk.alloc ?_ _ | refine Blk.far ?_ (by first | omega | (simp; done) | (simp; omega)) _ | assumption))
               have y0_0 : w'.cell? ⟨w.heap.size, 0, none⟩ = some (.int .i64 (p)) := kb0.cell 0
               have y0_1 : w'.cell? ⟨w.heap.size, 1, none⟩ = some (.int .i64 (s)) := kb0.cell 1
               have yc0 : w'.cell? ⟨xb, xo + j * 2, none⟩ = some (.int .i64 (qa)) := step_cell hb (show World.cell? _ ⟨xb, xo + j * 2, none⟩ = some (.int .i64 (qa)) by first | exact C0_5.out | go_simp) (by have := l5x; first | omega | (simp; omega))
               clear kb0
               clear hk hD hb
               go_simp
               try rfl
             simp only [Act.put, List.setIfInBounds_toArray, List.set_cons_zero, List.set_cons_succ]))
        refine Fx.nil_ ?_
        intro f w6 hall hb
        try clear hall
        have HB56 := Lib.hid hb
        have HB6 := Lib.hid (show Below w.heap.size w w6 from step_below hb (by repeat' (first | exact Below.refl _ _ | exact HB5.out | refine below_drewN ?_ _ | refine Below.drew ?_ | refine Below.alloc ?_ (by first | omega | (simp; done) | (simp; omega) | (simp [World.setCell]; omega)) _ | refine Below.setCell ?_ (by first | omega | (simp; done) | (simp; omega)) _ | assumption)))
        have K0_6 := Lib.hid (step_blk hb (show Blk _ (w.heap.size) 38 #[.int .i64 (p), .int .i64 (s)] by repeat' (first | exact K0_5.out | exact Blk.at_ _ (by first | rfl | (simp; done) | (simp; omega)) _ _ | refine Blk.drewN ?_ _ | refine Blk.drew ?_ | refine Blk.alloc ?_ _ | refine Blk.far ?_ (by first | omega | (simp; done) | (simp; omega)) _ | assumption)))
        have C0_6 := Lib.hid (step_cell hb (show World.cell? _ ⟨xb, xo + j * 2, none⟩ = some (.int .i64 (qa)) by first | exact C0_5.out | go_simp) (by have := l5x; first | omega | (simp; omega)))
        have hz6 := hb.size
        try simp only [World.size_alloc, World.drewN, World.drew] at hz6
        clear hb K0_5 z0_0_5 z0_1_5 l0_5
        have l0_6 : w.heap.size < w6.heap.size := K0_6.out.lt
        have z0_0_6 : w6.cell? ⟨w.heap.size, 0, none⟩ = some (.int .i64 (p)) := K0_6.out.cell 0
        have z0_1_6 : w6.cell? ⟨w.heap.size, 1, none⟩ = some (.int .i64 (s)) := K0_6.out.cell 1
        simp only [HG.out]
        have HBZ := Lib.hid (HBJ.out.trans ((show Below w5.heap.size w5 w6 from HB56.out).mono HBJ.out.size))
        go_wp2
        go_roundw
        case rel => exact ⟨j + 1, by omega, by rw [HNEXT.out], by go_num, HBZ.out⟩
        case measure => simp [intOf]; omega
      · obtain rfl : j = n := by omega
        have hbx : Below w3.heap.size w3 w5 := HBR.out.trans (HBJ.out.mono HBR.out.size)
        have HO7 := Lib.hid (own_below HOW.out HBJ.out (Nat.le_refl _))
        obtain ⟨v', W2, hrun, ho2, hb2⟩ := snocint_run w3.heap.size _ k0 _ (lowF l p s k0 j) w5 HO7.out hbx.size (by omega)
        have HRUN := Lib.hid hrun
        have HO2 := Lib.hid ho2
        have HBX := Lib.hid (hbx.trans hb2)
        clear hrun ho2 hb2 hbx hrd
        go_wp2_with (first | (at_builtin; refine wpList_app _ W2 v' rfl _ _ _ rfl _ _ rfl rfl HRUN.out ?_))
        go_roundw
        case rel => exact ⟨k0 + 1, by omega, by go_num, HBX.out, by rw [surfF_succ, HL.out, List.map_append]; exact HO2.out⟩
        case measure => simp [intOf]; omega
end Go.Proofs.Ytnepjgnnppfibaa

end
