import Derived.Deep.CutBlock
import Derived.Test.YtfigbdhfmlhjdaaQ21
import Derived.Test.YtfigbdhfmlhjdaaQ26
import Derived.Test.YtfigbdhfmlhjdaaQ12

section
/- The walk of the statement on exact shares. -/
namespace Go.Proofs.Ytfigbdhfmlhjdaa
open Go Go.RowKit Go.Maps

set_option maxRecDepth 100000 in
set_option maxHeartbeats 1000000 in
theorem checkfracs_zero (a : Int × Int) (ha : FOk a) (A : Option Addr) (c N : Nat) (w : World) (hx : Reads w N 2 A 2 (cells2 [a, (0, 0)])) (hN : N ≤ w.heap.size) :
    Calls Try.prog 39 #[.slice A 2 c] w fun e w' => e = .returned (.int .i64 3) ∧ Below w.heap.size w w' := by
  have HX := Lib.hid hx
  have HA := Lib.hid ha
  have HZ := Lib.hid (show fracErr 0 0 = 3 by decide)
  obtain ⟨d1, d2, n1, n2⟩ := ha.parts
  clear hx ha
  go_enter Try.func39, Try.ntmps39
  go_wp2
  go_loopw [8] (fun i wr => ∃ k : Nat, k ≤ 1 ∧ i = .int .i64 k ∧ Below w.heap.size w wr) (fun i _ => 2 - (intOf i).toNat)
  case atStart => exact ⟨0, by omega, rfl, Below.refl _ _⟩
  case round =>
    obtain ⟨k, hk, rfl, hb⟩ := hrel
    have HB := Lib.hid hb
    clear hb
    obtain ⟨xb, xo, p, rfl, hxb, hp, c0, c1⟩ := (HX.out.belowLe HB.out hN).pair (show k < 2 by omega)
    have hpk : (k = 0 ∧ p = a) ∨ (k = 1 ∧ p = (0, 0)) := by
      rcases (show k = 0 ∨ k = 1 by omega) with rfl | rfl
      · exact .inl ⟨rfl, (by simpa using hp.symm)⟩
      · exact .inr ⟨rfl, (by simpa using hp.symm)⟩
    have hk2 : (k : Int) < 2 := by omega
    clear hp
    rcases hpk with ⟨hk0, rfl⟩ | ⟨hk0, rfl⟩
    · have HK0 := Lib.hid hk0
      clear hk0
      go_wp2_with fail
      refine (checkfrac_is3 _ _ 0 HA.out _ (by omega) (by omega) (by omega) (by omega)).mono ?_
      rintro e w1 ⟨rfl, hb1⟩
      have HB1 : Hid (Below w.heap.size w w1) := (HB.out.alloc HB.out.size _).trans (hb1.mono (HB.out.alloc HB.out.size _).size)
      clear hb1
      go_wp2
      go_roundw
      case rel => exact ⟨k + 1, by have := HK0.out; omega, by go_num, HB1.out⟩
      case measure => simp [intOf]; omega
    · clear hk0
      simp only at c0 c1
      go_wp2_with fail
      refine (checkfrac_is3 _ _ 3 HZ.out _ (by omega) (by omega) (by omega) (by omega)).mono ?_
      rintro e w1 ⟨rfl, hb1⟩
      have HB1 : Hid (Below w.heap.size w w1) := (HB.out.alloc HB.out.size _).trans (hb1.mono (HB.out.alloc HB.out.size _).size)
      clear hb1
      go_wp2
      go_ret
      exact ⟨rfl, HB1.out⟩
set_option maxRecDepth 100000 in
set_option maxHeartbeats 1000000 in
/-- A sum with what is no fraction. -/
theorem numAdd_zero (a : Int × Int) (ha : FOk a) (w : World) :
    Calls Try.prog 18 #[.agg #[.int .i64 a.1, .int .i64 a.2], .agg #[.int .i64 0, .int .i64 0]] w fun e w' => e = .returned (.tuple #[.agg #[.int .i64 0, .int .i64 0], .int .i64 3]) ∧ Below w.heap.size w w' := by
  have HA := Lib.hid ha
  obtain ⟨a1, a2, a3, a4⟩ := ha.parts
  clear ha
  obtain ⟨an, ad⟩ := a
  simp only at *
  go_enter Try.func18, Try.ntmps18
  go_wp2_with fail
  refine (checkfracs_zero (an, ad) HA.out _ 2 _ _ (reads_two _ _ _ _ _ _ (w.heap.size + 1 + 1 + 1) (by simp)) (by simp)).mono ?_
  rintro e w1 ⟨rfl, hb⟩
  have HB1 := Lib.hid (show Below w.heap.size w w1 from step_below hb (by repeat' (first | exact Below.refl _ _ | exact HB0.out | refine below_drewN ?_ _ | refine Below.drew ?_ | refine Below.alloc ?_ (by first | omega | (simp; done) | (simp; omega) | (simp [World.setCell]; omega)) _ | refine Below.setCell ?_ (by first | omega | (simp; done) | (simp; omega)) _ | assumption)))
  have K0_1 := Lib.hid (step_blk hb (show Blk _ (w.heap.size) 35 #[.int .i64 (an), .int .i64 (ad)] by repeat' (first | exact Blk.at_ _ (by first | rfl | (simp; done) | (simp; omega)) _ _ | refine Blk.drewN ?_ _ | refine Blk.drew ?_ | refine Blk.alloc ?_ _ | refine Blk.far ?_ (by first | omega | (simp; done) | (simp; omega)) _ | assumption)))
  have K1_1 := Lib.hid (step_blk hb (show Blk _ (w.heap.size + 1) 35 #[.int .i64 (0), .int .i64 (0)] by repeat' (first | exact Blk.at_ _ (by first | rfl | (simp; done) | (simp; omega)) _ _ | refine Blk.drewN ?_ _ | refine Blk.drew ?_ | refine Blk.alloc ?_ _ | refine Blk.far ?_ (by first | omega | (simp; done) | (simp; omega)) _ | assumption)))
  have K2_1 := Lib.hid (step_blk hb (show Blk _ (w.heap.size + 2) 35 #[.int .i64 (0), .int .i64 (0)] by repeat' (first | exact Blk.at_ _ (by first | rfl | (simp; done) | (simp; omega)) _ _ | refine Blk.drewN ?_ _ | refine Blk.drew ?_ | refine Blk.alloc ?_ _ | refine Blk.far ?_ (by first | omega | (simp; done) | (simp; omega)) _ | assumption)))
  have K3_1 := Lib.hid (step_blk hb (show Blk _ (w.heap.size + 3) 35 #[.int .i64 (an), .int .i64 (ad), .int .i64 (0), .int .i64 (0)] by repeat' (first | exact Blk.at_ _ (by first | rfl | (simp; done) | (simp; omega)) _ _ | refine Blk.drewN ?_ _ | refine Blk.drew ?_ | refine Blk.alloc ?_ _ | refine Blk.far ?_ (by first | omega | (simp; done) | (simp; omega)) _ | assumption)))
  have hz1 := hb.size
  try simp only [World.size_alloc, World.drewN, World.drew] at hz1
  clear hb
  have l0_1 : w.heap.size < w1.heap.size := K0_1.out.lt
  have z0_0_1 : w1.cell? ⟨w.heap.size, 0, none⟩ = some (.int .i64 (an)) := K0_1.out.cell 0
  have z0_1_1 : w1.cell? ⟨w.heap.size, 1, none⟩ = some (.int .i64 (ad)) := K0_1.out.cell 1
  have l1_1 : w.heap.size + 1 < w1.heap.size := K1_1.out.lt
  have z1_0_1 : w1.cell? ⟨w.heap.size + 1, 0, none⟩ = some (.int .i64 (0)) := K1_1.out.cell 0
  have z1_1_1 : w1.cell? ⟨w.heap.size + 1, 1, none⟩ = some (.int .i64 (0)) := K1_1.out.cell 1
  have l2_1 : w.heap.size + 2 < w1.heap.size := K2_1.out.lt
  have z2_0_1 : w1.cell? ⟨w.heap.size + 2, 0, none⟩ = some (.int .i64 (0)) := K2_1.out.cell 0
  have z2_1_1 : w1.cell? ⟨w.heap.size + 2, 1, none⟩ = some (.int .i64 (0)) := K2_1.out.cell 1
  have l3_1 : w.heap.size + 3 < w1.heap.size := K3_1.out.lt
  have z3_0_1 : w1.cell? ⟨w.heap.size + 3, 0, none⟩ = some (.int .i64 (an)) := K3_1.out.cell 0
  have z3_1_1 : w1.cell? ⟨w.heap.size + 3, 1, none⟩ = some (.int .i64 (ad)) := K3_1.out.cell 1
  have z3_2_1 : w1.cell? ⟨w.heap.size + 3, 2, none⟩ = some (.int .i64 (0)) := K3_1.out.cell 2
  have z3_3_1 : w1.cell? ⟨w.heap.size + 3, 3, none⟩ = some (.int .i64 (0)) := K3_1.out.cell 3
  have zf2_0 := K2_1.out.frozen 0
  have zf2_1 := K2_1.out.frozen 1
  go_wp2
  exact bodyPost_ret (v := .tuple #[.agg #[.int .i64 0, .int .i64 0], .int .i64 3]) (by simp [results, Try.results18, go_sem, z2_0_1, z2_1_1, l2_1]) rfl ⟨rfl, by repeat' (first | exact Below.refl _ _ | exact HB1.out | refine below_drewN ?_ _ | refine Below.drew ?_ | refine Below.alloc ?_ (by first | omega | (simp; done) | (simp; omega) | (simp [World.setCell]; omega)) _ | refine Below.setCell ?_ (by first | omega | (simp; done) | (simp; omega)) _ | assumption)⟩
/-- The errors of pivots of a right tree. -/
def pivErr (l : List Rk) (ps : List ByteArray) (xs : List (Int × Int)) : Int := if atB xs = false then 2 else if largeB l (atG0 ps xs) (atG1 ps xs) = true then 8 else 0
theorem PivotsPost.any {l : List Rk} {ps : List ByteArray} {xs : List (Int × Int)} {n : Nat} {w w' : World} {e : Ending} (h : PivotsPost l ps xs n w e w') : ∃ A k c, e = .returned (.tuple #[.slice A k c, .int .i64 (pivErr l ps xs)]) ∧ Below w.heap.size w w' ∧ (pivErr l ps xs = 0 → atB xs = true ∧ largeB l (atG0 ps xs) (atG1 ps xs) = false ∧ n = k ∧ Reads w' w'.heap.size 4 A n (pvCells l (atG0 ps xs) (atG1 ps xs) l)) := by
  obtain ⟨hb, ⟨h1, he⟩ | ⟨h1, h2, he⟩ | ⟨h1, h2, A, c, he, ho⟩⟩ := h
  · have e1 : pivErr l ps xs = 2 := by unfold pivErr; rw [if_pos h1]
    exact ⟨none, 0, 0, by rw [he, e1], hb, fun h => by rw [e1] at h; cases h⟩
  · have e1 : pivErr l ps xs = 8 := by unfold pivErr; rw [if_neg (by rw [h1]; simp), if_pos h2]
    exact ⟨none, 0, 0, by rw [he, e1], hb, fun h => by rw [e1] at h; cases h⟩
  · have e1 : pivErr l ps xs = 0 := by unfold pivErr; rw [if_neg (by rw [h1]; simp), if_neg (by rw [h2]; simp)]
    exact ⟨A, n, c, by rw [he, e1], hb, fun _ => ⟨h1, h2, rfl, own_reads2 ho⟩⟩

theorem rsum_take {ys : List (Int × Int)} {i : Nat} {y : Int × Int} (h : ys[i]? = some y) : rsum ((ys.take (i + 1)).map vl) = rsum ((ys.take i).map vl) + vl y := by
  rw [List.take_add_one, h, List.map_append, rsum_append]
  show _ + (vl y + 0) = _
  grind
theorem wsum_take {g : ByteArray → Int} {ys : List (Int × Int)} {ps : List ByteArray} {i : Nat} {y : Int × Int} {s : ByteArray} (h : ys[i]? = some y) (hs : ps[i]? = some s) : wsum g (ys.take (i + 1)) (ps.take (i + 1)) = wsum g (ys.take i) (ps.take i) + vl y * (g s : Rat) := by
  have h1 := (List.getElem?_eq_some_iff.1 h).1
  have h2 := (List.getElem?_eq_some_iff.1 hs).1
  rw [List.take_add_one, List.take_add_one, h, hs, wsum_append (by rw [List.length_take, List.length_take]; omega)]
  show _ + (vl y * (g s : Rat) + 0) = _
  grind
theorem vl_pos {p : Int × Int} (h : 1 ≤ p.1) (h2 : 1 ≤ p.2) : 0 ≤ vl p := by
  have h3 : (1 : Rat) ≤ (p.1 : Rat) := by exact_mod_cast h
  have h4 : (1 : Rat) ≤ (p.2 : Rat) := by exact_mod_cast h2
  unfold vl
  rw [Rat.div_def]
  have h5 : 0 < (p.2 : Rat)⁻¹ := Rat.inv_pos.2 (by grind)
  exact Rat.mul_nonneg (by grind) (by grind)
theorem rsum_pos : ∀ ys : List (Int × Int), (∀ p ∈ ys, 1 ≤ p.1 ∧ 1 ≤ p.2) → 0 ≤ rsum (ys.map vl)
  | [], _ => by show (0 : Rat) ≤ 0; grind
  | y :: ys, h => by
    have h1 := vl_pos (h y (by simp)).1 (h y (by simp)).2
    have h2 := rsum_pos ys fun p hp => h p (by simp [hp])
    show 0 ≤ vl y + rsum (ys.map vl)
    grind
theorem rsum_mem : ∀ ys : List (Int × Int), (∀ p ∈ ys, 1 ≤ p.1 ∧ 1 ≤ p.2) → ∀ y ∈ ys, vl y ≤ rsum (ys.map vl)
  | [], _, y, hy => by simp at hy
  | x :: ys, h, y, hy => by
    show vl y ≤ vl x + rsum (ys.map vl)
    have h2 := rsum_pos ys fun p hp => h p (by simp [hp])
    have h1 := vl_pos (h x (by simp)).1 (h x (by simp)).2
    rcases List.mem_cons.1 hy with rfl | hy
    · grind
    · have h3 := rsum_mem ys (fun p hp => h p (by simp [hp])) y hy
      grind
theorem share_le {ys : List (Int × Int)} (hs : rsum (ys.map vl) = 1) (h : ∀ p ∈ ys, 1 ≤ p.1 ∧ 1 ≤ p.2) {a b : Int} (hy : (a, b) ∈ ys) : a ≤ b := by
  have h1 := rsum_mem ys h _ hy
  rw [hs] at h1
  obtain ⟨q1, q2⟩ := h _ hy
  have h4 : (1 : Rat) ≤ (b : Rat) := by exact_mod_cast q2
  unfold vl at h1
  simp only at h1
  have h5 : (a : Rat) = (a : Rat) / (b : Rat) * (b : Rat) := by grind
  have h6 : (a : Rat) / (b : Rat) * (b : Rat) ≤ 1 * (b : Rat) := Rat.mul_le_mul_of_nonneg_right h1 (by grind)
  have : (a : Rat) ≤ (b : Rat) := by grind
  exact_mod_cast this
theorem info_intz : (Try.prog.info? 3).map (fun i => (i.zero, i.size, i.bytes)) = some (some (.int .i64 0), 1, 8) := by kernel_rfl
theorem snocz_run (B : Nat) (v : Value) (k : Nat) (xs : List Value) (z : Int) (w : World) (ho : w.ownsRow B 3 1 v k xs) (hB : B ≤ w.heap.size) (hk : k ≤ 10000000) :
    ∃ v' W2, (Builtin.append_ #[52, 52] 52 #[v, .slice (some ⟨w.heap.size, 0, none⟩) 1 1]).run Try.prog (w.alloc (.cells #[.int .i64 z] 3)) = .ok v' W2 ∧ W2.ownsRow B 3 1 v' (k + 1) (xs ++ [.int .i64 z]) ∧ Below B w W2 := by
  obtain ⟨i0, hi0, hz0, hz1, hz2⟩ := info_parts info_intz
  have hbW : Below B w (w.alloc (.cells #[.int .i64 z] 3)) := (Below.refl _ _).alloc hB _
  obtain ⟨v', W2, hrun, o2', hg2, -⟩ := run_append_any (P := Try.prog) (w.alloc (.cells #[.int .i64 z] 3)) B 52 52 3 i0 _ 1 8 Try.underlying52 hi0 hz0 hz1 hz2 rfl (by omega) v k _ (ho.alloc _) (w.alloc (.cells #[.int .i64 z] 3)).heap.size (some ⟨w.heap.size, 0, none⟩) 1 1 [.int .i64 z] (Blk.reads (Blk.new _ _ _) rfl) (by simp [Value.oneCell']) (by unfold maxLen; omega) (by first | omega | (simp; omega)) (by first | omega | (simp; omega))
  exact ⟨v', W2, hrun, o2', hbW.grown hg2 (Nat.le_trans hB hbW.size) (fun g hg => (own_lt ho hg).1)⟩
theorem int_fok {z : Int} (h1 : -1000000 ≤ z) (h2 : z ≤ 1000000) : FOk (z, 1) := by
  unfold FOk fracErr
  rw [if_neg (by simp), if_neg (by simp only; omega)]
theorem under_in {u d g : Int} (hu : 1 ≤ u) (hu2 : u ≤ 1000) (hd : 1 ≤ d) (hd2 : d ≤ 1000000000) (hg : (Int.gcd u d : Int) = g) : 1 ≤ g ∧ u.tdiv g = u / g ∧ 1 ≤ u / g ∧ u / g ≤ 1000 ∧ 1 ≤ u / g * d ∧ u / g * d ≤ 1000000000000 := by
  have hp : 0 < Int.gcd u d := Int.gcd_pos_of_ne_zero_right u (by omega)
  have g1 : 1 ≤ g := by omega
  have h1 : 1 ≤ u / g := Int.ediv_pos_of_pos_of_dvd (by omega) (by omega) (by rw [← hg]; exact Int.gcd_dvd_left u d)
  have h2 : u / g ≤ u := Int.ediv_le_self _ (by omega)
  have h3 := Int.mul_le_mul h1 hd (by omega) (by omega)
  have h4 := Int.mul_le_mul (show u / g ≤ 1000 by omega) hd2 (by omega) (by omega)
  exact ⟨g1, Int.tdiv_eq_ediv_of_nonneg (by omega), h1, by omega, by omega, by omega⟩

set_option maxRecDepth 100000 in
set_option maxHeartbeats 16000000 in
theorem lawTX_any (A : Option Addr) (n c : Nat) (l : List Rk) (B : Option Addr) (m cb : Nat) (xs : List (Int × Int)) (w : World) (hnc : n ≤ c ∧ c ≤ 9223372036854775807) (hl : l.length = n) (hfits : ∀ r ∈ l, r.Fits) (hx : Reads w w.heap.size 5 A n (rkCells l))
    (hmc : m ≤ cb ∧ cb ≤ 9223372036854775807) (hxl : xs.length = m) (_ : ∀ p ∈ xs, I64 p.1 ∧ I64 p.2) (hy : Reads w w.heap.size 2 B m (cells2 xs)) :
    Calls Try.prog 4 #[.slice A n c, .slice B m cb] w fun e w' => e = .returned (.bool true) ∧ Below w.heap.size w w' := by
  obtain ⟨hnc, hcm⟩ := hnc
  obtain ⟨hmc, hcbm⟩ := hmc
  cases hfw : fewB l
  · have HF := Lib.hid hfw
    clear hfw hl hxl hy
    go_enter Try.func4, Try.ntmps4
    have R0_0 := Lib.hid hx
    clear hx
    go_wp2_with fail
    refine (topborne_any _).mono ?_
    rintro e w1 ⟨rfl, hb⟩
    have HB1 := Lib.hid (show Below w.heap.size w w1 from step_below hb (by repeat' (first | exact Below.refl _ _ | exact HB0.out | refine below_drewN ?_ _ | refine Below.drew ?_ | refine Below.alloc ?_ (by first | omega | (simp; done) | (simp; omega) | (simp [World.setCell]; omega)) _ | refine Below.setCell ?_ (by first | omega | (simp; done) | (simp; omega)) _ | assumption)))
    have hL1 := Lib.hid (show Below w.heap.size w _ from reads_mid hb (by repeat' (first | exact Below.refl _ _ | refine below_drewN ?_ _ | refine Below.drew ?_ | refine Below.alloc ?_ (by first | omega | (simp; done) | (simp; omega) | (simp [World.setCell]; omega)) _ | refine Below.setCell ?_ (by first | omega | (simp; done) | (simp; omega)) _)))
    have R0_1 := Lib.hid (reads_lay hb hL1.out R0_0.out)
    clear hL1 R0_0
    have hz1 := hb.size
    try simp only [World.size_alloc, World.drewN, World.drew] at hz1
    clear hb
    go_wp2_with fail
    refine (few_is l hfits A n c _ false HF.out _ R0_1.out (by omega)).mono ?_
    rintro e w' ⟨rfl, rfl⟩
    go_wp2
    go_ret
    exact ⟨rfl, by repeat' (first | exact Below.refl _ _ | exact HB1.out | refine below_drewN ?_ _ | refine Below.drew ?_ | refine Below.alloc ?_ (by first | omega | (simp; done) | (simp; omega) | (simp [World.setCell]; omega)) _ | refine Below.setCell ?_ (by first | omega | (simp; done) | (simp; omega)) _ | assumption)⟩
  have hlen := fewB_len hfw
  have hn : n ≤ 43 := by omega
  obtain ⟨E, hE⟩ : ∃ E, openErr l = E := ⟨_, rfl⟩
  by_cases h0 : E = 0
  rotate_left
  · have HF := Lib.hid hfw
    have HE := Lib.hid hE
    have e0 : (E != 0) = true := by simpa using h0
    clear hfw hE h0 hl hxl
    go_enter Try.func4, Try.ntmps4
    have R0_0 := Lib.hid hx
    clear hx
    have R1_0 := Lib.hid hy
    clear hy
    go_wp2_with fail
    refine (topborne_any _).mono ?_
    rintro e w1 ⟨rfl, hb⟩
    have HB1 := Lib.hid (show Below w.heap.size w w1 from step_below hb (by repeat' (first | exact Below.refl _ _ | exact HB0.out | refine below_drewN ?_ _ | refine Below.drew ?_ | refine Below.alloc ?_ (by first | omega | (simp; done) | (simp; omega) | (simp [World.setCell]; omega)) _ | refine Below.setCell ?_ (by first | omega | (simp; done) | (simp; omega)) _ | assumption)))
    have hL1 := Lib.hid (show Below w.heap.size w _ from reads_mid hb (by repeat' (first | exact Below.refl _ _ | refine below_drewN ?_ _ | refine Below.drew ?_ | refine Below.alloc ?_ (by first | omega | (simp; done) | (simp; omega) | (simp [World.setCell]; omega)) _ | refine Below.setCell ?_ (by first | omega | (simp; done) | (simp; omega)) _)))
    have R0_1 := Lib.hid (reads_lay hb hL1.out R0_0.out)
    have R1_1 := Lib.hid (reads_lay hb hL1.out R1_0.out)
    clear hL1 R0_0 R1_0
    have hz1 := hb.size
    try simp only [World.size_alloc, World.drewN, World.drew] at hz1
    clear hb
    go_wp2_with fail
    refine (few_is l hfits A n c _ true HF.out _ R0_1.out (by omega)).mono ?_
    rintro e w' ⟨rfl, rfl⟩
    go_wp2_with fail
    refine (rchecktree_is l hfits A n c _ E HE.out _ R0_1.out (Nat.le_refl _) (by omega) hnc hcm).mono ?_
    rintro e w2 ⟨rfl, hb⟩
    have HB2 := Lib.hid (show Below w.heap.size w w2 from step_below hb (by repeat' (first | exact Below.refl _ _ | exact HB1.out | refine below_drewN ?_ _ | refine Below.drew ?_ | refine Below.alloc ?_ (by first | omega | (simp; done) | (simp; omega) | (simp [World.setCell]; omega)) _ | refine Below.setCell ?_ (by first | omega | (simp; done) | (simp; omega)) _ | assumption)))
    have hL2 := Lib.hid (show Below w1.heap.size w1 _ from reads_mid hb (by repeat' (first | exact Below.refl _ _ | refine below_drewN ?_ _ | refine Below.drew ?_ | refine Below.alloc ?_ (by first | omega | (simp; done) | (simp; omega) | (simp [World.setCell]; omega)) _ | refine Below.setCell ?_ (by first | omega | (simp; done) | (simp; omega)) _)))
    have R0_2 := Lib.hid (reads_lay hb hL2.out R0_1.out)
    have R1_2 := Lib.hid (reads_lay hb hL2.out R1_1.out)
    clear hL2 R0_1 R1_1
    have hz2 := hb.size
    try simp only [World.size_alloc, World.drewN, World.drew] at hz2
    clear hb
    go_wp2
    go_ret
    exact ⟨rfl, by repeat' (first | exact Below.refl _ _ | exact HB2.out | refine below_drewN ?_ _ | refine Below.drew ?_ | refine Below.alloc ?_ (by first | omega | (simp; done) | (simp; omega) | (simp [World.setCell]; omega)) _ | refine Below.setCell ?_ (by first | omega | (simp; done) | (simp; omega)) _ | assumption)⟩
  subst h0
  obtain ⟨ps, hps, hpl⟩ := few_pts hfw hE
  have hbl := few_below7 hfw hE
  by_cases hm : ps.length = m
  rotate_left
  · have HF := Lib.hid hfw
    have HE := Lib.hid hE
    have HP := Lib.hid hps
    have e1 : ((m : Int) != (ps.length : Int)) = true := by simp; omega
    clear hfw hE hl hxl hm hps
    go_enter Try.func4, Try.ntmps4
    have R0_0 := Lib.hid hx
    clear hx
    have R1_0 := Lib.hid hy
    clear hy
    go_wp2_with fail
    refine (topborne_any _).mono ?_
    rintro e w1 ⟨rfl, hb⟩
    have HB1 := Lib.hid (show Below w.heap.size w w1 from step_below hb (by repeat' (first | exact Below.refl _ _ | exact HB0.out | refine below_drewN ?_ _ | refine Below.drew ?_ | refine Below.alloc ?_ (by first | omega | (simp; done) | (simp; omega) | (simp [World.setCell]; omega)) _ | refine Below.setCell ?_ (by first | omega | (simp; done) | (simp; omega)) _ | assumption)))
    have hL1 := Lib.hid (show Below w.heap.size w _ from reads_mid hb (by repeat' (first | exact Below.refl _ _ | refine below_drewN ?_ _ | refine Below.drew ?_ | refine Below.alloc ?_ (by first | omega | (simp; done) | (simp; omega) | (simp [World.setCell]; omega)) _ | refine Below.setCell ?_ (by first | omega | (simp; done) | (simp; omega)) _)))
    have R0_1 := Lib.hid (reads_lay hb hL1.out R0_0.out)
    have R1_1 := Lib.hid (reads_lay hb hL1.out R1_0.out)
    clear hL1 R0_0 R1_0
    have hz1 := hb.size
    try simp only [World.size_alloc, World.drewN, World.drew] at hz1
    clear hb
    go_wp2_with fail
    refine (few_is l hfits A n c _ true HF.out _ R0_1.out (by omega)).mono ?_
    rintro e w' ⟨rfl, rfl⟩
    go_wp2_with fail
    refine (rchecktree_is l hfits A n c _ 0 HE.out _ R0_1.out (Nat.le_refl _) (by omega) hnc hcm).mono ?_
    rintro e w2 ⟨rfl, hb⟩
    have HB2 := Lib.hid (show Below w.heap.size w w2 from step_below hb (by repeat' (first | exact Below.refl _ _ | exact HB1.out | refine below_drewN ?_ _ | refine Below.drew ?_ | refine Below.alloc ?_ (by first | omega | (simp; done) | (simp; omega) | (simp [World.setCell]; omega)) _ | refine Below.setCell ?_ (by first | omega | (simp; done) | (simp; omega)) _ | assumption)))
    have hL2 := Lib.hid (show Below w1.heap.size w1 _ from reads_mid hb (by repeat' (first | exact Below.refl _ _ | refine below_drewN ?_ _ | refine Below.drew ?_ | refine Below.alloc ?_ (by first | omega | (simp; done) | (simp; omega) | (simp [World.setCell]; omega)) _ | refine Below.setCell ?_ (by first | omega | (simp; done) | (simp; omega)) _)))
    have R0_2 := Lib.hid (reads_lay hb hL2.out R0_1.out)
    have R1_2 := Lib.hid (reads_lay hb hL2.out R1_1.out)
    clear hL2 R0_1 R1_1
    have hz2 := hb.size
    try simp only [World.size_alloc, World.drewN, World.drew] at hz2
    clear hb
    go_wp2_with fail
    refine (rpoints_any l hfits A n c _ _ R0_2.out (Nat.le_refl _) (by omega) HE.out ps HP.out hpl).mono ?_
    rintro e w3 ⟨hb, A1, c1, rfl, ho⟩
    have HB3 := Lib.hid (show Below w.heap.size w w3 from step_below hb (by repeat' (first | exact Below.refl _ _ | exact HB2.out | refine below_drewN ?_ _ | refine Below.drew ?_ | refine Below.alloc ?_ (by first | omega | (simp; done) | (simp; omega) | (simp [World.setCell]; omega)) _ | refine Below.setCell ?_ (by first | omega | (simp; done) | (simp; omega)) _ | assumption)))
    have hL3 := Lib.hid (show Below w2.heap.size w2 _ from reads_mid hb (by repeat' (first | exact Below.refl _ _ | refine below_drewN ?_ _ | refine Below.drew ?_ | refine Below.alloc ?_ (by first | omega | (simp; done) | (simp; omega) | (simp [World.setCell]; omega)) _ | refine Below.setCell ?_ (by first | omega | (simp; done) | (simp; omega)) _)))
    have R0_3 := Lib.hid (reads_lay hb hL3.out R0_2.out)
    have R1_3 := Lib.hid (reads_lay hb hL3.out R1_2.out)
    clear hL3 R0_2 R1_2
    have hz3 := hb.size
    try simp only [World.size_alloc, World.drewN, World.drew] at hz3
    clear hb
    clear ho
    go_wp2
    go_ret
    exact ⟨rfl, by repeat' (first | exact Below.refl _ _ | exact HB3.out | refine below_drewN ?_ _ | refine Below.drew ?_ | refine Below.alloc ?_ (by first | omega | (simp; done) | (simp; omega) | (simp [World.setCell]; omega)) _ | refine Below.setCell ?_ (by first | omega | (simp; done) | (simp; omega)) _ | assumption)⟩
  have HF := Lib.hid hfw
  have HE := Lib.hid hE
  have HP := Lib.hid hps
  have HM := Lib.hid hm
  have HL := Lib.hid hl
  have HXL := Lib.hid hxl
  have hmM : m ≤ 1000000 := by omega
  have e1 : ((m : Int) != (m : Int)) = false := by simp
  obtain ⟨F, hF⟩ : ∃ F, pivErr l ps xs = F := ⟨_, rfl⟩
  have HFE := Lib.hid hF
  cases hs : sharesOf l with
  | none =>
    have HS := Lib.hid hs
    have e3 : (F == F) = true := by simp
    clear hfw hE hl hxl hm hps hs hF
    go_enter Try.func4, Try.ntmps4
    have R0_0 := Lib.hid hx
    clear hx
    have R1_0 := Lib.hid hy
    clear hy
    go_wp2_with fail
    refine (topborne_any _).mono ?_
    rintro e w1 ⟨rfl, hb⟩
    have HB1 := Lib.hid (show Below w.heap.size w w1 from step_below hb (by repeat' (first | exact Below.refl _ _ | exact HB0.out | refine below_drewN ?_ _ | refine Below.drew ?_ | refine Below.alloc ?_ (by first | omega | (simp; done) | (simp; omega) | (simp [World.setCell]; omega)) _ | refine Below.setCell ?_ (by first | omega | (simp; done) | (simp; omega)) _ | assumption)))
    have hL1 := Lib.hid (show Below w.heap.size w _ from reads_mid hb (by repeat' (first | exact Below.refl _ _ | refine below_drewN ?_ _ | refine Below.drew ?_ | refine Below.alloc ?_ (by first | omega | (simp; done) | (simp; omega) | (simp [World.setCell]; omega)) _ | refine Below.setCell ?_ (by first | omega | (simp; done) | (simp; omega)) _)))
    have R0_1 := Lib.hid (reads_lay hb hL1.out R0_0.out)
    have R1_1 := Lib.hid (reads_lay hb hL1.out R1_0.out)
    clear hL1 R0_0 R1_0
    have hz1 := hb.size
    try simp only [World.size_alloc, World.drewN, World.drew] at hz1
    clear hb
    go_wp2_with fail
    refine (few_is l hfits A n c _ true HF.out _ R0_1.out (by omega)).mono ?_
    rintro e w' ⟨rfl, rfl⟩
    go_wp2_with fail
    refine (rchecktree_is l hfits A n c _ 0 HE.out _ R0_1.out (Nat.le_refl _) (by omega) hnc hcm).mono ?_
    rintro e w2 ⟨rfl, hb⟩
    have HB2 := Lib.hid (show Below w.heap.size w w2 from step_below hb (by repeat' (first | exact Below.refl _ _ | exact HB1.out | refine below_drewN ?_ _ | refine Below.drew ?_ | refine Below.alloc ?_ (by first | omega | (simp; done) | (simp; omega) | (simp [World.setCell]; omega)) _ | refine Below.setCell ?_ (by first | omega | (simp; done) | (simp; omega)) _ | assumption)))
    have hL2 := Lib.hid (show Below w1.heap.size w1 _ from reads_mid hb (by repeat' (first | exact Below.refl _ _ | refine below_drewN ?_ _ | refine Below.drew ?_ | refine Below.alloc ?_ (by first | omega | (simp; done) | (simp; omega) | (simp [World.setCell]; omega)) _ | refine Below.setCell ?_ (by first | omega | (simp; done) | (simp; omega)) _)))
    have R0_2 := Lib.hid (reads_lay hb hL2.out R0_1.out)
    have R1_2 := Lib.hid (reads_lay hb hL2.out R1_1.out)
    clear hL2 R0_1 R1_1
    have hz2 := hb.size
    try simp only [World.size_alloc, World.drewN, World.drew] at hz2
    clear hb
    go_wp2_with fail
    refine (rpoints_any l hfits A n c _ _ R0_2.out (Nat.le_refl _) (by omega) HE.out ps HP.out hpl).mono ?_
    rintro e w3 ⟨hb, A1, c1, rfl, ho⟩
    have HB3 := Lib.hid (show Below w.heap.size w w3 from step_below hb (by repeat' (first | exact Below.refl _ _ | exact HB2.out | refine below_drewN ?_ _ | refine Below.drew ?_ | refine Below.alloc ?_ (by first | omega | (simp; done) | (simp; omega) | (simp [World.setCell]; omega)) _ | refine Below.setCell ?_ (by first | omega | (simp; done) | (simp; omega)) _ | assumption)))
    have hL3 := Lib.hid (show Below w2.heap.size w2 _ from reads_mid hb (by repeat' (first | exact Below.refl _ _ | refine below_drewN ?_ _ | refine Below.drew ?_ | refine Below.alloc ?_ (by first | omega | (simp; done) | (simp; omega) | (simp [World.setCell]; omega)) _ | refine Below.setCell ?_ (by first | omega | (simp; done) | (simp; omega)) _)))
    have R0_3 := Lib.hid (reads_lay hb hL3.out R0_2.out)
    have R1_3 := Lib.hid (reads_lay hb hL3.out R1_2.out)
    clear hL3 R0_2 R1_2
    have hz3 := hb.size
    try simp only [World.size_alloc, World.drewN, World.drew] at hz3
    clear hb
    clear ho
    rw [HM.out]
    go_wp2_with fail
    refine (shares_none l hfits A n c _ ps _ (by omega) R0_3.out (Nat.le_refl _) HE.out HP.out hpl HS.out).mono ?_
    rintro e w4 ⟨rfl, hb⟩
    have HB4 := Lib.hid (show Below w.heap.size w w4 from step_below hb (by repeat' (first | exact Below.refl _ _ | exact HB3.out | refine below_drewN ?_ _ | refine Below.drew ?_ | refine Below.alloc ?_ (by first | omega | (simp; done) | (simp; omega) | (simp [World.setCell]; omega)) _ | refine Below.setCell ?_ (by first | omega | (simp; done) | (simp; omega)) _ | assumption)))
    have hL4 := Lib.hid (show Below w3.heap.size w3 _ from reads_mid hb (by repeat' (first | exact Below.refl _ _ | refine below_drewN ?_ _ | refine Below.drew ?_ | refine Below.alloc ?_ (by first | omega | (simp; done) | (simp; omega) | (simp [World.setCell]; omega)) _ | refine Below.setCell ?_ (by first | omega | (simp; done) | (simp; omega)) _)))
    have R0_4 := Lib.hid (reads_lay hb hL4.out R0_3.out)
    have R1_4 := Lib.hid (reads_lay hb hL4.out R1_3.out)
    clear hL4 R0_3 R1_3
    have hz4 := hb.size
    try simp only [World.size_alloc, World.drewN, World.drew] at hz4
    clear hb
    go_wp2_with fail
    refine (pivots_ok l hfits A n c B m cb xs _ R0_4.out R1_4.out (by omega) HE.out hbl ps HP.out hpl HM.out).mono ?_
    rintro e w5 hpost
    obtain ⟨A5, k5, c5, rfl, hb, -⟩ := hpost.any
    rw [HFE.out]
    have HB5 := Lib.hid (show Below w.heap.size w w5 from step_below hb (by repeat' (first | exact Below.refl _ _ | exact HB4.out | refine below_drewN ?_ _ | refine Below.drew ?_ | refine Below.alloc ?_ (by first | omega | (simp; done) | (simp; omega) | (simp [World.setCell]; omega)) _ | refine Below.setCell ?_ (by first | omega | (simp; done) | (simp; omega)) _ | assumption)))
    have hL5 := Lib.hid (show Below w4.heap.size w4 _ from reads_mid hb (by repeat' (first | exact Below.refl _ _ | refine below_drewN ?_ _ | refine Below.drew ?_ | refine Below.alloc ?_ (by first | omega | (simp; done) | (simp; omega) | (simp [World.setCell]; omega)) _ | refine Below.setCell ?_ (by first | omega | (simp; done) | (simp; omega)) _)))
    have R0_5 := Lib.hid (reads_lay hb hL5.out R0_4.out)
    have R1_5 := Lib.hid (reads_lay hb hL5.out R1_4.out)
    clear hL5 R0_4 R1_4
    have hz5 := hb.size
    try simp only [World.size_alloc, World.drewN, World.drew] at hz5
    clear hb
    go_wp2_with fail
    refine (rpivots_ok l hfits A n c B m cb xs _ R0_5.out R1_5.out (by omega) HE.out ps HP.out hpl HM.out).mono ?_
    rintro e w6 hpost
    obtain ⟨A6, k6, c6, rfl, hb, -⟩ := hpost.any
    rw [HFE.out]
    have HB6 := Lib.hid (show Below w.heap.size w w6 from step_below hb (by repeat' (first | exact Below.refl _ _ | exact HB5.out | refine below_drewN ?_ _ | refine Below.drew ?_ | refine Below.alloc ?_ (by first | omega | (simp; done) | (simp; omega) | (simp [World.setCell]; omega)) _ | refine Below.setCell ?_ (by first | omega | (simp; done) | (simp; omega)) _ | assumption)))
    have hL6 := Lib.hid (show Below w5.heap.size w5 _ from reads_mid hb (by repeat' (first | exact Below.refl _ _ | refine below_drewN ?_ _ | refine Below.drew ?_ | refine Below.alloc ?_ (by first | omega | (simp; done) | (simp; omega) | (simp [World.setCell]; omega)) _ | refine Below.setCell ?_ (by first | omega | (simp; done) | (simp; omega)) _)))
    have R0_6 := Lib.hid (reads_lay hb hL6.out R0_5.out)
    have R1_6 := Lib.hid (reads_lay hb hL6.out R1_5.out)
    clear hL6 R0_5 R1_5
    have hz6 := hb.size
    try simp only [World.size_alloc, World.drewN, World.drew] at hz6
    clear hb
    go_wp2_with fail
    refine (rshares_none l hfits A n c _ _ R0_6.out (Nat.le_refl _) (by omega) HE.out ps HP.out hpl HS.out).mono ?_
    rintro e w7 ⟨hb, A7, c7, rfl⟩
    have HB7 := Lib.hid (show Below w.heap.size w w7 from step_below hb (by repeat' (first | exact Below.refl _ _ | exact HB6.out | refine below_drewN ?_ _ | refine Below.drew ?_ | refine Below.alloc ?_ (by first | omega | (simp; done) | (simp; omega) | (simp [World.setCell]; omega)) _ | refine Below.setCell ?_ (by first | omega | (simp; done) | (simp; omega)) _ | assumption)))
    have hL7 := Lib.hid (show Below w6.heap.size w6 _ from reads_mid hb (by repeat' (first | exact Below.refl _ _ | refine below_drewN ?_ _ | refine Below.drew ?_ | refine Below.alloc ?_ (by first | omega | (simp; done) | (simp; omega) | (simp [World.setCell]; omega)) _ | refine Below.setCell ?_ (by first | omega | (simp; done) | (simp; omega)) _)))
    have R0_7 := Lib.hid (reads_lay hb hL7.out R0_6.out)
    have R1_7 := Lib.hid (reads_lay hb hL7.out R1_6.out)
    clear hL7 R0_6 R1_6
    have hz7 := hb.size
    try simp only [World.size_alloc, World.drewN, World.drew] at hz7
    clear hb
    go_wp2
    go_ret
    exact ⟨rfl, by repeat' (first | exact Below.refl _ _ | exact HB7.out | refine below_drewN ?_ _ | refine Below.drew ?_ | refine Below.alloc ?_ (by first | omega | (simp; done) | (simp; omega) | (simp [World.setCell]; omega)) _ | refine Below.setCell ?_ (by first | omega | (simp; done) | (simp; omega)) _ | assumption)⟩
  | some ys =>
  have HS := Lib.hid hs
  have hyl : ys.length = m := by rw [← hm]; exact sh_length l _ _ _ _ ps ys (by unfold ptsOf at hps; exact hps) hs
  have HYL := Lib.hid hyl
  by_cases h0 : F = 0
  rotate_left
  · have e3 : (F == F) = true := by simp
    have e4 : (F != 0) = true := by simpa using h0
    clear hfw hE hl hxl hm hps hs hF h0 hyl
    go_enter Try.func4, Try.ntmps4
    have R0_0 := Lib.hid hx
    clear hx
    have R1_0 := Lib.hid hy
    clear hy
    go_wp2_with fail
    refine (topborne_any _).mono ?_
    rintro e w1 ⟨rfl, hb⟩
    have HB1 := Lib.hid (show Below w.heap.size w w1 from step_below hb (by repeat' (first | exact Below.refl _ _ | exact HB0.out | refine below_drewN ?_ _ | refine Below.drew ?_ | refine Below.alloc ?_ (by first | omega | (simp; done) | (simp; omega) | (simp [World.setCell]; omega)) _ | refine Below.setCell ?_ (by first | omega | (simp; done) | (simp; omega)) _ | assumption)))
    have hL1 := Lib.hid (show Below w.heap.size w _ from reads_mid hb (by repeat' (first | exact Below.refl _ _ | refine below_drewN ?_ _ | refine Below.drew ?_ | refine Below.alloc ?_ (by first | omega | (simp; done) | (simp; omega) | (simp [World.setCell]; omega)) _ | refine Below.setCell ?_ (by first | omega | (simp; done) | (simp; omega)) _)))
    have R0_1 := Lib.hid (reads_lay hb hL1.out R0_0.out)
    have R1_1 := Lib.hid (reads_lay hb hL1.out R1_0.out)
    clear hL1 R0_0 R1_0
    have hz1 := hb.size
    try simp only [World.size_alloc, World.drewN, World.drew] at hz1
    clear hb
    go_wp2_with fail
    refine (few_is l hfits A n c _ true HF.out _ R0_1.out (by omega)).mono ?_
    rintro e w' ⟨rfl, rfl⟩
    go_wp2_with fail
    refine (rchecktree_is l hfits A n c _ 0 HE.out _ R0_1.out (Nat.le_refl _) (by omega) hnc hcm).mono ?_
    rintro e w2 ⟨rfl, hb⟩
    have HB2 := Lib.hid (show Below w.heap.size w w2 from step_below hb (by repeat' (first | exact Below.refl _ _ | exact HB1.out | refine below_drewN ?_ _ | refine Below.drew ?_ | refine Below.alloc ?_ (by first | omega | (simp; done) | (simp; omega) | (simp [World.setCell]; omega)) _ | refine Below.setCell ?_ (by first | omega | (simp; done) | (simp; omega)) _ | assumption)))
    have hL2 := Lib.hid (show Below w1.heap.size w1 _ from reads_mid hb (by repeat' (first | exact Below.refl _ _ | refine below_drewN ?_ _ | refine Below.drew ?_ | refine Below.alloc ?_ (by first | omega | (simp; done) | (simp; omega) | (simp [World.setCell]; omega)) _ | refine Below.setCell ?_ (by first | omega | (simp; done) | (simp; omega)) _)))
    have R0_2 := Lib.hid (reads_lay hb hL2.out R0_1.out)
    have R1_2 := Lib.hid (reads_lay hb hL2.out R1_1.out)
    clear hL2 R0_1 R1_1
    have hz2 := hb.size
    try simp only [World.size_alloc, World.drewN, World.drew] at hz2
    clear hb
    go_wp2_with fail
    refine (rpoints_any l hfits A n c _ _ R0_2.out (Nat.le_refl _) (by omega) HE.out ps HP.out hpl).mono ?_
    rintro e w3 ⟨hb, A1, c1, rfl, ho⟩
    have HB3 := Lib.hid (show Below w.heap.size w w3 from step_below hb (by repeat' (first | exact Below.refl _ _ | exact HB2.out | refine below_drewN ?_ _ | refine Below.drew ?_ | refine Below.alloc ?_ (by first | omega | (simp; done) | (simp; omega) | (simp [World.setCell]; omega)) _ | refine Below.setCell ?_ (by first | omega | (simp; done) | (simp; omega)) _ | assumption)))
    have hL3 := Lib.hid (show Below w2.heap.size w2 _ from reads_mid hb (by repeat' (first | exact Below.refl _ _ | refine below_drewN ?_ _ | refine Below.drew ?_ | refine Below.alloc ?_ (by first | omega | (simp; done) | (simp; omega) | (simp [World.setCell]; omega)) _ | refine Below.setCell ?_ (by first | omega | (simp; done) | (simp; omega)) _)))
    have R0_3 := Lib.hid (reads_lay hb hL3.out R0_2.out)
    have R1_3 := Lib.hid (reads_lay hb hL3.out R1_2.out)
    clear hL3 R0_2 R1_2
    have hz3 := hb.size
    try simp only [World.size_alloc, World.drewN, World.drew] at hz3
    clear hb
    clear ho
    rw [HM.out]
    go_wp2_with fail
    refine (shares_some l hfits A n c _ ps ys m HYL.out _ (by omega) R0_3.out (Nat.le_refl _) HE.out HP.out hpl HS.out).mono ?_
    rintro e w4 ⟨hb, A4, c4, rfl, hr4⟩
    have HB4 := Lib.hid (show Below w.heap.size w w4 from step_below hb (by repeat' (first | exact Below.refl _ _ | exact HB3.out | refine below_drewN ?_ _ | refine Below.drew ?_ | refine Below.alloc ?_ (by first | omega | (simp; done) | (simp; omega) | (simp [World.setCell]; omega)) _ | refine Below.setCell ?_ (by first | omega | (simp; done) | (simp; omega)) _ | assumption)))
    have hL4 := Lib.hid (show Below w3.heap.size w3 _ from reads_mid hb (by repeat' (first | exact Below.refl _ _ | refine below_drewN ?_ _ | refine Below.drew ?_ | refine Below.alloc ?_ (by first | omega | (simp; done) | (simp; omega) | (simp [World.setCell]; omega)) _ | refine Below.setCell ?_ (by first | omega | (simp; done) | (simp; omega)) _)))
    have R0_4 := Lib.hid (reads_lay hb hL4.out R0_3.out)
    have R1_4 := Lib.hid (reads_lay hb hL4.out R1_3.out)
    clear hL4 R0_3 R1_3
    have hz4 := hb.size
    try simp only [World.size_alloc, World.drewN, World.drew] at hz4
    clear hb
    clear hr4
    go_wp2_with fail
    refine (pivots_ok l hfits A n c B m cb xs _ R0_4.out R1_4.out (by omega) HE.out hbl ps HP.out hpl HM.out).mono ?_
    rintro e w5 hpost
    obtain ⟨A5, k5, c5, rfl, hb, -⟩ := hpost.any
    rw [HFE.out]
    have HB5 := Lib.hid (show Below w.heap.size w w5 from step_below hb (by repeat' (first | exact Below.refl _ _ | exact HB4.out | refine below_drewN ?_ _ | refine Below.drew ?_ | refine Below.alloc ?_ (by first | omega | (simp; done) | (simp; omega) | (simp [World.setCell]; omega)) _ | refine Below.setCell ?_ (by first | omega | (simp; done) | (simp; omega)) _ | assumption)))
    have hL5 := Lib.hid (show Below w4.heap.size w4 _ from reads_mid hb (by repeat' (first | exact Below.refl _ _ | refine below_drewN ?_ _ | refine Below.drew ?_ | refine Below.alloc ?_ (by first | omega | (simp; done) | (simp; omega) | (simp [World.setCell]; omega)) _ | refine Below.setCell ?_ (by first | omega | (simp; done) | (simp; omega)) _)))
    have R0_5 := Lib.hid (reads_lay hb hL5.out R0_4.out)
    have R1_5 := Lib.hid (reads_lay hb hL5.out R1_4.out)
    clear hL5 R0_4 R1_4
    have hz5 := hb.size
    try simp only [World.size_alloc, World.drewN, World.drew] at hz5
    clear hb
    go_wp2_with fail
    refine (rpivots_ok l hfits A n c B m cb xs _ R0_5.out R1_5.out (by omega) HE.out ps HP.out hpl HM.out).mono ?_
    rintro e w6 hpost
    obtain ⟨A6, k6, c6, rfl, hb, -⟩ := hpost.any
    rw [HFE.out]
    have HB6 := Lib.hid (show Below w.heap.size w w6 from step_below hb (by repeat' (first | exact Below.refl _ _ | exact HB5.out | refine below_drewN ?_ _ | refine Below.drew ?_ | refine Below.alloc ?_ (by first | omega | (simp; done) | (simp; omega) | (simp [World.setCell]; omega)) _ | refine Below.setCell ?_ (by first | omega | (simp; done) | (simp; omega)) _ | assumption)))
    have hL6 := Lib.hid (show Below w5.heap.size w5 _ from reads_mid hb (by repeat' (first | exact Below.refl _ _ | refine below_drewN ?_ _ | refine Below.drew ?_ | refine Below.alloc ?_ (by first | omega | (simp; done) | (simp; omega) | (simp [World.setCell]; omega)) _ | refine Below.setCell ?_ (by first | omega | (simp; done) | (simp; omega)) _)))
    have R0_6 := Lib.hid (reads_lay hb hL6.out R0_5.out)
    have R1_6 := Lib.hid (reads_lay hb hL6.out R1_5.out)
    clear hL6 R0_5 R1_5
    have hz6 := hb.size
    try simp only [World.size_alloc, World.drewN, World.drew] at hz6
    clear hb
    go_wp2_with fail
    refine (rshares_some l hfits A n c _ m ys _ R0_6.out (Nat.le_refl _) (by omega) HE.out ps HP.out hpl HS.out HM.out).mono ?_
    rintro e w7 ⟨hb, A7, c7, rfl, hr7⟩
    have HB7 := Lib.hid (show Below w.heap.size w w7 from step_below hb (by repeat' (first | exact Below.refl _ _ | exact HB6.out | refine below_drewN ?_ _ | refine Below.drew ?_ | refine Below.alloc ?_ (by first | omega | (simp; done) | (simp; omega) | (simp [World.setCell]; omega)) _ | refine Below.setCell ?_ (by first | omega | (simp; done) | (simp; omega)) _ | assumption)))
    have hL7 := Lib.hid (show Below w6.heap.size w6 _ from reads_mid hb (by repeat' (first | exact Below.refl _ _ | refine below_drewN ?_ _ | refine Below.drew ?_ | refine Below.alloc ?_ (by first | omega | (simp; done) | (simp; omega) | (simp [World.setCell]; omega)) _ | refine Below.setCell ?_ (by first | omega | (simp; done) | (simp; omega)) _)))
    have R0_7 := Lib.hid (reads_lay hb hL7.out R0_6.out)
    have R1_7 := Lib.hid (reads_lay hb hL7.out R1_6.out)
    clear hL7 R0_6 R1_6
    have hz7 := hb.size
    try simp only [World.size_alloc, World.drewN, World.drew] at hz7
    clear hb
    clear hr7
    go_wp2
    go_ret
    exact ⟨rfl, by repeat' (first | exact Below.refl _ _ | exact HB7.out | refine below_drewN ?_ _ | refine Below.drew ?_ | refine Below.alloc ?_ (by first | omega | (simp; done) | (simp; omega) | (simp [World.setCell]; omega)) _ | refine Below.setCell ?_ (by first | omega | (simp; done) | (simp; omega)) _ | assumption)⟩
  subst h0
  have harms := Lib.hid (arms_of hE)
  have hnd := Lib.hid (points_nodup hE hps)
  have HSH := Lib.hid (sh_ok l (arms_of hE) l.length (topName l) 1 1 ys ⟨by omega, by omega⟩ ⟨by omega, by omega⟩ (by decide) hs)
  obtain ⟨z0, -⟩ := open_zero hE
  obtain ⟨rt, hrt, hnt⟩ := topName_get (topOf_lt z0)
  have hti := idx_name (open_zero hE).2.2.1 hrt
  obtain ⟨T, hT⟩ : ∃ T, topOf l = T := ⟨_, rfl⟩
  rw [hT] at hrt hti
  have hTn : T < n := by rw [← hl]; exact (List.getElem?_eq_some_iff.1 hrt).1
  have HTF := Lib.hid (show findI l (topName l) = (T : Int) by unfold findI; rw [hnt, hti])
  have HRT := Lib.hid hrt
  have HNT := Lib.hid hnt
  have en : ((n : Int) != (n : Int)) = false := by simp
  clear hfw hE hl hxl hm hps hs hF hyl z0 hrt hnt hti hT
  go_enter Try.func4, Try.ntmps4
  have R0_0 := Lib.hid hx
  clear hx
  have R1_0 := Lib.hid hy
  clear hy
  go_wp2_with fail
  refine (topborne_any _).mono ?_
  rintro e w1 ⟨rfl, hb⟩
  have HB1 := Lib.hid (show Below w.heap.size w w1 from step_below hb (by repeat' (first | exact Below.refl _ _ | exact HB0.out | refine below_drewN ?_ _ | refine Below.drew ?_ | refine Below.alloc ?_ (by first | omega | (simp; done) | (simp; omega) | (simp [World.setCell]; omega)) _ | refine Below.setCell ?_ (by first | omega | (simp; done) | (simp; omega)) _ | assumption)))
  have hL1 := Lib.hid (show Below w.heap.size w _ from reads_mid hb (by repeat' (first | exact Below.refl _ _ | refine below_drewN ?_ _ | refine Below.drew ?_ | refine Below.alloc ?_ (by first | omega | (simp; done) | (simp; omega) | (simp [World.setCell]; omega)) _ | refine Below.setCell ?_ (by first | omega | (simp; done) | (simp; omega)) _)))
  have R0_1 := Lib.hid (reads_lay hb hL1.out R0_0.out)
  have R1_1 := Lib.hid (reads_lay hb hL1.out R1_0.out)
  clear hL1 R0_0 R1_0
  have hz1 := hb.size
  try simp only [World.size_alloc, World.drewN, World.drew] at hz1
  clear hb
  go_wp2_with fail
  refine (few_is l hfits A n c _ true HF.out _ R0_1.out (by omega)).mono ?_
  rintro e w' ⟨rfl, rfl⟩
  go_wp2_with fail
  refine (rchecktree_is l hfits A n c _ 0 HE.out _ R0_1.out (Nat.le_refl _) (by omega) hnc hcm).mono ?_
  rintro e w2 ⟨rfl, hb⟩
  have HB2 := Lib.hid (show Below w.heap.size w w2 from step_below hb (by repeat' (first | exact Below.refl _ _ | exact HB1.out | refine below_drewN ?_ _ | refine Below.drew ?_ | refine Below.alloc ?_ (by first | omega | (simp; done) | (simp; omega) | (simp [World.setCell]; omega)) _ | refine Below.setCell ?_ (by first | omega | (simp; done) | (simp; omega)) _ | assumption)))
  have hL2 := Lib.hid (show Below w1.heap.size w1 _ from reads_mid hb (by repeat' (first | exact Below.refl _ _ | refine below_drewN ?_ _ | refine Below.drew ?_ | refine Below.alloc ?_ (by first | omega | (simp; done) | (simp; omega) | (simp [World.setCell]; omega)) _ | refine Below.setCell ?_ (by first | omega | (simp; done) | (simp; omega)) _)))
  have R0_2 := Lib.hid (reads_lay hb hL2.out R0_1.out)
  have R1_2 := Lib.hid (reads_lay hb hL2.out R1_1.out)
  clear hL2 R0_1 R1_1
  have hz2 := hb.size
  try simp only [World.size_alloc, World.drewN, World.drew] at hz2
  clear hb
  go_wp2_with fail
  refine (rpoints_any l hfits A n c _ _ R0_2.out (Nat.le_refl _) (by omega) HE.out ps HP.out hpl).mono ?_
  rintro e w3 ⟨hb, A1, c1, rfl, ho⟩
  have HB3 := Lib.hid (show Below w.heap.size w w3 from step_below hb (by repeat' (first | exact Below.refl _ _ | exact HB2.out | refine below_drewN ?_ _ | refine Below.drew ?_ | refine Below.alloc ?_ (by first | omega | (simp; done) | (simp; omega) | (simp [World.setCell]; omega)) _ | refine Below.setCell ?_ (by first | omega | (simp; done) | (simp; omega)) _ | assumption)))
  have hL3 := Lib.hid (show Below w2.heap.size w2 _ from reads_mid hb (by repeat' (first | exact Below.refl _ _ | refine below_drewN ?_ _ | refine Below.drew ?_ | refine Below.alloc ?_ (by first | omega | (simp; done) | (simp; omega) | (simp [World.setCell]; omega)) _ | refine Below.setCell ?_ (by first | omega | (simp; done) | (simp; omega)) _)))
  have R0_3 := Lib.hid (reads_lay hb hL3.out R0_2.out)
  have R1_3 := Lib.hid (reads_lay hb hL3.out R1_2.out)
  clear hL3 R0_2 R1_2
  have hz3 := hb.size
  try simp only [World.size_alloc, World.drewN, World.drew] at hz3
  clear hb
  clear ho
  rw [HM.out]
  go_wp2_with fail
  refine (shares_some l hfits A n c _ ps ys m HYL.out _ (by omega) R0_3.out (Nat.le_refl _) HE.out HP.out hpl HS.out).mono ?_
  rintro e w4 ⟨hb, A4, c4, rfl, hr4⟩
  have HB4 := Lib.hid (show Below w.heap.size w w4 from step_below hb (by repeat' (first | exact Below.refl _ _ | exact HB3.out | refine below_drewN ?_ _ | refine Below.drew ?_ | refine Below.alloc ?_ (by first | omega | (simp; done) | (simp; omega) | (simp [World.setCell]; omega)) _ | refine Below.setCell ?_ (by first | omega | (simp; done) | (simp; omega)) _ | assumption)))
  have hL4 := Lib.hid (show Below w3.heap.size w3 _ from reads_mid hb (by repeat' (first | exact Below.refl _ _ | refine below_drewN ?_ _ | refine Below.drew ?_ | refine Below.alloc ?_ (by first | omega | (simp; done) | (simp; omega) | (simp [World.setCell]; omega)) _ | refine Below.setCell ?_ (by first | omega | (simp; done) | (simp; omega)) _)))
  have R0_4 := Lib.hid (reads_lay hb hL4.out R0_3.out)
  have R1_4 := Lib.hid (reads_lay hb hL4.out R1_3.out)
  clear hL4 R0_3 R1_3
  have hz4 := hb.size
  try simp only [World.size_alloc, World.drewN, World.drew] at hz4
  clear hb
  have R2_4 := Lib.hid hr4
  clear hr4
  go_wp2_with fail
  refine (pivots_ok l hfits A n c B m cb xs _ R0_4.out R1_4.out (by omega) HE.out hbl ps HP.out hpl HM.out).mono ?_
  rintro e w5 hpost
  obtain ⟨A5, k5, c5, rfl, hb, hok⟩ := hpost.any
  obtain ⟨hat, hlg, rfl, hr5⟩ := hok HFE.out
  rw [HFE.out]
  have HAT := Lib.hid hat
  have HLG := Lib.hid hlg
  clear hpost hok hat hlg
  have HB5 := Lib.hid (show Below w.heap.size w w5 from step_below hb (by repeat' (first | exact Below.refl _ _ | exact HB4.out | refine below_drewN ?_ _ | refine Below.drew ?_ | refine Below.alloc ?_ (by first | omega | (simp; done) | (simp; omega) | (simp [World.setCell]; omega)) _ | refine Below.setCell ?_ (by first | omega | (simp; done) | (simp; omega)) _ | assumption)))
  have hL5 := Lib.hid (show Below w4.heap.size w4 _ from reads_mid hb (by repeat' (first | exact Below.refl _ _ | refine below_drewN ?_ _ | refine Below.drew ?_ | refine Below.alloc ?_ (by first | omega | (simp; done) | (simp; omega) | (simp [World.setCell]; omega)) _ | refine Below.setCell ?_ (by first | omega | (simp; done) | (simp; omega)) _)))
  have R0_5 := Lib.hid (reads_lay hb hL5.out R0_4.out)
  have R1_5 := Lib.hid (reads_lay hb hL5.out R1_4.out)
  have R2_5 := Lib.hid (reads_lay hb hL5.out R2_4.out)
  clear hL5 R0_4 R1_4 R2_4
  have hz5 := hb.size
  try simp only [World.size_alloc, World.drewN, World.drew] at hz5
  clear hb
  have R3_5 := Lib.hid hr5
  clear hr5
  go_wp2_with fail
  refine (rtop_any l hfits A n c _ _ R0_5.out (Nat.le_refl _) (by omega) HE.out).mono ?_
  rintro e w6 ⟨rfl, hb⟩
  have HB6 := Lib.hid (show Below w.heap.size w w6 from step_below hb (by repeat' (first | exact Below.refl _ _ | exact HB5.out | refine below_drewN ?_ _ | refine Below.drew ?_ | refine Below.alloc ?_ (by first | omega | (simp; done) | (simp; omega) | (simp [World.setCell]; omega)) _ | refine Below.setCell ?_ (by first | omega | (simp; done) | (simp; omega)) _ | assumption)))
  have hL6 := Lib.hid (show Below w5.heap.size w5 _ from reads_mid hb (by repeat' (first | exact Below.refl _ _ | refine below_drewN ?_ _ | refine Below.drew ?_ | refine Below.alloc ?_ (by first | omega | (simp; done) | (simp; omega) | (simp [World.setCell]; omega)) _ | refine Below.setCell ?_ (by first | omega | (simp; done) | (simp; omega)) _)))
  have R0_6 := Lib.hid (reads_lay hb hL6.out R0_5.out)
  have R1_6 := Lib.hid (reads_lay hb hL6.out R1_5.out)
  have R2_6 := Lib.hid (reads_lay hb hL6.out R2_5.out)
  have R3_6 := Lib.hid (reads_lay hb hL6.out R3_5.out)
  clear hL6 R0_5 R1_5 R2_5 R3_5
  have hz6 := hb.size
  try simp only [World.size_alloc, World.drewN, World.drew] at hz6
  clear hb
  go_wp2_with fail
  refine (find_is l A n c _ (topName l) (T : Int) HTF.out _ R0_6.out (by omega)).mono ?_
  rintro e w' ⟨rfl, rfl⟩
  have RS6 := R2_6
  have RX6 := R1_6
  have RP6 := R3_6
  have RL6 := R0_6
  go_upto_block 0 with fail
  generalize hwn : ((w6.alloc (.cells #[.int .i64 (0), .int .i64 (1)] 35)).alloc (.cells #[.int .i64 (0), .int .i64 (1), .int .i64 (0), .int .i64 (1)] 36)) = w7
  have hbn : Below w6.heap.size w6 w7 := by rw [← hwn]; repeat' (first | exact Below.refl _ _ | refine below_drewN ?_ _ | refine Below.drew ?_ | refine Below.alloc ?_ (by first | omega | (simp; done) | (simp; omega) | (simp [World.setCell]; omega)) _ | refine Below.setCell ?_ (by first | omega | (simp; done) | (simp; omega)) _)
  have HB7 := Lib.hid (show Below w.heap.size w w7 from HB6.out.trans (hbn.mono HB6.out.size))
  have K0_7 := Lib.hid (show Blk w7 (w6.heap.size) 35 #[.int .i64 (0), .int .i64 (1)] by rw [← hwn]; repeat' (first | exact Blk.at_ _ (by first | rfl | (simp; done) | (simp; omega)) _ _ | refine Blk.drewN ?_ _ | refine Blk.drew ?_ | refine Blk.alloc ?_ _ | refine Blk.far ?_ (by first | omega | (simp; done) | (simp; omega)) _ | assumption))
  have K1_7 := Lib.hid (show Blk w7 (w6.heap.size + 1) 36 #[.int .i64 (0), .int .i64 (1), .int .i64 (0), .int .i64 (1)] by rw [← hwn]; repeat' (first | exact Blk.at_ _ (by first | rfl | (simp; done) | (simp; omega)) _ _ | refine Blk.drewN ?_ _ | refine Blk.drew ?_ | refine Blk.alloc ?_ _ | refine Blk.far ?_ (by first | omega | (simp; done) | (simp; omega)) _ | assumption))
  have R0_7 := Lib.hid ((R0_6.out.below hbn).more hbn.size)
  have R1_7 := Lib.hid ((R1_6.out.below hbn).more hbn.size)
  have R2_7 := Lib.hid ((R2_6.out.below hbn).more hbn.size)
  have R3_7 := Lib.hid ((R3_6.out.below hbn).more hbn.size)
  have HN7 := Lib.hid hbn
  have hz7 := hbn.size
  clear hwn hbn R0_6 R1_6 R2_6 R3_6
  have l0_7 : w6.heap.size < w7.heap.size := K0_7.out.lt
  have z0_0_7 : w7.cell? ⟨w6.heap.size, 0, none⟩ = some (.int .i64 (0)) := K0_7.out.cell 0
  have z0_1_7 : w7.cell? ⟨w6.heap.size, 1, none⟩ = some (.int .i64 (1)) := K0_7.out.cell 1
  have l1_7 : w6.heap.size + 1 < w7.heap.size := K1_7.out.lt
  have z1_0_7 : w7.cell? ⟨w6.heap.size + 1, 0, none⟩ = some (.int .i64 (0)) := K1_7.out.cell 0
  have z1_1_7 : w7.cell? ⟨w6.heap.size + 1, 1, none⟩ = some (.int .i64 (1)) := K1_7.out.cell 1
  have z1_2_7 : w7.cell? ⟨w6.heap.size + 1, 2, none⟩ = some (.int .i64 (0)) := K1_7.out.cell 2
  have z1_3_7 : w7.cell? ⟨w6.heap.size + 1, 3, none⟩ = some (.int .i64 (1)) := K1_7.out.cell 3
  have RS := R2_7
  have HB67 := HN7
  have hs67 := HB67.out.size
  have hg7 := l1_7
  go_wp2
  go_loopw [15, 17, 18] (fun sv uv iv wr => ∃ (i : Nat) (an ad sn sd tn td un : Int), i ≤ m ∧ iv = .int .i64 i ∧ sv = .bool true ∧ uv = .int .i64 un ∧ 1 ≤ un ∧ un ≤ 1000000000000 ∧ Below w6.heap.size w7 wr ∧ Blk wr w6.heap.size 35 #[.int .i64 an, .int .i64 ad] ∧ Blk wr (w6.heap.size + 1) 36 #[.int .i64 sn, .int .i64 sd, .int .i64 tn, .int .i64 td] ∧ FOk (an, ad) ∧ FOk (sn, sd) ∧ FOk (tn, td) ∧ vl (an, ad) = rsum ((ys.take i).map vl) ∧ vl (sn, sd) = wsum (atG0 ps xs) (ys.take i) (ps.take i) ∧ vl (tn, td) = wsum (atG1 ps xs) (ys.take i) (ps.take i)) (fun _ _ iv _ => m - (intOf iv).toNat)
  case atStart => exact ⟨0, 0, 1, 0, 1, 0, 1, 1, by omega, rfl, rfl, rfl, by omega, by omega, Below.refl _ _, K0_7.out, K1_7.out, zero_ok, zero_ok, zero_ok, by rw [vl_int]; rfl, by rw [vl_int]; rfl, by rw [vl_int]; rfl⟩
  case round =>
    obtain ⟨i, an, ad, sn, sd, tn, td, un, hi, rfl, rfl, rfl, hu1, hu2, hb78, hka, hks, hfa, hfs, hft, hva, hvs, hvt⟩ := hrel
    clear z0_0_7 z0_1_7 z1_0_7 z1_1_7 z1_2_7 z1_3_7
    obtain ⟨w8, hnm⟩ : ∃ z : World, z = wr := ⟨_, rfl⟩
    subst hnm
    have HB78 := Lib.hid hb78
    have HKA := Lib.hid hka
    have HKS := Lib.hid hks
    have HFA := Lib.hid hfa
    have HFS := Lib.hid hfs
    have HFT := Lib.hid hft
    have HVA := Lib.hid hva
    have HVS := Lib.hid hvs
    have HVT := Lib.hid hvt
    have lg8 : w6.heap.size + 1 < w8.heap.size := hks.lt
    have HB8 := Lib.hid (HB6.out.trans ((HB67.out.trans (hb78.mono (Nat.le_refl _))).mono HB6.out.size))
    clear hb78 hka hks hfa hfs hft hva hvs hvt
    by_cases hit : i < m
    rotate_left
    · obtain rfl : m = i := by omega
      have hty : ys.take m = ys := List.take_of_length_le (by rw [HYL.out]; exact Nat.le_refl _)
      have htp : ps.take m = ps := List.take_of_length_le (by rw [HM.out]; exact Nat.le_refl _)
      have hpt : pts l l.length (topName l) = some ps := by have := HP.out; unfold ptsOf at this; exact this
      have hss : sh l l.length (topName l) 1 1 = some ys := HS.out
      have hone : vl (1, 1) = 1 := by rw [vl_int]; push_cast; rfl
      have hfl : fl2 l (atG0 ps xs) (atG1 ps xs) rt.name = false := by
        have h := HLG.out
        unfold largeB at h
        rw [List.any_eq_false] at h
        have h2 := h rt (List.mem_of_getElem? HRT.out)
        simpa using h2
      unfold fl2 at hfl
      rw [Bool.or_eq_false_iff] at hfl
      have ea : (an, ad) = (1, 1) := fok_eq HFA.out (show FOk (1, 1) by unfold FOk fracErr; decide) (by rw [HVA.out, hty]; exact sh_sum harms.out _ _ _ _ ps ys (by decide) hpt hss)
      have hsum1 : rsum (ys.map vl) = 1 := by rw [sh_sum harms.out _ _ _ _ ps ys (by decide) hpt hss]; exact hone
      have f0 : flF l (atG0 ps xs) l.length (topName l) = false := by rw [HNT.out]; exact hfl.1
      have f1 : flF l (atG1 ps xs) l.length (topName l) = false := by rw [HNT.out]; exact hfl.2
      have es : (sn, sd) = plV l (atG0 ps xs) rt.name := fok_eq HFS.out (plD_ok harms.out (atG0_in HAT.out) _ _) (by
        rw [HVS.out, hty, htp, sh_wsum harms.out (atG0_in HAT.out) _ _ _ _ ps ys (by decide) hpt hss f0, hone]
        unfold plV
        rw [HNT.out]
        grind)
      have et : (tn, td) = plV l (atG1 ps xs) rt.name := fok_eq HFT.out (plD_ok harms.out (atG1_in HAT.out) _ _) (by
        rw [HVT.out, hty, htp, sh_wsum harms.out (atG1_in HAT.out) _ _ _ _ ps ys (by decide) hpt hss f1, hone]
        unfold plV
        rw [HNT.out]
        grind)
      have HSUM1 := Lib.hid hsum1
      obtain ⟨rfl, rfl⟩ : an = 1 ∧ ad = 1 := by simpa using ea
      have HB68 := Lib.hid (HB67.out.trans HB78.out)
      obtain ⟨pb, po, r', hPe, hpb, hr', d0, d1, d2, d3⟩ := pv_cells HL.out RP6.out hTn
      obtain rfl := Option.some.inj (hr'.symm.trans HRT.out)
      rw [← es] at d0 d1
      rw [← et] at d2 d3
      simp only at d0 d1 d2 d3
      have hTT : (T : Int) < (n : Int) := by omega
      have e0 := (HB68.out.cell (p := ⟨pb, po + T * 4, none⟩) hpb).trans d0
      have e1' := (HB68.out.cell (p := ⟨pb, po + T * 4 + 1, none⟩) hpb).trans d1
      have e2' := (HB68.out.cell (p := ⟨pb, po + T * 4 + 2, none⟩) hpb).trans d2
      have e3' := (HB68.out.cell (p := ⟨pb, po + T * 4 + 3, none⟩) hpb).trans d3
      have a0 := HKA.out.cell 0
      have a1 := HKA.out.cell 1
      have b0 := HKS.out.cell 0
      have b1 := HKS.out.cell 1
      have b2 := HKS.out.cell 2
      have b3 := HKS.out.cell 3
      have lg8' : w6.heap.size < w8.heap.size := by omega
      have lp8 : pb < w8.heap.size := by have := HB68.out.size; omega
      subst hPe
      clear hty htp hpt hss hone hfl ea hsum1 f0 f1 es et hr' d0 d1 d2 d3
      go_wp2
      go_quiet (fail)
      generalize hW : w8.drewN nq = w9
      have HB89 := Lib.hid (show Below w8.heap.size w8 w9 by rw [← hW]; exact below_drewN (Below.refl _ _) _)
      have HB69 := Lib.hid (HB68.out.trans (HB89.out.mono (by omega)))
      have hs69 := HB69.out.size
      clear hW a0 a1 b0 b1 b2 b3 e0 e1' e2' e3'
      go_wp2
      go_loopw [26, 27] (fun o iv wr => ∃ (i : Nat) (fs : List Int), i ≤ m ∧ iv = .int .i64 i ∧ fs.length = i ∧ wr.ownsRow w9.heap.size 3 1 o i (fs.map (.int .i64)) ∧ (∀ (j : Nat) y z, ys[j]? = some y → fs[j]? = some z → (z : Rat) = (un : Rat) * vl y ∧ 0 ≤ z ∧ z ≤ 1000000) ∧ Below w9.heap.size w9 wr) (fun _ iv _ => m - (intOf iv).toNat)
      case atStart => exact ⟨0, [], by omega, rfl, rfl, World.ownsRow_nil _ _ _ _, fun j y z _ h => by simp at h, Below.refl _ _⟩
      case round =>
        obtain ⟨i, fs, hi2, rfl, hfl, ho, hfz, hb9⟩ := hrel
        obtain ⟨w10, hnm⟩ : ∃ z : World, z = wr := ⟨_, rfl⟩
        subst hnm
        have HFLN := Lib.hid hfl
        have HO := Lib.hid ho
        have HFZ := Lib.hid hfz
        have HB9 := Lib.hid hb9
        have HB610 := Lib.hid (HB69.out.trans (hb9.mono (by omega)))
        have hs910 := hb9.size
        have hs06 := HB6.out.size
        have HB10 := Lib.hid (HB6.out.trans (HB610.out.mono hs06))
        clear hfl ho hfz hb9
        by_cases him : i < m
        rotate_left
        · obtain rfl : m = i := by omega
          obtain ⟨A9, c9, rfl, hr9⟩ := own_reads HO.out
          have HNIL := Lib.hid (show unbTo l (sidesOf l ps fs) n = [] by rw [← HL.out]; exact all_bal HE.out HP.out HS.out (U := un) (by rw [HFLN.out, HYL.out]) fun j y z hy hz => (HFZ.out j y z hy hz).1)
          have HFE2 := Lib.hid (show forcesErr ps.length fs = 0 by
            unfold forcesErr
            rw [if_neg (by rw [HFLN.out, HM.out]; simp), if_neg ?_]
            rw [List.any_eq_true]
            rintro ⟨z, hz, hw⟩
            obtain ⟨j, hj⟩ := List.getElem?_of_mem hz
            have hjl := (List.getElem?_eq_some_iff.1 hj).1
            have hy := List.getElem?_eq_getElem (show j < ys.length by rw [HYL.out, ← HFLN.out]; exact hjl)
            obtain ⟨-, q1, q2⟩ := HFZ.out j _ z hy hj
            rw [(withinB_iff z 0 1000000).2 ⟨q1, q2⟩] at hw
            cases hw)
          have HR9 := Lib.hid hr9
          have HRL := Lib.hid ((RL6.out.below HB610.out).more HB610.out.size)
          clear hr9
          go_wp2_with fail
          refine (unb_ok l hfits A n c A9 m c9 fs _ HRL.out (by omega) HR9.out hmM HE.out ps HP.out hpl hbl HFE2.out).mono ?_
          rw [HNIL.out]
          rintro e w11 ⟨hb, A11, c11, rfl, -⟩
          have HBF := Lib.hid (HB10.out.trans (hb.mono HB10.out.size))
          clear hb
          go_wp2
          go_ret
          exact ⟨rfl, HBF.out⟩
        have hii : (i : Int) < (m : Int) := by omega
        obtain ⟨sb, so, ⟨yn, yd⟩, hAe, hsb, hgy, cs0, cs1⟩ := RS6.out.pair him
        simp only at cs0 cs1
        have hsh := HSH.out (yn, yd) (List.mem_of_getElem? hgy)
        simp only at hsh
        obtain ⟨⟨y1, y2⟩, ⟨y3, y4⟩, -⟩ := hsh
        have hle : yn ≤ yd := share_le HSUM1.out (fun p hp => ⟨(HSH.out p hp).1.1, (HSH.out p hp).2.1.1⟩) (List.mem_of_getElem? hgy)
        have HGY := Lib.hid hgy
        have k0 := (HB610.out.cell (p := ⟨sb, so + i * 2, none⟩) hsb).trans cs0
        have k1 := (HB610.out.cell (p := ⟨sb, so + i * 2 + 1, none⟩) hsb).trans cs1
        have ls10 : sb < w10.heap.size := by have := HB610.out.size; omega
        subst hAe
        clear hgy cs0 cs1
        by_cases h6 : 1000000 < un
        · have hd : decide (1000000 < un) = true := by simpa using h6
          clear h6
          go_wp2
          go_ret
          exact ⟨rfl, HB10.out⟩
        have hd : decide (1000000 < un) = false := by simpa using h6
        obtain ⟨rm, hrm⟩ : ∃ z, un % yd = z := ⟨_, rfl⟩
        have er : un.tmod yd = rm := by rw [Int.tmod_eq_emod_of_nonneg (by omega)]; exact hrm
        have hyd0 : ¬ yd = 0 := by omega
        have hrb := Int.emod_nonneg un hyd0
        have hrc := Int.emod_lt_of_pos un (show 0 < yd by omega)
        rw [hrm] at hrb hrc
        have erw := IntWalk.i64_in rm ⟨by omega, by omega⟩
        by_cases hr0 : rm = 0
        rotate_left
        · have hd2 : (rm != 0) = true := by simpa using hr0
          clear hr0 hrm
          go_wp2
          go_ret
          exact ⟨rfl, HB10.out⟩
        have hd2 : (rm != 0) = false := by simpa using hr0
        obtain ⟨uq, huq⟩ : ∃ z, un / yd = z := ⟨_, rfl⟩
        have hmul : un = yd * uq := by
          have := Int.mul_ediv_add_emod un yd
          rw [hrm, hr0, huq] at this
          omega
        have hq1 : 0 ≤ uq := by rw [← huq]; exact Int.ediv_nonneg (by omega) (by omega)
        have hq2 : uq ≤ un := by rw [← huq]; exact Int.ediv_le_self _ (by omega)
        obtain ⟨z, hz⟩ : ∃ z, uq * yn = z := ⟨_, rfl⟩
        have hz1 : 0 ≤ z := by rw [← hz]; exact Int.mul_nonneg hq1 (by omega)
        have hz2 : z ≤ un := by
          have h1 := Int.mul_le_mul_of_nonneg_left hle hq1
          rw [hmul, ← hz, Int.mul_comm yd]
          exact h1
        have eq1 : un.tdiv yd = uq := by rw [Int.tdiv_eq_ediv_of_nonneg (by omega)]; exact huq
        have eq2 := IntWalk.i64_in uq ⟨by omega, by omega⟩
        have eq3 : IntKind.i64.wrap (uq * yn) = z := by rw [hz]; exact IntWalk.i64_in z ⟨by omega, by omega⟩
        have HZV := Lib.hid (show (z : Rat) = (un : Rat) * vl (yn, yd) by
          have q := rat_ne hyd0
          have h1 : (un : Rat) = (yd : Rat) * (uq : Rat) := by exact_mod_cast hmul
          have h2 : (z : Rat) = (uq : Rat) * (yn : Rat) := by exact_mod_cast hz.symm
          unfold vl
          rw [h1, h2]
          simp only
          grind)
        have HFN := Lib.hid (show ∀ (j : Nat) y z', ys[j]? = some y → (fs ++ [z])[j]? = some z' → (z' : Rat) = (un : Rat) * vl y ∧ 0 ≤ z' ∧ z' ≤ 1000000 from fun j y z' hy hz' => by
          rcases Nat.lt_trichotomy j fs.length with h | h | h
          · rw [List.getElem?_append_left h] at hz'
            exact HFZ.out j y z' hy hz'
          · rw [List.getElem?_append_right (by omega), h, Nat.sub_self] at hz'
            obtain rfl : z = z' := by simpa using hz'
            rw [h, HFLN.out, HGY.out] at hy
            obtain rfl := Option.some.inj hy
            exact ⟨HZV.out, hz1, by omega⟩
          · rw [List.getElem?_eq_none (by simp; omega)] at hz'
            cases hz')
        obtain ⟨W0, hW0⟩ : ∃ W0, W0 = w10.drewN 1 := ⟨_, rfl⟩
        obtain ⟨W1, hW1⟩ : ∃ W1, W1 = W0.alloc (.cells #[.int .i64 z] 3) := ⟨_, rfl⟩
        have d1 : W0.cell? ⟨sb, so + i * 2 + 1, none⟩ = some (.int .i64 yd) := by rw [hW0]; exact k1
        have d2 : W0.cell? ⟨sb, so + i * 2, none⟩ = some (.int .i64 yn) := by rw [hW0]; exact k0
        obtain ⟨v', W2, hrun, ho2, hb2⟩ := snocz_run w9.heap.size _ i _ z W0 (by rw [hW0]; exact own_drewN HO.out 1) (by rw [hW0]; exact hs910) (by omega)
        rw [← hW1] at hrun
        have HRUN := Lib.hid hrun
        have HO2 := Lib.hid (show W2.ownsRow w9.heap.size 3 1 v' (i + 1) ((fs ++ [z]).map (.int .i64)) by rw [List.map_append]; exact ho2)
        have HB2W := Lib.hid (show Below w9.heap.size w9 W2 from ((show Below w9.heap.size w9 W0 by rw [hW0]; exact below_drewN HB9.out 1)).trans hb2)
        clear hrun ho2 hb2 hrm hr0 huq hmul hq1 hz hz1 hle
        go_wp2
        refine Fx.region (fun f w' => (w' = if f 15 then W2 else if f 14 then W1 else W0) ∧ True) (by kernel_rfl) (by kernel_rfl) ?_ ?_
        · intro f hf0
          rw [hf0 15, hf0 14]; exact ⟨hW0.symm, trivial⟩
        repeat (first
          | (refine Fx.skip_ (by rfl) (fun f w h => h) ?_; simp only [Act.put, List.setIfInBounds_toArray, List.set_cons_zero, List.set_cons_succ])
          | (refine Fx.val_ ?_ (by rfl) ?_ (fun f w h => h) ?_
             rotate_left
             · intro f w' hD hk
               obtain ⟨jw, _⟩ := id hD
               clear hk hD jw
               go_simp
               try rfl
             simp only [Act.put, List.setIfInBounds_toArray, List.set_cons_zero, List.set_cons_succ]))
        refine Fx.val_ ?_ (by rfl) ?_ (fun f w h => h) ?_
        rotate_left
        · intro f w' hD hk
          obtain ⟨jw, _⟩ := id hD
          have h7 : f 7 = false := hk.2.1 7 (by kernel_rfl)
          have h13 : f 13 = false := hk.un 13 7 (by kernel_rfl) h7
          have hb_ : f 14 = false := hk.un 14 13 (by kernel_rfl) h13
          have ha_ : f 15 = false := hk.un 15 14 (by kernel_rfl) hb_
          rw [hb_, ha_] at jw
          simp only [Bool.false_eq_true, if_false] at jw
          have q1 : w'.cell? ⟨sb, so + i * 2 + 1, none⟩ = some (.int .i64 yd) := by rw [jw]; exact d1
          clear hk hD jw h7 h13 hb_ ha_
          go_simp
          try rfl
        simp only [Act.put, List.setIfInBounds_toArray, List.set_cons_zero, List.set_cons_succ]
        repeat (first
          | (refine Fx.skip_ (by rfl) (fun f w h => h) ?_; simp only [Act.put, List.setIfInBounds_toArray, List.set_cons_zero, List.set_cons_succ])
          | (refine Fx.val_ ?_ (by rfl) ?_ (fun f w h => h) ?_
             rotate_left
             · intro f w' hD hk
               obtain ⟨jw, _⟩ := id hD
               clear hk hD jw
               go_simp
               try rfl
             simp only [Act.put, List.setIfInBounds_toArray, List.set_cons_zero, List.set_cons_succ]))
        refine Fx.val_ ?_ (by rfl) ?_ (fun f w h => h) ?_
        rotate_left
        · intro f w' hD hk
          obtain ⟨jw, _⟩ := id hD
          have h13 : f 13 = false := hk.2.1 13 (by kernel_rfl)
          have hb_ : f 14 = false := hk.un 14 13 (by kernel_rfl) h13
          have ha_ : f 15 = false := hk.un 15 14 (by kernel_rfl) hb_
          rw [hb_, ha_] at jw
          simp only [Bool.false_eq_true, if_false] at jw
          have q1 : w'.cell? ⟨sb, so + i * 2, none⟩ = some (.int .i64 yn) := by rw [jw]; exact d2
          clear hk hD jw h13 hb_ ha_
          go_simp
          try rfl
        simp only [Act.put, List.setIfInBounds_toArray, List.set_cons_zero, List.set_cons_succ]
        repeat (first
          | (refine Fx.skip_ (by rfl) (fun f w h => h) ?_; simp only [Act.put, List.setIfInBounds_toArray, List.set_cons_zero, List.set_cons_succ])
          | (refine Fx.val_ ?_ (by rfl) ?_ (fun f w h => h) ?_
             rotate_left
             · intro f w' hD hk
               obtain ⟨jw, _⟩ := id hD
               clear hk hD jw
               go_simp
               try rfl
             simp only [Act.put, List.setIfInBounds_toArray, List.set_cons_zero, List.set_cons_succ]))
        refine Fx.eff_ (.slice (some ⟨W0.heap.size, 0, none⟩) 1 1) (fun w' => W1) (by rfl) ?_ ?_ ?_
        · intro f w' hD hk
          obtain ⟨jw, _⟩ := id hD
          have hb_ : f 14 = false := hk.1
          have ha_ : f 15 = false := hk.un 15 14 (by kernel_rfl) hb_
          rw [hb_, ha_] at jw
          simp only [Bool.false_eq_true, if_false] at jw
          subst jw
          clear hk hD
          rw [hW1]
          go_simp
        · intro f w' hD hk
          obtain ⟨jw, _⟩ := id hD
          have hb_ : f 14 = false := hk.1
          have ha_ : f 15 = false := hk.un 15 14 (by kernel_rfl) hb_
          rw [hb_, ha_] at jw
          simp only [Bool.false_eq_true, if_false] at jw
          subst jw
          exact ⟨by simp [Fx.add, ha_], trivial⟩
        simp only [Act.put, List.setIfInBounds_toArray, List.set_cons_zero, List.set_cons_succ]
        refine Fx.eff_ (v') (fun w' => W2) (by rfl) ?_ ?_ ?_
        · intro f w' hD hk
          obtain ⟨jw, _⟩ := id hD
          have hb_ : f 14 = true := hk.2.2.1 14 (by kernel_rfl)
          have ha_ : f 15 = false := hk.1
          rw [hb_, ha_] at jw
          simp only [Bool.false_eq_true, if_false, if_true] at jw
          subst jw
          exact exec_append (.tmp 234) (.tmp 248) _ rfl HRUN.out
        · intro f w' hD hk
          obtain ⟨jw, _⟩ := id hD
          have hb_ : f 14 = true := hk.2.2.1 14 (by kernel_rfl)
          have ha_ : f 15 = false := hk.1
          rw [hb_, ha_] at jw
          simp only [Bool.false_eq_true, if_false, if_true] at jw
          subst jw
          exact ⟨by simp [Fx.add], trivial⟩
        simp only [Act.put, List.setIfInBounds_toArray, List.set_cons_zero, List.set_cons_succ]
        repeat (first
          | (refine Fx.skip_ (by rfl) (fun f w h => h) ?_; simp only [Act.put, List.setIfInBounds_toArray, List.set_cons_zero, List.set_cons_succ])
          | (refine Fx.val_ ?_ (by rfl) ?_ (fun f w h => h) ?_
             rotate_left
             · intro f w' hD hk
               obtain ⟨jw, _⟩ := id hD
               clear hk hD jw
               go_simp
               try rfl
             simp only [Act.put, List.setIfInBounds_toArray, List.set_cons_zero, List.set_cons_succ]))
        refine Fx.nil_ ?_
        intro f w1 hall hD
        have hf15 := hall 15 (by simp)
        obtain ⟨jw, _⟩ := hD
        simp only [hf15, if_true] at *
        subst jw
        try clear hall
        clear d1 d2 k0 k1
        go_wp2
        go_roundw
        case rel => exact ⟨i + 1, fs ++ [z], by omega, by go_num, by rw [List.length_append, HFLN.out]; rfl, HO2.out, HFN.out, HB2W.out⟩
        case measure => simp [intOf]; omega
    have hii : (i : Int) < (m : Int) := by omega
    obtain ⟨sb, so, ⟨yn, yd⟩, hAe, hsb, hgy, cs0, cs1⟩ := RS6.out.pair hit
    obtain ⟨qb, qo, ⟨z0, z1⟩, hBe, hqb, hgz, cz0, cz1⟩ := RX6.out.pair hit
    simp only at cs0 cs1 cz0 cz1
    have HY := Lib.hid hgy
    have HZ := Lib.hid hgz
    have hsh := HSH.out (yn, yd) (List.mem_of_getElem? hgy)
    simp only at hsh
    obtain ⟨⟨y1, y2⟩, ⟨y3, y4⟩, hy5⟩ := hsh
    have HYE := Lib.hid hy5
    have HYF : Hid (FOk (yn, yd)) := Lib.hid hy5
    have hzz := atB_mem HAT.out (List.mem_of_getElem? hgz)
    simp only at hzz
    have HZ0 := Lib.hid (int_fok hzz.1.1 hzz.1.2)
    have HZ1 := Lib.hid (int_fok hzz.2.1 hzz.2.2)
    have hpi := List.getElem?_eq_getElem (show i < ps.length by rw [HM.out]; exact hit)
    have HPI := Lib.hid hpi
    obtain ⟨v0, v1⟩ := at_val hnd.out hpi hgz
    have HV0 := Lib.hid v0
    have HV1 := Lib.hid v1
    have HCS0 := Lib.hid (show ∀ w', Below w6.heap.size w7 w' → w'.cell? ⟨sb, so + i * 2, none⟩ = some (.int .i64 yn) from fun w' hb => ((HB67.out.trans hb).cell (p := ⟨sb, so + i * 2, none⟩) hsb).trans cs0)
    have HCS1 := Lib.hid (show ∀ w', Below w6.heap.size w7 w' → w'.cell? ⟨sb, so + i * 2 + 1, none⟩ = some (.int .i64 yd) from fun w' hb => ((HB67.out.trans hb).cell (p := ⟨sb, so + i * 2 + 1, none⟩) hsb).trans cs1)
    have HCZ0 := Lib.hid (show ∀ w', Below w6.heap.size w7 w' → w'.cell? ⟨qb, qo + i * 2, none⟩ = some (.int .i64 z0) from fun w' hb => ((HB67.out.trans hb).cell (p := ⟨qb, qo + i * 2, none⟩) hqb).trans cz0)
    have HCZ1 := Lib.hid (show ∀ w', Below w6.heap.size w7 w' → w'.cell? ⟨qb, qo + i * 2 + 1, none⟩ = some (.int .i64 z1) from fun w' hb => ((HB67.out.trans hb).cell (p := ⟨qb, qo + i * 2 + 1, none⟩) hqb).trans cz1)
    subst hAe hBe
    clear hgy hgz hy5 hzz hpi v0 v1 cs0 cs1 cz0 cz1
    have cs0 := HCS0.out w8 HB78.out
    have cs1 := HCS1.out w8 HB78.out
    go_wp2_with fail
    refine (fracref_is yn yd 0 HYE.out _ (by omega) (by omega) (by omega) (by omega)).mono ?_
    rintro e w9 ⟨rfl, hb89⟩
    have HB79 := Lib.hid (HB78.out.trans (hb89.mono (by omega)))
    have ka9 := Blk.below HKA.out hb89 HKA.out.lt
    have ks9 := Blk.below HKS.out hb89 HKS.out.lt
    have HKA9 := Lib.hid ka9
    have HKS9 := Lib.hid ks9
    have ca0 := ka9.cell 0
    have ca1 := ka9.cell 1
    have lg9 : w6.heap.size + 1 < w9.heap.size := ks9.lt
    have la9 : w6.heap.size < w9.heap.size := by omega
    clear cs0 cs1 hb89 ka9 ks9
    have cs0 := HCS0.out w9 HB79.out
    have cs1 := HCS1.out w9 HB79.out
    have ls9 : sb < w9.heap.size := by omega
    have hyd : decide (yn < 1) = false := by simp; omega
    cases ho1 : addF (an, ad) (yn, yd) with
    | none =>
      have HADD := Lib.hid (fun w' => numAdd_no (an, ad) (yn, yd) HFA.out HYF.out ho1 w')
      clear ho1
      go_wp2
      refine Fx.regionG (MkD 35 (.int .i64 0) (.int .i64 0) 10) (fun x : Nat => .pointer (some ⟨x, 0, none⟩)) 9 (by kernel_rfl) (by kernel_rfl) (by kernel_rfl) ?_ ?_
      · intro f hf0
        exact MkD.start (below_drewN (Below.refl _ _) 1)
      repeat (first
        | (refine Fx.skipE_ (by rfl) (fun g f w h => h) ?_; simp only [Act.put, List.setIfInBounds_toArray, List.set_cons_zero, List.set_cons_succ])
        | (refine Fx.valE_ ?_ (by rfl) ?_ (fun g f w h => h) ?_
           rotate_left
           · intro g f w' hD hk
             obtain ⟨hb, hg⟩ := id hD
             have t0 := (hb.cell (p := ⟨w6.heap.size, 0, none⟩) (la9)).trans ca0
             have t1 := (hb.cell (p := ⟨w6.heap.size, 1, none⟩) (la9)).trans ca1
             have t2 := (hb.cell (p := ⟨sb, so + i * 2, none⟩) (ls9)).trans cs0
             have t3 := (hb.cell (p := ⟨sb, so + i * 2 + 1, none⟩) (ls9)).trans cs1
             clear hk hD hb hg
             go_simp
             try rfl
           simp only [Act.put, List.setIfInBounds_toArray, List.set_cons_zero, List.set_cons_succ]))
      refine Fx.callvE_ (.tuple #[.agg #[.int .i64 0, .int .i64 0], .int .i64 8]) ?_ ?_ (by rfl) ?_ ?_ ?_
      rotate_left 2
      · intro w'
        go_simp
        refine ⟨?_, ?_⟩ <;> rfl
      · intro g f w' hD hk
        exact (HADD.out _).mono fun e w'' ⟨he, hw⟩ => ⟨he, hD.step hw (by decide)⟩
      simp only [Act.put, List.setIfInBounds_toArray, List.set_cons_zero, List.set_cons_succ]
      repeat (first
        | (refine Fx.skipE_ (by rfl) (fun g f w h => h) ?_; simp only [Act.put, List.setIfInBounds_toArray, List.set_cons_zero, List.set_cons_succ])
        | (refine Fx.valE_ ?_ (by rfl) ?_ (fun g f w h => h) ?_
           rotate_left
           · intro g f w' hD hk
             obtain ⟨hb, hg⟩ := id hD
             have t0 := (hb.cell (p := ⟨w6.heap.size, 0, none⟩) (la9)).trans ca0
             have t1 := (hb.cell (p := ⟨w6.heap.size, 1, none⟩) (la9)).trans ca1
             have t2 := (hb.cell (p := ⟨sb, so + i * 2, none⟩) (ls9)).trans cs0
             have t3 := (hb.cell (p := ⟨sb, so + i * 2 + 1, none⟩) (ls9)).trans cs1
             clear hk hD hb hg
             go_simp
             try rfl
           simp only [Act.put, List.setIfInBounds_toArray, List.set_cons_zero, List.set_cons_succ]))
      refine Fx.makeE_ (by rfl) (by rfl) ?_ ?_
      · intro f w' hD hk
        refine ⟨w'.heap.size, w'.alloc (.cells #[.int .i64 0, .int .i64 0] 35), ?_, ?_⟩
        · clear hD hk
          go_simp
          try rfl
        · exact hD.make (hk.2.1 10 (by kernel_rfl)) (by decide)
      intro x
      simp only [Act.put, List.setIfInBounds_toArray, List.set_cons_zero, List.set_cons_succ]
      refine Fx.store_ (fun w' => (w'.setCell ⟨x, 0, none⟩ (.int .i64 0)).setCell ⟨x, 1, none⟩ (.int .i64 0)) (by rfl) ?_ ?_ ?_
      · intro f w' hD hk
        obtain ⟨hb, hg⟩ := id hD
        obtain ⟨e0, e1, r1, r2, r3, r4⟩ := MkD.cells hD
        clear hk hD
        go_simp
      · intro f w' hD hk
        obtain ⟨hb, hg⟩ := id hD
        obtain ⟨e0, e1, r1, r2, r3, r4⟩ := MkD.cells hD
        exact hD.store
      simp only [Act.put, List.setIfInBounds_toArray, List.set_cons_zero, List.set_cons_succ]
      repeat (first
        | (refine Fx.skip_ (by rfl) (fun f w h => h) ?_; simp only [Act.put, List.setIfInBounds_toArray, List.set_cons_zero, List.set_cons_succ])
        | (refine Fx.val_ ?_ (by rfl) ?_ (fun f w h => h) ?_
           rotate_left
           · intro f w' hD hk
             obtain ⟨hb, hg⟩ := id hD
             have t0 := (hb.cell (p := ⟨w6.heap.size, 0, none⟩) (la9)).trans ca0
             have t1 := (hb.cell (p := ⟨w6.heap.size, 1, none⟩) (la9)).trans ca1
             have t2 := (hb.cell (p := ⟨sb, so + i * 2, none⟩) (ls9)).trans cs0
             have t3 := (hb.cell (p := ⟨sb, so + i * 2 + 1, none⟩) (ls9)).trans cs1
             clear hk hD hb hg
             go_simp
             try rfl
           simp only [Act.put, List.setIfInBounds_toArray, List.set_cons_zero, List.set_cons_succ]))
      refine Fx.nil_ ?_
      intro f w1 hall hD
      have hf10 := hall 10 (by simp)
      obtain ⟨hb, hg⟩ := hD
      simp only [hf10, if_true] at *
      obtain ⟨-, e0', e1', hx2, hx3⟩ := hg x rfl
      obtain ⟨rfl, rfl⟩ := hx3 (by first | rfl | trivial | assumption)
      obtain ⟨w10, hnm⟩ : ∃ z : World, z = w1 := ⟨_, rfl⟩
      subst hnm
      obtain ⟨ga, hga⟩ : ∃ z : Nat, z = x := ⟨_, rfl⟩
      subst hga
      have HB_w9_w10 := Lib.hid hb
      have hszw10 := hb.size
      have HKga := Lib.hid hx2
      clear hb hg hx2 hx3
      have HB7A := Lib.hid (HB79.out.trans (HB_w9_w10.out.mono (by omega)))
      have HKA10 := Lib.hid (Blk.below HKA9.out HB_w9_w10.out la9)
      have l10 : w6.heap.size < w10.heap.size := by omega
      clear ca0 ca1 cs0 cs1
      have cx0 := HKga.out.cell 0
      have cx1 := HKga.out.cell 1
      have hka10 := HKA10.out
      have K0_10 := Lib.hid (show Blk w10 (w6.heap.size) 35 #[.int .i64 (an), .int .i64 (ad)] from hka10)
      clear hka10
      have l0_10 : w6.heap.size < w10.heap.size := K0_10.out.lt
      have z0_0_10 : w10.cell? ⟨w6.heap.size, 0, none⟩ = some (.int .i64 (an)) := K0_10.out.cell 0
      have z0_1_10 : w10.cell? ⟨w6.heap.size, 1, none⟩ = some (.int .i64 (ad)) := K0_10.out.cell 1
      have sc0 := (K0_10.out).cell 0
      have sf0 := (K0_10.out).frozen 0
      have sk0 : Blk (w10.setCell ⟨w6.heap.size, 0, none⟩ (.int .i64 (0))) (w6.heap.size) 35 #[.int .i64 (0), .int .i64 (ad)] := by simpa using (K0_10.out).set_ 0 (.int .i64 (0))
      have sc1 := (sk0).cell 1
      have sf1 := (sk0).frozen 1
      have sk1 : Blk ((w10.setCell ⟨w6.heap.size, 0, none⟩ (.int .i64 (0))).setCell ⟨w6.heap.size, 1, none⟩ (.int .i64 (0))) (w6.heap.size) 35 #[.int .i64 (0), .int .i64 (0)] := by simpa using (sk0).set_ 1 (.int .i64 (0))
      have sK := Lib.hid sk1
      have sd0 := sk1.cell 0
      have sd1 := sk1.cell 1
      clear sk0 sk1
      go_wp2
      generalize hW : (w10.setCell ⟨w6.heap.size, 0, none⟩ (.int .i64 0)).setCell ⟨w6.heap.size, 1, none⟩ (.int .i64 0) = w11
      have HB7B := Lib.hid (show Below w6.heap.size w7 w11 by rw [← hW]; exact (HB7A.out.setCell (p := ⟨w6.heap.size, 0, none⟩) (Nat.le_refl _) _).setCell (p := ⟨w6.heap.size, 1, none⟩) (Nat.le_refl _) _)
      clear hW
      go_loopw [15, 21] (fun sv v wr => sv = .bool false ∧ v = .int .i64 0 ∧ w11 = wr) (fun _ _ _ => 0)
      case atStart => exact ⟨rfl, rfl, rfl⟩
      case round =>
        obtain ⟨rfl, rfl, rfl⟩ := hrel
        go_wp2
        go_ret
        exact ⟨rfl, HB6.out.trans ((HB67.out.trans HB7B.out).mono HB6.out.size)⟩
    | some q =>
    obtain ⟨xn, xd⟩ := q
    have HO1 := Lib.hid ho1
    have HXF := Lib.hid (show FOk (xn, xd) from by
      obtain ⟨p1, p2, -, -⟩ := HFA.out.parts
      obtain ⟨q1, q2, -, -⟩ := HYF.out.parts
      exact opF_ok (den_in p1 p2 q1 q2).1 ho1)
    have HADD := Lib.hid (fun w' => numAdd_ok (an, ad) (yn, yd) HFA.out HYF.out (xn, xd) HO1.out w')
    clear ho1
    go_wp2
    refine Fx.regionG (MkD 35 (.int .i64 xn) (.int .i64 xd) 10) (fun x : Nat => .pointer (some ⟨x, 0, none⟩)) 9 (by kernel_rfl) (by kernel_rfl) (by kernel_rfl) ?_ ?_
    · intro f hf0
      exact MkD.start (below_drewN (Below.refl _ _) 1)
    repeat (first
      | (refine Fx.skipE_ (by rfl) (fun g f w h => h) ?_; simp only [Act.put, List.setIfInBounds_toArray, List.set_cons_zero, List.set_cons_succ])
      | (refine Fx.valE_ ?_ (by rfl) ?_ (fun g f w h => h) ?_
         rotate_left
         · intro g f w' hD hk
           obtain ⟨hb, hg⟩ := id hD
           have t0 := (hb.cell (p := ⟨w6.heap.size, 0, none⟩) (la9)).trans ca0
           have t1 := (hb.cell (p := ⟨w6.heap.size, 1, none⟩) (la9)).trans ca1
           have t2 := (hb.cell (p := ⟨sb, so + i * 2, none⟩) (ls9)).trans cs0
           have t3 := (hb.cell (p := ⟨sb, so + i * 2 + 1, none⟩) (ls9)).trans cs1
           clear hk hD hb hg
           go_simp
           try rfl
         simp only [Act.put, List.setIfInBounds_toArray, List.set_cons_zero, List.set_cons_succ]))
    refine Fx.callvE_ (.tuple #[.agg #[.int .i64 xn, .int .i64 xd], .int .i64 0]) ?_ ?_ (by rfl) ?_ ?_ ?_
    rotate_left 2
    · intro w'
      go_simp
      refine ⟨?_, ?_⟩ <;> rfl
    · intro g f w' hD hk
      exact (HADD.out _).mono fun e w'' ⟨he, hw⟩ => ⟨he, hD.step hw (by decide)⟩
    simp only [Act.put, List.setIfInBounds_toArray, List.set_cons_zero, List.set_cons_succ]
    repeat (first
      | (refine Fx.skipE_ (by rfl) (fun g f w h => h) ?_; simp only [Act.put, List.setIfInBounds_toArray, List.set_cons_zero, List.set_cons_succ])
      | (refine Fx.valE_ ?_ (by rfl) ?_ (fun g f w h => h) ?_
         rotate_left
         · intro g f w' hD hk
           obtain ⟨hb, hg⟩ := id hD
           have t0 := (hb.cell (p := ⟨w6.heap.size, 0, none⟩) (la9)).trans ca0
           have t1 := (hb.cell (p := ⟨w6.heap.size, 1, none⟩) (la9)).trans ca1
           have t2 := (hb.cell (p := ⟨sb, so + i * 2, none⟩) (ls9)).trans cs0
           have t3 := (hb.cell (p := ⟨sb, so + i * 2 + 1, none⟩) (ls9)).trans cs1
           clear hk hD hb hg
           go_simp
           try rfl
         simp only [Act.put, List.setIfInBounds_toArray, List.set_cons_zero, List.set_cons_succ]))
    refine Fx.makeE_ (by rfl) (by rfl) ?_ ?_
    · intro f w' hD hk
      refine ⟨w'.heap.size, w'.alloc (.cells #[.int .i64 0, .int .i64 0] 35), ?_, ?_⟩
      · clear hD hk
        go_simp
        try rfl
      · exact hD.make (hk.2.1 10 (by kernel_rfl)) (by decide)
    intro x
    simp only [Act.put, List.setIfInBounds_toArray, List.set_cons_zero, List.set_cons_succ]
    refine Fx.store_ (fun w' => (w'.setCell ⟨x, 0, none⟩ (.int .i64 xn)).setCell ⟨x, 1, none⟩ (.int .i64 xd)) (by rfl) ?_ ?_ ?_
    · intro f w' hD hk
      obtain ⟨hb, hg⟩ := id hD
      obtain ⟨e0, e1, r1, r2, r3, r4⟩ := MkD.cells hD
      clear hk hD
      go_simp
    · intro f w' hD hk
      obtain ⟨hb, hg⟩ := id hD
      obtain ⟨e0, e1, r1, r2, r3, r4⟩ := MkD.cells hD
      exact hD.store
    simp only [Act.put, List.setIfInBounds_toArray, List.set_cons_zero, List.set_cons_succ]
    repeat (first
      | (refine Fx.skip_ (by rfl) (fun f w h => h) ?_; simp only [Act.put, List.setIfInBounds_toArray, List.set_cons_zero, List.set_cons_succ])
      | (refine Fx.val_ ?_ (by rfl) ?_ (fun f w h => h) ?_
         rotate_left
         · intro f w' hD hk
           obtain ⟨hb, hg⟩ := id hD
           have t0 := (hb.cell (p := ⟨w6.heap.size, 0, none⟩) (la9)).trans ca0
           have t1 := (hb.cell (p := ⟨w6.heap.size, 1, none⟩) (la9)).trans ca1
           have t2 := (hb.cell (p := ⟨sb, so + i * 2, none⟩) (ls9)).trans cs0
           have t3 := (hb.cell (p := ⟨sb, so + i * 2 + 1, none⟩) (ls9)).trans cs1
           clear hk hD hb hg
           go_simp
           try rfl
         simp only [Act.put, List.setIfInBounds_toArray, List.set_cons_zero, List.set_cons_succ]))
    refine Fx.nil_ ?_
    intro f w1 hall hD
    have hf10 := hall 10 (by simp)
    obtain ⟨hb, hg⟩ := hD
    simp only [hf10, if_true] at *
    obtain ⟨-, e0', e1', hx2, hx3⟩ := hg x rfl
    obtain ⟨rfl, rfl⟩ := hx3 (by first | rfl | trivial | assumption)
    obtain ⟨w10, hnm⟩ : ∃ z : World, z = w1 := ⟨_, rfl⟩
    subst hnm
    obtain ⟨ga, hga⟩ : ∃ z : Nat, z = x := ⟨_, rfl⟩
    subst hga
    have HB_w9_w10 := Lib.hid hb
    have hszw10 := hb.size
    have HKga := Lib.hid hx2
    clear hb hg hx2 hx3
    have HB7A := Lib.hid (HB79.out.trans (HB_w9_w10.out.mono (by omega)))
    have HKA10 := Lib.hid (Blk.below HKA9.out HB_w9_w10.out la9)
    have HKS10 := Lib.hid (Blk.below HKS9.out HB_w9_w10.out lg9)
    have l10 : w6.heap.size < w10.heap.size := by omega
    clear ca0 ca1 cs0 cs1
    have cx0 := HKga.out.cell 0
    have cx1 := HKga.out.cell 1
    have hka10 := HKA10.out
    have K0_10 := Lib.hid (show Blk w10 (w6.heap.size) 35 #[.int .i64 (an), .int .i64 (ad)] from hka10)
    clear hka10
    have l0_10 : w6.heap.size < w10.heap.size := K0_10.out.lt
    have z0_0_10 : w10.cell? ⟨w6.heap.size, 0, none⟩ = some (.int .i64 (an)) := K0_10.out.cell 0
    have z0_1_10 : w10.cell? ⟨w6.heap.size, 1, none⟩ = some (.int .i64 (ad)) := K0_10.out.cell 1
    have sc0 := (K0_10.out).cell 0
    have sf0 := (K0_10.out).frozen 0
    have sk0 : Blk (w10.setCell ⟨w6.heap.size, 0, none⟩ (.int .i64 (xn))) (w6.heap.size) 35 #[.int .i64 (xn), .int .i64 (ad)] := by simpa using (K0_10.out).set_ 0 (.int .i64 (xn))
    have sc1 := (sk0).cell 1
    have sf1 := (sk0).frozen 1
    have sk1 : Blk ((w10.setCell ⟨w6.heap.size, 0, none⟩ (.int .i64 (xn))).setCell ⟨w6.heap.size, 1, none⟩ (.int .i64 (xd))) (w6.heap.size) 35 #[.int .i64 (xn), .int .i64 (xd)] := by simpa using (sk0).set_ 1 (.int .i64 (xd))
    have sK := Lib.hid sk1
    have sd0 := sk1.cell 0
    have sd1 := sk1.cell 1
    clear sk0 sk1
    go_wp2
    generalize hW : (w10.setCell ⟨w6.heap.size, 0, none⟩ (.int .i64 xn)).setCell ⟨w6.heap.size, 1, none⟩ (.int .i64 xd) = w11
    have HB7B := Lib.hid (show Below w6.heap.size w7 w11 by rw [← hW]; exact (HB7A.out.setCell (p := ⟨w6.heap.size, 0, none⟩) (Nat.le_refl _) _).setCell (p := ⟨w6.heap.size, 1, none⟩) (Nat.le_refl _) _)
    have HKA11 := Lib.hid (show Blk w11 w6.heap.size 35 #[.int .i64 xn, .int .i64 xd] by rw [← hW]; exact sK.out)
    have HKS11 := Lib.hid (show Blk w11 (w6.heap.size + 1) 36 #[.int .i64 sn, .int .i64 sd, .int .i64 tn, .int .i64 td] by rw [← hW]; exact (HKS10.out.far (p := ⟨w6.heap.size, 0, none⟩) (by simp) _).far (p := ⟨w6.heap.size, 1, none⟩) (by simp) _)
    clear hW sK sc0 sc1 sf0 sf1 sd0 sd1 z0_0_10 z0_1_10 cx0 cx1 l0_10
    go_wp2
    go_loopw [15, 21] (fun sv kv wr => Below (w6.heap.size + 1) w11 wr ∧ ((kv = .int .i64 0 ∧ sv = .bool true ∧ Blk wr (w6.heap.size + 1) 36 #[.int .i64 sn, .int .i64 sd, .int .i64 tn, .int .i64 td]) ∨ (kv = .int .i64 1 ∧ sv = .bool true ∧ ∃ pn pd, FOk (pn, pd) ∧ vl (pn, pd) = vl (sn, sd) + vl (yn, yd) * (z0 : Rat) ∧ Blk wr (w6.heap.size + 1) 36 #[.int .i64 pn, .int .i64 pd, .int .i64 tn, .int .i64 td]) ∨ (kv = .int .i64 2 ∧ sv = .bool true ∧ ∃ pn pd rn rd, FOk (pn, pd) ∧ vl (pn, pd) = vl (sn, sd) + vl (yn, yd) * (z0 : Rat) ∧ FOk (rn, rd) ∧ vl (rn, rd) = vl (tn, td) + vl (yn, yd) * (z1 : Rat) ∧ Blk wr (w6.heap.size + 1) 36 #[.int .i64 pn, .int .i64 pd, .int .i64 rn, .int .i64 rd]) ∨ (∃ (k : Int) (c0 c1 c2 c3 : Value), sv = .bool false ∧ kv = .int .i64 k ∧ Blk wr (w6.heap.size + 1) 36 #[c0, c1, c2, c3]))) (fun _ kv _ => 2 - (intOf kv).toNat)
    case atStart => exact ⟨Below.refl _ _, .inl ⟨rfl, rfl, HKS11.out⟩⟩
    case round =>
      obtain ⟨hbb, hcase⟩ := hrel
      obtain ⟨w12, hnm⟩ : ∃ z : World, z = wr := ⟨_, rfl⟩
      subst hnm
      have HBB := Lib.hid hbb
      have hs12 := hbb.size
      have HB7C := Lib.hid (HB7B.out.trans (hbb.mono (Nat.le_succ _)))
      have hs11 := HB7B.out.size
      clear hbb
      rcases hcase with ⟨rfl, rfl, hk12⟩ | ⟨rfl, rfl, pn, pd, hpf, hpv, hk12⟩ | ⟨rfl, rfl, pn, pd, rn, rd, hpf, hpv, hrf, hrv, hk12⟩ | ⟨k, c0, c1, c2, c3, rfl, rfl, hk12⟩
      · skip
        have HK12 := Lib.hid hk12
        have lg12 : w6.heap.size + 1 < w12.heap.size := hk12.lt
        have ls12 : sb < w12.heap.size := by omega
        have lq12 : qb < w12.heap.size := by omega
        have cs0 := HCS0.out w12 HB7C.out
        have cs1 := HCS1.out w12 HB7C.out
        have cz := HCZ0.out w12 HB7C.out
        clear hk12
        obtain ⟨o2, ho2⟩ : ∃ o, mulF (yn, yd) (z0, 1) = o := ⟨_, rfl⟩
        have HMUL0 := Lib.hid (fun w' => mul_opt (yn, yd) (z0, 1) o2 HYF.out HZ0.out ho2 w')
        have HO2 := Lib.hid ho2
        obtain ⟨⟨mn, md⟩, hmv⟩ : ∃ v, resV o2 = v := ⟨_, rfl⟩
        obtain ⟨mh, hmh⟩ : ∃ v, resE o2 = v := ⟨_, rfl⟩
        have HMUL := Lib.hid (show ∀ w', Calls Try.prog 19 #[.agg #[.int .i64 yn, .int .i64 yd], .agg #[.int .i64 z0, .int .i64 1]] w' (fun e w'' => e = .returned (.tuple #[.agg #[.int .i64 mn, .int .i64 md], .int .i64 mh]) ∧ Below w'.heap.size w' w'') from fun w' => by
          have h := HMUL0.out w'
          rw [hmv, hmh] at h
          exact h)
        obtain ⟨nn, nd, nj, hadd, hgood⟩ : ∃ nn nd nj, (∀ w', Calls Try.prog 18 #[.agg #[.int .i64 sn, .int .i64 sd], .agg #[.int .i64 mn, .int .i64 md]] w' (fun e w'' => e = .returned (.tuple #[.agg #[.int .i64 nn, .int .i64 nd], .int .i64 nj]) ∧ Below w'.heap.size w' w'')) ∧ ((mh = 0 ∧ nj = 0 ∧ FOk (nn, nd) ∧ vl (nn, nd) = vl (sn, sd) + vl (yn, yd) * (z0 : Rat)) ∨ ¬ (mh = 0 ∧ nj = 0)) := by
          cases o2 with
          | none =>
            obtain ⟨rfl, rfl⟩ : (0 : Int) = mn ∧ (0 : Int) = md := by simpa [resV] using hmv
            obtain rfl : (8 : Int) = mh := by simpa [resE] using hmh
            exact ⟨0, 0, 3, fun w' => numAdd_zero (sn, sd) HFS.out w', .inr (by decide)⟩
          | some p =>
            obtain rfl : p = (mn, md) := by simpa [resV] using hmv
            obtain rfl : (0 : Int) = mh := by simpa [resE] using hmh
            have fp : FOk (mn, md) := by
              obtain ⟨p1, p2, -, -⟩ := HYF.out.parts
              obtain ⟨q1, q2, -, -⟩ := HZ0.out.parts
              exact opF_ok (den_in p1 p2 q1 q2).1 ho2
            cases ho3 : addF (sn, sd) (mn, md) with
            | none => exact ⟨0, 0, 8, fun w' => numAdd_no (sn, sd) (mn, md) HFS.out fp ho3 w', .inr (by decide)⟩
            | some p =>
              obtain ⟨nn, nd⟩ := p
              have fn : FOk (nn, nd) := by
                obtain ⟨p1, p2, -, -⟩ := HFS.out.parts
                obtain ⟨q1, q2, -, -⟩ := fp.parts
                exact opF_ok (den_in p1 p2 q1 q2).1 ho3
              exact ⟨nn, nd, 0, fun w' => numAdd_ok (sn, sd) (mn, md) HFS.out fp (nn, nd) ho3 w', .inl ⟨rfl, rfl, fn, by rw [add_val HFS.out fp ho3, mul_val HYF.out HZ0.out ho2, vl_int]⟩⟩
        have HADD2 := Lib.hid hadd
        have HGOOD := Lib.hid hgood
        clear ho2 hmv hmh hadd hgood
        go_wp2
        refine Fx.regionG (MkD 35 (.int .i64 mn) (.int .i64 md) 16) (fun x : Nat => .pointer (some ⟨x, 0, none⟩)) 15 (by kernel_rfl) (by kernel_rfl) (by kernel_rfl) ?_ ?_
        · intro f hf0
          exact MkD.start (below_drewN (Below.refl _ _) 1)
        repeat (first
          | (refine Fx.skipE_ (by rfl) (fun g f w h => h) ?_; simp only [Act.put, List.setIfInBounds_toArray, List.set_cons_zero, List.set_cons_succ])
          | (refine Fx.valE_ ?_ (by rfl) ?_ (fun g f w h => h) ?_
             rotate_left
             · intro g f w' hD hk
               obtain ⟨hb, hg⟩ := id hD
               have t0 := (hb.cell (p := ⟨sb, so + i * 2, none⟩) (ls12)).trans cs0
               have t1 := (hb.cell (p := ⟨sb, so + i * 2 + 1, none⟩) (ls12)).trans cs1
               have t2 := (hb.cell (p := ⟨qb, qo + i * 2, none⟩) (lq12)).trans cz
               clear hk hD hb hg
               go_simp
               try rfl
             simp only [Act.put, List.setIfInBounds_toArray, List.set_cons_zero, List.set_cons_succ]))
        refine Fx.callvE_ (.tuple #[.agg #[.int .i64 mn, .int .i64 md], .int .i64 mh]) ?_ ?_ (by rfl) ?_ ?_ ?_
        rotate_left 2
        · intro w'
          go_simp
          refine ⟨?_, ?_⟩ <;> rfl
        · intro g f w' hD hk
          exact (HMUL.out _).mono fun e w'' ⟨he, hw⟩ => ⟨he, hD.step hw (by decide)⟩
        simp only [Act.put, List.setIfInBounds_toArray, List.set_cons_zero, List.set_cons_succ]
        repeat (first
          | (refine Fx.skipE_ (by rfl) (fun g f w h => h) ?_; simp only [Act.put, List.setIfInBounds_toArray, List.set_cons_zero, List.set_cons_succ])
          | (refine Fx.valE_ ?_ (by rfl) ?_ (fun g f w h => h) ?_
             rotate_left
             · intro g f w' hD hk
               obtain ⟨hb, hg⟩ := id hD
               have t0 := (hb.cell (p := ⟨sb, so + i * 2, none⟩) (ls12)).trans cs0
               have t1 := (hb.cell (p := ⟨sb, so + i * 2 + 1, none⟩) (ls12)).trans cs1
               have t2 := (hb.cell (p := ⟨qb, qo + i * 2, none⟩) (lq12)).trans cz
               clear hk hD hb hg
               go_simp
               try rfl
             simp only [Act.put, List.setIfInBounds_toArray, List.set_cons_zero, List.set_cons_succ]))
        refine Fx.makeE_ (by rfl) (by rfl) ?_ ?_
        · intro f w' hD hk
          refine ⟨w'.heap.size, w'.alloc (.cells #[.int .i64 0, .int .i64 0] 35), ?_, ?_⟩
          · clear hD hk
            go_simp
            try rfl
          · exact hD.make (hk.2.1 16 (by kernel_rfl)) (by decide)
        intro x
        simp only [Act.put, List.setIfInBounds_toArray, List.set_cons_zero, List.set_cons_succ]
        refine Fx.store_ (fun w' => (w'.setCell ⟨x, 0, none⟩ (.int .i64 mn)).setCell ⟨x, 1, none⟩ (.int .i64 md)) (by rfl) ?_ ?_ ?_
        · intro f w' hD hk
          obtain ⟨hb, hg⟩ := id hD
          obtain ⟨e0, e1, r1, r2, r3, r4⟩ := MkD.cells hD
          clear hk hD
          go_simp
        · intro f w' hD hk
          obtain ⟨hb, hg⟩ := id hD
          obtain ⟨e0, e1, r1, r2, r3, r4⟩ := MkD.cells hD
          exact hD.store
        simp only [Act.put, List.setIfInBounds_toArray, List.set_cons_zero, List.set_cons_succ]
        repeat (first
          | (refine Fx.skip_ (by rfl) (fun f w h => h) ?_; simp only [Act.put, List.setIfInBounds_toArray, List.set_cons_zero, List.set_cons_succ])
          | (refine Fx.val_ ?_ (by rfl) ?_ (fun f w h => h) ?_
             rotate_left
             · intro f w' hD hk
               obtain ⟨hb, hg⟩ := id hD
               have t0 := (hb.cell (p := ⟨sb, so + i * 2, none⟩) (ls12)).trans cs0
               have t1 := (hb.cell (p := ⟨sb, so + i * 2 + 1, none⟩) (ls12)).trans cs1
               have t2 := (hb.cell (p := ⟨qb, qo + i * 2, none⟩) (lq12)).trans cz
               clear hk hD hb hg
               go_simp
               try rfl
             simp only [Act.put, List.setIfInBounds_toArray, List.set_cons_zero, List.set_cons_succ]))
        refine Fx.nil_ ?_
        intro f w1 hall hD
        have hf16 := hall 16 (by simp)
        obtain ⟨hb, hg⟩ := hD
        simp only [hf16, if_true] at *
        obtain ⟨-, e0', e1', hx2, hx3⟩ := hg x rfl
        obtain ⟨rfl, rfl⟩ := hx3 (by first | rfl | trivial | assumption)
        obtain ⟨w13, hnm⟩ : ∃ z : World, z = w1 := ⟨_, rfl⟩
        subst hnm
        obtain ⟨gm, hgm⟩ : ∃ z : Nat, z = x := ⟨_, rfl⟩
        subst hgm
        have HB_w12_w13 := Lib.hid hb
        have hszw13 := hb.size
        have HKgm := Lib.hid hx2
        clear hb hg hx2 hx3
        have lg13 : w6.heap.size + 1 < w13.heap.size := by omega
        have hk13 := Blk.below HK12.out HB_w12_w13.out lg12
        have HK13 := Lib.hid hk13
        have ck0 := hk13.cell 0
        have ck1 := hk13.cell 1
        have cm0 := HKgm.out.cell 0
        have cm1 := HKgm.out.cell 1
        have lm13 : gm < w13.heap.size := HKgm.out.lt
        clear hk13 cs0 cs1 cz
        go_wp2
        refine Fx.regionG (MkD 35 (.int .i64 nn) (.int .i64 nd) 9) (fun x : Nat => .pointer (some ⟨x, 0, none⟩)) 8 (by kernel_rfl) (by kernel_rfl) (by kernel_rfl) ?_ ?_
        · intro f hf0
          exact MkD.start (below_drewN (Below.refl _ _) 1)
        repeat (first
          | (refine Fx.skipE_ (by rfl) (fun g f w h => h) ?_; simp only [Act.put, List.setIfInBounds_toArray, List.set_cons_zero, List.set_cons_succ])
          | (refine Fx.valE_ ?_ (by rfl) ?_ (fun g f w h => h) ?_
             rotate_left
             · intro g f w' hD hk
               obtain ⟨hb, hg⟩ := id hD
               have t0 := (hb.cell (p := ⟨w6.heap.size + 1, 0, none⟩) (lg13)).trans ck0
               have t1 := (hb.cell (p := ⟨w6.heap.size + 1, 1, none⟩) (lg13)).trans ck1
               have t2 := (hb.cell (p := ⟨gm, 0, none⟩) (lm13)).trans cm0
               have t3 := (hb.cell (p := ⟨gm, 1, none⟩) (lm13)).trans cm1
               clear hk hD hb hg
               go_simp
               try rfl
             simp only [Act.put, List.setIfInBounds_toArray, List.set_cons_zero, List.set_cons_succ]))
        refine Fx.callvE_ (.tuple #[.agg #[.int .i64 nn, .int .i64 nd], .int .i64 nj]) ?_ ?_ (by rfl) ?_ ?_ ?_
        rotate_left 2
        · intro w'
          go_simp
          refine ⟨?_, ?_⟩ <;> rfl
        · intro g f w' hD hk
          exact (HADD2.out _).mono fun e w'' ⟨he, hw⟩ => ⟨he, hD.step hw (by decide)⟩
        simp only [Act.put, List.setIfInBounds_toArray, List.set_cons_zero, List.set_cons_succ]
        repeat (first
          | (refine Fx.skipE_ (by rfl) (fun g f w h => h) ?_; simp only [Act.put, List.setIfInBounds_toArray, List.set_cons_zero, List.set_cons_succ])
          | (refine Fx.valE_ ?_ (by rfl) ?_ (fun g f w h => h) ?_
             rotate_left
             · intro g f w' hD hk
               obtain ⟨hb, hg⟩ := id hD
               have t0 := (hb.cell (p := ⟨w6.heap.size + 1, 0, none⟩) (lg13)).trans ck0
               have t1 := (hb.cell (p := ⟨w6.heap.size + 1, 1, none⟩) (lg13)).trans ck1
               have t2 := (hb.cell (p := ⟨gm, 0, none⟩) (lm13)).trans cm0
               have t3 := (hb.cell (p := ⟨gm, 1, none⟩) (lm13)).trans cm1
               clear hk hD hb hg
               go_simp
               try rfl
             simp only [Act.put, List.setIfInBounds_toArray, List.set_cons_zero, List.set_cons_succ]))
        refine Fx.makeE_ (by rfl) (by rfl) ?_ ?_
        · intro f w' hD hk
          refine ⟨w'.heap.size, w'.alloc (.cells #[.int .i64 0, .int .i64 0] 35), ?_, ?_⟩
          · clear hD hk
            go_simp
            try rfl
          · exact hD.make (hk.2.1 9 (by kernel_rfl)) (by decide)
        intro x
        simp only [Act.put, List.setIfInBounds_toArray, List.set_cons_zero, List.set_cons_succ]
        refine Fx.store_ (fun w' => (w'.setCell ⟨x, 0, none⟩ (.int .i64 nn)).setCell ⟨x, 1, none⟩ (.int .i64 nd)) (by rfl) ?_ ?_ ?_
        · intro f w' hD hk
          obtain ⟨hb, hg⟩ := id hD
          obtain ⟨e0, e1, r1, r2, r3, r4⟩ := MkD.cells hD
          clear hk hD
          go_simp
        · intro f w' hD hk
          obtain ⟨hb, hg⟩ := id hD
          obtain ⟨e0, e1, r1, r2, r3, r4⟩ := MkD.cells hD
          exact hD.store
        simp only [Act.put, List.setIfInBounds_toArray, List.set_cons_zero, List.set_cons_succ]
        repeat (first
          | (refine Fx.skip_ (by rfl) (fun f w h => h) ?_; simp only [Act.put, List.setIfInBounds_toArray, List.set_cons_zero, List.set_cons_succ])
          | (refine Fx.val_ ?_ (by rfl) ?_ (fun f w h => h) ?_
             rotate_left
             · intro f w' hD hk
               obtain ⟨hb, hg⟩ := id hD
               have t0 := (hb.cell (p := ⟨w6.heap.size + 1, 0, none⟩) (lg13)).trans ck0
               have t1 := (hb.cell (p := ⟨w6.heap.size + 1, 1, none⟩) (lg13)).trans ck1
               have t2 := (hb.cell (p := ⟨gm, 0, none⟩) (lm13)).trans cm0
               have t3 := (hb.cell (p := ⟨gm, 1, none⟩) (lm13)).trans cm1
               clear hk hD hb hg
               go_simp
               try rfl
             simp only [Act.put, List.setIfInBounds_toArray, List.set_cons_zero, List.set_cons_succ]))
        refine Fx.nil_ ?_
        intro f w1 hall hD
        have hf9 := hall 9 (by simp)
        obtain ⟨hb, hg⟩ := hD
        simp only [hf9, if_true] at *
        obtain ⟨-, e0', e1', hx2, hx3⟩ := hg x rfl
        obtain ⟨rfl, rfl⟩ := hx3 (by first | rfl | trivial | assumption)
        obtain ⟨w14, hnm⟩ : ∃ z : World, z = w1 := ⟨_, rfl⟩
        subst hnm
        obtain ⟨gn, hgn⟩ : ∃ z : Nat, z = x := ⟨_, rfl⟩
        subst hgn
        have HB_w13_w14 := Lib.hid hb
        have hszw14 := hb.size
        have HKgn := Lib.hid hx2
        clear hb hg hx2 hx3
        have lg14 : w6.heap.size + 1 < w14.heap.size := by omega
        have hk14 := Blk.below HK13.out HB_w13_w14.out lg13
        have HKS14 := Lib.hid hk14
        have HBB14 := Lib.hid ((HBB.out.trans (HB_w12_w13.out.mono (by omega))).trans (HB_w13_w14.out.mono (by omega)))
        clear ck0 ck1 cm0 cm1
        have ck0 := hk14.cell 0
        have ck1 := hk14.cell 1
        have cf0 := hk14.frozen 0
        have cf1 := hk14.frozen 1
        have cn0 := HKgn.out.cell 0
        have cn1 := HKgn.out.cell 1
        clear hk14
        rcases HGOOD.out with ⟨rfl, rfl, hf, hv⟩ | hbad
        · have HTF := Lib.hid hf
          have HTV := Lib.hid hv
          clear hf hv
          have hkn : Blk ((w14.setCell ⟨w6.heap.size + 1, 0, none⟩ (.int .i64 nn)).setCell ⟨w6.heap.size + 1, 1, none⟩ (.int .i64 nd)) (w6.heap.size + 1) 36 #[.int .i64 nn, .int .i64 nd, .int .i64 tn, .int .i64 td] := by simpa using (HKS14.out.set_ 0 (.int .i64 nn)).set_ 1 (.int .i64 nd)
          have HKN := Lib.hid hkn
          clear hkn
          go_wp2
          go_roundw
          case rel => exact ⟨(HBB14.out.setCell (p := ⟨w6.heap.size + 1, 0, none⟩) (Nat.le_refl _) _).setCell (p := ⟨w6.heap.size + 1, 1, none⟩) (Nat.le_refl _) _, .inr (.inl ⟨by first | rfl | go_num, by first | rfl | trivial, nn, nd, HTF.out, HTV.out, HKN.out⟩)⟩
          case measure => simp [intOf]
        · by_cases h1 : mh = 0
          · have e1 : (mh == 0) = true := by simpa using h1
            have e2 : (nj == 0) = false := by simp; exact fun e => hbad ⟨h1, e⟩
            clear hbad h1
            have hkn : Blk ((w14.setCell ⟨w6.heap.size + 1, 0, none⟩ (.int .i64 nn)).setCell ⟨w6.heap.size + 1, 1, none⟩ (.int .i64 nd)) (w6.heap.size + 1) 36 #[.int .i64 nn, .int .i64 nd, .int .i64 tn, .int .i64 td] := by simpa using (HKS14.out.set_ 0 (.int .i64 nn)).set_ 1 (.int .i64 nd)
            have HKN := Lib.hid hkn
            clear hkn
            go_wp2
            go_roundw
            case rel => exact ⟨(HBB14.out.setCell (p := ⟨w6.heap.size + 1, 0, none⟩) (Nat.le_refl _) _).setCell (p := ⟨w6.heap.size + 1, 1, none⟩) (Nat.le_refl _) _, .inr (.inr (.inr ⟨_, _, _, _, _, by first | rfl | trivial, by first | rfl | go_num, HKN.out⟩))⟩
            case measure => simp [intOf]
          · have e1 : (mh == 0) = false := by simpa using h1
            clear hbad h1
            have hkn : Blk ((w14.setCell ⟨w6.heap.size + 1, 0, none⟩ (.int .i64 nn)).setCell ⟨w6.heap.size + 1, 1, none⟩ (.int .i64 nd)) (w6.heap.size + 1) 36 #[.int .i64 nn, .int .i64 nd, .int .i64 tn, .int .i64 td] := by simpa using (HKS14.out.set_ 0 (.int .i64 nn)).set_ 1 (.int .i64 nd)
            have HKN := Lib.hid hkn
            clear hkn
            go_wp2
            go_roundw
            case rel => exact ⟨(HBB14.out.setCell (p := ⟨w6.heap.size + 1, 0, none⟩) (Nat.le_refl _) _).setCell (p := ⟨w6.heap.size + 1, 1, none⟩) (Nat.le_refl _) _, .inr (.inr (.inr ⟨_, _, _, _, _, by first | rfl | trivial, by first | rfl | go_num, HKN.out⟩))⟩
            case measure => simp [intOf]
      · have HPF := Lib.hid hpf
        have HPV := Lib.hid hpv
        have HK12 := Lib.hid hk12
        have lg12 : w6.heap.size + 1 < w12.heap.size := hk12.lt
        have ls12 : sb < w12.heap.size := by omega
        have lq12 : qb < w12.heap.size := by omega
        have cs0 := HCS0.out w12 HB7C.out
        have cs1 := HCS1.out w12 HB7C.out
        have cz := HCZ1.out w12 HB7C.out
        clear hk12
        obtain ⟨o2, ho2⟩ : ∃ o, mulF (yn, yd) (z1, 1) = o := ⟨_, rfl⟩
        have HMUL0 := Lib.hid (fun w' => mul_opt (yn, yd) (z1, 1) o2 HYF.out HZ1.out ho2 w')
        have HO2 := Lib.hid ho2
        obtain ⟨⟨mn, md⟩, hmv⟩ : ∃ v, resV o2 = v := ⟨_, rfl⟩
        obtain ⟨mh, hmh⟩ : ∃ v, resE o2 = v := ⟨_, rfl⟩
        have HMUL := Lib.hid (show ∀ w', Calls Try.prog 19 #[.agg #[.int .i64 yn, .int .i64 yd], .agg #[.int .i64 z1, .int .i64 1]] w' (fun e w'' => e = .returned (.tuple #[.agg #[.int .i64 mn, .int .i64 md], .int .i64 mh]) ∧ Below w'.heap.size w' w'') from fun w' => by
          have h := HMUL0.out w'
          rw [hmv, hmh] at h
          exact h)
        obtain ⟨nn, nd, nj, hadd, hgood⟩ : ∃ nn nd nj, (∀ w', Calls Try.prog 18 #[.agg #[.int .i64 tn, .int .i64 td], .agg #[.int .i64 mn, .int .i64 md]] w' (fun e w'' => e = .returned (.tuple #[.agg #[.int .i64 nn, .int .i64 nd], .int .i64 nj]) ∧ Below w'.heap.size w' w'')) ∧ ((mh = 0 ∧ nj = 0 ∧ FOk (nn, nd) ∧ vl (nn, nd) = vl (tn, td) + vl (yn, yd) * (z1 : Rat)) ∨ ¬ (mh = 0 ∧ nj = 0)) := by
          cases o2 with
          | none =>
            obtain ⟨rfl, rfl⟩ : (0 : Int) = mn ∧ (0 : Int) = md := by simpa [resV] using hmv
            obtain rfl : (8 : Int) = mh := by simpa [resE] using hmh
            exact ⟨0, 0, 3, fun w' => numAdd_zero (tn, td) HFT.out w', .inr (by decide)⟩
          | some p =>
            obtain rfl : p = (mn, md) := by simpa [resV] using hmv
            obtain rfl : (0 : Int) = mh := by simpa [resE] using hmh
            have fp : FOk (mn, md) := by
              obtain ⟨p1, p2, -, -⟩ := HYF.out.parts
              obtain ⟨q1, q2, -, -⟩ := HZ1.out.parts
              exact opF_ok (den_in p1 p2 q1 q2).1 ho2
            cases ho3 : addF (tn, td) (mn, md) with
            | none => exact ⟨0, 0, 8, fun w' => numAdd_no (tn, td) (mn, md) HFT.out fp ho3 w', .inr (by decide)⟩
            | some p =>
              obtain ⟨nn, nd⟩ := p
              have fn : FOk (nn, nd) := by
                obtain ⟨p1, p2, -, -⟩ := HFT.out.parts
                obtain ⟨q1, q2, -, -⟩ := fp.parts
                exact opF_ok (den_in p1 p2 q1 q2).1 ho3
              exact ⟨nn, nd, 0, fun w' => numAdd_ok (tn, td) (mn, md) HFT.out fp (nn, nd) ho3 w', .inl ⟨rfl, rfl, fn, by rw [add_val HFT.out fp ho3, mul_val HYF.out HZ1.out ho2, vl_int]⟩⟩
        have HADD2 := Lib.hid hadd
        have HGOOD := Lib.hid hgood
        clear ho2 hmv hmh hadd hgood
        go_wp2
        refine Fx.regionG (MkD 35 (.int .i64 mn) (.int .i64 md) 16) (fun x : Nat => .pointer (some ⟨x, 0, none⟩)) 15 (by kernel_rfl) (by kernel_rfl) (by kernel_rfl) ?_ ?_
        · intro f hf0
          exact MkD.start (below_drewN (Below.refl _ _) 1)
        repeat (first
          | (refine Fx.skipE_ (by rfl) (fun g f w h => h) ?_; simp only [Act.put, List.setIfInBounds_toArray, List.set_cons_zero, List.set_cons_succ])
          | (refine Fx.valE_ ?_ (by rfl) ?_ (fun g f w h => h) ?_
             rotate_left
             · intro g f w' hD hk
               obtain ⟨hb, hg⟩ := id hD
               have t0 := (hb.cell (p := ⟨sb, so + i * 2, none⟩) (ls12)).trans cs0
               have t1 := (hb.cell (p := ⟨sb, so + i * 2 + 1, none⟩) (ls12)).trans cs1
               have t2 := (hb.cell (p := ⟨qb, qo + i * 2 + 1, none⟩) (lq12)).trans cz
               clear hk hD hb hg
               go_simp
               try rfl
             simp only [Act.put, List.setIfInBounds_toArray, List.set_cons_zero, List.set_cons_succ]))
        refine Fx.callvE_ (.tuple #[.agg #[.int .i64 mn, .int .i64 md], .int .i64 mh]) ?_ ?_ (by rfl) ?_ ?_ ?_
        rotate_left 2
        · intro w'
          go_simp
          refine ⟨?_, ?_⟩ <;> rfl
        · intro g f w' hD hk
          exact (HMUL.out _).mono fun e w'' ⟨he, hw⟩ => ⟨he, hD.step hw (by decide)⟩
        simp only [Act.put, List.setIfInBounds_toArray, List.set_cons_zero, List.set_cons_succ]
        repeat (first
          | (refine Fx.skipE_ (by rfl) (fun g f w h => h) ?_; simp only [Act.put, List.setIfInBounds_toArray, List.set_cons_zero, List.set_cons_succ])
          | (refine Fx.valE_ ?_ (by rfl) ?_ (fun g f w h => h) ?_
             rotate_left
             · intro g f w' hD hk
               obtain ⟨hb, hg⟩ := id hD
               have t0 := (hb.cell (p := ⟨sb, so + i * 2, none⟩) (ls12)).trans cs0
               have t1 := (hb.cell (p := ⟨sb, so + i * 2 + 1, none⟩) (ls12)).trans cs1
               have t2 := (hb.cell (p := ⟨qb, qo + i * 2 + 1, none⟩) (lq12)).trans cz
               clear hk hD hb hg
               go_simp
               try rfl
             simp only [Act.put, List.setIfInBounds_toArray, List.set_cons_zero, List.set_cons_succ]))
        refine Fx.makeE_ (by rfl) (by rfl) ?_ ?_
        · intro f w' hD hk
          refine ⟨w'.heap.size, w'.alloc (.cells #[.int .i64 0, .int .i64 0] 35), ?_, ?_⟩
          · clear hD hk
            go_simp
            try rfl
          · exact hD.make (hk.2.1 16 (by kernel_rfl)) (by decide)
        intro x
        simp only [Act.put, List.setIfInBounds_toArray, List.set_cons_zero, List.set_cons_succ]
        refine Fx.store_ (fun w' => (w'.setCell ⟨x, 0, none⟩ (.int .i64 mn)).setCell ⟨x, 1, none⟩ (.int .i64 md)) (by rfl) ?_ ?_ ?_
        · intro f w' hD hk
          obtain ⟨hb, hg⟩ := id hD
          obtain ⟨e0, e1, r1, r2, r3, r4⟩ := MkD.cells hD
          clear hk hD
          go_simp
        · intro f w' hD hk
          obtain ⟨hb, hg⟩ := id hD
          obtain ⟨e0, e1, r1, r2, r3, r4⟩ := MkD.cells hD
          exact hD.store
        simp only [Act.put, List.setIfInBounds_toArray, List.set_cons_zero, List.set_cons_succ]
        repeat (first
          | (refine Fx.skip_ (by rfl) (fun f w h => h) ?_; simp only [Act.put, List.setIfInBounds_toArray, List.set_cons_zero, List.set_cons_succ])
          | (refine Fx.val_ ?_ (by rfl) ?_ (fun f w h => h) ?_
             rotate_left
             · intro f w' hD hk
               obtain ⟨hb, hg⟩ := id hD
               have t0 := (hb.cell (p := ⟨sb, so + i * 2, none⟩) (ls12)).trans cs0
               have t1 := (hb.cell (p := ⟨sb, so + i * 2 + 1, none⟩) (ls12)).trans cs1
               have t2 := (hb.cell (p := ⟨qb, qo + i * 2 + 1, none⟩) (lq12)).trans cz
               clear hk hD hb hg
               go_simp
               try rfl
             simp only [Act.put, List.setIfInBounds_toArray, List.set_cons_zero, List.set_cons_succ]))
        refine Fx.nil_ ?_
        intro f w1 hall hD
        have hf16 := hall 16 (by simp)
        obtain ⟨hb, hg⟩ := hD
        simp only [hf16, if_true] at *
        obtain ⟨-, e0', e1', hx2, hx3⟩ := hg x rfl
        obtain ⟨rfl, rfl⟩ := hx3 (by first | rfl | trivial | assumption)
        obtain ⟨w13, hnm⟩ : ∃ z : World, z = w1 := ⟨_, rfl⟩
        subst hnm
        obtain ⟨gm, hgm⟩ : ∃ z : Nat, z = x := ⟨_, rfl⟩
        subst hgm
        have HB_w12_w13 := Lib.hid hb
        have hszw13 := hb.size
        have HKgm := Lib.hid hx2
        clear hb hg hx2 hx3
        have lg13 : w6.heap.size + 1 < w13.heap.size := by omega
        have hk13 := Blk.below HK12.out HB_w12_w13.out lg12
        have HK13 := Lib.hid hk13
        have ck0 := hk13.cell 2
        have ck1 := hk13.cell 3
        have cm0 := HKgm.out.cell 0
        have cm1 := HKgm.out.cell 1
        have lm13 : gm < w13.heap.size := HKgm.out.lt
        clear hk13 cs0 cs1 cz
        go_wp2
        refine Fx.regionG (MkD 35 (.int .i64 nn) (.int .i64 nd) 9) (fun x : Nat => .pointer (some ⟨x, 0, none⟩)) 8 (by kernel_rfl) (by kernel_rfl) (by kernel_rfl) ?_ ?_
        · intro f hf0
          exact MkD.start (below_drewN (Below.refl _ _) 1)
        repeat (first
          | (refine Fx.skipE_ (by rfl) (fun g f w h => h) ?_; simp only [Act.put, List.setIfInBounds_toArray, List.set_cons_zero, List.set_cons_succ])
          | (refine Fx.valE_ ?_ (by rfl) ?_ (fun g f w h => h) ?_
             rotate_left
             · intro g f w' hD hk
               obtain ⟨hb, hg⟩ := id hD
               have t0 := (hb.cell (p := ⟨w6.heap.size + 1, 2, none⟩) (lg13)).trans ck0
               have t1 := (hb.cell (p := ⟨w6.heap.size + 1, 3, none⟩) (lg13)).trans ck1
               have t2 := (hb.cell (p := ⟨gm, 0, none⟩) (lm13)).trans cm0
               have t3 := (hb.cell (p := ⟨gm, 1, none⟩) (lm13)).trans cm1
               clear hk hD hb hg
               go_simp
               try rfl
             simp only [Act.put, List.setIfInBounds_toArray, List.set_cons_zero, List.set_cons_succ]))
        refine Fx.callvE_ (.tuple #[.agg #[.int .i64 nn, .int .i64 nd], .int .i64 nj]) ?_ ?_ (by rfl) ?_ ?_ ?_
        rotate_left 2
        · intro w'
          go_simp
          refine ⟨?_, ?_⟩ <;> rfl
        · intro g f w' hD hk
          exact (HADD2.out _).mono fun e w'' ⟨he, hw⟩ => ⟨he, hD.step hw (by decide)⟩
        simp only [Act.put, List.setIfInBounds_toArray, List.set_cons_zero, List.set_cons_succ]
        repeat (first
          | (refine Fx.skipE_ (by rfl) (fun g f w h => h) ?_; simp only [Act.put, List.setIfInBounds_toArray, List.set_cons_zero, List.set_cons_succ])
          | (refine Fx.valE_ ?_ (by rfl) ?_ (fun g f w h => h) ?_
             rotate_left
             · intro g f w' hD hk
               obtain ⟨hb, hg⟩ := id hD
               have t0 := (hb.cell (p := ⟨w6.heap.size + 1, 2, none⟩) (lg13)).trans ck0
               have t1 := (hb.cell (p := ⟨w6.heap.size + 1, 3, none⟩) (lg13)).trans ck1
               have t2 := (hb.cell (p := ⟨gm, 0, none⟩) (lm13)).trans cm0
               have t3 := (hb.cell (p := ⟨gm, 1, none⟩) (lm13)).trans cm1
               clear hk hD hb hg
               go_simp
               try rfl
             simp only [Act.put, List.setIfInBounds_toArray, List.set_cons_zero, List.set_cons_succ]))
        refine Fx.makeE_ (by rfl) (by rfl) ?_ ?_
        · intro f w' hD hk
          refine ⟨w'.heap.size, w'.alloc (.cells #[.int .i64 0, .int .i64 0] 35), ?_, ?_⟩
          · clear hD hk
            go_simp
            try rfl
          · exact hD.make (hk.2.1 9 (by kernel_rfl)) (by decide)
        intro x
        simp only [Act.put, List.setIfInBounds_toArray, List.set_cons_zero, List.set_cons_succ]
        refine Fx.store_ (fun w' => (w'.setCell ⟨x, 0, none⟩ (.int .i64 nn)).setCell ⟨x, 1, none⟩ (.int .i64 nd)) (by rfl) ?_ ?_ ?_
        · intro f w' hD hk
          obtain ⟨hb, hg⟩ := id hD
          obtain ⟨e0, e1, r1, r2, r3, r4⟩ := MkD.cells hD
          clear hk hD
          go_simp
        · intro f w' hD hk
          obtain ⟨hb, hg⟩ := id hD
          obtain ⟨e0, e1, r1, r2, r3, r4⟩ := MkD.cells hD
          exact hD.store
        simp only [Act.put, List.setIfInBounds_toArray, List.set_cons_zero, List.set_cons_succ]
        repeat (first
          | (refine Fx.skip_ (by rfl) (fun f w h => h) ?_; simp only [Act.put, List.setIfInBounds_toArray, List.set_cons_zero, List.set_cons_succ])
          | (refine Fx.val_ ?_ (by rfl) ?_ (fun f w h => h) ?_
             rotate_left
             · intro f w' hD hk
               obtain ⟨hb, hg⟩ := id hD
               have t0 := (hb.cell (p := ⟨w6.heap.size + 1, 2, none⟩) (lg13)).trans ck0
               have t1 := (hb.cell (p := ⟨w6.heap.size + 1, 3, none⟩) (lg13)).trans ck1
               have t2 := (hb.cell (p := ⟨gm, 0, none⟩) (lm13)).trans cm0
               have t3 := (hb.cell (p := ⟨gm, 1, none⟩) (lm13)).trans cm1
               clear hk hD hb hg
               go_simp
               try rfl
             simp only [Act.put, List.setIfInBounds_toArray, List.set_cons_zero, List.set_cons_succ]))
        refine Fx.nil_ ?_
        intro f w1 hall hD
        have hf9 := hall 9 (by simp)
        obtain ⟨hb, hg⟩ := hD
        simp only [hf9, if_true] at *
        obtain ⟨-, e0', e1', hx2, hx3⟩ := hg x rfl
        obtain ⟨rfl, rfl⟩ := hx3 (by first | rfl | trivial | assumption)
        obtain ⟨w14, hnm⟩ : ∃ z : World, z = w1 := ⟨_, rfl⟩
        subst hnm
        obtain ⟨gn, hgn⟩ : ∃ z : Nat, z = x := ⟨_, rfl⟩
        subst hgn
        have HB_w13_w14 := Lib.hid hb
        have hszw14 := hb.size
        have HKgn := Lib.hid hx2
        clear hb hg hx2 hx3
        have lg14 : w6.heap.size + 1 < w14.heap.size := by omega
        have hk14 := Blk.below HK13.out HB_w13_w14.out lg13
        have HKS14 := Lib.hid hk14
        have HBB14 := Lib.hid ((HBB.out.trans (HB_w12_w13.out.mono (by omega))).trans (HB_w13_w14.out.mono (by omega)))
        clear ck0 ck1 cm0 cm1
        have ck0 := hk14.cell 2
        have ck1 := hk14.cell 3
        have cf0 := hk14.frozen 2
        have cf1 := hk14.frozen 3
        have cn0 := HKgn.out.cell 0
        have cn1 := HKgn.out.cell 1
        clear hk14
        rcases HGOOD.out with ⟨rfl, rfl, hf, hv⟩ | hbad
        · have HTF := Lib.hid hf
          have HTV := Lib.hid hv
          clear hf hv
          have hkn : Blk ((w14.setCell ⟨w6.heap.size + 1, 2, none⟩ (.int .i64 nn)).setCell ⟨w6.heap.size + 1, 3, none⟩ (.int .i64 nd)) (w6.heap.size + 1) 36 #[.int .i64 pn, .int .i64 pd, .int .i64 nn, .int .i64 nd] := by simpa using (HKS14.out.set_ 2 (.int .i64 nn)).set_ 3 (.int .i64 nd)
          have HKN := Lib.hid hkn
          clear hkn
          go_wp2
          go_roundw
          case rel => exact ⟨(HBB14.out.setCell (p := ⟨w6.heap.size + 1, 2, none⟩) (Nat.le_refl _) _).setCell (p := ⟨w6.heap.size + 1, 3, none⟩) (Nat.le_refl _) _, .inr (.inr (.inl ⟨by first | rfl | go_num, by first | rfl | trivial, pn, pd, nn, nd, hpf, hpv, HTF.out, HTV.out, HKN.out⟩))⟩
          case measure => simp [intOf]
        · by_cases h1 : mh = 0
          · have e1 : (mh == 0) = true := by simpa using h1
            have e2 : (nj == 0) = false := by simp; exact fun e => hbad ⟨h1, e⟩
            clear hbad h1
            have hkn : Blk ((w14.setCell ⟨w6.heap.size + 1, 2, none⟩ (.int .i64 nn)).setCell ⟨w6.heap.size + 1, 3, none⟩ (.int .i64 nd)) (w6.heap.size + 1) 36 #[.int .i64 pn, .int .i64 pd, .int .i64 nn, .int .i64 nd] := by simpa using (HKS14.out.set_ 2 (.int .i64 nn)).set_ 3 (.int .i64 nd)
            have HKN := Lib.hid hkn
            clear hkn
            go_wp2
            go_roundw
            case rel => exact ⟨(HBB14.out.setCell (p := ⟨w6.heap.size + 1, 2, none⟩) (Nat.le_refl _) _).setCell (p := ⟨w6.heap.size + 1, 3, none⟩) (Nat.le_refl _) _, .inr (.inr (.inr ⟨_, _, _, _, _, by first | rfl | trivial, by first | rfl | go_num, HKN.out⟩))⟩
            case measure => simp [intOf]
          · have e1 : (mh == 0) = false := by simpa using h1
            clear hbad h1
            have hkn : Blk ((w14.setCell ⟨w6.heap.size + 1, 2, none⟩ (.int .i64 nn)).setCell ⟨w6.heap.size + 1, 3, none⟩ (.int .i64 nd)) (w6.heap.size + 1) 36 #[.int .i64 pn, .int .i64 pd, .int .i64 nn, .int .i64 nd] := by simpa using (HKS14.out.set_ 2 (.int .i64 nn)).set_ 3 (.int .i64 nd)
            have HKN := Lib.hid hkn
            clear hkn
            go_wp2
            go_roundw
            case rel => exact ⟨(HBB14.out.setCell (p := ⟨w6.heap.size + 1, 2, none⟩) (Nat.le_refl _) _).setCell (p := ⟨w6.heap.size + 1, 3, none⟩) (Nat.le_refl _) _, .inr (.inr (.inr ⟨_, _, _, _, _, by first | rfl | trivial, by first | rfl | go_num, HKN.out⟩))⟩
            case measure => simp [intOf]
      · skip
        have HPF := Lib.hid hpf
        have HPV := Lib.hid hpv
        have HRF := Lib.hid hrf
        have HRV := Lib.hid hrv
        have HK12 := Lib.hid hk12
        have HKA12 := Lib.hid (Blk.below HKA11.out (show Below (w6.heap.size + 1) w11 w12 from HBB.out) (Nat.lt_succ_self _))
        have ls12 : sb < w12.heap.size := by omega
        have cs1 := HCS1.out w12 HB7C.out
        have HNA := Lib.hid (show vl (xn, xd) = rsum ((ys.take (i + 1)).map vl) by rw [add_val HFA.out HYF.out HO1.out, HVA.out, rsum_take HY.out])
        have HNS := Lib.hid (show vl (pn, pd) = wsum (atG0 ps xs) (ys.take (i + 1)) (ps.take (i + 1)) by rw [HPV.out, HVS.out, wsum_take HY.out HPI.out, HV0.out])
        have HNT := Lib.hid (show vl (rn, rd) = wsum (atG1 ps xs) (ys.take (i + 1)) (ps.take (i + 1)) by rw [HRV.out, HVT.out, wsum_take HY.out HPI.out, HV1.out])
        clear hpf hpv hrf hrv hk12
        by_cases hun : un ≤ 1000
        rotate_left
        · have hd : decide (un ≤ 1000) = false := by simpa using hun
          clear cs1
          go_wp2
          go_roundw
          case rel => exact ⟨i + 1, xn, xd, pn, pd, rn, rd, un, by omega, by go_num, rfl, rfl, hu1, hu2, HB7C.out, HKA12.out, HK12.out, HXF.out, HPF.out, HRF.out, HNA.out, HNS.out, HNT.out⟩
          case measure => simp [intOf]; omega
        have hd : decide (un ≤ 1000) = true := by simpa using hun
        obtain ⟨gg, hgg⟩ : ∃ z : Int, (Int.gcd un yd : Int) = z := ⟨_, rfl⟩
        obtain ⟨g1, g2, g3, g4, g5, g6⟩ := under_in hu1 hun y3 y4 hgg
        have HGC := Lib.hid (show ∀ w', Calls Try.prog 20 #[.int .i64 un, .int .i64 yd] w' (fun e w'' => e = .returned (.int .i64 gg) ∧ ∃ q, w'' = w'.drewN q) from fun w' => by
          have h := gcdref_ret un yd w' hu1 (by omega) y3 (by omega)
          rw [hgg] at h
          exact h)
        obtain ⟨uq, huq⟩ : ∃ z : Int, un / gg = z := ⟨_, rfl⟩
        rw [huq] at g2 g3 g4 g5 g6
        obtain ⟨uz, huz⟩ : ∃ z : Int, uq * yd = z := ⟨_, rfl⟩
        rw [huz] at g5 g6
        have g0 : ¬ gg = 0 := by omega
        have w1' := IntWalk.i64_in uq ⟨by omega, by omega⟩
        have w2' : IntKind.i64.wrap (uq * yd) = uz := by rw [huz]; exact IntWalk.i64_in uz ⟨by omega, by omega⟩
        clear hgg huq huz hun
        go_wp2
        refine Fx.region (fun f w' => Below w12.heap.size w12 w') (by kernel_rfl) (by kernel_rfl) ?_ ?_
        · intro f hf0
          exact below_drewN (Below.refl _ _) 1
        repeat (first
          | (refine Fx.skip_ (by rfl) (fun f w h => h) ?_; simp only [Act.put, List.setIfInBounds_toArray, List.set_cons_zero, List.set_cons_succ])
          | (refine Fx.val_ ?_ (by rfl) ?_ (fun f w h => h) ?_
             rotate_left
             · intro f w' hD hk
               obtain hb := id hD
               have t0 := (hb.cell (p := ⟨sb, so + i * 2 + 1, none⟩) ls12).trans cs1
               clear hk hD hb
               go_simp
               try rfl
             simp only [Act.put, List.setIfInBounds_toArray, List.set_cons_zero, List.set_cons_succ]))
        refine Fx.call_ (.int .i64 gg) ?_ ?_ (by rfl) ?_ ?_ ?_
        rotate_left 2
        · intro w'
          go_simp
          refine ⟨?_, ?_⟩ <;> rfl
        · intro f w' hD hk
          exact (HGC.out w').mono fun e w'' ⟨he, q, hw⟩ => ⟨he, by rw [hw]; exact below_drewN hD q⟩
        simp only [Act.put, List.setIfInBounds_toArray, List.set_cons_zero, List.set_cons_succ]
        repeat (first
          | (refine Fx.skip_ (by rfl) (fun f w h => h) ?_; simp only [Act.put, List.setIfInBounds_toArray, List.set_cons_zero, List.set_cons_succ])
          | (refine Fx.val_ ?_ (by rfl) ?_ (fun f w h => h) ?_
             rotate_left
             · intro f w' hD hk
               obtain hb := id hD
               have t0 := (hb.cell (p := ⟨sb, so + i * 2 + 1, none⟩) ls12).trans cs1
               clear hk hD hb
               go_simp
               try rfl
             simp only [Act.put, List.setIfInBounds_toArray, List.set_cons_zero, List.set_cons_succ]))
        refine Fx.nil_ ?_
        intro f w1 hall hD
        have hb := hD
        clear hD
        try clear hall
        obtain ⟨w13, hnm⟩ : ∃ z : World, z = w1 := ⟨_, rfl⟩
        subst hnm
        have HB7D := Lib.hid (HB7C.out.trans (hb.mono (by omega)))
        have HKA13 := Lib.hid (Blk.below HKA12.out hb HKA12.out.lt)
        have HK13 := Lib.hid (Blk.below HK12.out hb HK12.out.lt)
        clear hb cs1
        go_wp2
        go_roundw
        case rel => exact ⟨i + 1, xn, xd, pn, pd, rn, rd, uz, by omega, by go_num, rfl, rfl, g5, g6, HB7D.out, HKA13.out, HK13.out, HXF.out, HPF.out, HRF.out, HNA.out, HNS.out, HNT.out⟩
        case measure => simp [intOf]; omega
      · clear hk12
        by_cases hk2 : k < 2
        · have hd : decide (k < 2) = true := by simpa using hk2
          clear hk2
          go_wp2
          go_ret
          exact ⟨rfl, HB6.out.trans ((HB67.out.trans HB7C.out).mono HB6.out.size)⟩
        · have hd : decide (k < 2) = false := by simpa using hk2
          clear hk2
          go_wp2
          go_ret
          exact ⟨rfl, HB6.out.trans ((HB67.out.trans HB7C.out).mono HB6.out.size)⟩
end Go.Proofs.Ytfigbdhfmlhjdaa

end
