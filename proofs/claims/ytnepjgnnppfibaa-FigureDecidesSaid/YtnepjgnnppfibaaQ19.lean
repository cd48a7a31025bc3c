import Derived.Test.YtnepjgnnppfibaaQ18
import Derived.Test.YtnepjgnnppfibaaQ2

section
/- Contracts of the reference of chapter 6: enclosures, tolerances, bounds, the pair that refuses. -/
namespace Go.Proofs.Ytnepjgnnppfibaa
open Go Go.RowKit

theorem figheight_is (n : Int) (t : Bool) (ht : hgtB n = t) (w : World) : Calls Try.prog 77 #[.int .i64 n] w fun e w' => e = .returned (.bool t) ∧ w = w' := by
  have HT := Lib.hid ht
  clear ht
  go_enter Try.func77, Try.ntmps77
  go_wp2_with fail
  refine (withinref_is _ _ _ t HT.out _).mono ?_
  rintro e w' ⟨rfl, rfl⟩
  go_wp2
  go_ret
  exact ⟨rfl, rfl⟩
theorem rtol_is (p s E : Int) (hE : tolErr p s = E) (w : World) : Calls Try.prog 36 #[.agg #[.int .i64 p, .int .i64 s]] w fun e w' => e = .returned (.int .i64 E) ∧ Below w.heap.size w w' := by
  unfold tolErr at hE
  cases h1 : withinB p 0 200000
  · rw [h1] at hE
    simp only [Bool.false_and, Bool.false_eq_true, if_false] at hE
    subst hE
    have H1 := Lib.hid h1
    clear h1
    go_enter Try.func36, Try.ntmps36
    go_wp2_with fail
    refine (withinref_is _ _ _ false H1.out _).mono ?_
    rintro e w' ⟨rfl, rfl⟩
    go_wp2
    go_ret
    exact ⟨rfl, by repeat' (first | exact Below.refl _ _ | exact HB0.out | refine below_drewN ?_ _ | refine Below.drew ?_ | refine Below.alloc ?_ (by first | omega | (simp; done) | (simp; omega) | (simp [World.setCell]; omega)) _ | refine Below.setCell ?_ (by first | omega | (simp; done) | (simp; omega)) _ | assumption)⟩
  · rw [h1] at hE
    have H1 := Lib.hid h1
    cases h2 : withinB s 0 200000
    all_goals
      rw [h2] at hE
      simp only [Bool.and_true, Bool.and_false, Bool.true_and, Bool.false_eq_true, if_false, if_true] at hE
      subst hE
      have H2 := Lib.hid h2
      clear h1 h2
    · go_enter Try.func36, Try.ntmps36
      go_wp2_with fail
      refine (withinref_is _ _ _ true H1.out _).mono ?_
      rintro e w' ⟨rfl, rfl⟩
      go_wp2_with fail
      refine (withinref_is _ _ _ false H2.out _).mono ?_
      rintro e w' ⟨rfl, rfl⟩
      go_wp2
      go_ret
      exact ⟨rfl, by repeat' (first | exact Below.refl _ _ | exact HB0.out | refine below_drewN ?_ _ | refine Below.drew ?_ | refine Below.alloc ?_ (by first | omega | (simp; done) | (simp; omega) | (simp [World.setCell]; omega)) _ | refine Below.setCell ?_ (by first | omega | (simp; done) | (simp; omega)) _ | assumption)⟩
    · go_enter Try.func36, Try.ntmps36
      go_wp2_with fail
      refine (withinref_is _ _ _ true H1.out _).mono ?_
      rintro e w' ⟨rfl, rfl⟩
      go_wp2_with fail
      refine (withinref_is _ _ _ true H2.out _).mono ?_
      rintro e w' ⟨rfl, rfl⟩
      go_wp2
      go_ret
      exact ⟨rfl, by repeat' (first | exact Below.refl _ _ | exact HB0.out | refine below_drewN ?_ _ | refine Below.drew ?_ | refine Below.alloc ?_ (by first | omega | (simp; done) | (simp; omega) | (simp [World.setCell]; omega)) _ | refine Below.setCell ?_ (by first | omega | (simp; done) | (simp; omega)) _ | assumption)⟩

set_option maxRecDepth 100000 in
theorem rencl_is (A : Option Addr) (n c : Nat) (l : List (Int × Int)) (E : Int) (hE : enclErr l = E) (w : World) (hx : Reads w w.heap.size 2 A n (cells2 l)) :
    Calls Try.prog 41 #[.slice A n c] w fun e w' => e = .returned (.int .i64 E) ∧ Below w.heap.size w w' := by
  have hl := hx.len2
  have HE := Lib.hid hE
  have HL := Lib.hid hl
  clear hE hl
  cases hz : withinB (n : Int) 1 40
  · have e : (10 : Int) = E := by rw [← HE.out]; unfold enclErr; rw [HL.out, if_pos (zones_no hz)]
    have HEE := Lib.hid e
    have HZ := Lib.hid hz
    clear hz hx e
    go_enter Try.func41, Try.ntmps41
    go_wp2_with fail
    refine (withinref_is _ _ _ false HZ.out _).mono ?_
    rintro e w' ⟨rfl, rfl⟩
    go_wp2
    go_ret
    exact ⟨ret_int HEE.out, Below.refl _ _⟩
  have hn40 : n ≤ 40 := by have := within_yes hz; omega
  have HN := Lib.hid (zones_yes hz)
  have HZ := Lib.hid hz
  have HX := Lib.hid hx
  clear hz hx
  go_enter Try.func41, Try.ntmps41
  go_wp2_with fail
  refine (withinref_is _ _ _ true HZ.out _).mono ?_
  rintro e w' ⟨rfl, rfl⟩
  go_wp2
  go_loopw [3] (fun i wr => ∃ k : Nat, k ≤ n ∧ i = .int .i64 k ∧ Below w.heap.size w wr ∧ ∀ x ∈ l.take k, figErr x = 0) (fun i _ => n - (intOf i).toNat)
  case atStart => exact ⟨0, by omega, rfl, Below.refl _ _, by simp⟩
  case round =>
    obtain ⟨k, hk, rfl, hb, hup⟩ := hrel
    obtain ⟨w1, hnm⟩ : ∃ z : World, z = wr := ⟨_, rfl⟩
    subst hnm
    have HUP := Lib.hid hup
    have hrd : Reads w1 w1.heap.size 2 A n (cells2 l) := (HX.out.below hb).more hb.size
    have HBW := Lib.hid hb
    clear hup
    by_cases hlt : k < n
    · have hzb := hb.size
      obtain ⟨xb, xo, p, rfl, hxb, hp, c0, c1⟩ := hrd.pair hlt
      have HP := Lib.hid hp
      clear hp hrd hb
      obtain ⟨pa, pv⟩ := p
      simp only at c0 c1
      have hkk : (k : Int) < (n : Int) := by omega
      cases h1 : hgtB pa
      · have H1 := Lib.hid h1
        have HEE := Lib.hid (encl_at HL.out HN.out HP.out HUP.out (show figErr (pa, pv) = 2 by unfold figErr; simp [h1]) (by decide))
        clear h1
        go_wp2_with fail
        refine (figheight_is _ false H1.out _).mono ?_
        rintro e w' ⟨rfl, rfl⟩
        go_wp2
        go_ret
        exact ⟨ret_int (HEE.out.symm.trans HE.out), HBW.out⟩
      have H1 := Lib.hid h1
      cases h2 : hgtB pv
      · have H2 := Lib.hid h2
        have HEE := Lib.hid (encl_at HL.out HN.out HP.out HUP.out (show figErr (pa, pv) = 2 by unfold figErr; simp [h1, h2]) (by decide))
        clear h1 h2
        go_wp2_with fail
        refine (figheight_is _ true H1.out _).mono ?_
        rintro e w' ⟨rfl, rfl⟩
        go_wp2_with fail
        refine (figheight_is _ false H2.out _).mono ?_
        rintro e w' ⟨rfl, rfl⟩
        go_wp2
        go_ret
        exact ⟨ret_int (HEE.out.symm.trans HE.out), HBW.out⟩
      have H2 := Lib.hid h2
      by_cases hle : pv < pa
      · have HEE := Lib.hid (encl_at HL.out HN.out HP.out HUP.out (show figErr (pa, pv) = 9 by unfold figErr; simp [h1, h2, hle]) (by decide))
        clear h1 h2
        go_wp2_with fail
        refine (figheight_is _ true H1.out _).mono ?_
        rintro e w' ⟨rfl, rfl⟩
        go_wp2_with fail
        refine (figheight_is _ true H2.out _).mono ?_
        rintro e w' ⟨rfl, rfl⟩
        go_wp2
        go_quiet (fail)
        go_wp2
        go_ret
        exact ⟨ret_int (HEE.out.symm.trans HE.out), below_drewN HBW.out _⟩
      · have HU := Lib.hid (take_ok HP.out HUP.out (show figErr (pa, pv) = 0 by unfold figErr; simp [h1, h2, hle]))
        clear h1 h2
        go_wp2_with fail
        refine (figheight_is _ true H1.out _).mono ?_
        rintro e w' ⟨rfl, rfl⟩
        go_wp2_with fail
        refine (figheight_is _ true H2.out _).mono ?_
        rintro e w' ⟨rfl, rfl⟩
        go_wp2
        go_quiet (fail)
        go_wp2
        go_roundw
        case rel => exact ⟨k + 1, by omega, by go_num, below_drewN HBW.out _, HU.out⟩
        case measure => simp [intOf]; omega
    · obtain rfl : n = k := by omega
      have HEE := Lib.hid (encl_all HL.out HN.out HUP.out)
      clear hrd hb
      go_wp2
      go_ret
      exact ⟨ret_int (HEE.out.symm.trans HE.out), HBW.out⟩

theorem rbound_is (p s : Int) (i k : Nat) (b : Int) (hb : bndF p s i k = b) (w : World) (h1 : 0 ≤ p) (h2 : p ≤ 200000) (h3 : 0 ≤ s) (h4 : s ≤ 200000) (hi : i ≤ 1000) (hk : k ≤ 1000) :
    Calls Try.prog 31 #[.agg #[.int .i64 p, .int .i64 s], .int .i64 (i : Int), .int .i64 (k : Int)] w fun e w' => e = .returned (.int .i64 b) ∧ Below w.heap.size w w' := by
  obtain ⟨z, hz⟩ : ∃ z : Int, (((i : Int) - (k : Int)).natAbs : Int) = z := ⟨_, rfl⟩
  obtain ⟨y, hy⟩ : ∃ y : Int, s * z = y := ⟨_, rfl⟩
  have hz0 : 0 ≤ z ∧ z ≤ 1000 := by omega
  have hy0 : 0 ≤ y ∧ y ≤ 200000000 := by
    rw [← hy]
    exact ⟨Int.mul_nonneg h3 hz0.1, by have := Int.mul_le_mul h4 hz0.2 hz0.1 (by omega); omega⟩
  have e1 := IntWalk.i64_in ((i : Int) - (k : Int)) ⟨by omega, by omega⟩
  have e2 : IntKind.i64.wrap (s * z) = y := by rw [hy]; exact IntWalk.i64_in y ⟨by omega, by omega⟩
  have hbb' : (if y < p then y else p) = b := by rw [← hb]; unfold bndF; rw [hz, hy]; omega
  have HZ := Lib.hid hz
  have HBB' := Lib.hid hbb'
  have habs : ∀ w', Calls Try.prog 45 #[.int .i64 ((i : Int) - (k : Int))] w' fun e w'' => e = .returned (.int .i64 z) ∧ w' = w'' := fun w' => by
    have := abs_in ((i : Int) - (k : Int)) w' (by omega) (by omega)
    rw [HZ.out] at this
    exact this
  have HABS := Lib.hid habs
  clear hb hz hy hbb' hy0 habs
  go_enter Try.func31, Try.ntmps31
  go_wp2
  refine Fx.regionW (fun W f w' => Below W.heap.size W w') (by kernel_rfl) (by kernel_rfl) ?_ ?_
  · intro f hf0
    exact below_drewN (Below.refl _ _) 1
  repeat (first
    | (refine Fx.skip_ (by rfl) (fun f w h => h) ?_; simp only [Act.put, List.setIfInBounds_toArray, List.set_cons_zero, List.set_cons_succ])
    | (refine Fx.val_ ?_ (by rfl) ?_ (fun f w h => h) ?_
       rotate_left
       · intro f w' hD hk
         have hb := hD
         have kb0 := step_blk hb (show Blk _ (w.heap.size) 38 #[.int .i64 (p), .int .i64 (s)] by repeat' (first | exact Blk.at_ _ (by first | rfl | (simp; done) | (simp; omega)) _ _ | refine Blk.drewN ?_ _ | refine Blk.drew ?_ | refine Blk.alloc ?_ _ | refine Blk.far ?_ (by first | omega | (simp; done) | (simp; omega)) _ | assumption))
         have y0_0 : w'.cell? ⟨w.heap.size, 0, none⟩ = some (.int .i64 (p)) := kb0.cell 0
         have y0_1 : w'.cell? ⟨w.heap.size, 1, none⟩ = some (.int .i64 (s)) := kb0.cell 1
         clear kb0
         clear hk hD hb
         go_simp
         try rfl
       simp only [Act.put, List.setIfInBounds_toArray, List.set_cons_zero, List.set_cons_succ]))
  refine Fx.call_ (.int .i64 (z)) ?_ ?_ (by rfl) ?_ ?_ ?_
  rotate_left 2
  · intro w'
    go_simp
    refine ⟨?_, ?_⟩ <;> rfl
  · intro f w' hD hk
    exact (HABS.out w').mono fun e w'' ⟨he, hw⟩ => ⟨he, hw ▸ hD⟩
  simp only [Act.put, List.setIfInBounds_toArray, List.set_cons_zero, List.set_cons_succ]
  repeat (first
    | (refine Fx.skip_ (by rfl) (fun f w h => h) ?_; simp only [Act.put, List.setIfInBounds_toArray, List.set_cons_zero, List.set_cons_succ])
    | (refine Fx.val_ ?_ (by rfl) ?_ (fun f w h => h) ?_
       rotate_left
       · intro f w' hD hk
         have hb := hD
         have kb0 := step_blk hb (show Blk _ (w.heap.size) 38 #[.int .i64 (p), .int .i64 (s)] by repeat' (first | exact Blk.at_ _ (by first | rfl | (simp; done) | (simp; omega)) _ _ | refine Blk.drewN ?_ _ | refine Blk.drew ?_ | refine Blk.alloc ?_ _ | refine Blk.far ?_ (by first | omega | (simp; done) | (simp; omega)) _ | assumption))
         have y0_0 : w'.cell? ⟨w.heap.size, 0, none⟩ = some (.int .i64 (p)) := kb0.cell 0
         have y0_1 : w'.cell? ⟨w.heap.size, 1, none⟩ = some (.int .i64 (s)) := kb0.cell 1
         clear kb0
         clear hk hD hb
         go_simp
         try rfl
       simp only [Act.put, List.setIfInBounds_toArray, List.set_cons_zero, List.set_cons_succ]))
  refine Fx.nil_ ?_
  intro f w1 hall hb
  try clear hall
  have HB01 := Lib.hid hb
  have HB1 := Lib.hid (show Below w.heap.size w w1 from step_below hb (by repeat' (first | exact Below.refl _ _ | exact HB0.out | refine below_drewN ?_ _ | refine Below.drew ?_ | refine Below.alloc ?_ (by first | omega | (simp; done) | (simp; omega) | (simp [World.setCell]; omega)) _ | refine Below.setCell ?_ (by first | omega | (simp; done) | (simp; omega)) _ | assumption)))
  have K0_1 := Lib.hid (step_blk hb (show Blk _ (w.heap.size) 38 #[.int .i64 (p), .int .i64 (s)] by repeat' (first | exact Blk.at_ _ (by first | rfl | (simp; done) | (simp; omega)) _ _ | refine Blk.drewN ?_ _ | refine Blk.drew ?_ | refine Blk.alloc ?_ _ | refine Blk.far ?_ (by first | omega | (simp; done) | (simp; omega)) _ | assumption)))
  have hz1 := hb.size
  try simp only [World.size_alloc, World.drewN, World.drew] at hz1
  clear hb
  have l0_1 : w.heap.size < w1.heap.size := K0_1.out.lt
  have z0_0_1 : w1.cell? ⟨w.heap.size, 0, none⟩ = some (.int .i64 (p)) := K0_1.out.cell 0
  have z0_1_1 : w1.cell? ⟨w.heap.size, 1, none⟩ = some (.int .i64 (s)) := K0_1.out.cell 1
  simp only [HBB'.out]
  go_wp2
  go_ret
  exact ⟨rfl, by repeat' (first | exact Below.refl _ _ | exact HB1.out | refine below_drewN ?_ _ | refine Below.drew ?_ | refine Below.alloc ?_ (by first | omega | (simp; done) | (simp; omega) | (simp [World.setCell]; omega)) _ | refine Below.setCell ?_ (by first | omega | (simp; done) | (simp; omega)) _ | assumption)⟩

set_option maxRecDepth 100000 in
set_option maxHeartbeats 4000000 in
theorem refused_is (A : Option Addr) (n c : Nat) (l : List (Int × Int)) (p s : Int) (hE : judgeErr l p s = 0) (a b : Nat) (t : Bool) (ho : firstP n (refB l p s) = if t then some (a, b) else none) (h0 : t = false → a = 0 ∧ b = 0) (w : World) (hx : Reads w w.heap.size 2 A n (cells2 l)) :
    Calls Try.prog 83 #[.slice A n c, .agg #[.int .i64 p, .int .i64 s]] w fun e w' => e = .returned (.tuple #[.agg #[.int .i64 (a : Int), .int .i64 (b : Int)], .bool t]) ∧ Below w.heap.size w w' := by
  have hl := hx.len2
  obtain ⟨hE1, hE2⟩ := judgeErr_ok hE
  obtain ⟨n1, n2, hr⟩ := encl_ok hE1
  obtain ⟨t1, t2, t3, t4⟩ := tol_ok hE2
  rw [hl] at n1 n2
  have HX := Lib.hid hx
  have HO := Lib.hid ho
  have H0 := Lib.hid h0
  have HRG := Lib.hid hr
  clear hx hE hl hE1 hE2 hr ho h0
  go_enter Try.func83, Try.ntmps83
  go_wp2
  generalize hwn : ((w.alloc (.cells #[.int .i64 (p), .int .i64 (s)] 38)).alloc (.cells #[.int .i64 (0), .int .i64 (0)] 39)) = w1
  have hbn : Below w.heap.size w w1 := by rw [← hwn]; repeat' (first | exact Below.refl _ _ | refine below_drewN ?_ _ | refine Below.drew ?_ | refine Below.alloc ?_ (by first | omega | (simp; done) | (simp; omega) | (simp [World.setCell]; omega)) _ | refine Below.setCell ?_ (by first | omega | (simp; done) | (simp; omega)) _)
  have HB1 := Lib.hid (show Below w.heap.size w w1 from hbn)
  have K0_1 := Lib.hid (show Blk w1 (w.heap.size) 38 #[.int .i64 (p), .int .i64 (s)] by rw [← hwn]; repeat' (first | exact Blk.at_ _ (by first | rfl | (simp; done) | (simp; omega)) _ _ | refine Blk.drewN ?_ _ | refine Blk.drew ?_ | refine Blk.alloc ?_ _ | refine Blk.far ?_ (by first | omega | (simp; done) | (simp; omega)) _ | assumption))
  have K1_1 := Lib.hid (show Blk w1 (w.heap.size + 1) 39 #[.int .i64 (0), .int .i64 (0)] by rw [← hwn]; repeat' (first | exact Blk.at_ _ (by first | rfl | (simp; done) | (simp; omega)) _ _ | refine Blk.drewN ?_ _ | refine Blk.drew ?_ | refine Blk.alloc ?_ _ | refine Blk.far ?_ (by first | omega | (simp; done) | (simp; omega)) _ | assumption))
  have HN1 := Lib.hid hbn
  have hz1 := hbn.size
  clear hwn hbn
  have l0_1 : w.heap.size < w1.heap.size := K0_1.out.lt
  have z0_0_1 : w1.cell? ⟨w.heap.size, 0, none⟩ = some (.int .i64 (p)) := K0_1.out.cell 0
  have z0_1_1 : w1.cell? ⟨w.heap.size, 1, none⟩ = some (.int .i64 (s)) := K0_1.out.cell 1
  have l1_1 : w.heap.size + 1 < w1.heap.size := K1_1.out.lt
  have z1_0_1 : w1.cell? ⟨w.heap.size + 1, 0, none⟩ = some (.int .i64 (0)) := K1_1.out.cell 0
  have z1_1_1 : w1.cell? ⟨w.heap.size + 1, 1, none⟩ = some (.int .i64 (0)) := K1_1.out.cell 1
  have hs1 := HB1.out.size
  have KA := K0_1
  have KB := K1_1
  go_loopw [6] (fun v wr => ∃ i : Nat, i ≤ n ∧ v = .int .i64 i ∧ Below w1.heap.size w1 wr ∧ NoP (refB l p s) (preP n i 0)) (fun v _ => n - (intOf v).toNat)
  case atStart => exact ⟨0, by omega, rfl, Below.refl _ _, NoP.nil _⟩
  case round =>
    obtain ⟨i, hi, rfl, hb, hno⟩ := hrel
    obtain ⟨w2, hnm⟩ : ∃ z : World, z = wr := ⟨_, rfl⟩
    subst hnm
    have HBI := Lib.hid hb
    have HNO := Lib.hid hno
    have HB2 := Lib.hid (show Below w.heap.size w w2 from step_below hb (by repeat' (first | exact Below.refl _ _ | exact HB1.out | refine below_drewN ?_ _ | refine Below.drew ?_ | refine Below.alloc ?_ (by first | omega | (simp; done) | (simp; omega) | (simp [World.setCell]; omega)) _ | refine Below.setCell ?_ (by first | omega | (simp; done) | (simp; omega)) _ | assumption)))
    have K0_2 := Lib.hid (step_blk hb (show Blk _ (w.heap.size) 38 #[.int .i64 (p), .int .i64 (s)] by repeat' (first | exact K0_1.out | exact K1_1.out | exact Blk.at_ _ (by first | rfl | (simp; done) | (simp; omega)) _ _ | refine Blk.drewN ?_ _ | refine Blk.drew ?_ | refine Blk.alloc ?_ _ | refine Blk.far ?_ (by first | omega | (simp; done) | (simp; omega)) _ | assumption)))
    have K1_2 := Lib.hid (step_blk hb (show Blk _ (w.heap.size + 1) 39 #[.int .i64 (0), .int .i64 (0)] by repeat' (first | exact K0_1.out | exact K1_1.out | exact Blk.at_ _ (by first | rfl | (simp; done) | (simp; omega)) _ _ | refine Blk.drewN ?_ _ | refine Blk.drew ?_ | refine Blk.alloc ?_ _ | refine Blk.far ?_ (by first | omega | (simp; done) | (simp; omega)) _ | assumption)))
    have hz2 := hb.size
    try simp only [World.size_alloc, World.drewN, World.drew] at hz2
    clear hb K0_1 K1_1 z0_0_1 z0_1_1 l0_1 z1_0_1 z1_1_1 l1_1
    have l0_2 : w.heap.size < w2.heap.size := K0_2.out.lt
    have z0_0_2 : w2.cell? ⟨w.heap.size, 0, none⟩ = some (.int .i64 (p)) := K0_2.out.cell 0
    have z0_1_2 : w2.cell? ⟨w.heap.size, 1, none⟩ = some (.int .i64 (s)) := K0_2.out.cell 1
    have l1_2 : w.heap.size + 1 < w2.heap.size := K1_2.out.lt
    have z1_0_2 : w2.cell? ⟨w.heap.size + 1, 0, none⟩ = some (.int .i64 (0)) := K1_2.out.cell 0
    have z1_1_2 : w2.cell? ⟨w.heap.size + 1, 1, none⟩ = some (.int .i64 (0)) := K1_2.out.cell 1
    clear hno
    by_cases hlt : i < n
    rotate_left
    · obtain rfl : i = n := by omega
      have hnone : firstP i (refB l p s) = none := firstP_none (by rw [← preP_all]; exact HNO.out)
      have ht : t = false := by
        have h1 := HO.out
        rw [hnone] at h1
        cases t with
        | false => rfl
        | true => cases h1
      subst ht
      obtain ⟨rfl, rfl⟩ := H0.out rfl
      have zf1_0 := K1_2.out.frozen 0
      have zf1_1 := K1_2.out.frozen 1
      go_wp2
      exact bodyPost_ret (v := .tuple #[.agg #[.int .i64 0, .int .i64 0], .bool false]) (by simp [results, Try.results83, go_sem, z1_0_2, z1_1_2, l1_2]) rfl ⟨rfl, by repeat' (first | exact Below.refl _ _ | exact HB2.out | refine below_drewN ?_ _ | refine Below.drew ?_ | refine Below.alloc ?_ (by first | omega | (simp; done) | (simp; omega) | (simp [World.setCell]; omega)) _ | refine Below.setCell ?_ (by first | omega | (simp; done) | (simp; omega)) _ | assumption)⟩
    have hii : (i : Int) < (n : Int) := by omega
    go_wp2
    go_loopw [7] (fun v wr => ∃ k : Nat, k ≤ n ∧ v = .int .i64 k ∧ Below w1.heap.size w1 wr ∧ NoP (refB l p s) (preP n i k)) (fun v _ => n - (intOf v).toNat)
    case atStart => exact ⟨0, by omega, rfl, HBI.out, HNO.out⟩
    case round =>
      obtain ⟨k, hk, rfl, hb3, hno3⟩ := hrel
      obtain ⟨w3, hnm⟩ : ∃ z : World, z = wr := ⟨_, rfl⟩
      subst hnm
      have HBK := Lib.hid hb3
      have HNO3 := Lib.hid hno3
      have hb' := HB1.out.trans (hb3.mono HB1.out.size)
      have k0 := Blk.below KA.out hb3 KA.out.lt
      have k1 := Blk.below KB.out hb3 KB.out.lt
      have hrd := HX.out.below hb'
      clear hno3 hb3
      have HB3 := Lib.hid hb'
      have K0_3 := Lib.hid (show Blk w3 (w.heap.size) 38 #[.int .i64 (p), .int .i64 (s)] from k0)
      have K1_3 := Lib.hid (show Blk w3 (w.heap.size + 1) 39 #[.int .i64 (0), .int .i64 (0)] from k1)
      clear hb' k0 k1
      have l0_3 : w.heap.size < w3.heap.size := K0_3.out.lt
      have z0_0_3 : w3.cell? ⟨w.heap.size, 0, none⟩ = some (.int .i64 (p)) := K0_3.out.cell 0
      have z0_1_3 : w3.cell? ⟨w.heap.size, 1, none⟩ = some (.int .i64 (s)) := K0_3.out.cell 1
      have l1_3 : w.heap.size + 1 < w3.heap.size := K1_3.out.lt
      have z1_0_3 : w3.cell? ⟨w.heap.size + 1, 0, none⟩ = some (.int .i64 (0)) := K1_3.out.cell 0
      have z1_1_3 : w3.cell? ⟨w.heap.size + 1, 1, none⟩ = some (.int .i64 (0)) := K1_3.out.cell 1
      by_cases hkt : k < n
      rotate_left
      · obtain rfl : k = n := by omega
        go_wp2
        go_roundw
        case rel => exact ⟨i + 1, by omega, by go_num, HBK.out, by rw [preP_row]; exact HNO3.out⟩
        case measure => simp [intOf]; omega
      have hkk : (k : Int) < (n : Int) := by omega
      by_cases hne : i = k
      · subst hne
        have hd : ((i : Int) != (i : Int)) = false := by simp
        go_wp2
        refine Fx.regionW (fun W f w' => Below W.heap.size W w') (by kernel_rfl) (by kernel_rfl) ?_ ?_
        · intro f hf0
          exact below_drewN (Below.refl _ _) 1
        repeat (first
          | (refine Fx.skip_ (by rfl) (fun f w h => h) ?_; simp only [Act.put, List.setIfInBounds_toArray, List.set_cons_zero, List.set_cons_succ])
          | (refine Fx.val_ ?_ (by rfl) ?_ (fun f w h => h) ?_
             rotate_left
             · intro f w' hD hk
               have hb := hD
               have kb0 := step_blk hb (show Blk _ (w.heap.size) 38 #[.int .i64 (p), .int .i64 (s)] by repeat' (first | exact K0_3.out | exact K1_3.out | exact Blk.at_ _ (by first | rfl | (simp; done) | (simp; omega)) _ _ | refine Blk.drewN ?_ _ | refine Blk.drew ?_ | refine Blk.alloc ?_ _ | refine Blk.far ?_ (by first | omega | (simp; done) | (simp; omega)) _ | assumption))
               have y0_0 : w'.cell? ⟨w.heap.size, 0, none⟩ = some (.int .i64 (p)) := kb0.cell 0
               have y0_1 : w'.cell? ⟨w.heap.size, 1, none⟩ = some (.int .i64 (s)) := kb0.cell 1
               have kb1 := step_blk hb (show Blk _ (w.heap.size + 1) 39 #[.int .i64 (0), .int .i64 (0)] by repeat' (first | exact K0_3.out | exact K1_3.out | exact Blk.at_ _ (by first | rfl | (simp; done) | (simp; omega)) _ _ | refine Blk.drewN ?_ _ | refine Blk.drew ?_ | refine Blk.alloc ?_ _ | refine Blk.far ?_ (by first | omega | (simp; done) | (simp; omega)) _ | assumption))
               have y1_0 : w'.cell? ⟨w.heap.size + 1, 0, none⟩ = some (.int .i64 (0)) := kb1.cell 0
               have y1_1 : w'.cell? ⟨w.heap.size + 1, 1, none⟩ = some (.int .i64 (0)) := kb1.cell 1
               clear kb0 kb1
               clear hk hD hb
               go_simp
               try rfl
             simp only [Act.put, List.setIfInBounds_toArray, List.set_cons_zero, List.set_cons_succ]))
        refine Fx.nil_ ?_
        intro f w4 hall hb
        try clear hall
        have HB34 := Lib.hid hb
        have HB4 := Lib.hid (show Below w.heap.size w w4 from step_below hb (by repeat' (first | exact Below.refl _ _ | exact HB3.out | refine below_drewN ?_ _ | refine Below.drew ?_ | refine Below.alloc ?_ (by first | omega | (simp; done) | (simp; omega) | (simp [World.setCell]; omega)) _ | refine Below.setCell ?_ (by first | omega | (simp; done) | (simp; omega)) _ | assumption)))
        have K0_4 := Lib.hid (step_blk hb (show Blk _ (w.heap.size) 38 #[.int .i64 (p), .int .i64 (s)] by repeat' (first | exact K0_3.out | exact K1_3.out | exact Blk.at_ _ (by first | rfl | (simp; done) | (simp; omega)) _ _ | refine Blk.drewN ?_ _ | refine Blk.drew ?_ | refine Blk.alloc ?_ _ | refine Blk.far ?_ (by first | omega | (simp; done) | (simp; omega)) _ | assumption)))
        have K1_4 := Lib.hid (step_blk hb (show Blk _ (w.heap.size + 1) 39 #[.int .i64 (0), .int .i64 (0)] by repeat' (first | exact K0_3.out | exact K1_3.out | exact Blk.at_ _ (by first | rfl | (simp; done) | (simp; omega)) _ _ | refine Blk.drewN ?_ _ | refine Blk.drew ?_ | refine Blk.alloc ?_ _ | refine Blk.far ?_ (by first | omega | (simp; done) | (simp; omega)) _ | assumption)))
        have hz4 := hb.size
        try simp only [World.size_alloc, World.drewN, World.drew] at hz4
        clear hb K0_3 K1_3 z0_0_3 z0_1_3 l0_3 z1_0_3 z1_1_3 l1_3
        have l0_4 : w.heap.size < w4.heap.size := K0_4.out.lt
        have z0_0_4 : w4.cell? ⟨w.heap.size, 0, none⟩ = some (.int .i64 (p)) := K0_4.out.cell 0
        have z0_1_4 : w4.cell? ⟨w.heap.size, 1, none⟩ = some (.int .i64 (s)) := K0_4.out.cell 1
        have l1_4 : w.heap.size + 1 < w4.heap.size := K1_4.out.lt
        have z1_0_4 : w4.cell? ⟨w.heap.size + 1, 0, none⟩ = some (.int .i64 (0)) := K1_4.out.cell 0
        have z1_1_4 : w4.cell? ⟨w.heap.size + 1, 1, none⟩ = some (.int .i64 (0)) := K1_4.out.cell 1
        have HBF := Lib.hid (HBK.out.trans ((show Below w3.heap.size w3 w4 from HB34.out).mono HBK.out.size))
        go_wp2
        go_roundw
        case rel => exact ⟨i + 1, by omega, by go_num, HBF.out, by rw [preP_same]; exact HNO3.out⟩
        case measure => simp [intOf]; omega
      have hd : ((i : Int) != (k : Int)) = true := by simp; omega
      obtain ⟨xb, xo, pi, rfl, hxb, hpi, ci0, ci1⟩ := hrd.pair hlt
      obtain ⟨yb, yo, pk, hA2, hyb, hpk, ck0, ck1⟩ := hrd.pair hkt
      obtain ⟨rfl, rfl⟩ : xb = yb ∧ xo = yo := by simpa using hA2
      obtain ⟨pi1, pi2⟩ := pi
      obtain ⟨pk1, pk2⟩ := pk
      simp only at ci0 ci1 ck0 ck1
      have r1 := HRG.out _ (List.mem_of_getElem? hpi)
      have r2 := HRG.out _ (List.mem_of_getElem? hpk)
      simp only at r1 r2
      obtain ⟨bd, hbd⟩ : ∃ b, bndF p s i k = b := ⟨_, rfl⟩
      have hbi := bnd_in (i := i) (k := k) t1 t2 t3 (s := s)
      rw [hbd] at hbi
      have e1 := IntWalk.i64_in (pi1 - pk2) ⟨by omega, by omega⟩
      have hrf : refB l p s i k = decide (bd < pi1 - pk2) := by unfold refB; rw [getD_of hpi, getD_of hpk, hbd]
      have HBD := Lib.hid hbd
      have HRF := Lib.hid hrf
      have l3x : xb < w3.heap.size := by have := l0_3; omega
      clear hA2 hpi hpk hrf hbd hrd ci1 ck0
      have C0_3 := Lib.hid ci0
      have C1_3 := Lib.hid ck1
      clear ci0 ck1
      go_wp2
      refine Fx.regionW (fun W f w' => Below W.heap.size W w') (by kernel_rfl) (by kernel_rfl) ?_ ?_
      · intro f hf0
        exact below_drewN (Below.refl _ _) 1
      repeat (first
        | (refine Fx.skip_ (by rfl) (fun f w h => h) ?_; simp only [Act.put, List.setIfInBounds_toArray, List.set_cons_zero, List.set_cons_succ])
        | (refine Fx.val_ ?_ (by rfl) ?_ (fun f w h => h) ?_
           rotate_left
           · intro f w' hD hk
             have hb := hD
             have kb0 := step_blk hb (show Blk _ (w.heap.size) 38 #[.int .i64 (p), .int .i64 (s)] by repeat' (first | exact K0_3.out | exact K1_3.out | exact Blk.at_ _ (by first | rfl | (simp; done) | (simp; omega)) _ _ | refine Blk.drewN ?_ _ | refine Blk.drew ?_ | refine Blk.alloc ?_ _ | refine Blk.far ?_ (by first | omega | (simp; done) | (simp; omega)) _ | assumption))
             have y0_0 : w'.cell? ⟨w.heap.size, 0, none⟩ = some (.int .i64 (p)) := kb0.cell 0
             have y0_1 : w'.cell? ⟨w.heap.size, 1, none⟩ = some (.int .i64 (s)) := kb0.cell 1
             have kb1 := step_blk hb (show Blk _ (w.heap.size + 1) 39 #[.int .i64 (0), .int .i64 (0)] by repeat' (first | exact K0_3.out | exact K1_3.out | exact Blk.at_ _ (by first | rfl | (simp; done) | (simp; omega)) _ _ | refine Blk.drewN ?_ _ | refine Blk.drew ?_ | refine Blk.alloc ?_ _ | refine Blk.far ?_ (by first | omega | (simp; done) | (simp; omega)) _ | assumption))
             have y1_0 : w'.cell? ⟨w.heap.size + 1, 0, none⟩ = some (.int .i64 (0)) := kb1.cell 0
             have y1_1 : w'.cell? ⟨w.heap.size + 1, 1, none⟩ = some (.int .i64 (0)) := kb1.cell 1
             have yc0 : w'.cell? ⟨xb, xo + i * 2, none⟩ = some (.int .i64 (pi1)) := step_cell hb (show World.cell? _ ⟨xb, xo + i * 2, none⟩ = some (.int .i64 (pi1)) by first | exact C0_3.out | go_simp) (by have := l3x; first | omega | (simp; omega))
             have yc1 : w'.cell? ⟨xb, xo + k * 2 + 1, none⟩ = some (.int .i64 (pk2)) := step_cell hb (show World.cell? _ ⟨xb, xo + k * 2 + 1, none⟩ = some (.int .i64 (pk2)) by first | exact C1_3.out | go_simp) (by have := l3x; first | omega | (simp; omega))
             clear kb0 kb1
             clear hk hD hb
             go_simp
             try rfl
           simp only [Act.put, List.setIfInBounds_toArray, List.set_cons_zero, List.set_cons_succ]))
      refine Fx.call_ (.int .i64 (bd)) ?_ ?_ (by rfl) ?_ ?_ ?_
      rotate_left 2
      · intro w'
        go_simp
        refine ⟨?_, ?_⟩ <;> rfl
      · intro f w' hD hk
        exact (rbound_is p s i k bd HBD.out w' t1 t2 t3 t4 (by omega) (by omega)).mono fun e w'' ⟨he, hw⟩ => ⟨he, step_below hw hD⟩
      simp only [Act.put, List.setIfInBounds_toArray, List.set_cons_zero, List.set_cons_succ]
      repeat (first
        | (refine Fx.skip_ (by rfl) (fun f w h => h) ?_; simp only [Act.put, List.setIfInBounds_toArray, List.set_cons_zero, List.set_cons_succ])
        | (refine Fx.val_ ?_ (by rfl) ?_ (fun f w h => h) ?_
           rotate_left
           · intro f w' hD hk
             have hb := hD
             have kb0 := step_blk hb (show Blk _ (w.heap.size) 38 #[.int .i64 (p), .int .i64 (s)] by repeat' (first | exact K0_3.out | exact K1_3.out | exact Blk.at_ _ (by first | rfl | (simp; done) | (simp; omega)) _ _ | refine Blk.drewN ?_ _ | refine Blk.drew ?_ | refine Blk.alloc ?_ _ | refine Blk.far ?_ (by first | omega | (simp; done) | (simp; omega)) _ | assumption))
             have y0_0 : w'.cell? ⟨w.heap.size, 0, none⟩ = some (.int .i64 (p)) := kb0.cell 0
             have y0_1 : w'.cell? ⟨w.heap.size, 1, none⟩ = some (.int .i64 (s)) := kb0.cell 1
             have kb1 := step_blk hb (show Blk _ (w.heap.size + 1) 39 #[.int .i64 (0), .int .i64 (0)] by repeat' (first | exact K0_3.out | exact K1_3.out | exact Blk.at_ _ (by first | rfl | (simp; done) | (simp; omega)) _ _ | refine Blk.drewN ?_ _ | refine Blk.drew ?_ | refine Blk.alloc ?_ _ | refine Blk.far ?_ (by first | omega | (simp; done) | (simp; omega)) _ | assumption))
             have y1_0 : w'.cell? ⟨w.heap.size + 1, 0, none⟩ = some (.int .i64 (0)) := kb1.cell 0
             have y1_1 : w'.cell? ⟨w.heap.size + 1, 1, none⟩ = some (.int .i64 (0)) := kb1.cell 1
             have yc0 : w'.cell? ⟨xb, xo + i * 2, none⟩ = some (.int .i64 (pi1)) := step_cell hb (show World.cell? _ ⟨xb, xo + i * 2, none⟩ = some (.int .i64 (pi1)) by first | exact C0_3.out | go_simp) (by have := l3x; first | omega | (simp; omega))
             have yc1 : w'.cell? ⟨xb, xo + k * 2 + 1, none⟩ = some (.int .i64 (pk2)) := step_cell hb (show World.cell? _ ⟨xb, xo + k * 2 + 1, none⟩ = some (.int .i64 (pk2)) by first | exact C1_3.out | go_simp) (by have := l3x; first | omega | (simp; omega))
             clear kb0 kb1
             clear hk hD hb
             go_simp
             try rfl
           simp only [Act.put, List.setIfInBounds_toArray, List.set_cons_zero, List.set_cons_succ]))
      refine Fx.nil_ ?_
      intro f w4 hall hb
      try clear hall
      have HB34 := Lib.hid hb
      have HB4 := Lib.hid (show Below w.heap.size w w4 from step_below hb (by repeat' (first | exact Below.refl _ _ | exact HB3.out | refine below_drewN ?_ _ | refine Below.drew ?_ | refine Below.alloc ?_ (by first | omega | (simp; done) | (simp; omega) | (simp [World.setCell]; omega)) _ | refine Below.setCell ?_ (by first | omega | (simp; done) | (simp; omega)) _ | assumption)))
      have K0_4 := Lib.hid (step_blk hb (show Blk _ (w.heap.size) 38 #[.int .i64 (p), .int .i64 (s)] by repeat' (first | exact K0_3.out | exact K1_3.out | exact Blk.at_ _ (by first | rfl | (simp; done) | (simp; omega)) _ _ | refine Blk.drewN ?_ _ | refine Blk.drew ?_ | refine Blk.alloc ?_ _ | refine Blk.far ?_ (by first | omega | (simp; done) | (simp; omega)) _ | assumption)))
      have K1_4 := Lib.hid (step_blk hb (show Blk _ (w.heap.size + 1) 39 #[.int .i64 (0), .int .i64 (0)] by repeat' (first | exact K0_3.out | exact K1_3.out | exact Blk.at_ _ (by first | rfl | (simp; done) | (simp; omega)) _ _ | refine Blk.drewN ?_ _ | refine Blk.drew ?_ | refine Blk.alloc ?_ _ | refine Blk.far ?_ (by first | omega | (simp; done) | (simp; omega)) _ | assumption)))
      have C0_4 := Lib.hid (step_cell hb (show World.cell? _ ⟨xb, xo + i * 2, none⟩ = some (.int .i64 (pi1)) by first | exact C0_3.out | go_simp) (by have := l3x; first | omega | (simp; omega)))
      have C1_4 := Lib.hid (step_cell hb (show World.cell? _ ⟨xb, xo + k * 2 + 1, none⟩ = some (.int .i64 (pk2)) by first | exact C1_3.out | go_simp) (by have := l3x; first | omega | (simp; omega)))
      have hz4 := hb.size
      try simp only [World.size_alloc, World.drewN, World.drew] at hz4
      clear hb K0_3 K1_3 z0_0_3 z0_1_3 l0_3 z1_0_3 z1_1_3 l1_3
      have l0_4 : w.heap.size < w4.heap.size := K0_4.out.lt
      have z0_0_4 : w4.cell? ⟨w.heap.size, 0, none⟩ = some (.int .i64 (p)) := K0_4.out.cell 0
      have z0_1_4 : w4.cell? ⟨w.heap.size, 1, none⟩ = some (.int .i64 (s)) := K0_4.out.cell 1
      have l1_4 : w.heap.size + 1 < w4.heap.size := K1_4.out.lt
      have z1_0_4 : w4.cell? ⟨w.heap.size + 1, 0, none⟩ = some (.int .i64 (0)) := K1_4.out.cell 0
      have z1_1_4 : w4.cell? ⟨w.heap.size + 1, 1, none⟩ = some (.int .i64 (0)) := K1_4.out.cell 1
      by_cases hlt2 : bd < pi1 - pk2
      · have hdt : decide (bd < pi1 - pk2) = true := by simpa using hlt2
        have hfirst : firstP n (refB l p s) = some (i, k) := firstP_at hlt hkt hne HNO3.out (by rw [HRF.out, hdt])
        have h1 := HO.out
        rw [hfirst] at h1
        have ht : t = true ∧ a = i ∧ b = k := by
          cases t with
          | false => cases h1
          | true =>
            simp only [if_true] at h1
            have h2 := Option.some.inj h1
            exact ⟨rfl, (congrArg Prod.fst h2).symm, (congrArg Prod.snd h2).symm⟩
        obtain ⟨rfl, rfl, rfl⟩ := ht
        have zf1_0 := K1_4.out.frozen 0
        have zf1_1 := K1_4.out.frozen 1
        clear h1 hfirst
        go_wp2
        exact bodyPost_ret (v := .tuple #[.agg #[.int .i64 (a : Int), .int .i64 (b : Int)], .bool true]) (by simp [results, Try.results83, go_sem, z1_0_4, z1_1_4, l1_4]) rfl ⟨rfl, by repeat' (first | exact Below.refl _ _ | exact HB4.out | refine below_drewN ?_ _ | refine Below.drew ?_ | refine Below.alloc ?_ (by first | omega | (simp; done) | (simp; omega) | (simp [World.setCell]; omega)) _ | refine Below.setCell ?_ (by first | omega | (simp; done) | (simp; omega)) _ | assumption)⟩
      · have hdt : decide (bd < pi1 - pk2) = false := by simpa using hlt2
        have hns := HNO3.out.snoc (x := (i, k)) (by rw [HRF.out]; exact hdt)
        rw [← preP_succ hne] at hns
        have HNS := Lib.hid hns
        have HBF := Lib.hid (HBK.out.trans ((show Below w3.heap.size w3 w4 from HB34.out).mono HBK.out.size))
        clear hns
        go_wp2
        go_roundw
        case rel => exact ⟨k + 1, by omega, by go_num, HBF.out, HNS.out⟩
        case measure => simp [intOf]; omega
end Go.Proofs.Ytnepjgnnppfibaa

end
