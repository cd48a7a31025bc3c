import Derived.Test.YtmejiafmmmeloaaQ3
import Derived.Test.YtmejiafmmmeloaaQ4
import Derived.Test.YtmejiafmmmeloaaQ6

section
/- Contracts of chapter 6: the checks of heights, wear, enclosures and tolerances; the bound of two zones. -/
namespace Go.Proofs.Ytmejiafmmmeloaa
open Go Go.RowKit

theorem size_is (a n : Int) (hn : (a.natAbs : Int) = n) (w : World) (h1 : -1000000000000000000 ≤ a) (h2 : a ≤ 1000000000000000000) :
    Calls Try.prog 46 #[.int .i64 a] w fun e w' => e = .returned (.int .i64 n) ∧ w = w' := by
  have e1 := IntWalk.i64_in (-a) ⟨by omega, by omega⟩
  have HN := Lib.hid hn
  clear hn
  go_enter Try.func46, Try.ntmps46
  go_wp2
  all_goals go_ret
  all_goals exact ⟨ret_int (by have := HN.out; omega), rfl⟩
theorem iszones_is (n : Int) (t : Bool) (ht : withinB n 1 40 = t) (w : World) : Calls Try.prog 31 #[.int .i64 n] w fun e w' => e = .returned (.bool t) ∧ w = w' := by
  have HT := Lib.hid ht
  clear ht
  go_enter Try.func31, Try.ntmps31
  go_wp2_with fail
  refine (withinfig_is _ _ _ t HT.out _).mono ?_
  rintro e w' ⟨rfl, rfl⟩
  go_wp2
  go_ret
  exact ⟨rfl, rfl⟩
theorem zones_no {n : Nat} (h : withinB (n : Int) 1 40 = false) : n < 1 ∨ 40 < n := by have := within_no h; omega
theorem zones_yes {n : Nat} (h : withinB (n : Int) 1 40 = true) : ¬ (n < 1 ∨ 40 < n) := by have := within_yes h; omega

theorem tol_is (p s E : Int) (hE : tolErr p s = E) (w : World) : Calls Try.prog 44 #[.agg #[.int .i64 p, .int .i64 s]] w fun e w' => e = .returned (.int .i64 E) ∧ Below w.heap.size w w' := by
  unfold tolErr at hE
  cases h1 : withinB p 0 200000
  · rw [h1] at hE
    simp only [Bool.false_and, Bool.false_eq_true, if_false] at hE
    subst hE
    have H1 := Lib.hid h1
    clear h1
    go_enter Try.func44, Try.ntmps44
    go_wp2_with fail
    refine (withinfig_is _ _ _ false H1.out _).mono ?_
    rintro e w' ⟨rfl, rfl⟩
    go_wp2
    go_ret
    exact ⟨rfl, by repeat' (first | exact Below.refl _ _ | exact HB0.out | refine below_drewN ?_ _ | refine Below.drew ?_ | refine Below.alloc ?_ (by first | omega | (simp; done) | (simp; omega) | (simp [World.setCell]; omega)) _ | refine Below.setCell ?_ (by first | omega | (simp; done) | (simp; omega)) _ | assumption)⟩
  · rw [h1] at hE
    have H1 := Lib.hid h1
    cases h2 : withinB s 0 200000
    all_goals
      rw [h2] at hE
      simp only [Bool.and_true, Bool.and_false, Bool.true_and, Bool.false_eq_true, if_false, if_true] at hE
      subst hE
      have H2 := Lib.hid h2
      clear h1 h2
    · go_enter Try.func44, Try.ntmps44
      go_wp2_with fail
      refine (withinfig_is _ _ _ true H1.out _).mono ?_
      rintro e w' ⟨rfl, rfl⟩
      go_wp2_with fail
      refine (withinfig_is _ _ _ false H2.out _).mono ?_
      rintro e w' ⟨rfl, rfl⟩
      go_wp2
      go_ret
      exact ⟨rfl, by repeat' (first | exact Below.refl _ _ | exact HB0.out | refine below_drewN ?_ _ | refine Below.drew ?_ | refine Below.alloc ?_ (by first | omega | (simp; done) | (simp; omega) | (simp [World.setCell]; omega)) _ | refine Below.setCell ?_ (by first | omega | (simp; done) | (simp; omega)) _ | assumption)⟩
    · go_enter Try.func44, Try.ntmps44
      go_wp2_with fail
      refine (withinfig_is _ _ _ true H1.out _).mono ?_
      rintro e w' ⟨rfl, rfl⟩
      go_wp2_with fail
      refine (withinfig_is _ _ _ true H2.out _).mono ?_
      rintro e w' ⟨rfl, rfl⟩
      go_wp2
      go_ret
      exact ⟨rfl, by repeat' (first | exact Below.refl _ _ | exact HB0.out | refine below_drewN ?_ _ | refine Below.drew ?_ | refine Below.alloc ?_ (by first | omega | (simp; done) | (simp; omega) | (simp [World.setCell]; omega)) _ | refine Below.setCell ?_ (by first | omega | (simp; done) | (simp; omega)) _ | assumption)⟩

theorem encl_at {l : List (Int × Int)} {k n : Nat} {p : Int × Int} {E : Int} (hl : l.length = n) (hz : ¬ (n < 1 ∨ 40 < n)) (hp : l[k]? = some p) (hb : ∀ x ∈ l.take k, figErr x = 0) (he : figErr p = E) (h0 : E ≠ 0) : enclErr l = E := by
  unfold enclErr
  rw [hl, if_neg hz, firstErr_at hp hb (by rw [he]; exact h0), he]
theorem encl_all {l : List (Int × Int)} {n : Nat} (hl : l.length = n) (hz : ¬ (n < 1 ∨ 40 < n)) (hb : ∀ x ∈ l.take n, figErr x = 0) : enclErr l = 0 := by
  unfold enclErr
  rw [hl, if_neg hz, firstErr_ok (by rwa [List.take_of_length_le (by omega)] at hb)]

set_option maxRecDepth 100000 in
theorem encl_is (A : Option Addr) (n c : Nat) (l : List (Int × Int)) (E : Int) (hE : enclErr l = E) (w : World) (hx : Reads w w.heap.size 2 A n (cells2 l)) :
    Calls Try.prog 15 #[.slice A n c] w fun e w' => e = .returned (.int .i64 E) ∧ Below w.heap.size w w' := by
  have hl := hx.len2
  have HE := Lib.hid hE
  have HL := Lib.hid hl
  clear hE hl
  cases hz : withinB (n : Int) 1 40
  · have e : (10 : Int) = E := by rw [← HE.out]; unfold enclErr; rw [HL.out, if_pos (zones_no hz)]
    have HEE := Lib.hid e
    have HZ := Lib.hid hz
    clear hz hx e
    go_enter Try.func15, Try.ntmps15
    go_wp2_with fail
    refine (iszones_is _ false HZ.out _).mono ?_
    rintro e w' ⟨rfl, rfl⟩
    go_wp2
    go_ret
    exact ⟨ret_int HEE.out, Below.refl _ _⟩
  have hn40 : n ≤ 40 := by have := within_yes hz; omega
  have HN := Lib.hid (zones_yes hz)
  have HZ := Lib.hid hz
  have HX := Lib.hid hx
  clear hz hx
  go_enter Try.func15, Try.ntmps15
  go_wp2_with fail
  refine (iszones_is _ true HZ.out _).mono ?_
  rintro e w' ⟨rfl, rfl⟩
  go_wp2
  go_loopw [11] (fun i wr => ∃ k : Nat, k ≤ n ∧ i = .int .i64 k ∧ Below w.heap.size w wr ∧ ∀ x ∈ l.take k, figErr x = 0) (fun i _ => n - (intOf i).toNat)
  case atStart => exact ⟨0, by omega, rfl, Below.refl _ _, by simp⟩
  case round =>
    obtain ⟨k, hk, rfl, hb, hup⟩ := hrel
    obtain ⟨w1, hnm⟩ : ∃ z : World, z = wr := ⟨_, rfl⟩
    subst hnm
    have HUP := Lib.hid hup
    have hrd : Reads w1 w1.heap.size 2 A n (cells2 l) := (HX.out.below hb).more hb.size
    clear hup
    by_cases hlt : k < n
    · have hzb := hb.size
      have HB1 := Lib.hid hb
      clear hb
      obtain ⟨xb, xo, p, rfl, hxb, hp, c0, c1⟩ := hrd.pair hlt
      have HP := Lib.hid hp
      clear hp hrd
      obtain ⟨pa, pv⟩ := p
      simp only at c0 c1
      have hkk : (k : Int) < (n : Int) := by omega
      cases h1 : hgtB pa
      · have H1 := Lib.hid h1
        have HEE := Lib.hid (encl_at HL.out HN.out HP.out HUP.out (show figErr (pa, pv) = 2 by unfold figErr; simp [h1]) (by decide))
        clear h1
        go_wp2_with fail
        refine (withinfig_is _ _ _ false H1.out _).mono ?_
        rintro e w' ⟨rfl, rfl⟩
        go_wp2
        go_ret
        exact ⟨ret_int (HEE.out.symm.trans HE.out), by repeat' (first | exact Below.refl _ _ | exact HB1.out | refine below_drewN ?_ _ | refine Below.drew ?_ | refine Below.alloc ?_ (by first | omega | (simp; done) | (simp; omega) | (simp [World.setCell]; omega)) _ | refine Below.setCell ?_ (by first | omega | (simp; done) | (simp; omega)) _ | assumption)⟩
      have H1 := Lib.hid h1
      cases h2 : hgtB pv
      · have H2 := Lib.hid h2
        have HEE := Lib.hid (encl_at HL.out HN.out HP.out HUP.out (show figErr (pa, pv) = 2 by unfold figErr; simp [h1, h2]) (by decide))
        clear h1 h2
        go_wp2_with fail
        refine (withinfig_is _ _ _ true H1.out _).mono ?_
        rintro e w' ⟨rfl, rfl⟩
        go_wp2_with fail
        refine (withinfig_is _ _ _ false H2.out _).mono ?_
        rintro e w' ⟨rfl, rfl⟩
        go_wp2
        go_ret
        exact ⟨ret_int (HEE.out.symm.trans HE.out), by repeat' (first | exact Below.refl _ _ | exact HB1.out | refine below_drewN ?_ _ | refine Below.drew ?_ | refine Below.alloc ?_ (by first | omega | (simp; done) | (simp; omega) | (simp [World.setCell]; omega)) _ | refine Below.setCell ?_ (by first | omega | (simp; done) | (simp; omega)) _ | assumption)⟩
      have H2 := Lib.hid h2
      by_cases hle : pv < pa
      · have HEE := Lib.hid (encl_at HL.out HN.out HP.out HUP.out (show figErr (pa, pv) = 9 by unfold figErr; simp [h1, h2, hle]) (by decide))
        clear h1 h2
        go_wp2_with fail
        refine (withinfig_is _ _ _ true H1.out _).mono ?_
        rintro e w' ⟨rfl, rfl⟩
        go_wp2_with fail
        refine (withinfig_is _ _ _ true H2.out _).mono ?_
        rintro e w' ⟨rfl, rfl⟩
        go_wp2
        go_ret
        exact ⟨ret_int (HEE.out.symm.trans HE.out), by repeat' (first | exact Below.refl _ _ | exact HB1.out | refine below_drewN ?_ _ | refine Below.drew ?_ | refine Below.alloc ?_ (by first | omega | (simp; done) | (simp; omega) | (simp [World.setCell]; omega)) _ | refine Below.setCell ?_ (by first | omega | (simp; done) | (simp; omega)) _ | assumption)⟩
      · have HU := Lib.hid (take_ok HP.out HUP.out (show figErr (pa, pv) = 0 by unfold figErr; simp [h1, h2, hle]))
        clear h1 h2
        go_wp2_with fail
        refine (withinfig_is _ _ _ true H1.out _).mono ?_
        rintro e w' ⟨rfl, rfl⟩
        go_wp2_with fail
        refine (withinfig_is _ _ _ true H2.out _).mono ?_
        rintro e w' ⟨rfl, rfl⟩
        go_wp2
        go_roundw
        case rel => exact ⟨k + 1, by omega, by go_num, by repeat' (first | exact Below.refl _ _ | exact HB1.out | refine below_drewN ?_ _ | refine Below.drew ?_ | refine Below.alloc ?_ (by first | omega | (simp; done) | (simp; omega) | (simp [World.setCell]; omega)) _ | refine Below.setCell ?_ (by first | omega | (simp; done) | (simp; omega)) _ | assumption), HU.out⟩
        case measure => simp [intOf]; omega
    · obtain rfl : n = k := by omega
      have HEE := Lib.hid (encl_all HL.out HN.out HUP.out)
      have HB := Lib.hid hb
      clear hrd hb
      go_wp2
      go_ret
      exact ⟨ret_int (HEE.out.symm.trans HE.out), HB.out⟩

theorem all_is (A : Option Addr) (n c : Nat) (l : List (Int × Int)) (p s E : Int) (hE : judgeErr l p s = E) (w : World) (hx : Reads w w.heap.size 2 A n (cells2 l)) :
    Calls Try.prog 28 #[.slice A n c, .agg #[.int .i64 p, .int .i64 s]] w fun e w' => e = .returned (.int .i64 E) ∧ Below w.heap.size w w' := by
  unfold judgeErr at hE
  obtain ⟨E1, hE1⟩ : ∃ E1, enclErr l = E1 := ⟨_, rfl⟩
  rw [hE1] at hE
  have HE1 := Lib.hid hE1
  clear hE1
  by_cases h0 : E1 = 0
  rotate_left
  · rw [if_pos h0] at hE
    subst hE
    have e1 : (E1 != 0) = true := by simpa using h0
    clear h0
    go_enter Try.func28, Try.ntmps28
    have R0_0 := Lib.hid hx
    clear hx
    go_wp2_with fail
    refine (encl_is A n c l E1 HE1.out _ ((R0_0.out.alloc (Nat.le_refl _) _).more (by simp))).mono ?_
    rintro e w1 ⟨rfl, hb⟩
    have HB1 := Lib.hid (show Below w.heap.size w w1 from step_below hb (by repeat' (first | exact Below.refl _ _ | exact HB0.out | refine below_drewN ?_ _ | refine Below.drew ?_ | refine Below.alloc ?_ (by first | omega | (simp; done) | (simp; omega) | (simp [World.setCell]; omega)) _ | refine Below.setCell ?_ (by first | omega | (simp; done) | (simp; omega)) _ | assumption)))
    have K0_1 := Lib.hid (step_blk hb (show Blk _ (w.heap.size) 45 #[.int .i64 (p), .int .i64 (s)] by repeat' (first | exact Blk.at_ _ (by first | rfl | (simp; done) | (simp; omega)) _ _ | refine Blk.drewN ?_ _ | refine Blk.drew ?_ | refine Blk.alloc ?_ _ | refine Blk.far ?_ (by first | omega | (simp; done) | (simp; omega)) _ | assumption)))
    have hL1 := Lib.hid (show Below w.heap.size w _ from reads_mid hb (by repeat' (first | exact Below.refl _ _ | refine below_drewN ?_ _ | refine Below.drew ?_ | refine Below.alloc ?_ (by first | omega | (simp; done) | (simp; omega) | (simp [World.setCell]; omega)) _ | refine Below.setCell ?_ (by first | omega | (simp; done) | (simp; omega)) _)))
    have R0_1 := Lib.hid (reads_lay hb hL1.out R0_0.out)
    clear hL1 R0_0
    have hz1 := hb.size
    try simp only [World.size_alloc, World.drewN, World.drew] at hz1
    clear hb
    have l0_1 : w.heap.size < w1.heap.size := K0_1.out.lt
    have z0_0_1 : w1.cell? ⟨w.heap.size, 0, none⟩ = some (.int .i64 (p)) := K0_1.out.cell 0
    have z0_1_1 : w1.cell? ⟨w.heap.size, 1, none⟩ = some (.int .i64 (s)) := K0_1.out.cell 1
    go_wp2
    go_ret
    exact ⟨rfl, by repeat' (first | exact Below.refl _ _ | exact HB1.out | refine below_drewN ?_ _ | refine Below.drew ?_ | refine Below.alloc ?_ (by first | omega | (simp; done) | (simp; omega) | (simp [World.setCell]; omega)) _ | refine Below.setCell ?_ (by first | omega | (simp; done) | (simp; omega)) _ | assumption)⟩
  subst h0
  rw [if_neg (by simp)] at hE
  have HE := Lib.hid hE
  clear hE
  go_enter Try.func28, Try.ntmps28
  have R0_0 := Lib.hid hx
  clear hx
  go_wp2_with fail
  refine (encl_is A n c l 0 HE1.out _ ((R0_0.out.alloc (Nat.le_refl _) _).more (by simp))).mono ?_
  rintro e w1 ⟨rfl, hb⟩
  have HB1 := Lib.hid (show Below w.heap.size w w1 from step_below hb (by repeat' (first | exact Below.refl _ _ | exact HB0.out | refine below_drewN ?_ _ | refine Below.drew ?_ | refine Below.alloc ?_ (by first | omega | (simp; done) | (simp; omega) | (simp [World.setCell]; omega)) _ | refine Below.setCell ?_ (by first | omega | (simp; done) | (simp; omega)) _ | assumption)))
  have K0_1 := Lib.hid (step_blk hb (show Blk _ (w.heap.size) 45 #[.int .i64 (p), .int .i64 (s)] by repeat' (first | exact Blk.at_ _ (by first | rfl | (simp; done) | (simp; omega)) _ _ | refine Blk.drewN ?_ _ | refine Blk.drew ?_ | refine Blk.alloc ?_ _ | refine Blk.far ?_ (by first | omega | (simp; done) | (simp; omega)) _ | assumption)))
  have hL1 := Lib.hid (show Below w.heap.size w _ from reads_mid hb (by repeat' (first | exact Below.refl _ _ | refine below_drewN ?_ _ | refine Below.drew ?_ | refine Below.alloc ?_ (by first | omega | (simp; done) | (simp; omega) | (simp [World.setCell]; omega)) _ | refine Below.setCell ?_ (by first | omega | (simp; done) | (simp; omega)) _)))
  have R0_1 := Lib.hid (reads_lay hb hL1.out R0_0.out)
  clear hL1 R0_0
  have hz1 := hb.size
  try simp only [World.size_alloc, World.drewN, World.drew] at hz1
  clear hb
  have l0_1 : w.heap.size < w1.heap.size := K0_1.out.lt
  have z0_0_1 : w1.cell? ⟨w.heap.size, 0, none⟩ = some (.int .i64 (p)) := K0_1.out.cell 0
  have z0_1_1 : w1.cell? ⟨w.heap.size, 1, none⟩ = some (.int .i64 (s)) := K0_1.out.cell 1
  go_wp2_with fail
  refine (tol_is p s E HE.out _).mono ?_
  rintro e w2 ⟨rfl, hb⟩
  have HB2 := Lib.hid (show Below w.heap.size w w2 from step_below hb (by repeat' (first | exact Below.refl _ _ | exact HB1.out | refine below_drewN ?_ _ | refine Below.drew ?_ | refine Below.alloc ?_ (by first | omega | (simp; done) | (simp; omega) | (simp [World.setCell]; omega)) _ | refine Below.setCell ?_ (by first | omega | (simp; done) | (simp; omega)) _ | assumption)))
  have K0_2 := Lib.hid (step_blk hb (show Blk _ (w.heap.size) 45 #[.int .i64 (p), .int .i64 (s)] by repeat' (first | exact K0_1.out | exact Blk.at_ _ (by first | rfl | (simp; done) | (simp; omega)) _ _ | refine Blk.drewN ?_ _ | refine Blk.drew ?_ | refine Blk.alloc ?_ _ | refine Blk.far ?_ (by first | omega | (simp; done) | (simp; omega)) _ | assumption)))
  have hL2 := Lib.hid (show Below w1.heap.size w1 _ from reads_mid hb (by repeat' (first | exact Below.refl _ _ | refine below_drewN ?_ _ | refine Below.drew ?_ | refine Below.alloc ?_ (by first | omega | (simp; done) | (simp; omega) | (simp [World.setCell]; omega)) _ | refine Below.setCell ?_ (by first | omega | (simp; done) | (simp; omega)) _)))
  have R0_2 := Lib.hid (reads_lay hb hL2.out R0_1.out)
  clear hL2 R0_1
  have hz2 := hb.size
  try simp only [World.size_alloc, World.drewN, World.drew] at hz2
  clear hb K0_1 z0_0_1 z0_1_1 l0_1
  have l0_2 : w.heap.size < w2.heap.size := K0_2.out.lt
  have z0_0_2 : w2.cell? ⟨w.heap.size, 0, none⟩ = some (.int .i64 (p)) := K0_2.out.cell 0
  have z0_1_2 : w2.cell? ⟨w.heap.size, 1, none⟩ = some (.int .i64 (s)) := K0_2.out.cell 1
  go_wp2
  go_ret
  exact ⟨rfl, by repeat' (first | exact Below.refl _ _ | exact HB2.out | refine below_drewN ?_ _ | refine Below.drew ?_ | refine Below.alloc ?_ (by first | omega | (simp; done) | (simp; omega) | (simp [World.setCell]; omega)) _ | refine Below.setCell ?_ (by first | omega | (simp; done) | (simp; omega)) _ | assumption)⟩

theorem bound_is (p s : Int) (i k : Nat) (b : Int) (hb : bndF p s i k = b) (w : World) (h1 : 0 ≤ p) (h2 : p ≤ 200000) (h3 : 0 ≤ s) (h4 : s ≤ 200000) (hi : i ≤ 1000) (hk : k ≤ 1000) :
    Calls Try.prog 30 #[.agg #[.int .i64 p, .int .i64 s], .int .i64 (i : Int), .int .i64 (k : Int)] w fun e w' => e = .returned (.int .i64 b) ∧ Below w.heap.size w w' := by
  obtain ⟨z, hz⟩ : ∃ z : Int, (((i : Int) - (k : Int)).natAbs : Int) = z := ⟨_, rfl⟩
  obtain ⟨y, hy⟩ : ∃ y : Int, s * z = y := ⟨_, rfl⟩
  have hz0 : 0 ≤ z ∧ z ≤ 1000 := by omega
  have hy0 : 0 ≤ y ∧ y ≤ 200000000 := by
    rw [← hy]
    exact ⟨Int.mul_nonneg h3 hz0.1, by have := Int.mul_le_mul h4 hz0.2 hz0.1 (by omega); omega⟩
  have e1 := IntWalk.i64_in ((i : Int) - (k : Int)) ⟨by omega, by omega⟩
  have e2 : IntKind.i64.wrap (s * z) = y := by rw [hy]; exact IntWalk.i64_in y ⟨by omega, by omega⟩
  have hbb : (if p < y then p else y) = b := by rw [← hb]; unfold bndF; rw [hz, hy]; omega
  have hbb' : (if y < p then y else p) = b := by rw [← hb]; unfold bndF; rw [hz, hy]; omega
  have HZ := Lib.hid hz
  have HY := Lib.hid hy
  have HBB := Lib.hid hbb
  have HBB' := Lib.hid hbb'
  have HY0 := Lib.hid hy0
  clear hb hz hy hbb hbb' hy0
  go_enter Try.func30, Try.ntmps30
  go_wp2
  refine Fx.regionW (fun W f w' => Below W.heap.size W w') (by kernel_rfl) (by kernel_rfl) ?_ ?_
  · intro f hf0
    exact below_drewN (Below.refl _ _) 1
  repeat (first
    | (refine Fx.skip_ (by rfl) (fun f w h => h) ?_; simp only [Act.put, List.setIfInBounds_toArray, List.set_cons_zero, List.set_cons_succ])
    | (refine Fx.val_ ?_ (by rfl) ?_ (fun f w h => h) ?_
       rotate_left
       · intro f w' hD hk
         have hb := hD
         have kb0 := step_blk hb (show Blk _ (w.heap.size) 69 #[.int .i64 (p), .int .i64 (s)] by repeat' (first | exact Blk.at_ _ (by first | rfl | (simp; done) | (simp; omega)) _ _ | refine Blk.drewN ?_ _ | refine Blk.drew ?_ | refine Blk.alloc ?_ _ | refine Blk.far ?_ (by first | omega | (simp; done) | (simp; omega)) _ | assumption))
         have y0_0 : w'.cell? ⟨w.heap.size, 0, none⟩ = some (.int .i64 (p)) := kb0.cell 0
         have y0_1 : w'.cell? ⟨w.heap.size, 1, none⟩ = some (.int .i64 (s)) := kb0.cell 1
         clear kb0
         clear hk hD hb
         go_simp
         try rfl
       simp only [Act.put, List.setIfInBounds_toArray, List.set_cons_zero, List.set_cons_succ]))
  refine Fx.call_ (.int .i64 (z)) ?_ ?_ (by rfl) ?_ ?_ ?_
  rotate_left 2
  · intro w'
    go_simp
    refine ⟨?_, ?_⟩ <;> rfl
  · intro f w' hD hk
    exact (size_is _ z HZ.out w' (by omega) (by omega)).mono fun e w'' ⟨he, hw⟩ => ⟨he, hw ▸ hD⟩
  simp only [Act.put, List.setIfInBounds_toArray, List.set_cons_zero, List.set_cons_succ]
  repeat (first
    | (refine Fx.skip_ (by rfl) (fun f w h => h) ?_; simp only [Act.put, List.setIfInBounds_toArray, List.set_cons_zero, List.set_cons_succ])
    | (refine Fx.val_ ?_ (by rfl) ?_ (fun f w h => h) ?_
       rotate_left
       · intro f w' hD hk
         have hb := hD
         have kb0 := step_blk hb (show Blk _ (w.heap.size) 69 #[.int .i64 (p), .int .i64 (s)] by repeat' (first | exact Blk.at_ _ (by first | rfl | (simp; done) | (simp; omega)) _ _ | refine Blk.drewN ?_ _ | refine Blk.drew ?_ | refine Blk.alloc ?_ _ | refine Blk.far ?_ (by first | omega | (simp; done) | (simp; omega)) _ | assumption))
         have y0_0 : w'.cell? ⟨w.heap.size, 0, none⟩ = some (.int .i64 (p)) := kb0.cell 0
         have y0_1 : w'.cell? ⟨w.heap.size, 1, none⟩ = some (.int .i64 (s)) := kb0.cell 1
         clear kb0
         clear hk hD hb
         go_simp
         try rfl
       simp only [Act.put, List.setIfInBounds_toArray, List.set_cons_zero, List.set_cons_succ]))
  refine Fx.nil_ ?_
  intro f w1 hall hb
  try clear hall
  have HB01 := Lib.hid hb
  have HB1 := Lib.hid (show Below w.heap.size w w1 from step_below hb (by repeat' (first | exact Below.refl _ _ | exact HB0.out | refine below_drewN ?_ _ | refine Below.drew ?_ | refine Below.alloc ?_ (by first | omega | (simp; done) | (simp; omega) | (simp [World.setCell]; omega)) _ | refine Below.setCell ?_ (by first | omega | (simp; done) | (simp; omega)) _ | assumption)))
  have K0_1 := Lib.hid (step_blk hb (show Blk _ (w.heap.size) 69 #[.int .i64 (p), .int .i64 (s)] by repeat' (first | exact Blk.at_ _ (by first | rfl | (simp; done) | (simp; omega)) _ _ | refine Blk.drewN ?_ _ | refine Blk.drew ?_ | refine Blk.alloc ?_ _ | refine Blk.far ?_ (by first | omega | (simp; done) | (simp; omega)) _ | assumption)))
  have hz1 := hb.size
  try simp only [World.size_alloc, World.drewN, World.drew] at hz1
  clear hb
  have l0_1 : w.heap.size < w1.heap.size := K0_1.out.lt
  have z0_0_1 : w1.cell? ⟨w.heap.size, 0, none⟩ = some (.int .i64 (p)) := K0_1.out.cell 0
  have z0_1_1 : w1.cell? ⟨w.heap.size, 1, none⟩ = some (.int .i64 (s)) := K0_1.out.cell 1
  simp only [HBB'.out]
  go_wp2
  go_ret
  exact ⟨rfl, by repeat' (first | exact Below.refl _ _ | exact HB1.out | refine below_drewN ?_ _ | refine Below.drew ?_ | refine Below.alloc ?_ (by first | omega | (simp; done) | (simp; omega) | (simp [World.setCell]; omega)) _ | refine Below.setCell ?_ (by first | omega | (simp; done) | (simp; omega)) _ | assumption)⟩
end Go.Proofs.Ytmejiafmmmeloaa

end
