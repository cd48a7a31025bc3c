import Derived.Test.YtkfecbkcghmmhaaQ18

section
/- Lines: their errors on both sides; the removal of a zone, as the reference has it. -/
namespace Go.Proofs.Ytkfecbkcghmmhaa
open Go Go.RowKit

def lowB (a b : Int) : Bool := decide (0 < b) && decide (Int.gcd a b = 1)
def bigB6 (a b : Int) : Bool := decide (1000 < b) || !(withinB a (-1000000000) 1000000000)
/-- The error of a line. -/
def lineErr (a b c d : Int) : Int := if (lowB a b && lowB c d) = false then 3 else if (bigB6 a b || bigB6 c d) = true then 2 else 0
theorem low_pos {a b : Int} (h : lowB a b = true) : 0 < b ∧ Int.gcd a b = 1 := by
  unfold lowB at h
  rw [Bool.and_eq_true, decide_eq_true_eq, decide_eq_true_eq] at h
  exact h
theorem big_no {a b : Int} (h : bigB6 a b = false) : b ≤ 1000 ∧ -1000000000 ≤ a ∧ a ≤ 1000000000 := by
  unfold bigB6 at h
  rw [Bool.or_eq_false_iff, decide_eq_false_iff_not] at h
  have := (withinB_iff a (-1000000000) 1000000000).1 (by simpa using h.2)
  omega
theorem line_ok {a b c d : Int} (h : lineErr a b c d = 0) : LnOk a b c d ∧ Int.gcd a b = 1 ∧ Int.gcd c d = 1 := by
  unfold lineErr at h
  by_cases h1 : (lowB a b && lowB c d) = false
  · rw [if_pos h1] at h; cases h
  rw [if_neg h1] at h
  by_cases h2 : (bigB6 a b || bigB6 c d) = true
  · rw [if_pos h2] at h; cases h
  have h1 : (lowB a b && lowB c d) = true := by simpa using h1
  have h2 : (bigB6 a b || bigB6 c d) = false := by simpa using h2
  rw [Bool.and_eq_true] at h1
  rw [Bool.or_eq_false_iff] at h2
  obtain ⟨p1, p2⟩ := low_pos h1.1
  obtain ⟨p3, p4⟩ := low_pos h1.2
  have b1 := big_no h2.1
  have b2 := big_no h2.2
  exact ⟨⟨by omega, by omega, by omega, by omega, by omega, by omega, by omega, by omega⟩, p2, p4⟩
theorem line_of {a b c d : Int} (h : LnOk a b c d) (h1 : Int.gcd a b = 1) (h2 : Int.gcd c d = 1) : lineErr a b c d = 0 := by
  obtain ⟨a1, a2, b1, b2, c1, c2, d1, d2⟩ := h
  have e1 : lowB a b = true := by unfold lowB; simp [h1]; omega
  have e2 : lowB c d = true := by unfold lowB; simp [h2]; omega
  have e3 : bigB6 a b = false := by unfold bigB6; rw [within_mk (by omega) (by omega)]; simp; omega
  have e4 : bigB6 c d = false := by unfold bigB6; rw [within_mk (by omega) (by omega)]; simp; omega
  unfold lineErr
  rw [e1, e2, e3, e4]; rfl

theorem gcdf64_is (a b g : Int) (hg : (Int.gcd a b : Int) = g) (w : World) (ha : I64 a) (h3 : 0 < b) (hb : I64 b) : Calls Try.prog 42 #[.int .i64 a, .int .i64 b] w fun e w' => e = .returned (.int .i64 g) ∧ ∃ n, w' = w.drewN n := by
  subst hg
  have h1 := gcd_small a b (by omega) hb.2
  have := gcdfig_any a b w ha.1 ha.2 hb.1 hb.2
  rw [h1] at this
  exact this
theorem low_eq {a b g : Int} (h : 0 < b) (hg : (Int.gcd a b : Int) = g) : lowB a b = decide (g = 1) := by
  unfold lowB
  rw [← hg]
  simp only [h, decide_true, Bool.true_and]
  by_cases h1 : Int.gcd a b = 1
  · simp [h1]
  · have : ¬ ((Int.gcd a b : Nat) : Int) = 1 := by omega
    simp [h1, this]
theorem gcdfb_is (a b g : Int) (hg : (Int.gcd a b : Int) = g) (w : World) (ha : I64 a) (h3 : 0 < b) (hb : I64 b) : Calls Try.prog 42 #[.int .i64 a, .int .i64 b] w fun e w' => e = .returned (.int .i64 g) ∧ Below w.heap.size w w' :=
  (gcdf64_is a b g hg w ha h3 hb).mono fun e w' ⟨he, q, hw⟩ => ⟨he, by rw [hw]; exact below_drewN (Below.refl _ _) q⟩
set_option maxRecDepth 100000 in
set_option maxHeartbeats 4000000 in
theorem checkline_is (a b c d x y E : Int) (hE : lineErr a b c d = E) (ha : I64 a) (hb : I64 b) (hc : I64 c) (hd : I64 d) (w : World) : Calls Try.prog 22 #[.agg #[.int .i64 a, .int .i64 b, .int .i64 c, .int .i64 d, .int .i64 x, .int .i64 y]] w fun e w' => e = .returned (.int .i64 E) ∧ Below w.heap.size w w' := by
  have i0 : ∀ w, (Instr.index 93 (.agg #[.int .i64 a, .int .i64 b, .int .i64 c, .int .i64 d]) (.int .i64 0)).run Try.prog w = .ok (.agg #[.int .i64 a, .int .i64 b]) w := fun _ => by kernel_rfl
  have i1 : ∀ w, (Instr.index 93 (.agg #[.int .i64 a, .int .i64 b, .int .i64 c, .int .i64 d]) (.int .i64 1)).run Try.prog w = .ok (.agg #[.int .i64 c, .int .i64 d]) w := fun _ => by kernel_rfl
  have HE := Lib.hid hE
  clear hE
  go_enter Try.func22, Try.ntmps22
  go_wp2_with fail
  generalize hwn : ((w.alloc (.cells #[.int .i64 (a), .int .i64 (b), .int .i64 (c), .int .i64 (d), .int .i64 (x), .int .i64 (y)] 45)).alloc (.cells #[.int .i64 (a), .int .i64 (b), .int .i64 (c), .int .i64 (d)] 93)) = w1
  have hbn : Below w.heap.size w w1 := by rw [← hwn]; repeat' (first | exact Below.refl _ _ | refine below_drewN ?_ _ | refine Below.drew ?_ | refine Below.alloc ?_ (by first | omega | (simp; done) | (simp; omega) | (simp [World.setCell]; omega)) _ | refine Below.setCell ?_ (by first | omega | (simp; done) | (simp; omega)) _)
  have HB1 := Lib.hid (show Below w.heap.size w w1 from hbn)
  have K0_1 := Lib.hid (show Blk w1 (w.heap.size) 45 #[.int .i64 (a), .int .i64 (b), .int .i64 (c), .int .i64 (d), .int .i64 (x), .int .i64 (y)] by rw [← hwn]; repeat' (first | exact Blk.at_ _ (by first | rfl | (simp; done) | (simp; omega)) _ _ | refine Blk.drewN ?_ _ | refine Blk.drew ?_ | refine Blk.alloc ?_ _ | refine Blk.far ?_ (by first | omega | (simp; done) | (simp; omega)) _ | assumption))
  have K1_1 := Lib.hid (show Blk w1 (w.heap.size + 1) 93 #[.int .i64 (a), .int .i64 (b), .int .i64 (c), .int .i64 (d)] by rw [← hwn]; repeat' (first | exact Blk.at_ _ (by first | rfl | (simp; done) | (simp; omega)) _ _ | refine Blk.drewN ?_ _ | refine Blk.drew ?_ | refine Blk.alloc ?_ _ | refine Blk.far ?_ (by first | omega | (simp; done) | (simp; omega)) _ | assumption))
  have HN1 := Lib.hid hbn
  have hz1 := hbn.size
  clear hwn hbn
  have l0_1 : w.heap.size < w1.heap.size := K0_1.out.lt
  have z0_0_1 : w1.cell? ⟨w.heap.size, 0, none⟩ = some (.int .i64 (a)) := K0_1.out.cell 0
  have z0_1_1 : w1.cell? ⟨w.heap.size, 1, none⟩ = some (.int .i64 (b)) := K0_1.out.cell 1
  have z0_2_1 : w1.cell? ⟨w.heap.size, 2, none⟩ = some (.int .i64 (c)) := K0_1.out.cell 2
  have z0_3_1 : w1.cell? ⟨w.heap.size, 3, none⟩ = some (.int .i64 (d)) := K0_1.out.cell 3
  have z0_4_1 : w1.cell? ⟨w.heap.size, 4, none⟩ = some (.int .i64 (x)) := K0_1.out.cell 4
  have z0_5_1 : w1.cell? ⟨w.heap.size, 5, none⟩ = some (.int .i64 (y)) := K0_1.out.cell 5
  have l1_1 : w.heap.size + 1 < w1.heap.size := K1_1.out.lt
  have z1_0_1 : w1.cell? ⟨w.heap.size + 1, 0, none⟩ = some (.int .i64 (a)) := K1_1.out.cell 0
  have z1_1_1 : w1.cell? ⟨w.heap.size + 1, 1, none⟩ = some (.int .i64 (b)) := K1_1.out.cell 1
  have z1_2_1 : w1.cell? ⟨w.heap.size + 1, 2, none⟩ = some (.int .i64 (c)) := K1_1.out.cell 2
  have z1_3_1 : w1.cell? ⟨w.heap.size + 1, 3, none⟩ = some (.int .i64 (d)) := K1_1.out.cell 3
  refine wp_loop_rounds 3 ?_
  rw [rounds_succ]
  by_cases g1 : b ≤ 0
  · have dg1 : decide (b ≤ 0) = true := by simpa using g1
    have HEE := Lib.hid (show (3 : Int) = E by rw [← HE.out]; unfold lineErr; rw [show lowB a b = false by unfold lowB; simp; omega]; rfl)
    clear g1
    go_wp2
    go_ret
    exact ⟨ret_int HEE.out, by repeat' (first | exact Below.refl _ _ | exact HB1.out | refine below_drewN ?_ _ | refine Below.drew ?_ | refine Below.alloc ?_ (by first | omega | (simp; done) | (simp; omega) | (simp [World.setCell]; omega)) _ | refine Below.setCell ?_ (by first | omega | (simp; done) | (simp; omega)) _ | assumption)⟩
  have dg1 : decide (b ≤ 0) = false := by simpa using g1
  obtain ⟨q1, hq1⟩ : ∃ g, (Int.gcd a b : Int) = g := ⟨_, rfl⟩
  have HQ1 := Lib.hid hq1
  have HL1 := Lib.hid (low_eq (by omega) hq1)
  have HPO1 := Lib.hid (show 0 < b by omega)
  clear hq1 g1
  go_wp2_with fail
  generalize hwn : (w1.alloc (.cells #[.int .i64 (a), .int .i64 (b)] 42)) = w2
  have hbn : Below w1.heap.size w1 w2 := by rw [← hwn]; repeat' (first | exact Below.refl _ _ | refine below_drewN ?_ _ | refine Below.drew ?_ | refine Below.alloc ?_ (by first | omega | (simp; done) | (simp; omega) | (simp [World.setCell]; omega)) _ | refine Below.setCell ?_ (by first | omega | (simp; done) | (simp; omega)) _)
  have HB2 := Lib.hid (show Below w.heap.size w w2 from HB1.out.trans (hbn.mono HB1.out.size))
  have K0_2 := Lib.hid (step_blk hbn K0_1.out)
  have K1_2 := Lib.hid (step_blk hbn K1_1.out)
  have K2_2 := Lib.hid (show Blk w2 (w1.heap.size) 42 #[.int .i64 (a), .int .i64 (b)] by rw [← hwn]; repeat' (first | exact Blk.at_ _ (by first | rfl | (simp; done) | (simp; omega)) _ _ | refine Blk.drewN ?_ _ | refine Blk.drew ?_ | refine Blk.alloc ?_ _ | refine Blk.far ?_ (by first | omega | (simp; done) | (simp; omega)) _ | assumption))
  have HN2 := Lib.hid hbn
  have hz2 := hbn.size
  clear hwn hbn K0_1 l0_1 z0_0_1 z0_1_1 z0_2_1 z0_3_1 z0_4_1 z0_5_1 K1_1 l1_1 z1_0_1 z1_1_1 z1_2_1 z1_3_1
  have l0_2 : w.heap.size < w2.heap.size := K0_2.out.lt
  have z0_0_2 : w2.cell? ⟨w.heap.size, 0, none⟩ = some (.int .i64 (a)) := K0_2.out.cell 0
  have z0_1_2 : w2.cell? ⟨w.heap.size, 1, none⟩ = some (.int .i64 (b)) := K0_2.out.cell 1
  have z0_2_2 : w2.cell? ⟨w.heap.size, 2, none⟩ = some (.int .i64 (c)) := K0_2.out.cell 2
  have z0_3_2 : w2.cell? ⟨w.heap.size, 3, none⟩ = some (.int .i64 (d)) := K0_2.out.cell 3
  have z0_4_2 : w2.cell? ⟨w.heap.size, 4, none⟩ = some (.int .i64 (x)) := K0_2.out.cell 4
  have z0_5_2 : w2.cell? ⟨w.heap.size, 5, none⟩ = some (.int .i64 (y)) := K0_2.out.cell 5
  have l1_2 : w.heap.size + 1 < w2.heap.size := K1_2.out.lt
  have z1_0_2 : w2.cell? ⟨w.heap.size + 1, 0, none⟩ = some (.int .i64 (a)) := K1_2.out.cell 0
  have z1_1_2 : w2.cell? ⟨w.heap.size + 1, 1, none⟩ = some (.int .i64 (b)) := K1_2.out.cell 1
  have z1_2_2 : w2.cell? ⟨w.heap.size + 1, 2, none⟩ = some (.int .i64 (c)) := K1_2.out.cell 2
  have z1_3_2 : w2.cell? ⟨w.heap.size + 1, 3, none⟩ = some (.int .i64 (d)) := K1_2.out.cell 3
  have l2_2 : w1.heap.size < w2.heap.size := K2_2.out.lt
  have z2_0_2 : w2.cell? ⟨w1.heap.size, 0, none⟩ = some (.int .i64 (a)) := K2_2.out.cell 0
  have z2_1_2 : w2.cell? ⟨w1.heap.size, 1, none⟩ = some (.int .i64 (b)) := K2_2.out.cell 1
  refine (gcdfb_is a b q1 HQ1.out _ ha HPO1.out hb).mono ?_
  rintro e w3 ⟨rfl, hb⟩
  have HB3 := Lib.hid (show Below w.heap.size w w3 from step_below hb (by repeat' (first | exact Below.refl _ _ | exact HB2.out | refine below_drewN ?_ _ | refine Below.drew ?_ | refine Below.alloc ?_ (by first | omega | (simp; done) | (simp; omega) | (simp [World.setCell]; omega)) _ | refine Below.setCell ?_ (by first | omega | (simp; done) | (simp; omega)) _ | assumption)))
  have K0_3 := Lib.hid (step_blk hb (show Blk _ (w.heap.size) 45 #[.int .i64 (a), .int .i64 (b), .int .i64 (c), .int .i64 (d), .int .i64 (x), .int .i64 (y)] by repeat' (first | exact K0_2.out | exact K1_2.out | exact K2_2.out | exact Blk.at_ _ (by first | rfl | (simp; done) | (simp; omega)) _ _ | refine Blk.drewN ?_ _ | refine Blk.drew ?_ | refine Blk.alloc ?_ _ | refine Blk.far ?_ (by first | omega | (simp; done) | (simp; omega)) _ | assumption)))
  have K1_3 := Lib.hid (step_blk hb (show Blk _ (w.heap.size + 1) 93 #[.int .i64 (a), .int .i64 (b), .int .i64 (c), .int .i64 (d)] by repeat' (first | exact K0_2.out | exact K1_2.out | exact K2_2.out | exact Blk.at_ _ (by first | rfl | (simp; done) | (simp; omega)) _ _ | refine Blk.drewN ?_ _ | refine Blk.drew ?_ | refine Blk.alloc ?_ _ | refine Blk.far ?_ (by first | omega | (simp; done) | (simp; omega)) _ | assumption)))
  have K2_3 := Lib.hid (step_blk hb (show Blk _ (w1.heap.size) 42 #[.int .i64 (a), .int .i64 (b)] by repeat' (first | exact K0_2.out | exact K1_2.out | exact K2_2.out | exact Blk.at_ _ (by first | rfl | (simp; done) | (simp; omega)) _ _ | refine Blk.drewN ?_ _ | refine Blk.drew ?_ | refine Blk.alloc ?_ _ | refine Blk.far ?_ (by first | omega | (simp; done) | (simp; omega)) _ | assumption)))
  have hz3 := hb.size
  try simp only [World.size_alloc, World.drewN, World.drew] at hz3
  clear hb K0_2 K1_2 K2_2 z0_0_2 z0_1_2 z0_2_2 z0_3_2 z0_4_2 z0_5_2 l0_2 z1_0_2 z1_1_2 z1_2_2 z1_3_2 l1_2 z2_0_2 z2_1_2 l2_2
  have l0_3 : w.heap.size < w3.heap.size := K0_3.out.lt
  have z0_0_3 : w3.cell? ⟨w.heap.size, 0, none⟩ = some (.int .i64 (a)) := K0_3.out.cell 0
  have z0_1_3 : w3.cell? ⟨w.heap.size, 1, none⟩ = some (.int .i64 (b)) := K0_3.out.cell 1
  have z0_2_3 : w3.cell? ⟨w.heap.size, 2, none⟩ = some (.int .i64 (c)) := K0_3.out.cell 2
  have z0_3_3 : w3.cell? ⟨w.heap.size, 3, none⟩ = some (.int .i64 (d)) := K0_3.out.cell 3
  have z0_4_3 : w3.cell? ⟨w.heap.size, 4, none⟩ = some (.int .i64 (x)) := K0_3.out.cell 4
  have z0_5_3 : w3.cell? ⟨w.heap.size, 5, none⟩ = some (.int .i64 (y)) := K0_3.out.cell 5
  have l1_3 : w.heap.size + 1 < w3.heap.size := K1_3.out.lt
  have z1_0_3 : w3.cell? ⟨w.heap.size + 1, 0, none⟩ = some (.int .i64 (a)) := K1_3.out.cell 0
  have z1_1_3 : w3.cell? ⟨w.heap.size + 1, 1, none⟩ = some (.int .i64 (b)) := K1_3.out.cell 1
  have z1_2_3 : w3.cell? ⟨w.heap.size + 1, 2, none⟩ = some (.int .i64 (c)) := K1_3.out.cell 2
  have z1_3_3 : w3.cell? ⟨w.heap.size + 1, 3, none⟩ = some (.int .i64 (d)) := K1_3.out.cell 3
  have l2_3 : w1.heap.size < w3.heap.size := K2_3.out.lt
  have z2_0_3 : w3.cell? ⟨w1.heap.size, 0, none⟩ = some (.int .i64 (a)) := K2_3.out.cell 0
  have z2_1_3 : w3.cell? ⟨w1.heap.size, 1, none⟩ = some (.int .i64 (b)) := K2_3.out.cell 1
  by_cases u1 : q1 = 1
  rotate_left
  · have du1 : (q1 != 1) = true := by simpa using u1
    have HEE := Lib.hid (show (3 : Int) = E by rw [← HE.out]; unfold lineErr; rw [HL1.out, show decide (q1 = 1) = false by simpa using u1]; rfl)
    clear u1
    go_wp2
    go_ret
    exact ⟨ret_int HEE.out, by repeat' (first | exact Below.refl _ _ | exact HB3.out | refine below_drewN ?_ _ | refine Below.drew ?_ | refine Below.alloc ?_ (by first | omega | (simp; done) | (simp; omega) | (simp [World.setCell]; omega)) _ | refine Below.setCell ?_ (by first | omega | (simp; done) | (simp; omega)) _ | assumption)⟩
  have H1 := Lib.hid (show lowB a b = true by rw [HL1.out]; simpa using u1)
  subst u1
  go_wp2
  rw [rounds_succ]
  by_cases g2 : d ≤ 0
  · have dg2 : decide (d ≤ 0) = true := by simpa using g2
    have HEE := Lib.hid (show (3 : Int) = E by rw [← HE.out]; unfold lineErr; rw [H1.out, show lowB c d = false by unfold lowB; simp; omega]; rfl)
    clear g2
    go_wp2
    go_ret
    exact ⟨ret_int HEE.out, by repeat' (first | exact Below.refl _ _ | exact HB3.out | refine below_drewN ?_ _ | refine Below.drew ?_ | refine Below.alloc ?_ (by first | omega | (simp; done) | (simp; omega) | (simp [World.setCell]; omega)) _ | refine Below.setCell ?_ (by first | omega | (simp; done) | (simp; omega)) _ | assumption)⟩
  have dg2 : decide (d ≤ 0) = false := by simpa using g2
  obtain ⟨q2, hq2⟩ : ∃ g, (Int.gcd c d : Int) = g := ⟨_, rfl⟩
  have HQ2 := Lib.hid hq2
  have HL2 := Lib.hid (low_eq (by omega) hq2)
  have HPO2 := Lib.hid (show 0 < d by omega)
  clear hq2 g2
  go_wp2_with fail
  generalize hwn : (w3.alloc (.cells #[.int .i64 (c), .int .i64 (d)] 42)) = w4
  have hbn : Below w3.heap.size w3 w4 := by rw [← hwn]; repeat' (first | exact Below.refl _ _ | refine below_drewN ?_ _ | refine Below.drew ?_ | refine Below.alloc ?_ (by first | omega | (simp; done) | (simp; omega) | (simp [World.setCell]; omega)) _ | refine Below.setCell ?_ (by first | omega | (simp; done) | (simp; omega)) _)
  have HB4 := Lib.hid (show Below w.heap.size w w4 from HB3.out.trans (hbn.mono HB3.out.size))
  have K0_4 := Lib.hid (step_blk hbn K0_3.out)
  have K1_4 := Lib.hid (step_blk hbn K1_3.out)
  have K2_4 := Lib.hid (step_blk hbn K2_3.out)
  have K3_4 := Lib.hid (show Blk w4 (w3.heap.size) 42 #[.int .i64 (c), .int .i64 (d)] by rw [← hwn]; repeat' (first | exact Blk.at_ _ (by first | rfl | (simp; done) | (simp; omega)) _ _ | refine Blk.drewN ?_ _ | refine Blk.drew ?_ | refine Blk.alloc ?_ _ | refine Blk.far ?_ (by first | omega | (simp; done) | (simp; omega)) _ | assumption))
  have HN4 := Lib.hid hbn
  have hz4 := hbn.size
  clear hwn hbn K0_3 l0_3 z0_0_3 z0_1_3 z0_2_3 z0_3_3 z0_4_3 z0_5_3 K1_3 l1_3 z1_0_3 z1_1_3 z1_2_3 z1_3_3 K2_3 l2_3 z2_0_3 z2_1_3
  have l0_4 : w.heap.size < w4.heap.size := K0_4.out.lt
  have z0_0_4 : w4.cell? ⟨w.heap.size, 0, none⟩ = some (.int .i64 (a)) := K0_4.out.cell 0
  have z0_1_4 : w4.cell? ⟨w.heap.size, 1, none⟩ = some (.int .i64 (b)) := K0_4.out.cell 1
  have z0_2_4 : w4.cell? ⟨w.heap.size, 2, none⟩ = some (.int .i64 (c)) := K0_4.out.cell 2
  have z0_3_4 : w4.cell? ⟨w.heap.size, 3, none⟩ = some (.int .i64 (d)) := K0_4.out.cell 3
  have z0_4_4 : w4.cell? ⟨w.heap.size, 4, none⟩ = some (.int .i64 (x)) := K0_4.out.cell 4
  have z0_5_4 : w4.cell? ⟨w.heap.size, 5, none⟩ = some (.int .i64 (y)) := K0_4.out.cell 5
  have l1_4 : w.heap.size + 1 < w4.heap.size := K1_4.out.lt
  have z1_0_4 : w4.cell? ⟨w.heap.size + 1, 0, none⟩ = some (.int .i64 (a)) := K1_4.out.cell 0
  have z1_1_4 : w4.cell? ⟨w.heap.size + 1, 1, none⟩ = some (.int .i64 (b)) := K1_4.out.cell 1
  have z1_2_4 : w4.cell? ⟨w.heap.size + 1, 2, none⟩ = some (.int .i64 (c)) := K1_4.out.cell 2
  have z1_3_4 : w4.cell? ⟨w.heap.size + 1, 3, none⟩ = some (.int .i64 (d)) := K1_4.out.cell 3
  have l2_4 : w1.heap.size < w4.heap.size := K2_4.out.lt
  have z2_0_4 : w4.cell? ⟨w1.heap.size, 0, none⟩ = some (.int .i64 (a)) := K2_4.out.cell 0
  have z2_1_4 : w4.cell? ⟨w1.heap.size, 1, none⟩ = some (.int .i64 (b)) := K2_4.out.cell 1
  have l3_4 : w3.heap.size < w4.heap.size := K3_4.out.lt
  have z3_0_4 : w4.cell? ⟨w3.heap.size, 0, none⟩ = some (.int .i64 (c)) := K3_4.out.cell 0
  have z3_1_4 : w4.cell? ⟨w3.heap.size, 1, none⟩ = some (.int .i64 (d)) := K3_4.out.cell 1
  refine (gcdfb_is c d q2 HQ2.out _ hc HPO2.out hd).mono ?_
  rintro e w5 ⟨rfl, hb⟩
  have HB5 := Lib.hid (show Below w.heap.size w w5 from step_below hb (by repeat' (first | exact Below.refl _ _ | exact HB4.out | refine below_drewN ?_ _ | refine Below.drew ?_ | refine Below.alloc ?_ (by first | omega | (simp; done) | (simp; omega) | (simp [World.setCell]; omega)) _ | refine Below.setCell ?_ (by first | omega | (simp; done) | (simp; omega)) _ | assumption)))
  have K0_5 := Lib.hid (step_blk hb (show Blk _ (w.heap.size) 45 #[.int .i64 (a), .int .i64 (b), .int .i64 (c), .int .i64 (d), .int .i64 (x), .int .i64 (y)] by repeat' (first | exact K0_4.out | exact K1_4.out | exact K2_4.out | exact K3_4.out | exact Blk.at_ _ (by first | rfl | (simp; done) | (simp; omega)) _ _ | refine Blk.drewN ?_ _ | refine Blk.drew ?_ | refine Blk.alloc ?_ _ | refine Blk.far ?_ (by first | omega | (simp; done) | (simp; omega)) _ | assumption)))
  have K1_5 := Lib.hid (step_blk hb (show Blk _ (w.heap.size + 1) 93 #[.int .i64 (a), .int .i64 (b), .int .i64 (c), .int .i64 (d)] by repeat' (first | exact K0_4.out | exact K1_4.out | exact K2_4.out | exact K3_4.out | exact Blk.at_ _ (by first | rfl | (simp; done) | (simp; omega)) _ _ | refine Blk.drewN ?_ _ | refine Blk.drew ?_ | refine Blk.alloc ?_ _ | refine Blk.far ?_ (by first | omega | (simp; done) | (simp; omega)) _ | assumption)))
  have K2_5 := Lib.hid (step_blk hb (show Blk _ (w1.heap.size) 42 #[.int .i64 (a), .int .i64 (b)] by repeat' (first | exact K0_4.out | exact K1_4.out | exact K2_4.out | exact K3_4.out | exact Blk.at_ _ (by first | rfl | (simp; done) | (simp; omega)) _ _ | refine Blk.drewN ?_ _ | refine Blk.drew ?_ | refine Blk.alloc ?_ _ | refine Blk.far ?_ (by first | omega | (simp; done) | (simp; omega)) _ | assumption)))
  have K3_5 := Lib.hid (step_blk hb (show Blk _ (w3.heap.size) 42 #[.int .i64 (c), .int .i64 (d)] by repeat' (first | exact K0_4.out | exact K1_4.out | exact K2_4.out | exact K3_4.out | exact Blk.at_ _ (by first | rfl | (simp; done) | (simp; omega)) _ _ | refine Blk.drewN ?_ _ | refine Blk.drew ?_ | refine Blk.alloc ?_ _ | refine Blk.far ?_ (by first | omega | (simp; done) | (simp; omega)) _ | assumption)))
  have hz5 := hb.size
  try simp only [World.size_alloc, World.drewN, World.drew] at hz5
  clear hb K0_4 K1_4 K2_4 K3_4 z0_0_4 z0_1_4 z0_2_4 z0_3_4 z0_4_4 z0_5_4 l0_4 z1_0_4 z1_1_4 z1_2_4 z1_3_4 l1_4 z2_0_4 z2_1_4 l2_4 z3_0_4 z3_1_4 l3_4
  have l0_5 : w.heap.size < w5.heap.size := K0_5.out.lt
  have z0_0_5 : w5.cell? ⟨w.heap.size, 0, none⟩ = some (.int .i64 (a)) := K0_5.out.cell 0
  have z0_1_5 : w5.cell? ⟨w.heap.size, 1, none⟩ = some (.int .i64 (b)) := K0_5.out.cell 1
  have z0_2_5 : w5.cell? ⟨w.heap.size, 2, none⟩ = some (.int .i64 (c)) := K0_5.out.cell 2
  have z0_3_5 : w5.cell? ⟨w.heap.size, 3, none⟩ = some (.int .i64 (d)) := K0_5.out.cell 3
  have z0_4_5 : w5.cell? ⟨w.heap.size, 4, none⟩ = some (.int .i64 (x)) := K0_5.out.cell 4
  have z0_5_5 : w5.cell? ⟨w.heap.size, 5, none⟩ = some (.int .i64 (y)) := K0_5.out.cell 5
  have l1_5 : w.heap.size + 1 < w5.heap.size := K1_5.out.lt
  have z1_0_5 : w5.cell? ⟨w.heap.size + 1, 0, none⟩ = some (.int .i64 (a)) := K1_5.out.cell 0
  have z1_1_5 : w5.cell? ⟨w.heap.size + 1, 1, none⟩ = some (.int .i64 (b)) := K1_5.out.cell 1
  have z1_2_5 : w5.cell? ⟨w.heap.size + 1, 2, none⟩ = some (.int .i64 (c)) := K1_5.out.cell 2
  have z1_3_5 : w5.cell? ⟨w.heap.size + 1, 3, none⟩ = some (.int .i64 (d)) := K1_5.out.cell 3
  have l2_5 : w1.heap.size < w5.heap.size := K2_5.out.lt
  have z2_0_5 : w5.cell? ⟨w1.heap.size, 0, none⟩ = some (.int .i64 (a)) := K2_5.out.cell 0
  have z2_1_5 : w5.cell? ⟨w1.heap.size, 1, none⟩ = some (.int .i64 (b)) := K2_5.out.cell 1
  have l3_5 : w3.heap.size < w5.heap.size := K3_5.out.lt
  have z3_0_5 : w5.cell? ⟨w3.heap.size, 0, none⟩ = some (.int .i64 (c)) := K3_5.out.cell 0
  have z3_1_5 : w5.cell? ⟨w3.heap.size, 1, none⟩ = some (.int .i64 (d)) := K3_5.out.cell 1
  by_cases u2 : q2 = 1
  rotate_left
  · have du2 : (q2 != 1) = true := by simpa using u2
    have HEE := Lib.hid (show (3 : Int) = E by rw [← HE.out]; unfold lineErr; rw [H1.out, HL2.out, show decide (q2 = 1) = false by simpa using u2]; rfl)
    clear u2
    go_wp2
    go_ret
    exact ⟨ret_int HEE.out, by repeat' (first | exact Below.refl _ _ | exact HB5.out | refine below_drewN ?_ _ | refine Below.drew ?_ | refine Below.alloc ?_ (by first | omega | (simp; done) | (simp; omega) | (simp [World.setCell]; omega)) _ | refine Below.setCell ?_ (by first | omega | (simp; done) | (simp; omega)) _ | assumption)⟩
  have H2 := Lib.hid (show lowB c d = true by rw [HL2.out]; simpa using u2)
  subst u2
  go_wp2
  rw [rounds_succ]
  go_wp2_with fail
  refine wp_loop_rounds 3 ?_
  rw [rounds_succ]
  by_cases h3 : 1000 < b
  · have d3 : decide (1000 < b) = true := by simpa using h3
    have HEE := Lib.hid (show (2 : Int) = E by rw [← HE.out]; unfold lineErr bigB6; rw [H1.out, H2.out, d3]; rfl)
    clear h3
    go_wp2
    go_ret
    exact ⟨ret_int HEE.out, by repeat' (first | exact Below.refl _ _ | exact HB5.out | refine below_drewN ?_ _ | refine Below.drew ?_ | refine Below.alloc ?_ (by first | omega | (simp; done) | (simp; omega) | (simp [World.setCell]; omega)) _ | refine Below.setCell ?_ (by first | omega | (simp; done) | (simp; omega)) _ | assumption)⟩
  have d3 : decide (1000 < b) = false := by simpa using h3
  clear h3
  go_wp2_with fail
  generalize hwn : (w5.alloc (.cells #[.int .i64 (a), .int .i64 (b)] 42)) = w6
  have hbn : Below w5.heap.size w5 w6 := by rw [← hwn]; repeat' (first | exact Below.refl _ _ | refine below_drewN ?_ _ | refine Below.drew ?_ | refine Below.alloc ?_ (by first | omega | (simp; done) | (simp; omega) | (simp [World.setCell]; omega)) _ | refine Below.setCell ?_ (by first | omega | (simp; done) | (simp; omega)) _)
  have HB6 := Lib.hid (show Below w.heap.size w w6 from HB5.out.trans (hbn.mono HB5.out.size))
  have K0_6 := Lib.hid (step_blk hbn K0_5.out)
  have K1_6 := Lib.hid (step_blk hbn K1_5.out)
  have K2_6 := Lib.hid (step_blk hbn K2_5.out)
  have K3_6 := Lib.hid (step_blk hbn K3_5.out)
  have K4_6 := Lib.hid (show Blk w6 (w5.heap.size) 42 #[.int .i64 (a), .int .i64 (b)] by rw [← hwn]; repeat' (first | exact Blk.at_ _ (by first | rfl | (simp; done) | (simp; omega)) _ _ | refine Blk.drewN ?_ _ | refine Blk.drew ?_ | refine Blk.alloc ?_ _ | refine Blk.far ?_ (by first | omega | (simp; done) | (simp; omega)) _ | assumption))
  have HN6 := Lib.hid hbn
  have hz6 := hbn.size
  clear hwn hbn K0_5 l0_5 z0_0_5 z0_1_5 z0_2_5 z0_3_5 z0_4_5 z0_5_5 K1_5 l1_5 z1_0_5 z1_1_5 z1_2_5 z1_3_5 K2_5 l2_5 z2_0_5 z2_1_5 K3_5 l3_5 z3_0_5 z3_1_5
  have l0_6 : w.heap.size < w6.heap.size := K0_6.out.lt
  have z0_0_6 : w6.cell? ⟨w.heap.size, 0, none⟩ = some (.int .i64 (a)) := K0_6.out.cell 0
  have z0_1_6 : w6.cell? ⟨w.heap.size, 1, none⟩ = some (.int .i64 (b)) := K0_6.out.cell 1
  have z0_2_6 : w6.cell? ⟨w.heap.size, 2, none⟩ = some (.int .i64 (c)) := K0_6.out.cell 2
  have z0_3_6 : w6.cell? ⟨w.heap.size, 3, none⟩ = some (.int .i64 (d)) := K0_6.out.cell 3
  have z0_4_6 : w6.cell? ⟨w.heap.size, 4, none⟩ = some (.int .i64 (x)) := K0_6.out.cell 4
  have z0_5_6 : w6.cell? ⟨w.heap.size, 5, none⟩ = some (.int .i64 (y)) := K0_6.out.cell 5
  have l1_6 : w.heap.size + 1 < w6.heap.size := K1_6.out.lt
  have z1_0_6 : w6.cell? ⟨w.heap.size + 1, 0, none⟩ = some (.int .i64 (a)) := K1_6.out.cell 0
  have z1_1_6 : w6.cell? ⟨w.heap.size + 1, 1, none⟩ = some (.int .i64 (b)) := K1_6.out.cell 1
  have z1_2_6 : w6.cell? ⟨w.heap.size + 1, 2, none⟩ = some (.int .i64 (c)) := K1_6.out.cell 2
  have z1_3_6 : w6.cell? ⟨w.heap.size + 1, 3, none⟩ = some (.int .i64 (d)) := K1_6.out.cell 3
  have l2_6 : w1.heap.size < w6.heap.size := K2_6.out.lt
  have z2_0_6 : w6.cell? ⟨w1.heap.size, 0, none⟩ = some (.int .i64 (a)) := K2_6.out.cell 0
  have z2_1_6 : w6.cell? ⟨w1.heap.size, 1, none⟩ = some (.int .i64 (b)) := K2_6.out.cell 1
  have l3_6 : w3.heap.size < w6.heap.size := K3_6.out.lt
  have z3_0_6 : w6.cell? ⟨w3.heap.size, 0, none⟩ = some (.int .i64 (c)) := K3_6.out.cell 0
  have z3_1_6 : w6.cell? ⟨w3.heap.size, 1, none⟩ = some (.int .i64 (d)) := K3_6.out.cell 1
  have l4_6 : w5.heap.size < w6.heap.size := K4_6.out.lt
  have z4_0_6 : w6.cell? ⟨w5.heap.size, 0, none⟩ = some (.int .i64 (a)) := K4_6.out.cell 0
  have z4_1_6 : w6.cell? ⟨w5.heap.size, 1, none⟩ = some (.int .i64 (b)) := K4_6.out.cell 1
  obtain ⟨t3, ht3⟩ : ∃ t, withinB a (-1000000000) 1000000000 = t := ⟨_, rfl⟩
  have H3 := Lib.hid ht3
  have D3 := Lib.hid d3
  clear ht3 d3
  refine (withinfig_is _ _ _ t3 H3.out _).mono ?_
  rintro e w' ⟨rfl, rfl⟩
  cases t3
  · have HEE := Lib.hid (show (2 : Int) = E by rw [← HE.out]; unfold lineErr bigB6; rw [H1.out, H2.out, H3.out, D3.out]; rfl)
    go_wp2
    go_ret
    exact ⟨ret_int HEE.out, HB6.out⟩
  go_wp2
  rw [rounds_succ]
  by_cases h4 : 1000 < d
  · have d4 : decide (1000 < d) = true := by simpa using h4
    have HEE := Lib.hid (show (2 : Int) = E by rw [← HE.out]; unfold lineErr bigB6; rw [H1.out, H2.out, H3.out, D3.out, d4]; rfl)
    clear h4
    go_wp2
    go_ret
    exact ⟨ret_int HEE.out, by repeat' (first | exact Below.refl _ _ | exact HB6.out | refine below_drewN ?_ _ | refine Below.drew ?_ | refine Below.alloc ?_ (by first | omega | (simp; done) | (simp; omega) | (simp [World.setCell]; omega)) _ | refine Below.setCell ?_ (by first | omega | (simp; done) | (simp; omega)) _ | assumption)⟩
  have d4 : decide (1000 < d) = false := by simpa using h4
  clear h4
  go_wp2_with fail
  generalize hwn : (w6.alloc (.cells #[.int .i64 (c), .int .i64 (d)] 42)) = w7
  have hbn : Below w6.heap.size w6 w7 := by rw [← hwn]; repeat' (first | exact Below.refl _ _ | refine below_drewN ?_ _ | refine Below.drew ?_ | refine Below.alloc ?_ (by first | omega | (simp; done) | (simp; omega) | (simp [World.setCell]; omega)) _ | refine Below.setCell ?_ (by first | omega | (simp; done) | (simp; omega)) _)
  have HB7 := Lib.hid (show Below w.heap.size w w7 from HB6.out.trans (hbn.mono HB6.out.size))
  have K0_7 := Lib.hid (step_blk hbn K0_6.out)
  have K1_7 := Lib.hid (step_blk hbn K1_6.out)
  have K2_7 := Lib.hid (step_blk hbn K2_6.out)
  have K3_7 := Lib.hid (step_blk hbn K3_6.out)
  have K4_7 := Lib.hid (step_blk hbn K4_6.out)
  have K5_7 := Lib.hid (show Blk w7 (w6.heap.size) 42 #[.int .i64 (c), .int .i64 (d)] by rw [← hwn]; repeat' (first | exact Blk.at_ _ (by first | rfl | (simp; done) | (simp; omega)) _ _ | refine Blk.drewN ?_ _ | refine Blk.drew ?_ | refine Blk.alloc ?_ _ | refine Blk.far ?_ (by first | omega | (simp; done) | (simp; omega)) _ | assumption))
  have HN7 := Lib.hid hbn
  have hz7 := hbn.size
  clear hwn hbn K0_6 l0_6 z0_0_6 z0_1_6 z0_2_6 z0_3_6 z0_4_6 z0_5_6 K1_6 l1_6 z1_0_6 z1_1_6 z1_2_6 z1_3_6 K2_6 l2_6 z2_0_6 z2_1_6 K3_6 l3_6 z3_0_6 z3_1_6 K4_6 l4_6 z4_0_6 z4_1_6
  have l0_7 : w.heap.size < w7.heap.size := K0_7.out.lt
  have z0_0_7 : w7.cell? ⟨w.heap.size, 0, none⟩ = some (.int .i64 (a)) := K0_7.out.cell 0
  have z0_1_7 : w7.cell? ⟨w.heap.size, 1, none⟩ = some (.int .i64 (b)) := K0_7.out.cell 1
  have z0_2_7 : w7.cell? ⟨w.heap.size, 2, none⟩ = some (.int .i64 (c)) := K0_7.out.cell 2
  have z0_3_7 : w7.cell? ⟨w.heap.size, 3, none⟩ = some (.int .i64 (d)) := K0_7.out.cell 3
  have z0_4_7 : w7.cell? ⟨w.heap.size, 4, none⟩ = some (.int .i64 (x)) := K0_7.out.cell 4
  have z0_5_7 : w7.cell? ⟨w.heap.size, 5, none⟩ = some (.int .i64 (y)) := K0_7.out.cell 5
  have l1_7 : w.heap.size + 1 < w7.heap.size := K1_7.out.lt
  have z1_0_7 : w7.cell? ⟨w.heap.size + 1, 0, none⟩ = some (.int .i64 (a)) := K1_7.out.cell 0
  have z1_1_7 : w7.cell? ⟨w.heap.size + 1, 1, none⟩ = some (.int .i64 (b)) := K1_7.out.cell 1
  have z1_2_7 : w7.cell? ⟨w.heap.size + 1, 2, none⟩ = some (.int .i64 (c)) := K1_7.out.cell 2
  have z1_3_7 : w7.cell? ⟨w.heap.size + 1, 3, none⟩ = some (.int .i64 (d)) := K1_7.out.cell 3
  have l2_7 : w1.heap.size < w7.heap.size := K2_7.out.lt
  have z2_0_7 : w7.cell? ⟨w1.heap.size, 0, none⟩ = some (.int .i64 (a)) := K2_7.out.cell 0
  have z2_1_7 : w7.cell? ⟨w1.heap.size, 1, none⟩ = some (.int .i64 (b)) := K2_7.out.cell 1
  have l3_7 : w3.heap.size < w7.heap.size := K3_7.out.lt
  have z3_0_7 : w7.cell? ⟨w3.heap.size, 0, none⟩ = some (.int .i64 (c)) := K3_7.out.cell 0
  have z3_1_7 : w7.cell? ⟨w3.heap.size, 1, none⟩ = some (.int .i64 (d)) := K3_7.out.cell 1
  have l4_7 : w5.heap.size < w7.heap.size := K4_7.out.lt
  have z4_0_7 : w7.cell? ⟨w5.heap.size, 0, none⟩ = some (.int .i64 (a)) := K4_7.out.cell 0
  have z4_1_7 : w7.cell? ⟨w5.heap.size, 1, none⟩ = some (.int .i64 (b)) := K4_7.out.cell 1
  have l5_7 : w6.heap.size < w7.heap.size := K5_7.out.lt
  have z5_0_7 : w7.cell? ⟨w6.heap.size, 0, none⟩ = some (.int .i64 (c)) := K5_7.out.cell 0
  have z5_1_7 : w7.cell? ⟨w6.heap.size, 1, none⟩ = some (.int .i64 (d)) := K5_7.out.cell 1
  obtain ⟨t4, ht4⟩ : ∃ t, withinB c (-1000000000) 1000000000 = t := ⟨_, rfl⟩
  have H4 := Lib.hid ht4
  have D4 := Lib.hid d4
  clear ht4 d4
  refine (withinfig_is _ _ _ t4 H4.out _).mono ?_
  rintro e w' ⟨rfl, rfl⟩
  cases t4
  · have HEE := Lib.hid (show (2 : Int) = E by rw [← HE.out]; unfold lineErr bigB6; rw [H1.out, H2.out, H3.out, H4.out, D3.out, D4.out]; rfl)
    go_wp2
    go_ret
    exact ⟨ret_int HEE.out, HB7.out⟩
  go_wp2
  rw [rounds_succ]
  have HEE := Lib.hid (show (0 : Int) = E by rw [← HE.out]; unfold lineErr bigB6; rw [H1.out, H2.out, H3.out, H4.out, D3.out, D4.out]; rfl)
  go_wp2
  go_ret
  exact ⟨ret_int HEE.out, HB7.out⟩
end Go.Proofs.Ytkfecbkcghmmhaa

end
