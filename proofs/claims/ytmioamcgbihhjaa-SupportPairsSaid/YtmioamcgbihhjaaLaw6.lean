/- The walk of the statement on the check of best pairs. -/
import Derived.Test.YtmioamcgbihhjaaCkRef
namespace Go.Proofs.Ytmioamcgbihhjaa
open Go.RowKit

@[go_sem] theorem held_pair : Try.prog.stoodInHeld 45 = false := by kernel_rfl
@[go_sem] theorem guard_pair : Try.prog.eqGuardType Try.prog.depth 45 = false := by kernel_rfl
theorem eq_pair (a b c d : Int) (w : World) : (Op.equalIn 10000 45 (.agg #[.int .i64 a, .int .i64 b]) (.agg #[.int .i64 c, .int .i64 d])).run Try.prog w = .ok (decide ((a, b) = (c, d))) w := by
  simp [go_sem]
  by_cases h1 : a = c <;> by_cases h2 : b = d <;> simp [h1, h2]
@[go_sem ↓ high] theorem eql_pair (a b c d : Int) (w : World) : (binOp .eql 45 (.agg #[.int .i64 a, .int .i64 b]) (.agg #[.int .i64 c, .int .i64 d])).run Try.prog w = .ok (.bool (decide ((a, b) = (c, d)))) w := by
  rw [run_eql_struct, eq_pair]; rfl
@[go_sem ↓ high] theorem neq_pair (a b c d : Int) (w : World) : (binOp .neq 45 (.agg #[.int .i64 a, .int .i64 b]) (.agg #[.int .i64 c, .int .i64 d])).run Try.prog w = .ok (.bool (!decide ((a, b) = (c, d)))) w := by
  rw [run_neq_struct, eq_pair]; rfl

theorem ckbest_is (rn rd lo hi gd gv a b c : Int) (h : ckBest rn rd lo hi gd gv = ((a, b), c)) (w : World) (h1 : -9223372036854775808 ≤ rn) (h2 : rn ≤ 9223372036854775807) (h3 : -9223372036854775808 ≤ rd) (h4 : rd ≤ 9223372036854775807) :
    Calls Try.prog 35 #[.agg #[.int .i64 rn, .int .i64 rd], .int .i64 lo, .int .i64 hi, .agg #[.int .i64 gd, .int .i64 gv]] w fun e w' => e = .returned (.tuple #[.agg #[.int .i64 a, .int .i64 b], .int .i64 c]) ∧ Below w.heap.size w w' := by
  have := ckbest_any rn rd lo hi gd gv w h1 h2 h3 h4
  rw [h] at this
  exact this
theorem rckbest_is (rn rd lo hi gd gv a b c : Int) (h : ckIn rn rd lo hi gd gv = ((a, b), c)) (w : World) (r1 : 1 ≤ rn) (r2 : rn ≤ 1000000000) (r3 : 1 ≤ rd) (r4 : rd ≤ 1000000000) (l1 : 1 ≤ lo) (l2 : lo ≤ hi) (l3 : hi ≤ 500) :
    Calls Try.prog 37 #[.agg #[.int .i64 rn, .int .i64 rd], .int .i64 lo, .int .i64 hi, .agg #[.int .i64 gd, .int .i64 gv]] w fun e w' => e = .returned (.tuple #[.agg #[.int .i64 a, .int .i64 b], .int .i64 c]) ∧ Below w.heap.size w w' := by
  have := rckbest_any rn rd lo hi gd gv w r1 r2 r3 r4 l1 l2 l3
  rw [h] at this
  exact this
theorem checksearch_is (rn rd lo hi E : Int) (h : searchErr rn rd lo hi = E) (w : World) (h1 : -9223372036854775808 ≤ rn) (h2 : rn ≤ 9223372036854775807) (h3 : -9223372036854775808 ≤ rd) (h4 : rd ≤ 9223372036854775807) :
    Calls Try.prog 33 #[.agg #[.int .i64 rn, .int .i64 rd], .int .i64 lo, .int .i64 hi] w fun e w' => e = .returned (.int .i64 E) ∧ Below w.heap.size w w' := h ▸ checksearch_any rn rd lo hi w h1 h2 h3 h4

set_option maxRecDepth 100000 in
set_option maxHeartbeats 2000000 in
theorem law6_any (rn rd lo hi gd gv : Int) (w : World) (h1 : -9223372036854775808 ≤ rn) (h2 : rn ≤ 9223372036854775807) (h3 : -9223372036854775808 ≤ rd) (h4 : rd ≤ 9223372036854775807) (_ : -9223372036854775808 ≤ lo) (_ : lo ≤ 9223372036854775807) (_ : -9223372036854775808 ≤ hi) (_ : hi ≤ 9223372036854775807) (_ : -9223372036854775808 ≤ gd) (_ : gd ≤ 9223372036854775807) (_ : -9223372036854775808 ≤ gv) (_ : gv ≤ 9223372036854775807) :
    Calls Try.prog 6 #[.agg #[.int .i64 rn, .int .i64 rd], .agg #[.int .i64 lo, .int .i64 hi], .agg #[.int .i64 gd, .int .i64 gv]] w fun e w' => e = .returned (.bool true) ∧ Below w.heap.size w w' := by
  cases hw : withinB hi 61 500
  rotate_left
  · have HW := Lib.hid hw
    clear hw
    go_enter Try.func6, Try.ntmps6
    go_wp2_with fail
    refine (awake_any _).mono ?_
    rintro e w1 ⟨rfl, hb⟩
    have HB1 := Lib.hid (show Below w.heap.size w w1 from step_below hb (by repeat' (first | exact Below.refl _ _ | exact HB0.out | assumption | refine below_drewN ?_ _ | refine Below.drew ?_ | refine Below.alloc ?_ (by first | omega | (simp; done) | (simp; omega) | (simp [World.setCell]; omega)) _ | refine Below.setCell ?_ (by first | omega | (simp; done) | (simp; omega)) _)))
    have K0_1 := Lib.hid (step_blk hb (show Blk _ (w.heap.size) 23 #[.int .i64 (rn), .int .i64 (rd)] by repeat' (first | assumption | exact Blk.at_ _ (by first | rfl | (simp; done) | (simp; omega)) _ _ | refine Blk.drewN ?_ _ | refine Blk.drew ?_ | refine Blk.alloc ?_ _ | refine Blk.far ?_ (by first | omega | (simp; done) | (simp; omega)) _)))
    have K1_1 := Lib.hid (step_blk hb (show Blk _ (w.heap.size + 1) 51 #[.int .i64 (lo), .int .i64 (hi)] by repeat' (first | assumption | exact Blk.at_ _ (by first | rfl | (simp; done) | (simp; omega)) _ _ | refine Blk.drewN ?_ _ | refine Blk.drew ?_ | refine Blk.alloc ?_ _ | refine Blk.far ?_ (by first | omega | (simp; done) | (simp; omega)) _)))
    have K2_1 := Lib.hid (step_blk hb (show Blk _ (w.heap.size + 2) 45 #[.int .i64 (gd), .int .i64 (gv)] by repeat' (first | assumption | exact Blk.at_ _ (by first | rfl | (simp; done) | (simp; omega)) _ _ | refine Blk.drewN ?_ _ | refine Blk.drew ?_ | refine Blk.alloc ?_ _ | refine Blk.far ?_ (by first | omega | (simp; done) | (simp; omega)) _)))
    have hz1 := hb.size
    try simp only [World.size_alloc, World.drewN, World.drew] at hz1
    clear hb
    have l0_1 : w.heap.size < w1.heap.size := K0_1.out.lt
    have z0_0_1 : w1.cell? ⟨w.heap.size, 0, none⟩ = some (.int .i64 (rn)) := K0_1.out.cell 0
    have z0_1_1 : w1.cell? ⟨w.heap.size, 1, none⟩ = some (.int .i64 (rd)) := K0_1.out.cell 1
    have l1_1 : w.heap.size + 1 < w1.heap.size := K1_1.out.lt
    have z1_0_1 : w1.cell? ⟨w.heap.size + 1, 0, none⟩ = some (.int .i64 (lo)) := K1_1.out.cell 0
    have z1_1_1 : w1.cell? ⟨w.heap.size + 1, 1, none⟩ = some (.int .i64 (hi)) := K1_1.out.cell 1
    have l2_1 : w.heap.size + 2 < w1.heap.size := K2_1.out.lt
    have z2_0_1 : w1.cell? ⟨w.heap.size + 2, 0, none⟩ = some (.int .i64 (gd)) := K2_1.out.cell 0
    have z2_1_1 : w1.cell? ⟨w.heap.size + 2, 1, none⟩ = some (.int .i64 (gv)) := K2_1.out.cell 1
    go_wp2_with (go_at_call 31; refine (withinref_is _ _ _ _ HW.out _).mono ?_; rintro e w' ⟨rfl, rfl⟩)
    go_ret
    exact ⟨rfl, by repeat' (first | exact Below.refl _ _ | exact HB1.out | assumption | refine below_drewN ?_ _ | refine Below.drew ?_ | refine Below.alloc ?_ (by first | omega | (simp; done) | (simp; omega) | (simp [World.setCell]; omega)) _ | refine Below.setCell ?_ (by first | omega | (simp; done) | (simp; omega)) _)⟩
  obtain ⟨E, hE⟩ : ∃ E, searchErr rn rd lo hi = E := ⟨_, rfl⟩
  have HE := Lib.hid hE
  by_cases h0 : E = 0
  · subst h0
    obtain ⟨-, r1, r2, r3, r4, l1, l2, l3⟩ := searchErr_ok hE
    obtain ⟨C, hC⟩ : ∃ C, ckIn rn rd lo hi gd gv = C := ⟨_, rfl⟩
    obtain ⟨⟨a, b⟩, c⟩ := C
    have hC2 : ckBest rn rd lo hi gd gv = ((a, b), c) := by unfold ckBest; rw [hE, if_neg (by simp), hC]
    have HW := Lib.hid hw
    have HC := Lib.hid hC
    have HC2 := Lib.hid hC2
    clear hw hE hC hC2
    go_enter Try.func6, Try.ntmps6
    go_wp2_with fail
    refine (awake_any _).mono ?_
    rintro e w1 ⟨rfl, hb⟩
    have HB1 := Lib.hid (show Below w.heap.size w w1 from step_below hb (by repeat' (first | exact Below.refl _ _ | exact HB0.out | assumption | refine below_drewN ?_ _ | refine Below.drew ?_ | refine Below.alloc ?_ (by first | omega | (simp; done) | (simp; omega) | (simp [World.setCell]; omega)) _ | refine Below.setCell ?_ (by first | omega | (simp; done) | (simp; omega)) _)))
    have K0_1 := Lib.hid (step_blk hb (show Blk _ (w.heap.size) 23 #[.int .i64 (rn), .int .i64 (rd)] by repeat' (first | assumption | exact Blk.at_ _ (by first | rfl | (simp; done) | (simp; omega)) _ _ | refine Blk.drewN ?_ _ | refine Blk.drew ?_ | refine Blk.alloc ?_ _ | refine Blk.far ?_ (by first | omega | (simp; done) | (simp; omega)) _)))
    have K1_1 := Lib.hid (step_blk hb (show Blk _ (w.heap.size + 1) 51 #[.int .i64 (lo), .int .i64 (hi)] by repeat' (first | assumption | exact Blk.at_ _ (by first | rfl | (simp; done) | (simp; omega)) _ _ | refine Blk.drewN ?_ _ | refine Blk.drew ?_ | refine Blk.alloc ?_ _ | refine Blk.far ?_ (by first | omega | (simp; done) | (simp; omega)) _)))
    have K2_1 := Lib.hid (step_blk hb (show Blk _ (w.heap.size + 2) 45 #[.int .i64 (gd), .int .i64 (gv)] by repeat' (first | assumption | exact Blk.at_ _ (by first | rfl | (simp; done) | (simp; omega)) _ _ | refine Blk.drewN ?_ _ | refine Blk.drew ?_ | refine Blk.alloc ?_ _ | refine Blk.far ?_ (by first | omega | (simp; done) | (simp; omega)) _)))
    have hz1 := hb.size
    try simp only [World.size_alloc, World.drewN, World.drew] at hz1
    clear hb
    have l0_1 : w.heap.size < w1.heap.size := K0_1.out.lt
    have z0_0_1 : w1.cell? ⟨w.heap.size, 0, none⟩ = some (.int .i64 (rn)) := K0_1.out.cell 0
    have z0_1_1 : w1.cell? ⟨w.heap.size, 1, none⟩ = some (.int .i64 (rd)) := K0_1.out.cell 1
    have l1_1 : w.heap.size + 1 < w1.heap.size := K1_1.out.lt
    have z1_0_1 : w1.cell? ⟨w.heap.size + 1, 0, none⟩ = some (.int .i64 (lo)) := K1_1.out.cell 0
    have z1_1_1 : w1.cell? ⟨w.heap.size + 1, 1, none⟩ = some (.int .i64 (hi)) := K1_1.out.cell 1
    have l2_1 : w.heap.size + 2 < w1.heap.size := K2_1.out.lt
    have z2_0_1 : w1.cell? ⟨w.heap.size + 2, 0, none⟩ = some (.int .i64 (gd)) := K2_1.out.cell 0
    have z2_1_1 : w1.cell? ⟨w.heap.size + 2, 1, none⟩ = some (.int .i64 (gv)) := K2_1.out.cell 1
    go_wp2_with fail
    refine (withinref_is _ _ _ _ HW.out _).mono ?_
    rintro e w' ⟨rfl, rfl⟩
    go_wp2_with fail
    refine (ckbest_is _ _ _ _ _ _ _ _ _ HC2.out _ h1 h2 h3 h4).mono ?_
    rintro e w2 ⟨rfl, hb⟩
    have HB2 := Lib.hid (show Below w.heap.size w w2 from step_below hb (by repeat' (first | exact Below.refl _ _ | exact HB1.out | assumption | refine below_drewN ?_ _ | refine Below.drew ?_ | refine Below.alloc ?_ (by first | omega | (simp; done) | (simp; omega) | (simp [World.setCell]; omega)) _ | refine Below.setCell ?_ (by first | omega | (simp; done) | (simp; omega)) _)))
    have K0_2 := Lib.hid (step_blk hb (show Blk _ (w.heap.size) 23 #[.int .i64 (rn), .int .i64 (rd)] by repeat' (first | assumption | exact K0_1.out | exact K1_1.out | exact K2_1.out | exact Blk.at_ _ (by first | rfl | (simp; done) | (simp; omega)) _ _ | refine Blk.drewN ?_ _ | refine Blk.drew ?_ | refine Blk.alloc ?_ _ | refine Blk.far ?_ (by first | omega | (simp; done) | (simp; omega)) _)))
    have K1_2 := Lib.hid (step_blk hb (show Blk _ (w.heap.size + 1) 51 #[.int .i64 (lo), .int .i64 (hi)] by repeat' (first | assumption | exact K0_1.out | exact K1_1.out | exact K2_1.out | exact Blk.at_ _ (by first | rfl | (simp; done) | (simp; omega)) _ _ | refine Blk.drewN ?_ _ | refine Blk.drew ?_ | refine Blk.alloc ?_ _ | refine Blk.far ?_ (by first | omega | (simp; done) | (simp; omega)) _)))
    have K2_2 := Lib.hid (step_blk hb (show Blk _ (w.heap.size + 2) 45 #[.int .i64 (gd), .int .i64 (gv)] by repeat' (first | assumption | exact K0_1.out | exact K1_1.out | exact K2_1.out | exact Blk.at_ _ (by first | rfl | (simp; done) | (simp; omega)) _ _ | refine Blk.drewN ?_ _ | refine Blk.drew ?_ | refine Blk.alloc ?_ _ | refine Blk.far ?_ (by first | omega | (simp; done) | (simp; omega)) _)))
    have hz2 := hb.size
    try simp only [World.size_alloc, World.drewN, World.drew] at hz2
    clear hb K0_1 K1_1 K2_1 z0_0_1 z0_1_1 l0_1 z1_0_1 z1_1_1 l1_1 z2_0_1 z2_1_1 l2_1
    have l0_2 : w.heap.size < w2.heap.size := K0_2.out.lt
    have z0_0_2 : w2.cell? ⟨w.heap.size, 0, none⟩ = some (.int .i64 (rn)) := K0_2.out.cell 0
    have z0_1_2 : w2.cell? ⟨w.heap.size, 1, none⟩ = some (.int .i64 (rd)) := K0_2.out.cell 1
    have l1_2 : w.heap.size + 1 < w2.heap.size := K1_2.out.lt
    have z1_0_2 : w2.cell? ⟨w.heap.size + 1, 0, none⟩ = some (.int .i64 (lo)) := K1_2.out.cell 0
    have z1_1_2 : w2.cell? ⟨w.heap.size + 1, 1, none⟩ = some (.int .i64 (hi)) := K1_2.out.cell 1
    have l2_2 : w.heap.size + 2 < w2.heap.size := K2_2.out.lt
    have z2_0_2 : w2.cell? ⟨w.heap.size + 2, 0, none⟩ = some (.int .i64 (gd)) := K2_2.out.cell 0
    have z2_1_2 : w2.cell? ⟨w.heap.size + 2, 1, none⟩ = some (.int .i64 (gv)) := K2_2.out.cell 1
    go_wp2_with fail
    refine (checksearch_is _ _ _ _ _ HE.out _ h1 h2 h3 h4).mono ?_
    rintro e w3 ⟨rfl, hb⟩
    have HB3 := Lib.hid (show Below w.heap.size w w3 from step_below hb (by repeat' (first | exact Below.refl _ _ | exact HB2.out | assumption | refine below_drewN ?_ _ | refine Below.drew ?_ | refine Below.alloc ?_ (by first | omega | (simp; done) | (simp; omega) | (simp [World.setCell]; omega)) _ | refine Below.setCell ?_ (by first | omega | (simp; done) | (simp; omega)) _)))
    have K0_3 := Lib.hid (step_blk hb (show Blk _ (w.heap.size) 23 #[.int .i64 (rn), .int .i64 (rd)] by repeat' (first | assumption | exact K0_2.out | exact K1_2.out | exact K2_2.out | exact Blk.at_ _ (by first | rfl | (simp; done) | (simp; omega)) _ _ | refine Blk.drewN ?_ _ | refine Blk.drew ?_ | refine Blk.alloc ?_ _ | refine Blk.far ?_ (by first | omega | (simp; done) | (simp; omega)) _)))
    have K1_3 := Lib.hid (step_blk hb (show Blk _ (w.heap.size + 1) 51 #[.int .i64 (lo), .int .i64 (hi)] by repeat' (first | assumption | exact K0_2.out | exact K1_2.out | exact K2_2.out | exact Blk.at_ _ (by first | rfl | (simp; done) | (simp; omega)) _ _ | refine Blk.drewN ?_ _ | refine Blk.drew ?_ | refine Blk.alloc ?_ _ | refine Blk.far ?_ (by first | omega | (simp; done) | (simp; omega)) _)))
    have K2_3 := Lib.hid (step_blk hb (show Blk _ (w.heap.size + 2) 45 #[.int .i64 (gd), .int .i64 (gv)] by repeat' (first | assumption | exact K0_2.out | exact K1_2.out | exact K2_2.out | exact Blk.at_ _ (by first | rfl | (simp; done) | (simp; omega)) _ _ | refine Blk.drewN ?_ _ | refine Blk.drew ?_ | refine Blk.alloc ?_ _ | refine Blk.far ?_ (by first | omega | (simp; done) | (simp; omega)) _)))
    have K3_3 := Lib.hid (step_blk hb (show Blk _ (w2.heap.size) 23 #[.int .i64 (a), .int .i64 (b)] by repeat' (first | assumption | exact K0_2.out | exact K1_2.out | exact K2_2.out | exact Blk.at_ _ (by first | rfl | (simp; done) | (simp; omega)) _ _ | refine Blk.drewN ?_ _ | refine Blk.drew ?_ | refine Blk.alloc ?_ _ | refine Blk.far ?_ (by first | omega | (simp; done) | (simp; omega)) _)))
    have hz3 := hb.size
    try simp only [World.size_alloc, World.drewN, World.drew] at hz3
    clear hb K0_2 K1_2 K2_2 z0_0_2 z0_1_2 l0_2 z1_0_2 z1_1_2 l1_2 z2_0_2 z2_1_2 l2_2
    have l0_3 : w.heap.size < w3.heap.size := K0_3.out.lt
    have z0_0_3 : w3.cell? ⟨w.heap.size, 0, none⟩ = some (.int .i64 (rn)) := K0_3.out.cell 0
    have z0_1_3 : w3.cell? ⟨w.heap.size, 1, none⟩ = some (.int .i64 (rd)) := K0_3.out.cell 1
    have l1_3 : w.heap.size + 1 < w3.heap.size := K1_3.out.lt
    have z1_0_3 : w3.cell? ⟨w.heap.size + 1, 0, none⟩ = some (.int .i64 (lo)) := K1_3.out.cell 0
    have z1_1_3 : w3.cell? ⟨w.heap.size + 1, 1, none⟩ = some (.int .i64 (hi)) := K1_3.out.cell 1
    have l2_3 : w.heap.size + 2 < w3.heap.size := K2_3.out.lt
    have z2_0_3 : w3.cell? ⟨w.heap.size + 2, 0, none⟩ = some (.int .i64 (gd)) := K2_3.out.cell 0
    have z2_1_3 : w3.cell? ⟨w.heap.size + 2, 1, none⟩ = some (.int .i64 (gv)) := K2_3.out.cell 1
    have l3_3 : w2.heap.size < w3.heap.size := K3_3.out.lt
    have z3_0_3 : w3.cell? ⟨w2.heap.size, 0, none⟩ = some (.int .i64 (a)) := K3_3.out.cell 0
    have z3_1_3 : w3.cell? ⟨w2.heap.size, 1, none⟩ = some (.int .i64 (b)) := K3_3.out.cell 1
    go_wp2_with fail
    refine (rckbest_is _ _ _ _ _ _ _ _ _ HC.out _ r1 r2 r3 r4 l1 l2 l3).mono ?_
    rintro e w4 ⟨rfl, hb⟩
    have HB4 := Lib.hid (show Below w.heap.size w w4 from step_below hb (by repeat' (first | exact Below.refl _ _ | exact HB3.out | assumption | refine below_drewN ?_ _ | refine Below.drew ?_ | refine Below.alloc ?_ (by first | omega | (simp; done) | (simp; omega) | (simp [World.setCell]; omega)) _ | refine Below.setCell ?_ (by first | omega | (simp; done) | (simp; omega)) _)))
    have K0_4 := Lib.hid (step_blk hb (show Blk _ (w.heap.size) 23 #[.int .i64 (rn), .int .i64 (rd)] by repeat' (first | assumption | exact K0_3.out | exact K1_3.out | exact K2_3.out | exact K3_3.out | exact Blk.at_ _ (by first | rfl | (simp; done) | (simp; omega)) _ _ | refine Blk.drewN ?_ _ | refine Blk.drew ?_ | refine Blk.alloc ?_ _ | refine Blk.far ?_ (by first | omega | (simp; done) | (simp; omega)) _)))
    have K1_4 := Lib.hid (step_blk hb (show Blk _ (w.heap.size + 1) 51 #[.int .i64 (lo), .int .i64 (hi)] by repeat' (first | assumption | exact K0_3.out | exact K1_3.out | exact K2_3.out | exact K3_3.out | exact Blk.at_ _ (by first | rfl | (simp; done) | (simp; omega)) _ _ | refine Blk.drewN ?_ _ | refine Blk.drew ?_ | refine Blk.alloc ?_ _ | refine Blk.far ?_ (by first | omega | (simp; done) | (simp; omega)) _)))
    have K2_4 := Lib.hid (step_blk hb (show Blk _ (w.heap.size + 2) 45 #[.int .i64 (gd), .int .i64 (gv)] by repeat' (first | assumption | exact K0_3.out | exact K1_3.out | exact K2_3.out | exact K3_3.out | exact Blk.at_ _ (by first | rfl | (simp; done) | (simp; omega)) _ _ | refine Blk.drewN ?_ _ | refine Blk.drew ?_ | refine Blk.alloc ?_ _ | refine Blk.far ?_ (by first | omega | (simp; done) | (simp; omega)) _)))
    have K3_4 := Lib.hid (step_blk hb (show Blk _ (w2.heap.size) 23 #[.int .i64 (a), .int .i64 (b)] by repeat' (first | assumption | exact K0_3.out | exact K1_3.out | exact K2_3.out | exact K3_3.out | exact Blk.at_ _ (by first | rfl | (simp; done) | (simp; omega)) _ _ | refine Blk.drewN ?_ _ | refine Blk.drew ?_ | refine Blk.alloc ?_ _ | refine Blk.far ?_ (by first | omega | (simp; done) | (simp; omega)) _)))
    have hz4 := hb.size
    try simp only [World.size_alloc, World.drewN, World.drew] at hz4
    clear hb K0_3 K1_3 K2_3 K3_3 z0_0_3 z0_1_3 l0_3 z1_0_3 z1_1_3 l1_3 z2_0_3 z2_1_3 l2_3 z3_0_3 z3_1_3 l3_3
    have l0_4 : w.heap.size < w4.heap.size := K0_4.out.lt
    have z0_0_4 : w4.cell? ⟨w.heap.size, 0, none⟩ = some (.int .i64 (rn)) := K0_4.out.cell 0
    have z0_1_4 : w4.cell? ⟨w.heap.size, 1, none⟩ = some (.int .i64 (rd)) := K0_4.out.cell 1
    have l1_4 : w.heap.size + 1 < w4.heap.size := K1_4.out.lt
    have z1_0_4 : w4.cell? ⟨w.heap.size + 1, 0, none⟩ = some (.int .i64 (lo)) := K1_4.out.cell 0
    have z1_1_4 : w4.cell? ⟨w.heap.size + 1, 1, none⟩ = some (.int .i64 (hi)) := K1_4.out.cell 1
    have l2_4 : w.heap.size + 2 < w4.heap.size := K2_4.out.lt
    have z2_0_4 : w4.cell? ⟨w.heap.size + 2, 0, none⟩ = some (.int .i64 (gd)) := K2_4.out.cell 0
    have z2_1_4 : w4.cell? ⟨w.heap.size + 2, 1, none⟩ = some (.int .i64 (gv)) := K2_4.out.cell 1
    have l3_4 : w2.heap.size < w4.heap.size := K3_4.out.lt
    have z3_0_4 : w4.cell? ⟨w2.heap.size, 0, none⟩ = some (.int .i64 (a)) := K3_4.out.cell 0
    have z3_1_4 : w4.cell? ⟨w2.heap.size, 1, none⟩ = some (.int .i64 (b)) := K3_4.out.cell 1
    go_wp2
    go_ret
    exact ⟨rfl, by repeat' (first | exact Below.refl _ _ | exact HB4.out | assumption | refine below_drewN ?_ _ | refine Below.drew ?_ | refine Below.alloc ?_ (by first | omega | (simp; done) | (simp; omega) | (simp [World.setCell]; omega)) _ | refine Below.setCell ?_ (by first | omega | (simp; done) | (simp; omega)) _)⟩
  · have e0 : (E != 0) = true := by simp [h0]
    have hC2 : ckBest rn rd lo hi gd gv = ((0, 0), E) := by unfold ckBest; rw [hE, if_pos h0]
    have HW := Lib.hid hw
    have HC2 := Lib.hid hC2
    clear hw hE hC2
    go_enter Try.func6, Try.ntmps6
    go_wp2_with fail
    refine (awake_any _).mono ?_
    rintro e w1 ⟨rfl, hb⟩
    have HB1 := Lib.hid (show Below w.heap.size w w1 from step_below hb (by repeat' (first | exact Below.refl _ _ | exact HB0.out | assumption | refine below_drewN ?_ _ | refine Below.drew ?_ | refine Below.alloc ?_ (by first | omega | (simp; done) | (simp; omega) | (simp [World.setCell]; omega)) _ | refine Below.setCell ?_ (by first | omega | (simp; done) | (simp; omega)) _)))
    have K0_1 := Lib.hid (step_blk hb (show Blk _ (w.heap.size) 23 #[.int .i64 (rn), .int .i64 (rd)] by repeat' (first | assumption | exact Blk.at_ _ (by first | rfl | (simp; done) | (simp; omega)) _ _ | refine Blk.drewN ?_ _ | refine Blk.drew ?_ | refine Blk.alloc ?_ _ | refine Blk.far ?_ (by first | omega | (simp; done) | (simp; omega)) _)))
    have K1_1 := Lib.hid (step_blk hb (show Blk _ (w.heap.size + 1) 51 #[.int .i64 (lo), .int .i64 (hi)] by repeat' (first | assumption | exact Blk.at_ _ (by first | rfl | (simp; done) | (simp; omega)) _ _ | refine Blk.drewN ?_ _ | refine Blk.drew ?_ | refine Blk.alloc ?_ _ | refine Blk.far ?_ (by first | omega | (simp; done) | (simp; omega)) _)))
    have K2_1 := Lib.hid (step_blk hb (show Blk _ (w.heap.size + 2) 45 #[.int .i64 (gd), .int .i64 (gv)] by repeat' (first | assumption | exact Blk.at_ _ (by first | rfl | (simp; done) | (simp; omega)) _ _ | refine Blk.drewN ?_ _ | refine Blk.drew ?_ | refine Blk.alloc ?_ _ | refine Blk.far ?_ (by first | omega | (simp; done) | (simp; omega)) _)))
    have hz1 := hb.size
    try simp only [World.size_alloc, World.drewN, World.drew] at hz1
    clear hb
    have l0_1 : w.heap.size < w1.heap.size := K0_1.out.lt
    have z0_0_1 : w1.cell? ⟨w.heap.size, 0, none⟩ = some (.int .i64 (rn)) := K0_1.out.cell 0
    have z0_1_1 : w1.cell? ⟨w.heap.size, 1, none⟩ = some (.int .i64 (rd)) := K0_1.out.cell 1
    have l1_1 : w.heap.size + 1 < w1.heap.size := K1_1.out.lt
    have z1_0_1 : w1.cell? ⟨w.heap.size + 1, 0, none⟩ = some (.int .i64 (lo)) := K1_1.out.cell 0
    have z1_1_1 : w1.cell? ⟨w.heap.size + 1, 1, none⟩ = some (.int .i64 (hi)) := K1_1.out.cell 1
    have l2_1 : w.heap.size + 2 < w1.heap.size := K2_1.out.lt
    have z2_0_1 : w1.cell? ⟨w.heap.size + 2, 0, none⟩ = some (.int .i64 (gd)) := K2_1.out.cell 0
    have z2_1_1 : w1.cell? ⟨w.heap.size + 2, 1, none⟩ = some (.int .i64 (gv)) := K2_1.out.cell 1
    go_wp2_with fail
    refine (withinref_is _ _ _ _ HW.out _).mono ?_
    rintro e w' ⟨rfl, rfl⟩
    go_wp2_with fail
    refine (ckbest_is _ _ _ _ _ _ _ _ _ HC2.out _ h1 h2 h3 h4).mono ?_
    rintro e w2 ⟨rfl, hb⟩
    have HB2 := Lib.hid (show Below w.heap.size w w2 from step_below hb (by repeat' (first | exact Below.refl _ _ | exact HB1.out | assumption | refine below_drewN ?_ _ | refine Below.drew ?_ | refine Below.alloc ?_ (by first | omega | (simp; done) | (simp; omega) | (simp [World.setCell]; omega)) _ | refine Below.setCell ?_ (by first | omega | (simp; done) | (simp; omega)) _)))
    have K0_2 := Lib.hid (step_blk hb (show Blk _ (w.heap.size) 23 #[.int .i64 (rn), .int .i64 (rd)] by repeat' (first | assumption | exact K0_1.out | exact K1_1.out | exact K2_1.out | exact Blk.at_ _ (by first | rfl | (simp; done) | (simp; omega)) _ _ | refine Blk.drewN ?_ _ | refine Blk.drew ?_ | refine Blk.alloc ?_ _ | refine Blk.far ?_ (by first | omega | (simp; done) | (simp; omega)) _)))
    have K1_2 := Lib.hid (step_blk hb (show Blk _ (w.heap.size + 1) 51 #[.int .i64 (lo), .int .i64 (hi)] by repeat' (first | assumption | exact K0_1.out | exact K1_1.out | exact K2_1.out | exact Blk.at_ _ (by first | rfl | (simp; done) | (simp; omega)) _ _ | refine Blk.drewN ?_ _ | refine Blk.drew ?_ | refine Blk.alloc ?_ _ | refine Blk.far ?_ (by first | omega | (simp; done) | (simp; omega)) _)))
    have K2_2 := Lib.hid (step_blk hb (show Blk _ (w.heap.size + 2) 45 #[.int .i64 (gd), .int .i64 (gv)] by repeat' (first | assumption | exact K0_1.out | exact K1_1.out | exact K2_1.out | exact Blk.at_ _ (by first | rfl | (simp; done) | (simp; omega)) _ _ | refine Blk.drewN ?_ _ | refine Blk.drew ?_ | refine Blk.alloc ?_ _ | refine Blk.far ?_ (by first | omega | (simp; done) | (simp; omega)) _)))
    have hz2 := hb.size
    try simp only [World.size_alloc, World.drewN, World.drew] at hz2
    clear hb K0_1 K1_1 K2_1 z0_0_1 z0_1_1 l0_1 z1_0_1 z1_1_1 l1_1 z2_0_1 z2_1_1 l2_1
    have l0_2 : w.heap.size < w2.heap.size := K0_2.out.lt
    have z0_0_2 : w2.cell? ⟨w.heap.size, 0, none⟩ = some (.int .i64 (rn)) := K0_2.out.cell 0
    have z0_1_2 : w2.cell? ⟨w.heap.size, 1, none⟩ = some (.int .i64 (rd)) := K0_2.out.cell 1
    have l1_2 : w.heap.size + 1 < w2.heap.size := K1_2.out.lt
    have z1_0_2 : w2.cell? ⟨w.heap.size + 1, 0, none⟩ = some (.int .i64 (lo)) := K1_2.out.cell 0
    have z1_1_2 : w2.cell? ⟨w.heap.size + 1, 1, none⟩ = some (.int .i64 (hi)) := K1_2.out.cell 1
    have l2_2 : w.heap.size + 2 < w2.heap.size := K2_2.out.lt
    have z2_0_2 : w2.cell? ⟨w.heap.size + 2, 0, none⟩ = some (.int .i64 (gd)) := K2_2.out.cell 0
    have z2_1_2 : w2.cell? ⟨w.heap.size + 2, 1, none⟩ = some (.int .i64 (gv)) := K2_2.out.cell 1
    go_wp2_with fail
    refine (checksearch_is _ _ _ _ _ HE.out _ h1 h2 h3 h4).mono ?_
    rintro e w3 ⟨rfl, hb⟩
    have HB3 := Lib.hid (show Below w.heap.size w w3 from step_below hb (by repeat' (first | exact Below.refl _ _ | exact HB2.out | assumption | refine below_drewN ?_ _ | refine Below.drew ?_ | refine Below.alloc ?_ (by first | omega | (simp; done) | (simp; omega) | (simp [World.setCell]; omega)) _ | refine Below.setCell ?_ (by first | omega | (simp; done) | (simp; omega)) _)))
    have K0_3 := Lib.hid (step_blk hb (show Blk _ (w.heap.size) 23 #[.int .i64 (rn), .int .i64 (rd)] by repeat' (first | assumption | exact K0_2.out | exact K1_2.out | exact K2_2.out | exact Blk.at_ _ (by first | rfl | (simp; done) | (simp; omega)) _ _ | refine Blk.drewN ?_ _ | refine Blk.drew ?_ | refine Blk.alloc ?_ _ | refine Blk.far ?_ (by first | omega | (simp; done) | (simp; omega)) _)))
    have K1_3 := Lib.hid (step_blk hb (show Blk _ (w.heap.size + 1) 51 #[.int .i64 (lo), .int .i64 (hi)] by repeat' (first | assumption | exact K0_2.out | exact K1_2.out | exact K2_2.out | exact Blk.at_ _ (by first | rfl | (simp; done) | (simp; omega)) _ _ | refine Blk.drewN ?_ _ | refine Blk.drew ?_ | refine Blk.alloc ?_ _ | refine Blk.far ?_ (by first | omega | (simp; done) | (simp; omega)) _)))
    have K2_3 := Lib.hid (step_blk hb (show Blk _ (w.heap.size + 2) 45 #[.int .i64 (gd), .int .i64 (gv)] by repeat' (first | assumption | exact K0_2.out | exact K1_2.out | exact K2_2.out | exact Blk.at_ _ (by first | rfl | (simp; done) | (simp; omega)) _ _ | refine Blk.drewN ?_ _ | refine Blk.drew ?_ | refine Blk.alloc ?_ _ | refine Blk.far ?_ (by first | omega | (simp; done) | (simp; omega)) _)))
    have K3_3 := Lib.hid (step_blk hb (show Blk _ (w2.heap.size) 23 #[.int .i64 (0), .int .i64 (0)] by repeat' (first | assumption | exact K0_2.out | exact K1_2.out | exact K2_2.out | exact Blk.at_ _ (by first | rfl | (simp; done) | (simp; omega)) _ _ | refine Blk.drewN ?_ _ | refine Blk.drew ?_ | refine Blk.alloc ?_ _ | refine Blk.far ?_ (by first | omega | (simp; done) | (simp; omega)) _)))
    have hz3 := hb.size
    try simp only [World.size_alloc, World.drewN, World.drew] at hz3
    clear hb K0_2 K1_2 K2_2 z0_0_2 z0_1_2 l0_2 z1_0_2 z1_1_2 l1_2 z2_0_2 z2_1_2 l2_2
    have l0_3 : w.heap.size < w3.heap.size := K0_3.out.lt
    have z0_0_3 : w3.cell? ⟨w.heap.size, 0, none⟩ = some (.int .i64 (rn)) := K0_3.out.cell 0
    have z0_1_3 : w3.cell? ⟨w.heap.size, 1, none⟩ = some (.int .i64 (rd)) := K0_3.out.cell 1
    have l1_3 : w.heap.size + 1 < w3.heap.size := K1_3.out.lt
    have z1_0_3 : w3.cell? ⟨w.heap.size + 1, 0, none⟩ = some (.int .i64 (lo)) := K1_3.out.cell 0
    have z1_1_3 : w3.cell? ⟨w.heap.size + 1, 1, none⟩ = some (.int .i64 (hi)) := K1_3.out.cell 1
    have l2_3 : w.heap.size + 2 < w3.heap.size := K2_3.out.lt
    have z2_0_3 : w3.cell? ⟨w.heap.size + 2, 0, none⟩ = some (.int .i64 (gd)) := K2_3.out.cell 0
    have z2_1_3 : w3.cell? ⟨w.heap.size + 2, 1, none⟩ = some (.int .i64 (gv)) := K2_3.out.cell 1
    have l3_3 : w2.heap.size < w3.heap.size := K3_3.out.lt
    have z3_0_3 : w3.cell? ⟨w2.heap.size, 0, none⟩ = some (.int .i64 (0)) := K3_3.out.cell 0
    have z3_1_3 : w3.cell? ⟨w2.heap.size, 1, none⟩ = some (.int .i64 (0)) := K3_3.out.cell 1
    go_wp2
    go_ret
    exact ⟨rfl, by repeat' (first | exact Below.refl _ _ | exact HB3.out | assumption | refine below_drewN ?_ _ | refine Below.drew ?_ | refine Below.alloc ?_ (by first | omega | (simp; done) | (simp; omega) | (simp [World.setCell]; omega)) _ | refine Below.setCell ?_ (by first | omega | (simp; done) | (simp; omega)) _)⟩

end Go.Proofs.Ytmioamcgbihhjaa
