/- The walk of the statement on the best pair of gears. -/
import Derived.Test.YtmioamcgbihhjaaLaw6
namespace Go.Proofs.Ytmioamcgbihhjaa
open Go.RowKit

theorem bestpair_bad (rn rd lo hi E : Int) (hE : searchErr rn rd lo hi = E) (h0 : E ≠ 0) (w : World) (h1 : -9223372036854775808 ≤ rn) (h2 : rn ≤ 9223372036854775807) (h3 : -9223372036854775808 ≤ rd) (h4 : rd ≤ 9223372036854775807) :
    Calls Try.prog 32 #[.agg #[.int .i64 rn, .int .i64 rd], .int .i64 lo, .int .i64 hi] w fun e w' => e = .returned (.tuple #[.agg #[.int .i64 0, .int .i64 0], .int .i64 E]) ∧ Below w.heap.size w w' :=
  (bestpair_any rn rd lo hi w h1 h2 h3 h4).mono fun e w' ⟨hb, h, _⟩ => ⟨hE ▸ h (hE ▸ h0), hb⟩
theorem bestpair_ok (rn rd lo hi : Int) (P : Int × Int) (hE : searchErr rn rd lo hi = 0) (hP : bestP rn rd lo hi = P) (w : World) (h1 : -9223372036854775808 ≤ rn) (h2 : rn ≤ 9223372036854775807) (h3 : -9223372036854775808 ≤ rd) (h4 : rd ≤ 9223372036854775807) :
    Calls Try.prog 32 #[.agg #[.int .i64 rn, .int .i64 rd], .int .i64 lo, .int .i64 hi] w fun e w' => e = .returned (.tuple #[.agg #[.int .i64 P.1, .int .i64 P.2], .int .i64 0]) ∧ Below w.heap.size w w' :=
  (bestpair_any rn rd lo hi w h1 h2 h3 h4).mono fun e w' ⟨hb, _, h⟩ => ⟨hP ▸ h hE, hb⟩

theorem nearB_irr (rn rd : Int) (g : Int × Int) : nearB rn rd g g = false := by
  unfold nearB
  rw [decide_eq_false_iff_not]
  omega

/-- A best pair is accepted, but for a fraction that is not small. -/
theorem ckBest_best {rn rd lo hi p1 p2 : Int} (hE : searchErr rn rd lo hi = 0) (l1 : 1 ≤ lo) (l2 : lo ≤ hi) (hP : bestP rn rd lo hi = (p1, p2)) : (ckBest rn rd lo hi p1 p2).2 = 0 ∨ (ckBest rn rd lo hi p1 p2).2 = 8 := by
  obtain ⟨hbox, -⟩ := best_least (rn := rn) (rd := rd) l1 l2
  rw [hP] at hbox
  obtain ⟨b1, b2, b3, b4⟩ := hbox
  simp only at b1 b2 b3 b4
  unfold ckBest
  rw [hE, if_neg (by simp)]
  unfold ckIn
  rw [if_neg (by rw [(withinB_iff _ _ _).2 ⟨b1, b2⟩, (withinB_iff _ _ _).2 ⟨b3, b4⟩]; simp), hP, nearB_irr, if_neg (by simp)]
  split
  · exact .inr rfl
  · exact .inl rfl

set_option maxRecDepth 100000 in
set_option maxHeartbeats 2000000 in
theorem law5_any (rn rd lo hi gd gv : Int) (w : World) (h1 : -9223372036854775808 ≤ rn) (h2 : rn ≤ 9223372036854775807) (h3 : -9223372036854775808 ≤ rd) (h4 : rd ≤ 9223372036854775807) (_ : -9223372036854775808 ≤ lo) (_ : lo ≤ 9223372036854775807) (_ : -9223372036854775808 ≤ hi) (_ : hi ≤ 9223372036854775807) (_ : -9223372036854775808 ≤ gd) (_ : gd ≤ 9223372036854775807) (_ : -9223372036854775808 ≤ gv) (_ : gv ≤ 9223372036854775807) :
    Calls Try.prog 5 #[.agg #[.int .i64 rn, .int .i64 rd], .agg #[.int .i64 lo, .int .i64 hi], .agg #[.int .i64 gd, .int .i64 gv]] w fun e w' => e = .returned (.bool true) ∧ Below w.heap.size w w' := by
  cases hw : withinB hi 61 500
  rotate_left
  · have HW := Lib.hid hw
    clear hw
    go_enter Try.func5, Try.ntmps5
    go_wp2_with fail
    refine (awake_any _).mono ?_
    rintro e w1 ⟨rfl, hb⟩
    have HB1 := Lib.hid (show Below w.heap.size w w1 from step_below hb (by repeat' (first | exact Below.refl _ _ | exact HB0.out | assumption | refine below_drewN ?_ _ | refine Below.drew ?_ | refine Below.alloc ?_ (by first | omega | (simp; done) | (simp; omega) | (simp [World.setCell]; omega)) _ | refine Below.setCell ?_ (by first | omega | (simp; done) | (simp; omega)) _)))
    have K0_1 := Lib.hid (step_blk hb (show Blk _ (w.heap.size) 23 #[.int .i64 (rn), .int .i64 (rd)] by repeat' (first | assumption | exact Blk.at_ _ (by first | rfl | (simp; done) | (simp; omega)) _ _ | refine Blk.drewN ?_ _ | refine Blk.drew ?_ | refine Blk.alloc ?_ _ | refine Blk.far ?_ (by first | omega | (simp; done) | (simp; omega)) _)))
    have K1_1 := Lib.hid (step_blk hb (show Blk _ (w.heap.size + 1) 51 #[.int .i64 (lo), .int .i64 (hi)] by repeat' (first | assumption | exact Blk.at_ _ (by first | rfl | (simp; done) | (simp; omega)) _ _ | refine Blk.drewN ?_ _ | refine Blk.drew ?_ | refine Blk.alloc ?_ _ | refine Blk.far ?_ (by first | omega | (simp; done) | (simp; omega)) _)))
    have K2_1 := Lib.hid (step_blk hb (show Blk _ (w.heap.size + 2) 45 #[.int .i64 (gd), .int .i64 (gv)] by repeat' (first | assumption | exact Blk.at_ _ (by first | rfl | (simp; done) | (simp; omega)) _ _ | refine Blk.drewN ?_ _ | refine Blk.drew ?_ | refine Blk.alloc ?_ _ | refine Blk.far ?_ (by first | omega | (simp; done) | (simp; omega)) _)))
    have hz1 := hb.size
    try simp only [World.size_alloc, World.drewN, World.drew] at hz1
    clear hb
    have l0_1 : w.heap.size < w1.heap.size := K0_1.out.lt
    have z0_0_1 : w1.cell? ⟨w.heap.size, 0, none⟩ = some (.int .i64 (rn)) := K0_1.out.cell 0
    have z0_1_1 : w1.cell? ⟨w.heap.size, 1, none⟩ = some (.int .i64 (rd)) := K0_1.out.cell 1
    have l1_1 : w.heap.size + 1 < w1.heap.size := K1_1.out.lt
    have z1_0_1 : w1.cell? ⟨w.heap.size + 1, 0, none⟩ = some (.int .i64 (lo)) := K1_1.out.cell 0
    have z1_1_1 : w1.cell? ⟨w.heap.size + 1, 1, none⟩ = some (.int .i64 (hi)) := K1_1.out.cell 1
    have l2_1 : w.heap.size + 2 < w1.heap.size := K2_1.out.lt
    have z2_0_1 : w1.cell? ⟨w.heap.size + 2, 0, none⟩ = some (.int .i64 (gd)) := K2_1.out.cell 0
    have z2_1_1 : w1.cell? ⟨w.heap.size + 2, 1, none⟩ = some (.int .i64 (gv)) := K2_1.out.cell 1
    go_wp2_with (go_at_call 31; refine (withinref_is _ _ _ _ HW.out _).mono ?_; rintro e w' ⟨rfl, rfl⟩)
    go_ret
    exact ⟨rfl, by repeat' (first | exact Below.refl _ _ | exact HB1.out | assumption | refine below_drewN ?_ _ | refine Below.drew ?_ | refine Below.alloc ?_ (by first | omega | (simp; done) | (simp; omega) | (simp [World.setCell]; omega)) _ | refine Below.setCell ?_ (by first | omega | (simp; done) | (simp; omega)) _)⟩
  obtain ⟨E, hE⟩ : ∃ E, searchErr rn rd lo hi = E := ⟨_, rfl⟩
  have HE := Lib.hid hE
  by_cases h0 : E = 0
  rotate_left
  · have e0 : (E != 0) = true := by simp [h0]
    have HN0 := Lib.hid h0
    have HW := Lib.hid hw
    clear hw hE h0
    go_enter Try.func5, Try.ntmps5
    go_wp2_with fail
    refine (awake_any _).mono ?_
    rintro e w1 ⟨rfl, hb⟩
    have HB1 := Lib.hid (show Below w.heap.size w w1 from step_below hb (by repeat' (first | exact Below.refl _ _ | exact HB0.out | assumption | refine below_drewN ?_ _ | refine Below.drew ?_ | refine Below.alloc ?_ (by first | omega | (simp; done) | (simp; omega) | (simp [World.setCell]; omega)) _ | refine Below.setCell ?_ (by first | omega | (simp; done) | (simp; omega)) _)))
    have K0_1 := Lib.hid (step_blk hb (show Blk _ (w.heap.size) 23 #[.int .i64 (rn), .int .i64 (rd)] by repeat' (first | assumption | exact Blk.at_ _ (by first | rfl | (simp; done) | (simp; omega)) _ _ | refine Blk.drewN ?_ _ | refine Blk.drew ?_ | refine Blk.alloc ?_ _ | refine Blk.far ?_ (by first | omega | (simp; done) | (simp; omega)) _)))
    have K1_1 := Lib.hid (step_blk hb (show Blk _ (w.heap.size + 1) 51 #[.int .i64 (lo), .int .i64 (hi)] by repeat' (first | assumption | exact Blk.at_ _ (by first | rfl | (simp; done) | (simp; omega)) _ _ | refine Blk.drewN ?_ _ | refine Blk.drew ?_ | refine Blk.alloc ?_ _ | refine Blk.far ?_ (by first | omega | (simp; done) | (simp; omega)) _)))
    have K2_1 := Lib.hid (step_blk hb (show Blk _ (w.heap.size + 2) 45 #[.int .i64 (gd), .int .i64 (gv)] by repeat' (first | assumption | exact Blk.at_ _ (by first | rfl | (simp; done) | (simp; omega)) _ _ | refine Blk.drewN ?_ _ | refine Blk.drew ?_ | refine Blk.alloc ?_ _ | refine Blk.far ?_ (by first | omega | (simp; done) | (simp; omega)) _)))
    have hz1 := hb.size
    try simp only [World.size_alloc, World.drewN, World.drew] at hz1
    clear hb
    have l0_1 : w.heap.size < w1.heap.size := K0_1.out.lt
    have z0_0_1 : w1.cell? ⟨w.heap.size, 0, none⟩ = some (.int .i64 (rn)) := K0_1.out.cell 0
    have z0_1_1 : w1.cell? ⟨w.heap.size, 1, none⟩ = some (.int .i64 (rd)) := K0_1.out.cell 1
    have l1_1 : w.heap.size + 1 < w1.heap.size := K1_1.out.lt
    have z1_0_1 : w1.cell? ⟨w.heap.size + 1, 0, none⟩ = some (.int .i64 (lo)) := K1_1.out.cell 0
    have z1_1_1 : w1.cell? ⟨w.heap.size + 1, 1, none⟩ = some (.int .i64 (hi)) := K1_1.out.cell 1
    have l2_1 : w.heap.size + 2 < w1.heap.size := K2_1.out.lt
    have z2_0_1 : w1.cell? ⟨w.heap.size + 2, 0, none⟩ = some (.int .i64 (gd)) := K2_1.out.cell 0
    have z2_1_1 : w1.cell? ⟨w.heap.size + 2, 1, none⟩ = some (.int .i64 (gv)) := K2_1.out.cell 1
    go_wp2_with fail
    refine (withinref_is _ _ _ _ HW.out _).mono ?_
    rintro e w' ⟨rfl, rfl⟩
    go_wp2_with fail
    refine (bestpair_bad _ _ _ _ _ HE.out HN0.out _ h1 h2 h3 h4).mono ?_
    rintro e w2 ⟨rfl, hb⟩
    have HB2 := Lib.hid (show Below w.heap.size w w2 from step_below hb (by repeat' (first | exact Below.refl _ _ | exact HB1.out | assumption | refine below_drewN ?_ _ | refine Below.drew ?_ | refine Below.alloc ?_ (by first | omega | (simp; done) | (simp; omega) | (simp [World.setCell]; omega)) _ | refine Below.setCell ?_ (by first | omega | (simp; done) | (simp; omega)) _)))
    have K0_2 := Lib.hid (step_blk hb (show Blk _ (w.heap.size) 23 #[.int .i64 (rn), .int .i64 (rd)] by repeat' (first | assumption | exact K0_1.out | exact K1_1.out | exact K2_1.out | exact Blk.at_ _ (by first | rfl | (simp; done) | (simp; omega)) _ _ | refine Blk.drewN ?_ _ | refine Blk.drew ?_ | refine Blk.alloc ?_ _ | refine Blk.far ?_ (by first | omega | (simp; done) | (simp; omega)) _)))
    have K1_2 := Lib.hid (step_blk hb (show Blk _ (w.heap.size + 1) 51 #[.int .i64 (lo), .int .i64 (hi)] by repeat' (first | assumption | exact K0_1.out | exact K1_1.out | exact K2_1.out | exact Blk.at_ _ (by first | rfl | (simp; done) | (simp; omega)) _ _ | refine Blk.drewN ?_ _ | refine Blk.drew ?_ | refine Blk.alloc ?_ _ | refine Blk.far ?_ (by first | omega | (simp; done) | (simp; omega)) _)))
    have K2_2 := Lib.hid (step_blk hb (show Blk _ (w.heap.size + 2) 45 #[.int .i64 (gd), .int .i64 (gv)] by repeat' (first | assumption | exact K0_1.out | exact K1_1.out | exact K2_1.out | exact Blk.at_ _ (by first | rfl | (simp; done) | (simp; omega)) _ _ | refine Blk.drewN ?_ _ | refine Blk.drew ?_ | refine Blk.alloc ?_ _ | refine Blk.far ?_ (by first | omega | (simp; done) | (simp; omega)) _)))
    have hz2 := hb.size
    try simp only [World.size_alloc, World.drewN, World.drew] at hz2
    clear hb K0_1 K1_1 K2_1 z0_0_1 z0_1_1 l0_1 z1_0_1 z1_1_1 l1_1 z2_0_1 z2_1_1 l2_1
    have l0_2 : w.heap.size < w2.heap.size := K0_2.out.lt
    have z0_0_2 : w2.cell? ⟨w.heap.size, 0, none⟩ = some (.int .i64 (rn)) := K0_2.out.cell 0
    have z0_1_2 : w2.cell? ⟨w.heap.size, 1, none⟩ = some (.int .i64 (rd)) := K0_2.out.cell 1
    have l1_2 : w.heap.size + 1 < w2.heap.size := K1_2.out.lt
    have z1_0_2 : w2.cell? ⟨w.heap.size + 1, 0, none⟩ = some (.int .i64 (lo)) := K1_2.out.cell 0
    have z1_1_2 : w2.cell? ⟨w.heap.size + 1, 1, none⟩ = some (.int .i64 (hi)) := K1_2.out.cell 1
    have l2_2 : w.heap.size + 2 < w2.heap.size := K2_2.out.lt
    have z2_0_2 : w2.cell? ⟨w.heap.size + 2, 0, none⟩ = some (.int .i64 (gd)) := K2_2.out.cell 0
    have z2_1_2 : w2.cell? ⟨w.heap.size + 2, 1, none⟩ = some (.int .i64 (gv)) := K2_2.out.cell 1
    go_wp2_with fail
    refine (checksearch_is _ _ _ _ _ HE.out _ h1 h2 h3 h4).mono ?_
    rintro e w3 ⟨rfl, hb⟩
    have HB3 := Lib.hid (show Below w.heap.size w w3 from step_below hb (by repeat' (first | exact Below.refl _ _ | exact HB2.out | assumption | refine below_drewN ?_ _ | refine Below.drew ?_ | refine Below.alloc ?_ (by first | omega | (simp; done) | (simp; omega) | (simp [World.setCell]; omega)) _ | refine Below.setCell ?_ (by first | omega | (simp; done) | (simp; omega)) _)))
    have K0_3 := Lib.hid (step_blk hb (show Blk _ (w.heap.size) 23 #[.int .i64 (rn), .int .i64 (rd)] by repeat' (first | assumption | exact K0_2.out | exact K1_2.out | exact K2_2.out | exact Blk.at_ _ (by first | rfl | (simp; done) | (simp; omega)) _ _ | refine Blk.drewN ?_ _ | refine Blk.drew ?_ | refine Blk.alloc ?_ _ | refine Blk.far ?_ (by first | omega | (simp; done) | (simp; omega)) _)))
    have K1_3 := Lib.hid (step_blk hb (show Blk _ (w.heap.size + 1) 51 #[.int .i64 (lo), .int .i64 (hi)] by repeat' (first | assumption | exact K0_2.out | exact K1_2.out | exact K2_2.out | exact Blk.at_ _ (by first | rfl | (simp; done) | (simp; omega)) _ _ | refine Blk.drewN ?_ _ | refine Blk.drew ?_ | refine Blk.alloc ?_ _ | refine Blk.far ?_ (by first | omega | (simp; done) | (simp; omega)) _)))
    have K2_3 := Lib.hid (step_blk hb (show Blk _ (w.heap.size + 2) 45 #[.int .i64 (gd), .int .i64 (gv)] by repeat' (first | assumption | exact K0_2.out | exact K1_2.out | exact K2_2.out | exact Blk.at_ _ (by first | rfl | (simp; done) | (simp; omega)) _ _ | refine Blk.drewN ?_ _ | refine Blk.drew ?_ | refine Blk.alloc ?_ _ | refine Blk.far ?_ (by first | omega | (simp; done) | (simp; omega)) _)))
    have K3_3 := Lib.hid (step_blk hb (show Blk _ (w2.heap.size) 45 #[.int .i64 (0), .int .i64 (0)] by repeat' (first | assumption | exact K0_2.out | exact K1_2.out | exact K2_2.out | exact Blk.at_ _ (by first | rfl | (simp; done) | (simp; omega)) _ _ | refine Blk.drewN ?_ _ | refine Blk.drew ?_ | refine Blk.alloc ?_ _ | refine Blk.far ?_ (by first | omega | (simp; done) | (simp; omega)) _)))
    have hz3 := hb.size
    try simp only [World.size_alloc, World.drewN, World.drew] at hz3
    clear hb K0_2 K1_2 K2_2 z0_0_2 z0_1_2 l0_2 z1_0_2 z1_1_2 l1_2 z2_0_2 z2_1_2 l2_2
    have l0_3 : w.heap.size < w3.heap.size := K0_3.out.lt
    have z0_0_3 : w3.cell? ⟨w.heap.size, 0, none⟩ = some (.int .i64 (rn)) := K0_3.out.cell 0
    have z0_1_3 : w3.cell? ⟨w.heap.size, 1, none⟩ = some (.int .i64 (rd)) := K0_3.out.cell 1
    have l1_3 : w.heap.size + 1 < w3.heap.size := K1_3.out.lt
    have z1_0_3 : w3.cell? ⟨w.heap.size + 1, 0, none⟩ = some (.int .i64 (lo)) := K1_3.out.cell 0
    have z1_1_3 : w3.cell? ⟨w.heap.size + 1, 1, none⟩ = some (.int .i64 (hi)) := K1_3.out.cell 1
    have l2_3 : w.heap.size + 2 < w3.heap.size := K2_3.out.lt
    have z2_0_3 : w3.cell? ⟨w.heap.size + 2, 0, none⟩ = some (.int .i64 (gd)) := K2_3.out.cell 0
    have z2_1_3 : w3.cell? ⟨w.heap.size + 2, 1, none⟩ = some (.int .i64 (gv)) := K2_3.out.cell 1
    have l3_3 : w2.heap.size < w3.heap.size := K3_3.out.lt
    have z3_0_3 : w3.cell? ⟨w2.heap.size, 0, none⟩ = some (.int .i64 (0)) := K3_3.out.cell 0
    have z3_1_3 : w3.cell? ⟨w2.heap.size, 1, none⟩ = some (.int .i64 (0)) := K3_3.out.cell 1
    go_wp2
    go_ret
    exact ⟨rfl, by repeat' (first | exact Below.refl _ _ | exact HB3.out | assumption | refine below_drewN ?_ _ | refine Below.drew ?_ | refine Below.alloc ?_ (by first | omega | (simp; done) | (simp; omega) | (simp [World.setCell]; omega)) _ | refine Below.setCell ?_ (by first | omega | (simp; done) | (simp; omega)) _)⟩
  subst h0
  obtain ⟨-, r1, r2, r3, r4, l1, l2, l3⟩ := searchErr_ok hE
  obtain ⟨P, hP⟩ : ∃ P, bestP rn rd lo hi = P := ⟨_, rfl⟩
  obtain ⟨p1, p2⟩ := P
  obtain ⟨hbox, hleast⟩ := best_least (rn := rn) (rd := rd) l1 l2
  rw [hP] at hbox
  obtain ⟨b1, b2, b3, b4⟩ := hbox
  simp only at b1 b2 b3 b4
  obtain ⟨C, hC⟩ : ∃ C, ckBest rn rd lo hi p1 p2 = C := ⟨_, rfl⟩
  have hC2 := ckBest_best hE l1 l2 hP
  rw [hC] at hC2
  obtain ⟨⟨a, b⟩, c⟩ := C
  simp only at hC2
  have HC := Lib.hid hC
  have HC2 := Lib.hid hC2
  have HW := Lib.hid hw
  have HP := Lib.hid hP
  have HNN : Hid (∀ g : Int × Int, Box lo hi g → nearB rn rd g (p1, p2) = false) := fun g hg => hP ▸ not_near_best l1 l2 g hg
  clear hw hE hC hC2 hP hleast
  go_enter Try.func5, Try.ntmps5
  go_wp2_with fail
  refine (awake_any _).mono ?_
  rintro e w1 ⟨rfl, hb⟩
  have HB1 := Lib.hid (show Below w.heap.size w w1 from step_below hb (by repeat' (first | exact Below.refl _ _ | exact HB0.out | assumption | refine below_drewN ?_ _ | refine Below.drew ?_ | refine Below.alloc ?_ (by first | omega | (simp; done) | (simp; omega) | (simp [World.setCell]; omega)) _ | refine Below.setCell ?_ (by first | omega | (simp; done) | (simp; omega)) _)))
  have K0_1 := Lib.hid (step_blk hb (show Blk _ (w.heap.size) 23 #[.int .i64 (rn), .int .i64 (rd)] by repeat' (first | assumption | exact Blk.at_ _ (by first | rfl | (simp; done) | (simp; omega)) _ _ | refine Blk.drewN ?_ _ | refine Blk.drew ?_ | refine Blk.alloc ?_ _ | refine Blk.far ?_ (by first | omega | (simp; done) | (simp; omega)) _)))
  have K1_1 := Lib.hid (step_blk hb (show Blk _ (w.heap.size + 1) 51 #[.int .i64 (lo), .int .i64 (hi)] by repeat' (first | assumption | exact Blk.at_ _ (by first | rfl | (simp; done) | (simp; omega)) _ _ | refine Blk.drewN ?_ _ | refine Blk.drew ?_ | refine Blk.alloc ?_ _ | refine Blk.far ?_ (by first | omega | (simp; done) | (simp; omega)) _)))
  have K2_1 := Lib.hid (step_blk hb (show Blk _ (w.heap.size + 2) 45 #[.int .i64 (gd), .int .i64 (gv)] by repeat' (first | assumption | exact Blk.at_ _ (by first | rfl | (simp; done) | (simp; omega)) _ _ | refine Blk.drewN ?_ _ | refine Blk.drew ?_ | refine Blk.alloc ?_ _ | refine Blk.far ?_ (by first | omega | (simp; done) | (simp; omega)) _)))
  have hz1 := hb.size
  try simp only [World.size_alloc, World.drewN, World.drew] at hz1
  clear hb
  have l0_1 : w.heap.size < w1.heap.size := K0_1.out.lt
  have z0_0_1 : w1.cell? ⟨w.heap.size, 0, none⟩ = some (.int .i64 (rn)) := K0_1.out.cell 0
  have z0_1_1 : w1.cell? ⟨w.heap.size, 1, none⟩ = some (.int .i64 (rd)) := K0_1.out.cell 1
  have l1_1 : w.heap.size + 1 < w1.heap.size := K1_1.out.lt
  have z1_0_1 : w1.cell? ⟨w.heap.size + 1, 0, none⟩ = some (.int .i64 (lo)) := K1_1.out.cell 0
  have z1_1_1 : w1.cell? ⟨w.heap.size + 1, 1, none⟩ = some (.int .i64 (hi)) := K1_1.out.cell 1
  have l2_1 : w.heap.size + 2 < w1.heap.size := K2_1.out.lt
  have z2_0_1 : w1.cell? ⟨w.heap.size + 2, 0, none⟩ = some (.int .i64 (gd)) := K2_1.out.cell 0
  have z2_1_1 : w1.cell? ⟨w.heap.size + 2, 1, none⟩ = some (.int .i64 (gv)) := K2_1.out.cell 1
  go_wp2_with fail
  refine (withinref_is _ _ _ _ HW.out _).mono ?_
  rintro e w' ⟨rfl, rfl⟩
  go_wp2_with fail
  refine (bestpair_ok _ _ _ _ (p1, p2) HE.out HP.out _ h1 h2 h3 h4).mono ?_
  rintro e w2 ⟨rfl, hb⟩
  have HB2 := Lib.hid (show Below w.heap.size w w2 from step_below hb (by repeat' (first | exact Below.refl _ _ | exact HB1.out | assumption | refine below_drewN ?_ _ | refine Below.drew ?_ | refine Below.alloc ?_ (by first | omega | (simp; done) | (simp; omega) | (simp [World.setCell]; omega)) _ | refine Below.setCell ?_ (by first | omega | (simp; done) | (simp; omega)) _)))
  have K0_2 := Lib.hid (step_blk hb (show Blk _ (w.heap.size) 23 #[.int .i64 (rn), .int .i64 (rd)] by repeat' (first | assumption | exact K0_1.out | exact K1_1.out | exact K2_1.out | exact Blk.at_ _ (by first | rfl | (simp; done) | (simp; omega)) _ _ | refine Blk.drewN ?_ _ | refine Blk.drew ?_ | refine Blk.alloc ?_ _ | refine Blk.far ?_ (by first | omega | (simp; done) | (simp; omega)) _)))
  have K1_2 := Lib.hid (step_blk hb (show Blk _ (w.heap.size + 1) 51 #[.int .i64 (lo), .int .i64 (hi)] by repeat' (first | assumption | exact K0_1.out | exact K1_1.out | exact K2_1.out | exact Blk.at_ _ (by first | rfl | (simp; done) | (simp; omega)) _ _ | refine Blk.drewN ?_ _ | refine Blk.drew ?_ | refine Blk.alloc ?_ _ | refine Blk.far ?_ (by first | omega | (simp; done) | (simp; omega)) _)))
  have K2_2 := Lib.hid (step_blk hb (show Blk _ (w.heap.size + 2) 45 #[.int .i64 (gd), .int .i64 (gv)] by repeat' (first | assumption | exact K0_1.out | exact K1_1.out | exact K2_1.out | exact Blk.at_ _ (by first | rfl | (simp; done) | (simp; omega)) _ _ | refine Blk.drewN ?_ _ | refine Blk.drew ?_ | refine Blk.alloc ?_ _ | refine Blk.far ?_ (by first | omega | (simp; done) | (simp; omega)) _)))
  have hz2 := hb.size
  try simp only [World.size_alloc, World.drewN, World.drew] at hz2
  clear hb K0_1 K1_1 K2_1 z0_0_1 z0_1_1 l0_1 z1_0_1 z1_1_1 l1_1 z2_0_1 z2_1_1 l2_1
  have l0_2 : w.heap.size < w2.heap.size := K0_2.out.lt
  have z0_0_2 : w2.cell? ⟨w.heap.size, 0, none⟩ = some (.int .i64 (rn)) := K0_2.out.cell 0
  have z0_1_2 : w2.cell? ⟨w.heap.size, 1, none⟩ = some (.int .i64 (rd)) := K0_2.out.cell 1
  have l1_2 : w.heap.size + 1 < w2.heap.size := K1_2.out.lt
  have z1_0_2 : w2.cell? ⟨w.heap.size + 1, 0, none⟩ = some (.int .i64 (lo)) := K1_2.out.cell 0
  have z1_1_2 : w2.cell? ⟨w.heap.size + 1, 1, none⟩ = some (.int .i64 (hi)) := K1_2.out.cell 1
  have l2_2 : w.heap.size + 2 < w2.heap.size := K2_2.out.lt
  have z2_0_2 : w2.cell? ⟨w.heap.size + 2, 0, none⟩ = some (.int .i64 (gd)) := K2_2.out.cell 0
  have z2_1_2 : w2.cell? ⟨w.heap.size + 2, 1, none⟩ = some (.int .i64 (gv)) := K2_2.out.cell 1
  go_wp2_with fail
  refine (checksearch_is _ _ _ _ _ HE.out _ h1 h2 h3 h4).mono ?_
  rintro e w3 ⟨rfl, hb⟩
  have HB3 := Lib.hid (show Below w.heap.size w w3 from step_below hb (by repeat' (first | exact Below.refl _ _ | exact HB2.out | assumption | refine below_drewN ?_ _ | refine Below.drew ?_ | refine Below.alloc ?_ (by first | omega | (simp; done) | (simp; omega) | (simp [World.setCell]; omega)) _ | refine Below.setCell ?_ (by first | omega | (simp; done) | (simp; omega)) _)))
  have K0_3 := Lib.hid (step_blk hb (show Blk _ (w.heap.size) 23 #[.int .i64 (rn), .int .i64 (rd)] by repeat' (first | assumption | exact K0_2.out | exact K1_2.out | exact K2_2.out | exact Blk.at_ _ (by first | rfl | (simp; done) | (simp; omega)) _ _ | refine Blk.drewN ?_ _ | refine Blk.drew ?_ | refine Blk.alloc ?_ _ | refine Blk.far ?_ (by first | omega | (simp; done) | (simp; omega)) _)))
  have K1_3 := Lib.hid (step_blk hb (show Blk _ (w.heap.size + 1) 51 #[.int .i64 (lo), .int .i64 (hi)] by repeat' (first | assumption | exact K0_2.out | exact K1_2.out | exact K2_2.out | exact Blk.at_ _ (by first | rfl | (simp; done) | (simp; omega)) _ _ | refine Blk.drewN ?_ _ | refine Blk.drew ?_ | refine Blk.alloc ?_ _ | refine Blk.far ?_ (by first | omega | (simp; done) | (simp; omega)) _)))
  have K2_3 := Lib.hid (step_blk hb (show Blk _ (w.heap.size + 2) 45 #[.int .i64 (gd), .int .i64 (gv)] by repeat' (first | assumption | exact K0_2.out | exact K1_2.out | exact K2_2.out | exact Blk.at_ _ (by first | rfl | (simp; done) | (simp; omega)) _ _ | refine Blk.drewN ?_ _ | refine Blk.drew ?_ | refine Blk.alloc ?_ _ | refine Blk.far ?_ (by first | omega | (simp; done) | (simp; omega)) _)))
  have K3_3 := Lib.hid (step_blk hb (show Blk _ (w2.heap.size) 45 #[.int .i64 (p1), .int .i64 (p2)] by repeat' (first | assumption | exact K0_2.out | exact K1_2.out | exact K2_2.out | exact Blk.at_ _ (by first | rfl | (simp; done) | (simp; omega)) _ _ | refine Blk.drewN ?_ _ | refine Blk.drew ?_ | refine Blk.alloc ?_ _ | refine Blk.far ?_ (by first | omega | (simp; done) | (simp; omega)) _)))
  have hz3 := hb.size
  try simp only [World.size_alloc, World.drewN, World.drew] at hz3
  clear hb K0_2 K1_2 K2_2 z0_0_2 z0_1_2 l0_2 z1_0_2 z1_1_2 l1_2 z2_0_2 z2_1_2 l2_2
  have l0_3 : w.heap.size < w3.heap.size := K0_3.out.lt
  have z0_0_3 : w3.cell? ⟨w.heap.size, 0, none⟩ = some (.int .i64 (rn)) := K0_3.out.cell 0
  have z0_1_3 : w3.cell? ⟨w.heap.size, 1, none⟩ = some (.int .i64 (rd)) := K0_3.out.cell 1
  have l1_3 : w.heap.size + 1 < w3.heap.size := K1_3.out.lt
  have z1_0_3 : w3.cell? ⟨w.heap.size + 1, 0, none⟩ = some (.int .i64 (lo)) := K1_3.out.cell 0
  have z1_1_3 : w3.cell? ⟨w.heap.size + 1, 1, none⟩ = some (.int .i64 (hi)) := K1_3.out.cell 1
  have l2_3 : w.heap.size + 2 < w3.heap.size := K2_3.out.lt
  have z2_0_3 : w3.cell? ⟨w.heap.size + 2, 0, none⟩ = some (.int .i64 (gd)) := K2_3.out.cell 0
  have z2_1_3 : w3.cell? ⟨w.heap.size + 2, 1, none⟩ = some (.int .i64 (gv)) := K2_3.out.cell 1
  have l3_3 : w2.heap.size < w3.heap.size := K3_3.out.lt
  have z3_0_3 : w3.cell? ⟨w2.heap.size, 0, none⟩ = some (.int .i64 (p1)) := K3_3.out.cell 0
  have z3_1_3 : w3.cell? ⟨w2.heap.size, 1, none⟩ = some (.int .i64 (p2)) := K3_3.out.cell 1
  go_wp2
  refine Fx.regionW (fun W f w' => Below W.heap.size W w') (by kernel_rfl) (by kernel_rfl) ?_ ?_
  · intro f hf0
    exact below_drewN (Below.refl _ _) 1
  repeat (first
    | (refine Fx.skip_ (by rfl) (fun f w h => h) ?_; simp only [Act.put, List.setIfInBounds_toArray, List.set_cons_zero, List.set_cons_succ])
    | (refine Fx.val_ ?_ (by rfl) ?_ (fun f w h => h) ?_
       rotate_left
       · intro f w' hD hk
         have hb := hD
         have y0_0 : w'.cell? ⟨w.heap.size, 0, none⟩ = some (.int .i64 (rn)) := (step_blk hb (show Blk _ (w.heap.size) 23 #[.int .i64 (rn), .int .i64 (rd)] by repeat' (first | assumption | exact K0_3.out | exact K1_3.out | exact K2_3.out | exact K3_3.out | exact Blk.at_ _ (by first | rfl | (simp; done) | (simp; omega)) _ _ | refine Blk.drewN ?_ _ | refine Blk.drew ?_ | refine Blk.alloc ?_ _ | refine Blk.far ?_ (by first | omega | (simp; done) | (simp; omega)) _))).cell 0
         have y0_1 : w'.cell? ⟨w.heap.size, 1, none⟩ = some (.int .i64 (rd)) := (step_blk hb (show Blk _ (w.heap.size) 23 #[.int .i64 (rn), .int .i64 (rd)] by repeat' (first | assumption | exact K0_3.out | exact K1_3.out | exact K2_3.out | exact K3_3.out | exact Blk.at_ _ (by first | rfl | (simp; done) | (simp; omega)) _ _ | refine Blk.drewN ?_ _ | refine Blk.drew ?_ | refine Blk.alloc ?_ _ | refine Blk.far ?_ (by first | omega | (simp; done) | (simp; omega)) _))).cell 1
         have y1_0 : w'.cell? ⟨w.heap.size + 1, 0, none⟩ = some (.int .i64 (lo)) := (step_blk hb (show Blk _ (w.heap.size + 1) 51 #[.int .i64 (lo), .int .i64 (hi)] by repeat' (first | assumption | exact K0_3.out | exact K1_3.out | exact K2_3.out | exact K3_3.out | exact Blk.at_ _ (by first | rfl | (simp; done) | (simp; omega)) _ _ | refine Blk.drewN ?_ _ | refine Blk.drew ?_ | refine Blk.alloc ?_ _ | refine Blk.far ?_ (by first | omega | (simp; done) | (simp; omega)) _))).cell 0
         have y1_1 : w'.cell? ⟨w.heap.size + 1, 1, none⟩ = some (.int .i64 (hi)) := (step_blk hb (show Blk _ (w.heap.size + 1) 51 #[.int .i64 (lo), .int .i64 (hi)] by repeat' (first | assumption | exact K0_3.out | exact K1_3.out | exact K2_3.out | exact K3_3.out | exact Blk.at_ _ (by first | rfl | (simp; done) | (simp; omega)) _ _ | refine Blk.drewN ?_ _ | refine Blk.drew ?_ | refine Blk.alloc ?_ _ | refine Blk.far ?_ (by first | omega | (simp; done) | (simp; omega)) _))).cell 1
         have y2_0 : w'.cell? ⟨w.heap.size + 2, 0, none⟩ = some (.int .i64 (gd)) := (step_blk hb (show Blk _ (w.heap.size + 2) 45 #[.int .i64 (gd), .int .i64 (gv)] by repeat' (first | assumption | exact K0_3.out | exact K1_3.out | exact K2_3.out | exact K3_3.out | exact Blk.at_ _ (by first | rfl | (simp; done) | (simp; omega)) _ _ | refine Blk.drewN ?_ _ | refine Blk.drew ?_ | refine Blk.alloc ?_ _ | refine Blk.far ?_ (by first | omega | (simp; done) | (simp; omega)) _))).cell 0
         have y2_1 : w'.cell? ⟨w.heap.size + 2, 1, none⟩ = some (.int .i64 (gv)) := (step_blk hb (show Blk _ (w.heap.size + 2) 45 #[.int .i64 (gd), .int .i64 (gv)] by repeat' (first | assumption | exact K0_3.out | exact K1_3.out | exact K2_3.out | exact K3_3.out | exact Blk.at_ _ (by first | rfl | (simp; done) | (simp; omega)) _ _ | refine Blk.drewN ?_ _ | refine Blk.drew ?_ | refine Blk.alloc ?_ _ | refine Blk.far ?_ (by first | omega | (simp; done) | (simp; omega)) _))).cell 1
         have y3_0 : w'.cell? ⟨w2.heap.size, 0, none⟩ = some (.int .i64 (p1)) := (step_blk hb (show Blk _ (w2.heap.size) 45 #[.int .i64 (p1), .int .i64 (p2)] by repeat' (first | assumption | exact K0_3.out | exact K1_3.out | exact K2_3.out | exact K3_3.out | exact Blk.at_ _ (by first | rfl | (simp; done) | (simp; omega)) _ _ | refine Blk.drewN ?_ _ | refine Blk.drew ?_ | refine Blk.alloc ?_ _ | refine Blk.far ?_ (by first | omega | (simp; done) | (simp; omega)) _))).cell 0
         have y3_1 : w'.cell? ⟨w2.heap.size, 1, none⟩ = some (.int .i64 (p2)) := (step_blk hb (show Blk _ (w2.heap.size) 45 #[.int .i64 (p1), .int .i64 (p2)] by repeat' (first | assumption | exact K0_3.out | exact K1_3.out | exact K2_3.out | exact K3_3.out | exact Blk.at_ _ (by first | rfl | (simp; done) | (simp; omega)) _ _ | refine Blk.drewN ?_ _ | refine Blk.drew ?_ | refine Blk.alloc ?_ _ | refine Blk.far ?_ (by first | omega | (simp; done) | (simp; omega)) _))).cell 1
         clear hk hD hb
         go_simp
         try rfl
       simp only [Act.put, List.setIfInBounds_toArray, List.set_cons_zero, List.set_cons_succ]))
  refine Fx.call_ (.agg #[.int .i64 p1, .int .i64 p2]) ?_ ?_ (by rfl) ?_ ?_ ?_
  rotate_left 2
  · intro w'
    go_simp
    refine ⟨?_, ?_⟩ <;> rfl
  · intro f w' hD hk
    exact (rbest_is rn rd lo hi (p1, p2) HP.out _ (by omega) r2 (by omega) r4 l1 l2 l3).mono fun e w'' ⟨he, hw⟩ => ⟨he, step_below hw hD⟩
  simp only [Act.put, List.setIfInBounds_toArray, List.set_cons_zero, List.set_cons_succ]
  repeat (first
    | (refine Fx.skip_ (by rfl) (fun f w h => h) ?_; simp only [Act.put, List.setIfInBounds_toArray, List.set_cons_zero, List.set_cons_succ])
    | (refine Fx.val_ ?_ (by rfl) ?_ (fun f w h => h) ?_
       rotate_left
       · intro f w' hD hk
         have hb := hD
         have y0_0 : w'.cell? ⟨w.heap.size, 0, none⟩ = some (.int .i64 (rn)) := (step_blk hb (show Blk _ (w.heap.size) 23 #[.int .i64 (rn), .int .i64 (rd)] by repeat' (first | assumption | exact K0_3.out | exact K1_3.out | exact K2_3.out | exact K3_3.out | exact Blk.at_ _ (by first | rfl | (simp; done) | (simp; omega)) _ _ | refine Blk.drewN ?_ _ | refine Blk.drew ?_ | refine Blk.alloc ?_ _ | refine Blk.far ?_ (by first | omega | (simp; done) | (simp; omega)) _))).cell 0
         have y0_1 : w'.cell? ⟨w.heap.size, 1, none⟩ = some (.int .i64 (rd)) := (step_blk hb (show Blk _ (w.heap.size) 23 #[.int .i64 (rn), .int .i64 (rd)] by repeat' (first | assumption | exact K0_3.out | exact K1_3.out | exact K2_3.out | exact K3_3.out | exact Blk.at_ _ (by first | rfl | (simp; done) | (simp; omega)) _ _ | refine Blk.drewN ?_ _ | refine Blk.drew ?_ | refine Blk.alloc ?_ _ | refine Blk.far ?_ (by first | omega | (simp; done) | (simp; omega)) _))).cell 1
         have y1_0 : w'.cell? ⟨w.heap.size + 1, 0, none⟩ = some (.int .i64 (lo)) := (step_blk hb (show Blk _ (w.heap.size + 1) 51 #[.int .i64 (lo), .int .i64 (hi)] by repeat' (first | assumption | exact K0_3.out | exact K1_3.out | exact K2_3.out | exact K3_3.out | exact Blk.at_ _ (by first | rfl | (simp; done) | (simp; omega)) _ _ | refine Blk.drewN ?_ _ | refine Blk.drew ?_ | refine Blk.alloc ?_ _ | refine Blk.far ?_ (by first | omega | (simp; done) | (simp; omega)) _))).cell 0
         have y1_1 : w'.cell? ⟨w.heap.size + 1, 1, none⟩ = some (.int .i64 (hi)) := (step_blk hb (show Blk _ (w.heap.size + 1) 51 #[.int .i64 (lo), .int .i64 (hi)] by repeat' (first | assumption | exact K0_3.out | exact K1_3.out | exact K2_3.out | exact K3_3.out | exact Blk.at_ _ (by first | rfl | (simp; done) | (simp; omega)) _ _ | refine Blk.drewN ?_ _ | refine Blk.drew ?_ | refine Blk.alloc ?_ _ | refine Blk.far ?_ (by first | omega | (simp; done) | (simp; omega)) _))).cell 1
         have y2_0 : w'.cell? ⟨w.heap.size + 2, 0, none⟩ = some (.int .i64 (gd)) := (step_blk hb (show Blk _ (w.heap.size + 2) 45 #[.int .i64 (gd), .int .i64 (gv)] by repeat' (first | assumption | exact K0_3.out | exact K1_3.out | exact K2_3.out | exact K3_3.out | exact Blk.at_ _ (by first | rfl | (simp; done) | (simp; omega)) _ _ | refine Blk.drewN ?_ _ | refine Blk.drew ?_ | refine Blk.alloc ?_ _ | refine Blk.far ?_ (by first | omega | (simp; done) | (simp; omega)) _))).cell 0
         have y2_1 : w'.cell? ⟨w.heap.size + 2, 1, none⟩ = some (.int .i64 (gv)) := (step_blk hb (show Blk _ (w.heap.size + 2) 45 #[.int .i64 (gd), .int .i64 (gv)] by repeat' (first | assumption | exact K0_3.out | exact K1_3.out | exact K2_3.out | exact K3_3.out | exact Blk.at_ _ (by first | rfl | (simp; done) | (simp; omega)) _ _ | refine Blk.drewN ?_ _ | refine Blk.drew ?_ | refine Blk.alloc ?_ _ | refine Blk.far ?_ (by first | omega | (simp; done) | (simp; omega)) _))).cell 1
         have y3_0 : w'.cell? ⟨w2.heap.size, 0, none⟩ = some (.int .i64 (p1)) := (step_blk hb (show Blk _ (w2.heap.size) 45 #[.int .i64 (p1), .int .i64 (p2)] by repeat' (first | assumption | exact K0_3.out | exact K1_3.out | exact K2_3.out | exact K3_3.out | exact Blk.at_ _ (by first | rfl | (simp; done) | (simp; omega)) _ _ | refine Blk.drewN ?_ _ | refine Blk.drew ?_ | refine Blk.alloc ?_ _ | refine Blk.far ?_ (by first | omega | (simp; done) | (simp; omega)) _))).cell 0
         have y3_1 : w'.cell? ⟨w2.heap.size, 1, none⟩ = some (.int .i64 (p2)) := (step_blk hb (show Blk _ (w2.heap.size) 45 #[.int .i64 (p1), .int .i64 (p2)] by repeat' (first | assumption | exact K0_3.out | exact K1_3.out | exact K2_3.out | exact K3_3.out | exact Blk.at_ _ (by first | rfl | (simp; done) | (simp; omega)) _ _ | refine Blk.drewN ?_ _ | refine Blk.drew ?_ | refine Blk.alloc ?_ _ | refine Blk.far ?_ (by first | omega | (simp; done) | (simp; omega)) _))).cell 1
         clear hk hD hb
         go_simp
         try rfl
       simp only [Act.put, List.setIfInBounds_toArray, List.set_cons_zero, List.set_cons_succ]))
  refine Fx.nil_ ?_
  intro f w4 hall hb
  try clear hall
  have HB4 := Lib.hid (show Below w.heap.size w w4 from step_below hb (by repeat' (first | exact Below.refl _ _ | exact HB3.out | assumption | refine below_drewN ?_ _ | refine Below.drew ?_ | refine Below.alloc ?_ (by first | omega | (simp; done) | (simp; omega) | (simp [World.setCell]; omega)) _ | refine Below.setCell ?_ (by first | omega | (simp; done) | (simp; omega)) _)))
  have K0_4 := Lib.hid (step_blk hb (show Blk _ (w.heap.size) 23 #[.int .i64 (rn), .int .i64 (rd)] by repeat' (first | assumption | exact K0_3.out | exact K1_3.out | exact K2_3.out | exact K3_3.out | exact Blk.at_ _ (by first | rfl | (simp; done) | (simp; omega)) _ _ | refine Blk.drewN ?_ _ | refine Blk.drew ?_ | refine Blk.alloc ?_ _ | refine Blk.far ?_ (by first | omega | (simp; done) | (simp; omega)) _)))
  have K1_4 := Lib.hid (step_blk hb (show Blk _ (w.heap.size + 1) 51 #[.int .i64 (lo), .int .i64 (hi)] by repeat' (first | assumption | exact K0_3.out | exact K1_3.out | exact K2_3.out | exact K3_3.out | exact Blk.at_ _ (by first | rfl | (simp; done) | (simp; omega)) _ _ | refine Blk.drewN ?_ _ | refine Blk.drew ?_ | refine Blk.alloc ?_ _ | refine Blk.far ?_ (by first | omega | (simp; done) | (simp; omega)) _)))
  have K2_4 := Lib.hid (step_blk hb (show Blk _ (w.heap.size + 2) 45 #[.int .i64 (gd), .int .i64 (gv)] by repeat' (first | assumption | exact K0_3.out | exact K1_3.out | exact K2_3.out | exact K3_3.out | exact Blk.at_ _ (by first | rfl | (simp; done) | (simp; omega)) _ _ | refine Blk.drewN ?_ _ | refine Blk.drew ?_ | refine Blk.alloc ?_ _ | refine Blk.far ?_ (by first | omega | (simp; done) | (simp; omega)) _)))
  have K3_4 := Lib.hid (step_blk hb (show Blk _ (w2.heap.size) 45 #[.int .i64 (p1), .int .i64 (p2)] by repeat' (first | assumption | exact K0_3.out | exact K1_3.out | exact K2_3.out | exact K3_3.out | exact Blk.at_ _ (by first | rfl | (simp; done) | (simp; omega)) _ _ | refine Blk.drewN ?_ _ | refine Blk.drew ?_ | refine Blk.alloc ?_ _ | refine Blk.far ?_ (by first | omega | (simp; done) | (simp; omega)) _)))
  have hz4 := hb.size
  try simp only [World.size_alloc, World.drewN, World.drew] at hz4
  clear hb K0_3 K1_3 K2_3 K3_3 z0_0_3 z0_1_3 l0_3 z1_0_3 z1_1_3 l1_3 z2_0_3 z2_1_3 l2_3 z3_0_3 z3_1_3 l3_3
  have l0_4 : w.heap.size < w4.heap.size := K0_4.out.lt
  have z0_0_4 : w4.cell? ⟨w.heap.size, 0, none⟩ = some (.int .i64 (rn)) := K0_4.out.cell 0
  have z0_1_4 : w4.cell? ⟨w.heap.size, 1, none⟩ = some (.int .i64 (rd)) := K0_4.out.cell 1
  have l1_4 : w.heap.size + 1 < w4.heap.size := K1_4.out.lt
  have z1_0_4 : w4.cell? ⟨w.heap.size + 1, 0, none⟩ = some (.int .i64 (lo)) := K1_4.out.cell 0
  have z1_1_4 : w4.cell? ⟨w.heap.size + 1, 1, none⟩ = some (.int .i64 (hi)) := K1_4.out.cell 1
  have l2_4 : w.heap.size + 2 < w4.heap.size := K2_4.out.lt
  have z2_0_4 : w4.cell? ⟨w.heap.size + 2, 0, none⟩ = some (.int .i64 (gd)) := K2_4.out.cell 0
  have z2_1_4 : w4.cell? ⟨w.heap.size + 2, 1, none⟩ = some (.int .i64 (gv)) := K2_4.out.cell 1
  have l3_4 : w2.heap.size < w4.heap.size := K3_4.out.lt
  have z3_0_4 : w4.cell? ⟨w2.heap.size, 0, none⟩ = some (.int .i64 (p1)) := K3_4.out.cell 0
  have z3_1_4 : w4.cell? ⟨w2.heap.size, 1, none⟩ = some (.int .i64 (p2)) := K3_4.out.cell 1
  go_wp2_with fail
  refine (ckbest_is _ _ _ _ _ _ _ _ _ HC.out _ h1 h2 h3 h4).mono ?_
  rintro e w5 ⟨rfl, hb⟩
  have HB5 := Lib.hid (show Below w.heap.size w w5 from step_below hb (by repeat' (first | exact Below.refl _ _ | exact HB4.out | assumption | refine below_drewN ?_ _ | refine Below.drew ?_ | refine Below.alloc ?_ (by first | omega | (simp; done) | (simp; omega) | (simp [World.setCell]; omega)) _ | refine Below.setCell ?_ (by first | omega | (simp; done) | (simp; omega)) _)))
  have K0_5 := Lib.hid (step_blk hb (show Blk _ (w.heap.size) 23 #[.int .i64 (rn), .int .i64 (rd)] by repeat' (first | assumption | exact K0_4.out | exact K1_4.out | exact K2_4.out | exact K3_4.out | exact Blk.at_ _ (by first | rfl | (simp; done) | (simp; omega)) _ _ | refine Blk.drewN ?_ _ | refine Blk.drew ?_ | refine Blk.alloc ?_ _ | refine Blk.far ?_ (by first | omega | (simp; done) | (simp; omega)) _)))
  have K1_5 := Lib.hid (step_blk hb (show Blk _ (w.heap.size + 1) 51 #[.int .i64 (lo), .int .i64 (hi)] by repeat' (first | assumption | exact K0_4.out | exact K1_4.out | exact K2_4.out | exact K3_4.out | exact Blk.at_ _ (by first | rfl | (simp; done) | (simp; omega)) _ _ | refine Blk.drewN ?_ _ | refine Blk.drew ?_ | refine Blk.alloc ?_ _ | refine Blk.far ?_ (by first | omega | (simp; done) | (simp; omega)) _)))
  have K2_5 := Lib.hid (step_blk hb (show Blk _ (w.heap.size + 2) 45 #[.int .i64 (gd), .int .i64 (gv)] by repeat' (first | assumption | exact K0_4.out | exact K1_4.out | exact K2_4.out | exact K3_4.out | exact Blk.at_ _ (by first | rfl | (simp; done) | (simp; omega)) _ _ | refine Blk.drewN ?_ _ | refine Blk.drew ?_ | refine Blk.alloc ?_ _ | refine Blk.far ?_ (by first | omega | (simp; done) | (simp; omega)) _)))
  have K3_5 := Lib.hid (step_blk hb (show Blk _ (w2.heap.size) 45 #[.int .i64 (p1), .int .i64 (p2)] by repeat' (first | assumption | exact K0_4.out | exact K1_4.out | exact K2_4.out | exact K3_4.out | exact Blk.at_ _ (by first | rfl | (simp; done) | (simp; omega)) _ _ | refine Blk.drewN ?_ _ | refine Blk.drew ?_ | refine Blk.alloc ?_ _ | refine Blk.far ?_ (by first | omega | (simp; done) | (simp; omega)) _)))
  have hz5 := hb.size
  try simp only [World.size_alloc, World.drewN, World.drew] at hz5
  clear hb K0_4 K1_4 K2_4 K3_4 z0_0_4 z0_1_4 l0_4 z1_0_4 z1_1_4 l1_4 z2_0_4 z2_1_4 l2_4 z3_0_4 z3_1_4 l3_4
  have l0_5 : w.heap.size < w5.heap.size := K0_5.out.lt
  have z0_0_5 : w5.cell? ⟨w.heap.size, 0, none⟩ = some (.int .i64 (rn)) := K0_5.out.cell 0
  have z0_1_5 : w5.cell? ⟨w.heap.size, 1, none⟩ = some (.int .i64 (rd)) := K0_5.out.cell 1
  have l1_5 : w.heap.size + 1 < w5.heap.size := K1_5.out.lt
  have z1_0_5 : w5.cell? ⟨w.heap.size + 1, 0, none⟩ = some (.int .i64 (lo)) := K1_5.out.cell 0
  have z1_1_5 : w5.cell? ⟨w.heap.size + 1, 1, none⟩ = some (.int .i64 (hi)) := K1_5.out.cell 1
  have l2_5 : w.heap.size + 2 < w5.heap.size := K2_5.out.lt
  have z2_0_5 : w5.cell? ⟨w.heap.size + 2, 0, none⟩ = some (.int .i64 (gd)) := K2_5.out.cell 0
  have z2_1_5 : w5.cell? ⟨w.heap.size + 2, 1, none⟩ = some (.int .i64 (gv)) := K2_5.out.cell 1
  have l3_5 : w2.heap.size < w5.heap.size := K3_5.out.lt
  have z3_0_5 : w5.cell? ⟨w2.heap.size, 0, none⟩ = some (.int .i64 (p1)) := K3_5.out.cell 0
  have z3_1_5 : w5.cell? ⟨w2.heap.size, 1, none⟩ = some (.int .i64 (p2)) := K3_5.out.cell 1
  rcases HC2.out with rfl | rfl
  all_goals
    clear HC2
    cases hg1 : withinB gd lo hi
    · have HG1 := Lib.hid hg1
      clear hg1
      go_wp2_with (go_at_call 31; refine (withinref_is _ _ _ _ HG1.out _).mono ?_; rintro e w' ⟨rfl, rfl⟩)
      go_ret
      exact ⟨rfl, by repeat' (first | exact Below.refl _ _ | exact HB5.out | assumption | refine below_drewN ?_ _ | refine Below.drew ?_ | refine Below.alloc ?_ (by first | omega | (simp; done) | (simp; omega) | (simp [World.setCell]; omega)) _ | refine Below.setCell ?_ (by first | omega | (simp; done) | (simp; omega)) _)⟩
    cases hg2 : withinB gv lo hi
    · have HG1 := Lib.hid hg1
      have HG2 := Lib.hid hg2
      clear hg1 hg2
      go_wp2_with fail
      refine (withinref_is _ _ _ _ HG1.out _).mono ?_
      rintro e w' ⟨rfl, rfl⟩
      go_wp2_with fail
      refine (withinref_is _ _ _ _ HG2.out _).mono ?_
      rintro e w' ⟨rfl, rfl⟩
      go_wp2
      go_ret
      exact ⟨rfl, by repeat' (first | exact Below.refl _ _ | exact HB5.out | assumption | refine below_drewN ?_ _ | refine Below.drew ?_ | refine Below.alloc ?_ (by first | omega | (simp; done) | (simp; omega) | (simp [World.setCell]; omega)) _ | refine Below.setCell ?_ (by first | omega | (simp; done) | (simp; omega)) _)⟩
    have q1 := (withinB_iff _ _ _).1 hg1
    have q2 := (withinB_iff _ _ _).1 hg2
    have HN := Lib.hid (HNN.out (gd, gv) ⟨q1.1, q1.2, q2.1, q2.2⟩)
    have HG1 := Lib.hid hg1
    have HG2 := Lib.hid hg2
    obtain ⟨q1a, q1b⟩ := q1
    obtain ⟨q2a, q2b⟩ := q2
    clear hg1 hg2
    go_wp2_with fail
    refine (withinref_is _ _ _ _ HG1.out _).mono ?_
    rintro e w' ⟨rfl, rfl⟩
    go_wp2_with fail
    refine (withinref_is _ _ _ _ HG2.out _).mono ?_
    rintro e w' ⟨rfl, rfl⟩
    go_wp2_with fail
    refine (nearer_is rn rd gd gv (p1, p2) false HN.out _ (by omega) r2 (by omega) r4 (by omega) (by omega) (by omega) (by omega) (by simp only; omega) (by simp only; omega) (by simp only; omega) (by simp only; omega)).mono ?_
    rintro e w6 ⟨rfl, hb⟩
    have HB6 := Lib.hid (show Below w.heap.size w w6 from step_below hb (by repeat' (first | exact Below.refl _ _ | exact HB5.out | assumption | refine below_drewN ?_ _ | refine Below.drew ?_ | refine Below.alloc ?_ (by first | omega | (simp; done) | (simp; omega) | (simp [World.setCell]; omega)) _ | refine Below.setCell ?_ (by first | omega | (simp; done) | (simp; omega)) _)))
    have K0_6 := Lib.hid (step_blk hb (show Blk _ (w.heap.size) 23 #[.int .i64 (rn), .int .i64 (rd)] by repeat' (first | assumption | exact K0_5.out | exact K1_5.out | exact K2_5.out | exact K3_5.out | exact Blk.at_ _ (by first | rfl | (simp; done) | (simp; omega)) _ _ | refine Blk.drewN ?_ _ | refine Blk.drew ?_ | refine Blk.alloc ?_ _ | refine Blk.far ?_ (by first | omega | (simp; done) | (simp; omega)) _)))
    have K1_6 := Lib.hid (step_blk hb (show Blk _ (w.heap.size + 1) 51 #[.int .i64 (lo), .int .i64 (hi)] by repeat' (first | assumption | exact K0_5.out | exact K1_5.out | exact K2_5.out | exact K3_5.out | exact Blk.at_ _ (by first | rfl | (simp; done) | (simp; omega)) _ _ | refine Blk.drewN ?_ _ | refine Blk.drew ?_ | refine Blk.alloc ?_ _ | refine Blk.far ?_ (by first | omega | (simp; done) | (simp; omega)) _)))
    have K2_6 := Lib.hid (step_blk hb (show Blk _ (w.heap.size + 2) 45 #[.int .i64 (gd), .int .i64 (gv)] by repeat' (first | assumption | exact K0_5.out | exact K1_5.out | exact K2_5.out | exact K3_5.out | exact Blk.at_ _ (by first | rfl | (simp; done) | (simp; omega)) _ _ | refine Blk.drewN ?_ _ | refine Blk.drew ?_ | refine Blk.alloc ?_ _ | refine Blk.far ?_ (by first | omega | (simp; done) | (simp; omega)) _)))
    have K3_6 := Lib.hid (step_blk hb (show Blk _ (w2.heap.size) 45 #[.int .i64 (p1), .int .i64 (p2)] by repeat' (first | assumption | exact K0_5.out | exact K1_5.out | exact K2_5.out | exact K3_5.out | exact Blk.at_ _ (by first | rfl | (simp; done) | (simp; omega)) _ _ | refine Blk.drewN ?_ _ | refine Blk.drew ?_ | refine Blk.alloc ?_ _ | refine Blk.far ?_ (by first | omega | (simp; done) | (simp; omega)) _)))
    have K4_6 := Lib.hid (step_blk hb (show Blk _ (w5.heap.size) 23 #[.int .i64 (a), .int .i64 (b)] by repeat' (first | assumption | exact K0_5.out | exact K1_5.out | exact K2_5.out | exact K3_5.out | exact Blk.at_ _ (by first | rfl | (simp; done) | (simp; omega)) _ _ | refine Blk.drewN ?_ _ | refine Blk.drew ?_ | refine Blk.alloc ?_ _ | refine Blk.far ?_ (by first | omega | (simp; done) | (simp; omega)) _)))
    have hz6 := hb.size
    try simp only [World.size_alloc, World.drewN, World.drew] at hz6
    clear hb K0_5 K1_5 K2_5 K3_5 z0_0_5 z0_1_5 l0_5 z1_0_5 z1_1_5 l1_5 z2_0_5 z2_1_5 l2_5 z3_0_5 z3_1_5 l3_5
    have l0_6 : w.heap.size < w6.heap.size := K0_6.out.lt
    have z0_0_6 : w6.cell? ⟨w.heap.size, 0, none⟩ = some (.int .i64 (rn)) := K0_6.out.cell 0
    have z0_1_6 : w6.cell? ⟨w.heap.size, 1, none⟩ = some (.int .i64 (rd)) := K0_6.out.cell 1
    have l1_6 : w.heap.size + 1 < w6.heap.size := K1_6.out.lt
    have z1_0_6 : w6.cell? ⟨w.heap.size + 1, 0, none⟩ = some (.int .i64 (lo)) := K1_6.out.cell 0
    have z1_1_6 : w6.cell? ⟨w.heap.size + 1, 1, none⟩ = some (.int .i64 (hi)) := K1_6.out.cell 1
    have l2_6 : w.heap.size + 2 < w6.heap.size := K2_6.out.lt
    have z2_0_6 : w6.cell? ⟨w.heap.size + 2, 0, none⟩ = some (.int .i64 (gd)) := K2_6.out.cell 0
    have z2_1_6 : w6.cell? ⟨w.heap.size + 2, 1, none⟩ = some (.int .i64 (gv)) := K2_6.out.cell 1
    have l3_6 : w2.heap.size < w6.heap.size := K3_6.out.lt
    have z3_0_6 : w6.cell? ⟨w2.heap.size, 0, none⟩ = some (.int .i64 (p1)) := K3_6.out.cell 0
    have z3_1_6 : w6.cell? ⟨w2.heap.size, 1, none⟩ = some (.int .i64 (p2)) := K3_6.out.cell 1
    have l4_6 : w5.heap.size < w6.heap.size := K4_6.out.lt
    have z4_0_6 : w6.cell? ⟨w5.heap.size, 0, none⟩ = some (.int .i64 (a)) := K4_6.out.cell 0
    have z4_1_6 : w6.cell? ⟨w5.heap.size, 1, none⟩ = some (.int .i64 (b)) := K4_6.out.cell 1
    go_wp2
    go_ret
    exact ⟨rfl, by repeat' (first | exact Below.refl _ _ | exact HB6.out | assumption | refine below_drewN ?_ _ | refine Below.drew ?_ | refine Below.alloc ?_ (by first | omega | (simp; done) | (simp; omega) | (simp [World.setCell]; omega)) _ | refine Below.setCell ?_ (by first | omega | (simp; done) | (simp; omega)) _)⟩

end Go.Proofs.Ytmioamcgbihhjaa
