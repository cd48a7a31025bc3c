/- The contract of the reference's check of a best pair, and the walks of the statements on best pairs. -/
import Derived.Test.YtmioamcgbihhjaaCkBest
import Derived.Test.YtmioamcgbihhjaaAwake
namespace Go.Proofs.Ytmioamcgbihhjaa
open Go.RowKit

set_option maxRecDepth 100000 in
set_option maxHeartbeats 2000000 in
theorem rckbest_any (rn rd lo hi gd gv : Int) (w : World) (r1 : 1 ≤ rn) (r2 : rn ≤ 1000000000) (r3 : 1 ≤ rd) (r4 : rd ≤ 1000000000) (l1 : 1 ≤ lo) (l2 : lo ≤ hi) (l3 : hi ≤ 500) :
    Calls Try.prog 37 #[.agg #[.int .i64 rn, .int .i64 rd], .int .i64 lo, .int .i64 hi, .agg #[.int .i64 gd, .int .i64 gv]] w fun e w' =>
      e = .returned (.tuple #[.agg #[.int .i64 (ckIn rn rd lo hi gd gv).1.1, .int .i64 (ckIn rn rd lo hi gd gv).1.2], .int .i64 (ckIn rn rd lo hi gd gv).2]) ∧ Below w.heap.size w w' := by
  obtain ⟨C, hC⟩ : ∃ C, ckIn rn rd lo hi gd gv = C := ⟨_, rfl⟩
  rw [hC]
  obtain ⟨⟨c1, c2⟩, c3⟩ := C
  have HC := Lib.hid hC
  clear hC
  cases hw1 : withinB gd lo hi
  · have hc : ((0, 0), 2) = ((c1, c2), c3) := by rw [← HC.out]; unfold ckIn; rw [if_pos (.inl hw1)]
    cases hc
    have HW1 := Lib.hid hw1
    clear HC hw1
    go_enter Try.func37, Try.ntmps37
    go_wp2_with (go_at_call 31; refine (withinref_is _ _ _ _ HW1.out _).mono ?_; rintro e w' ⟨rfl, rfl⟩)
    exact bodyPost_ret (v := .tuple #[.agg #[.int .i64 0, .int .i64 0], .int .i64 2]) (by simp [results, Try.results37, go_sem]) rfl ⟨rfl, by repeat' (first | exact Below.refl _ _ | exact HB0.out | assumption | refine below_drewN ?_ _ | refine Below.drew ?_ | refine Below.alloc ?_ (by first | omega | (simp; done) | (simp; omega) | (simp [World.setCell]; omega)) _ | refine Below.setCell ?_ (by first | omega | (simp; done) | (simp; omega)) _)⟩
  cases hw2 : withinB gv lo hi
  · have hc : ((0, 0), 2) = ((c1, c2), c3) := by rw [← HC.out]; unfold ckIn; rw [if_pos (.inr hw2)]
    cases hc
    have HW1 := Lib.hid hw1
    have HW2 := Lib.hid hw2
    clear HC hw1 hw2
    go_enter Try.func37, Try.ntmps37
    go_wp2_with fail
    refine (withinref_is _ _ _ _ HW1.out _).mono ?_
    rintro e w' ⟨rfl, rfl⟩
    go_wp2_with fail
    refine (withinref_is _ _ _ _ HW2.out _).mono ?_
    rintro e w' ⟨rfl, rfl⟩
    go_wp2
    exact bodyPost_ret (v := .tuple #[.agg #[.int .i64 0, .int .i64 0], .int .i64 2]) (by simp [results, Try.results37, go_sem]) rfl ⟨rfl, by repeat' (first | exact Below.refl _ _ | exact HB0.out | assumption | refine below_drewN ?_ _ | refine Below.drew ?_ | refine Below.alloc ?_ (by first | omega | (simp; done) | (simp; omega) | (simp [World.setCell]; omega)) _ | refine Below.setCell ?_ (by first | omega | (simp; done) | (simp; omega)) _)⟩
  have g1 := (withinB_iff _ _ _).1 hw1
  have g2 := (withinB_iff _ _ _).1 hw2
  obtain ⟨g1a, g1b⟩ := g1
  obtain ⟨g2a, g2b⟩ := g2
  have m1 := mul_bound (show 0 ≤ rn by omega) r2 (show 0 ≤ gv by omega) (show gv ≤ 500 by omega)
  have m2 := mul_bound (show 0 ≤ gd by omega) (show gd ≤ 500 by omega) (show 0 ≤ rd by omega) r4
  have m3 := mul_bound (show 0 ≤ gv by omega) (show gv ≤ 500 by omega) (show 0 ≤ rd by omega) r4
  have m4 : 1 ≤ gv * rd := Int.mul_pos (show 0 < gv by omega) (show 0 < rd by omega)
  obtain ⟨m1a, m1b⟩ := m1
  obtain ⟨m2a, m2b⟩ := m2
  obtain ⟨-, m3b⟩ := m3
  obtain ⟨ob1, ob2⟩ := off_bound (rn := rn) (rd := rd) (gd := gd) (gv := gv) (by omega) r2 (by omega) r4 (by omega) (by omega) (by omega) (by omega)
  obtain ⟨hbox, -⟩ := best_least (rn := rn) (rd := rd) l1 l2
  obtain ⟨P, hP⟩ : ∃ P, bestP rn rd lo hi = P := ⟨_, rfl⟩
  rw [hP] at hbox
  obtain ⟨p1, p2⟩ := P
  obtain ⟨b1, b2, b3, b4⟩ := hbox
  simp only at b1 b2 b3 b4
  obtain ⟨O, hO⟩ : ∃ O, offF rn rd gd gv = O := ⟨_, rfl⟩
  rw [hO] at ob1 ob2
  obtain ⟨X, hX⟩ : ∃ X, O / (Int.gcd O (gv * rd) : Int) = X := ⟨_, rfl⟩
  obtain ⟨Y, hY⟩ : ∃ Y, gv * rd / (Int.gcd O (gv * rd) : Int) = Y := ⟨_, rfl⟩
  have hp : 0 < Int.gcd O (gv * rd) := Int.gcd_pos_of_ne_zero_right O (by omega)
  have x1 : -9223372036854775808 < X ∧ X ≤ 9223372036854775807 := by rw [← hX]; exact div_gcd_in O (gv * rd) (by omega) (by omega) (by omega)
  have y1 : -9223372036854775808 < Y ∧ Y ≤ 9223372036854775807 := by rw [← hY, Int.gcd_comm]; exact div_gcd_in (gv * rd) O (by omega) (by omega) (by rw [Int.gcd_comm]; omega)
  obtain ⟨x1, x2⟩ := x1
  obtain ⟨y1, y2⟩ := y1
  have hsm := smallB_err (a := O) (b := gv * rd) m4
  rw [hX, hY] at hsm
  obtain ⟨T, hT⟩ : ∃ T, fracErr X Y = T := ⟨_, rfl⟩
  rw [hT] at hsm
  cases hn : nearB rn rd (p1, p2) (gd, gv)
  · have HN := Lib.hid hn
    have HO := Lib.hid hO
    have HX := Lib.hid hX
    have HY := Lib.hid hY
    have HT := Lib.hid hT
    have HW1 := Lib.hid hw1
    have HW2 := Lib.hid hw2
    have HP := Lib.hid hP
    have HCC : Hid (((c1, c2), c3) = if T ≠ 0 then ((0, 0), 8) else ((X, Y), 0)) := by
      show _ = _
      rw [← HC.out]
      unfold ckIn
      rw [if_neg (by rw [hw1, hw2]; simp), hP, hn, if_neg (by simp), hO, hX, hY]
      by_cases hT0 : T = 0
      · rw [if_neg (by rw [hsm.2 hT0]; simp), if_neg (by simp [hT0])]
      · rw [if_pos (by cases hz : smallB O (gv * rd) with | false => rfl | true => exact absurd (hsm.1 hz) hT0), if_pos hT0]
    have mw := IntWalk.i64_in (gv * rd) ⟨by omega, by omega⟩
    clear hO hX hY hT hw1 hw2 hP hn HC hsm
    go_enter Try.func37, Try.ntmps37
    go_wp2_with fail
    refine (withinref_is _ _ _ _ HW1.out _).mono ?_
    rintro e w' ⟨rfl, rfl⟩
    go_wp2_with fail
    refine (withinref_is _ _ _ _ HW2.out _).mono ?_
    rintro e w' ⟨rfl, rfl⟩
    go_wp2
    refine Fx.regionW (fun W f w' => Below W.heap.size W w') (by kernel_rfl) (by kernel_rfl) ?_ ?_
    · intro f hf0
      exact below_drewN (Below.refl _ _) 1
    repeat (first
      | (refine Fx.skip_ (by rfl) (fun f w h => h) ?_; simp only [Act.put, List.setIfInBounds_toArray, List.set_cons_zero, List.set_cons_succ])
      | (refine Fx.val_ ?_ (by rfl) ?_ (fun f w h => h) ?_
         rotate_left
         · intro f w' hD hk
           have hb := hD
           have y0_0 : w'.cell? ⟨w.heap.size, 0, none⟩ = some (.int .i64 (rn)) := (step_blk hb (show Blk _ (w.heap.size) 23 #[.int .i64 (rn), .int .i64 (rd)] by repeat' (first | assumption | exact Blk.at_ _ (by first | rfl | (simp; done) | (simp; omega)) _ _ | refine Blk.drewN ?_ _ | refine Blk.drew ?_ | refine Blk.alloc ?_ _ | refine Blk.far ?_ (by first | omega | (simp; done) | (simp; omega)) _))).cell 0
           have y0_1 : w'.cell? ⟨w.heap.size, 1, none⟩ = some (.int .i64 (rd)) := (step_blk hb (show Blk _ (w.heap.size) 23 #[.int .i64 (rn), .int .i64 (rd)] by repeat' (first | assumption | exact Blk.at_ _ (by first | rfl | (simp; done) | (simp; omega)) _ _ | refine Blk.drewN ?_ _ | refine Blk.drew ?_ | refine Blk.alloc ?_ _ | refine Blk.far ?_ (by first | omega | (simp; done) | (simp; omega)) _))).cell 1
           have y1_0 : w'.cell? ⟨w.heap.size + 1, 0, none⟩ = some (.int .i64 (gd)) := (step_blk hb (show Blk _ (w.heap.size + 1) 45 #[.int .i64 (gd), .int .i64 (gv)] by repeat' (first | assumption | exact Blk.at_ _ (by first | rfl | (simp; done) | (simp; omega)) _ _ | refine Blk.drewN ?_ _ | refine Blk.drew ?_ | refine Blk.alloc ?_ _ | refine Blk.far ?_ (by first | omega | (simp; done) | (simp; omega)) _))).cell 0
           have y1_1 : w'.cell? ⟨w.heap.size + 1, 1, none⟩ = some (.int .i64 (gv)) := (step_blk hb (show Blk _ (w.heap.size + 1) 45 #[.int .i64 (gd), .int .i64 (gv)] by repeat' (first | assumption | exact Blk.at_ _ (by first | rfl | (simp; done) | (simp; omega)) _ _ | refine Blk.drewN ?_ _ | refine Blk.drew ?_ | refine Blk.alloc ?_ _ | refine Blk.far ?_ (by first | omega | (simp; done) | (simp; omega)) _))).cell 1
           have y2_0 : w'.cell? ⟨w.heap.size + 2, 0, none⟩ = some (.int .i64 (0)) := (step_blk hb (show Blk _ (w.heap.size + 2) 23 #[.int .i64 (0), .int .i64 (0)] by repeat' (first | assumption | exact Blk.at_ _ (by first | rfl | (simp; done) | (simp; omega)) _ _ | refine Blk.drewN ?_ _ | refine Blk.drew ?_ | refine Blk.alloc ?_ _ | refine Blk.far ?_ (by first | omega | (simp; done) | (simp; omega)) _))).cell 0
           have y2_1 : w'.cell? ⟨w.heap.size + 2, 1, none⟩ = some (.int .i64 (0)) := (step_blk hb (show Blk _ (w.heap.size + 2) 23 #[.int .i64 (0), .int .i64 (0)] by repeat' (first | assumption | exact Blk.at_ _ (by first | rfl | (simp; done) | (simp; omega)) _ _ | refine Blk.drewN ?_ _ | refine Blk.drew ?_ | refine Blk.alloc ?_ _ | refine Blk.far ?_ (by first | omega | (simp; done) | (simp; omega)) _))).cell 1
           clear hk hD hb
           go_simp
           try rfl
         simp only [Act.put, List.setIfInBounds_toArray, List.set_cons_zero, List.set_cons_succ]))
    refine Fx.call_ (.agg #[.int .i64 p1, .int .i64 p2]) ?_ ?_ (by rfl) ?_ ?_ ?_
    rotate_left 2
    · intro w'
      go_simp
      refine ⟨?_, ?_⟩ <;> rfl
    · intro f w' hD hk
      exact (rbest_is rn rd lo hi (p1, p2) HP.out _ (by omega) r2 (by omega) r4 l1 l2 l3).mono fun e w'' ⟨he, hw⟩ => ⟨he, step_below hw hD⟩
    simp only [Act.put, List.setIfInBounds_toArray, List.set_cons_zero, List.set_cons_succ]
    repeat (first
      | (refine Fx.skip_ (by rfl) (fun f w h => h) ?_; simp only [Act.put, List.setIfInBounds_toArray, List.set_cons_zero, List.set_cons_succ])
      | (refine Fx.val_ ?_ (by rfl) ?_ (fun f w h => h) ?_
         rotate_left
         · intro f w' hD hk
           have hb := hD
           have y0_0 : w'.cell? ⟨w.heap.size, 0, none⟩ = some (.int .i64 (rn)) := (step_blk hb (show Blk _ (w.heap.size) 23 #[.int .i64 (rn), .int .i64 (rd)] by repeat' (first | assumption | exact Blk.at_ _ (by first | rfl | (simp; done) | (simp; omega)) _ _ | refine Blk.drewN ?_ _ | refine Blk.drew ?_ | refine Blk.alloc ?_ _ | refine Blk.far ?_ (by first | omega | (simp; done) | (simp; omega)) _))).cell 0
           have y0_1 : w'.cell? ⟨w.heap.size, 1, none⟩ = some (.int .i64 (rd)) := (step_blk hb (show Blk _ (w.heap.size) 23 #[.int .i64 (rn), .int .i64 (rd)] by repeat' (first | assumption | exact Blk.at_ _ (by first | rfl | (simp; done) | (simp; omega)) _ _ | refine Blk.drewN ?_ _ | refine Blk.drew ?_ | refine Blk.alloc ?_ _ | refine Blk.far ?_ (by first | omega | (simp; done) | (simp; omega)) _))).cell 1
           have y1_0 : w'.cell? ⟨w.heap.size + 1, 0, none⟩ = some (.int .i64 (gd)) := (step_blk hb (show Blk _ (w.heap.size + 1) 45 #[.int .i64 (gd), .int .i64 (gv)] by repeat' (first | assumption | exact Blk.at_ _ (by first | rfl | (simp; done) | (simp; omega)) _ _ | refine Blk.drewN ?_ _ | refine Blk.drew ?_ | refine Blk.alloc ?_ _ | refine Blk.far ?_ (by first | omega | (simp; done) | (simp; omega)) _))).cell 0
           have y1_1 : w'.cell? ⟨w.heap.size + 1, 1, none⟩ = some (.int .i64 (gv)) := (step_blk hb (show Blk _ (w.heap.size + 1) 45 #[.int .i64 (gd), .int .i64 (gv)] by repeat' (first | assumption | exact Blk.at_ _ (by first | rfl | (simp; done) | (simp; omega)) _ _ | refine Blk.drewN ?_ _ | refine Blk.drew ?_ | refine Blk.alloc ?_ _ | refine Blk.far ?_ (by first | omega | (simp; done) | (simp; omega)) _))).cell 1
           have y2_0 : w'.cell? ⟨w.heap.size + 2, 0, none⟩ = some (.int .i64 (0)) := (step_blk hb (show Blk _ (w.heap.size + 2) 23 #[.int .i64 (0), .int .i64 (0)] by repeat' (first | assumption | exact Blk.at_ _ (by first | rfl | (simp; done) | (simp; omega)) _ _ | refine Blk.drewN ?_ _ | refine Blk.drew ?_ | refine Blk.alloc ?_ _ | refine Blk.far ?_ (by first | omega | (simp; done) | (simp; omega)) _))).cell 0
           have y2_1 : w'.cell? ⟨w.heap.size + 2, 1, none⟩ = some (.int .i64 (0)) := (step_blk hb (show Blk _ (w.heap.size + 2) 23 #[.int .i64 (0), .int .i64 (0)] by repeat' (first | assumption | exact Blk.at_ _ (by first | rfl | (simp; done) | (simp; omega)) _ _ | refine Blk.drewN ?_ _ | refine Blk.drew ?_ | refine Blk.alloc ?_ _ | refine Blk.far ?_ (by first | omega | (simp; done) | (simp; omega)) _))).cell 1
           clear hk hD hb
           go_simp
           try rfl
         simp only [Act.put, List.setIfInBounds_toArray, List.set_cons_zero, List.set_cons_succ]))
    refine Fx.call_ (.bool false) ?_ ?_ (by rfl) ?_ ?_ ?_
    rotate_left 2
    · intro w'
      go_simp
      refine ⟨?_, ?_⟩ <;> rfl
    · intro f w' hD hk
      exact (nearer_is rn rd p1 p2 (gd, gv) false HN.out _ (by omega) r2 (by omega) r4 (by omega) (by omega) (by omega) (by omega) (by simp only; omega) (by simp only; omega) (by simp only; omega) (by simp only; omega)).mono fun e w'' ⟨he, hw⟩ => ⟨he, step_below hw hD⟩
    simp only [Act.put, List.setIfInBounds_toArray, List.set_cons_zero, List.set_cons_succ]
    repeat (first
      | (refine Fx.skip_ (by rfl) (fun f w h => h) ?_; simp only [Act.put, List.setIfInBounds_toArray, List.set_cons_zero, List.set_cons_succ])
      | (refine Fx.val_ ?_ (by rfl) ?_ (fun f w h => h) ?_
         rotate_left
         · intro f w' hD hk
           have hb := hD
           have y0_0 : w'.cell? ⟨w.heap.size, 0, none⟩ = some (.int .i64 (rn)) := (step_blk hb (show Blk _ (w.heap.size) 23 #[.int .i64 (rn), .int .i64 (rd)] by repeat' (first | assumption | exact Blk.at_ _ (by first | rfl | (simp; done) | (simp; omega)) _ _ | refine Blk.drewN ?_ _ | refine Blk.drew ?_ | refine Blk.alloc ?_ _ | refine Blk.far ?_ (by first | omega | (simp; done) | (simp; omega)) _))).cell 0
           have y0_1 : w'.cell? ⟨w.heap.size, 1, none⟩ = some (.int .i64 (rd)) := (step_blk hb (show Blk _ (w.heap.size) 23 #[.int .i64 (rn), .int .i64 (rd)] by repeat' (first | assumption | exact Blk.at_ _ (by first | rfl | (simp; done) | (simp; omega)) _ _ | refine Blk.drewN ?_ _ | refine Blk.drew ?_ | refine Blk.alloc ?_ _ | refine Blk.far ?_ (by first | omega | (simp; done) | (simp; omega)) _))).cell 1
           have y1_0 : w'.cell? ⟨w.heap.size + 1, 0, none⟩ = some (.int .i64 (gd)) := (step_blk hb (show Blk _ (w.heap.size + 1) 45 #[.int .i64 (gd), .int .i64 (gv)] by repeat' (first | assumption | exact Blk.at_ _ (by first | rfl | (simp; done) | (simp; omega)) _ _ | refine Blk.drewN ?_ _ | refine Blk.drew ?_ | refine Blk.alloc ?_ _ | refine Blk.far ?_ (by first | omega | (simp; done) | (simp; omega)) _))).cell 0
           have y1_1 : w'.cell? ⟨w.heap.size + 1, 1, none⟩ = some (.int .i64 (gv)) := (step_blk hb (show Blk _ (w.heap.size + 1) 45 #[.int .i64 (gd), .int .i64 (gv)] by repeat' (first | assumption | exact Blk.at_ _ (by first | rfl | (simp; done) | (simp; omega)) _ _ | refine Blk.drewN ?_ _ | refine Blk.drew ?_ | refine Blk.alloc ?_ _ | refine Blk.far ?_ (by first | omega | (simp; done) | (simp; omega)) _))).cell 1
           have y2_0 : w'.cell? ⟨w.heap.size + 2, 0, none⟩ = some (.int .i64 (0)) := (step_blk hb (show Blk _ (w.heap.size + 2) 23 #[.int .i64 (0), .int .i64 (0)] by repeat' (first | assumption | exact Blk.at_ _ (by first | rfl | (simp; done) | (simp; omega)) _ _ | refine Blk.drewN ?_ _ | refine Blk.drew ?_ | refine Blk.alloc ?_ _ | refine Blk.far ?_ (by first | omega | (simp; done) | (simp; omega)) _))).cell 0
           have y2_1 : w'.cell? ⟨w.heap.size + 2, 1, none⟩ = some (.int .i64 (0)) := (step_blk hb (show Blk _ (w.heap.size + 2) 23 #[.int .i64 (0), .int .i64 (0)] by repeat' (first | assumption | exact Blk.at_ _ (by first | rfl | (simp; done) | (simp; omega)) _ _ | refine Blk.drewN ?_ _ | refine Blk.drew ?_ | refine Blk.alloc ?_ _ | refine Blk.far ?_ (by first | omega | (simp; done) | (simp; omega)) _))).cell 1
           clear hk hD hb
           go_simp
           try rfl
         simp only [Act.put, List.setIfInBounds_toArray, List.set_cons_zero, List.set_cons_succ]))
    refine Fx.nil_ ?_
    intro f w1 hall hb
    try clear hall
    have HB1 := Lib.hid (show Below w.heap.size w w1 from step_below hb (by repeat' (first | exact Below.refl _ _ | exact HB0.out | assumption | refine below_drewN ?_ _ | refine Below.drew ?_ | refine Below.alloc ?_ (by first | omega | (simp; done) | (simp; omega) | (simp [World.setCell]; omega)) _ | refine Below.setCell ?_ (by first | omega | (simp; done) | (simp; omega)) _)))
    have K0_1 := Lib.hid (step_blk hb (show Blk _ (w.heap.size) 23 #[.int .i64 (rn), .int .i64 (rd)] by repeat' (first | assumption | exact Blk.at_ _ (by first | rfl | (simp; done) | (simp; omega)) _ _ | refine Blk.drewN ?_ _ | refine Blk.drew ?_ | refine Blk.alloc ?_ _ | refine Blk.far ?_ (by first | omega | (simp; done) | (simp; omega)) _)))
    have K1_1 := Lib.hid (step_blk hb (show Blk _ (w.heap.size + 1) 45 #[.int .i64 (gd), .int .i64 (gv)] by repeat' (first | assumption | exact Blk.at_ _ (by first | rfl | (simp; done) | (simp; omega)) _ _ | refine Blk.drewN ?_ _ | refine Blk.drew ?_ | refine Blk.alloc ?_ _ | refine Blk.far ?_ (by first | omega | (simp; done) | (simp; omega)) _)))
    have K2_1 := Lib.hid (step_blk hb (show Blk _ (w.heap.size + 2) 23 #[.int .i64 (0), .int .i64 (0)] by repeat' (first | assumption | exact Blk.at_ _ (by first | rfl | (simp; done) | (simp; omega)) _ _ | refine Blk.drewN ?_ _ | refine Blk.drew ?_ | refine Blk.alloc ?_ _ | refine Blk.far ?_ (by first | omega | (simp; done) | (simp; omega)) _)))
    have hz1 := hb.size
    try simp only [World.size_alloc, World.drewN, World.drew] at hz1
    clear hb
    have l0_1 : w.heap.size < w1.heap.size := K0_1.out.lt
    have z0_0_1 : w1.cell? ⟨w.heap.size, 0, none⟩ = some (.int .i64 (rn)) := K0_1.out.cell 0
    have z0_1_1 : w1.cell? ⟨w.heap.size, 1, none⟩ = some (.int .i64 (rd)) := K0_1.out.cell 1
    have l1_1 : w.heap.size + 1 < w1.heap.size := K1_1.out.lt
    have z1_0_1 : w1.cell? ⟨w.heap.size + 1, 0, none⟩ = some (.int .i64 (gd)) := K1_1.out.cell 0
    have z1_1_1 : w1.cell? ⟨w.heap.size + 1, 1, none⟩ = some (.int .i64 (gv)) := K1_1.out.cell 1
    have l2_1 : w.heap.size + 2 < w1.heap.size := K2_1.out.lt
    have z2_0_1 : w1.cell? ⟨w.heap.size + 2, 0, none⟩ = some (.int .i64 (0)) := K2_1.out.cell 0
    have z2_1_1 : w1.cell? ⟨w.heap.size + 2, 1, none⟩ = some (.int .i64 (0)) := K2_1.out.cell 1
    go_wp2_with fail
    refine (off_is rn rd gd gv O HO.out _ (by omega) (by omega) (by omega) (by omega)).mono ?_
    rintro e w2 ⟨rfl, hb⟩
    have HB2 := Lib.hid (show Below w.heap.size w w2 from step_below hb (by repeat' (first | exact Below.refl _ _ | exact HB1.out | assumption | refine below_drewN ?_ _ | refine Below.drew ?_ | refine Below.alloc ?_ (by first | omega | (simp; done) | (simp; omega) | (simp [World.setCell]; omega)) _ | refine Below.setCell ?_ (by first | omega | (simp; done) | (simp; omega)) _)))
    have K0_2 := Lib.hid (step_blk hb (show Blk _ (w.heap.size) 23 #[.int .i64 (rn), .int .i64 (rd)] by repeat' (first | assumption | exact K0_1.out | exact K1_1.out | exact K2_1.out | exact Blk.at_ _ (by first | rfl | (simp; done) | (simp; omega)) _ _ | refine Blk.drewN ?_ _ | refine Blk.drew ?_ | refine Blk.alloc ?_ _ | refine Blk.far ?_ (by first | omega | (simp; done) | (simp; omega)) _)))
    have K1_2 := Lib.hid (step_blk hb (show Blk _ (w.heap.size + 1) 45 #[.int .i64 (gd), .int .i64 (gv)] by repeat' (first | assumption | exact K0_1.out | exact K1_1.out | exact K2_1.out | exact Blk.at_ _ (by first | rfl | (simp; done) | (simp; omega)) _ _ | refine Blk.drewN ?_ _ | refine Blk.drew ?_ | refine Blk.alloc ?_ _ | refine Blk.far ?_ (by first | omega | (simp; done) | (simp; omega)) _)))
    have K2_2 := Lib.hid (step_blk hb (show Blk _ (w.heap.size + 2) 23 #[.int .i64 (0), .int .i64 (0)] by repeat' (first | assumption | exact K0_1.out | exact K1_1.out | exact K2_1.out | exact Blk.at_ _ (by first | rfl | (simp; done) | (simp; omega)) _ _ | refine Blk.drewN ?_ _ | refine Blk.drew ?_ | refine Blk.alloc ?_ _ | refine Blk.far ?_ (by first | omega | (simp; done) | (simp; omega)) _)))
    have hz2 := hb.size
    try simp only [World.size_alloc, World.drewN, World.drew] at hz2
    clear hb K0_1 K1_1 K2_1 z0_0_1 z0_1_1 l0_1 z1_0_1 z1_1_1 l1_1 z2_0_1 z2_1_1 l2_1
    have l0_2 : w.heap.size < w2.heap.size := K0_2.out.lt
    have z0_0_2 : w2.cell? ⟨w.heap.size, 0, none⟩ = some (.int .i64 (rn)) := K0_2.out.cell 0
    have z0_1_2 : w2.cell? ⟨w.heap.size, 1, none⟩ = some (.int .i64 (rd)) := K0_2.out.cell 1
    have l1_2 : w.heap.size + 1 < w2.heap.size := K1_2.out.lt
    have z1_0_2 : w2.cell? ⟨w.heap.size + 1, 0, none⟩ = some (.int .i64 (gd)) := K1_2.out.cell 0
    have z1_1_2 : w2.cell? ⟨w.heap.size + 1, 1, none⟩ = some (.int .i64 (gv)) := K1_2.out.cell 1
    have l2_2 : w.heap.size + 2 < w2.heap.size := K2_2.out.lt
    have z2_0_2 : w2.cell? ⟨w.heap.size + 2, 0, none⟩ = some (.int .i64 (0)) := K2_2.out.cell 0
    have z2_1_2 : w2.cell? ⟨w.heap.size + 2, 1, none⟩ = some (.int .i64 (0)) := K2_2.out.cell 1
    go_wp2_with fail
    refine (lowest_is O (gv * rd) X Y HX.out HY.out _ (by omega) (by omega) m4 (by omega)).mono ?_
    rintro e w3 ⟨rfl, hb⟩
    have HB3 := Lib.hid (show Below w.heap.size w w3 from step_below hb (by repeat' (first | exact Below.refl _ _ | exact HB2.out | assumption | refine below_drewN ?_ _ | refine Below.drew ?_ | refine Below.alloc ?_ (by first | omega | (simp; done) | (simp; omega) | (simp [World.setCell]; omega)) _ | refine Below.setCell ?_ (by first | omega | (simp; done) | (simp; omega)) _)))
    have K0_3 := Lib.hid (step_blk hb (show Blk _ (w.heap.size) 23 #[.int .i64 (rn), .int .i64 (rd)] by repeat' (first | assumption | exact K0_2.out | exact K1_2.out | exact K2_2.out | exact Blk.at_ _ (by first | rfl | (simp; done) | (simp; omega)) _ _ | refine Blk.drewN ?_ _ | refine Blk.drew ?_ | refine Blk.alloc ?_ _ | refine Blk.far ?_ (by first | omega | (simp; done) | (simp; omega)) _)))
    have K1_3 := Lib.hid (step_blk hb (show Blk _ (w.heap.size + 1) 45 #[.int .i64 (gd), .int .i64 (gv)] by repeat' (first | assumption | exact K0_2.out | exact K1_2.out | exact K2_2.out | exact Blk.at_ _ (by first | rfl | (simp; done) | (simp; omega)) _ _ | refine Blk.drewN ?_ _ | refine Blk.drew ?_ | refine Blk.alloc ?_ _ | refine Blk.far ?_ (by first | omega | (simp; done) | (simp; omega)) _)))
    have K2_3 := Lib.hid (step_blk hb (show Blk _ (w.heap.size + 2) 23 #[.int .i64 (0), .int .i64 (0)] by repeat' (first | assumption | exact K0_2.out | exact K1_2.out | exact K2_2.out | exact Blk.at_ _ (by first | rfl | (simp; done) | (simp; omega)) _ _ | refine Blk.drewN ?_ _ | refine Blk.drew ?_ | refine Blk.alloc ?_ _ | refine Blk.far ?_ (by first | omega | (simp; done) | (simp; omega)) _)))
    have hz3 := hb.size
    try simp only [World.size_alloc, World.drewN, World.drew] at hz3
    clear hb K0_2 K1_2 K2_2 z0_0_2 z0_1_2 l0_2 z1_0_2 z1_1_2 l1_2 z2_0_2 z2_1_2 l2_2
    have l0_3 : w.heap.size < w3.heap.size := K0_3.out.lt
    have z0_0_3 : w3.cell? ⟨w.heap.size, 0, none⟩ = some (.int .i64 (rn)) := K0_3.out.cell 0
    have z0_1_3 : w3.cell? ⟨w.heap.size, 1, none⟩ = some (.int .i64 (rd)) := K0_3.out.cell 1
    have l1_3 : w.heap.size + 1 < w3.heap.size := K1_3.out.lt
    have z1_0_3 : w3.cell? ⟨w.heap.size + 1, 0, none⟩ = some (.int .i64 (gd)) := K1_3.out.cell 0
    have z1_1_3 : w3.cell? ⟨w.heap.size + 1, 1, none⟩ = some (.int .i64 (gv)) := K1_3.out.cell 1
    have l2_3 : w.heap.size + 2 < w3.heap.size := K2_3.out.lt
    have z2_0_3 : w3.cell? ⟨w.heap.size + 2, 0, none⟩ = some (.int .i64 (0)) := K2_3.out.cell 0
    have z2_1_3 : w3.cell? ⟨w.heap.size + 2, 1, none⟩ = some (.int .i64 (0)) := K2_3.out.cell 1
    go_wp2_with fail
    refine (checkfracref_is' X Y T HT.out _ (by omega) x2 (by omega) y2).mono ?_
    rintro e w4 ⟨rfl, hb⟩
    have HB4 := Lib.hid (show Below w.heap.size w w4 from step_below hb (by repeat' (first | exact Below.refl _ _ | exact HB3.out | assumption | refine below_drewN ?_ _ | refine Below.drew ?_ | refine Below.alloc ?_ (by first | omega | (simp; done) | (simp; omega) | (simp [World.setCell]; omega)) _ | refine Below.setCell ?_ (by first | omega | (simp; done) | (simp; omega)) _)))
    have K0_4 := Lib.hid (step_blk hb (show Blk _ (w.heap.size) 23 #[.int .i64 (rn), .int .i64 (rd)] by repeat' (first | assumption | exact K0_3.out | exact K1_3.out | exact K2_3.out | exact Blk.at_ _ (by first | rfl | (simp; done) | (simp; omega)) _ _ | refine Blk.drewN ?_ _ | refine Blk.drew ?_ | refine Blk.alloc ?_ _ | refine Blk.far ?_ (by first | omega | (simp; done) | (simp; omega)) _)))
    have K1_4 := Lib.hid (step_blk hb (show Blk _ (w.heap.size + 1) 45 #[.int .i64 (gd), .int .i64 (gv)] by repeat' (first | assumption | exact K0_3.out | exact K1_3.out | exact K2_3.out | exact Blk.at_ _ (by first | rfl | (simp; done) | (simp; omega)) _ _ | refine Blk.drewN ?_ _ | refine Blk.drew ?_ | refine Blk.alloc ?_ _ | refine Blk.far ?_ (by first | omega | (simp; done) | (simp; omega)) _)))
    have K2_4 := Lib.hid (step_blk hb (show Blk _ (w.heap.size + 2) 23 #[.int .i64 (0), .int .i64 (0)] by repeat' (first | assumption | exact K0_3.out | exact K1_3.out | exact K2_3.out | exact Blk.at_ _ (by first | rfl | (simp; done) | (simp; omega)) _ _ | refine Blk.drewN ?_ _ | refine Blk.drew ?_ | refine Blk.alloc ?_ _ | refine Blk.far ?_ (by first | omega | (simp; done) | (simp; omega)) _)))
    have K3_4 := Lib.hid (step_blk hb (show Blk _ (w3.heap.size) 23 #[.int .i64 (X), .int .i64 (Y)] by repeat' (first | assumption | exact K0_3.out | exact K1_3.out | exact K2_3.out | exact Blk.at_ _ (by first | rfl | (simp; done) | (simp; omega)) _ _ | refine Blk.drewN ?_ _ | refine Blk.drew ?_ | refine Blk.alloc ?_ _ | refine Blk.far ?_ (by first | omega | (simp; done) | (simp; omega)) _)))
    have hz4 := hb.size
    try simp only [World.size_alloc, World.drewN, World.drew] at hz4
    clear hb K0_3 K1_3 K2_3 z0_0_3 z0_1_3 l0_3 z1_0_3 z1_1_3 l1_3 z2_0_3 z2_1_3 l2_3
    have l0_4 : w.heap.size < w4.heap.size := K0_4.out.lt
    have z0_0_4 : w4.cell? ⟨w.heap.size, 0, none⟩ = some (.int .i64 (rn)) := K0_4.out.cell 0
    have z0_1_4 : w4.cell? ⟨w.heap.size, 1, none⟩ = some (.int .i64 (rd)) := K0_4.out.cell 1
    have l1_4 : w.heap.size + 1 < w4.heap.size := K1_4.out.lt
    have z1_0_4 : w4.cell? ⟨w.heap.size + 1, 0, none⟩ = some (.int .i64 (gd)) := K1_4.out.cell 0
    have z1_1_4 : w4.cell? ⟨w.heap.size + 1, 1, none⟩ = some (.int .i64 (gv)) := K1_4.out.cell 1
    have l2_4 : w.heap.size + 2 < w4.heap.size := K2_4.out.lt
    have z2_0_4 : w4.cell? ⟨w.heap.size + 2, 0, none⟩ = some (.int .i64 (0)) := K2_4.out.cell 0
    have z2_1_4 : w4.cell? ⟨w.heap.size + 2, 1, none⟩ = some (.int .i64 (0)) := K2_4.out.cell 1
    have l3_4 : w3.heap.size < w4.heap.size := K3_4.out.lt
    have z3_0_4 : w4.cell? ⟨w3.heap.size, 0, none⟩ = some (.int .i64 (X)) := K3_4.out.cell 0
    have z3_1_4 : w4.cell? ⟨w3.heap.size, 1, none⟩ = some (.int .i64 (Y)) := K3_4.out.cell 1
    have zf2_0 := K2_4.out.frozen 0
    have zf2_1 := K2_4.out.frozen 1
    by_cases hT0 : T = 0
    · have e0 : (T != 0) = false := by simp [hT0]
      have hc := HCC.out
      rw [if_neg (by simp [hT0])] at hc
      cases hc
      go_wp2
      exact bodyPost_ret (v := .tuple #[.agg #[.int .i64 c1, .int .i64 c2], .int .i64 0]) (by simp [results, Try.results37, go_sem, z2_0_4, z2_1_4, l2_4]) rfl ⟨rfl, by repeat' (first | exact Below.refl _ _ | exact HB4.out | assumption | refine below_drewN ?_ _ | refine Below.drew ?_ | refine Below.alloc ?_ (by first | omega | (simp; done) | (simp; omega) | (simp [World.setCell]; omega)) _ | refine Below.setCell ?_ (by first | omega | (simp; done) | (simp; omega)) _)⟩
    · have e0 : (T != 0) = true := by simp [hT0]
      have hc := HCC.out
      rw [if_pos hT0] at hc
      cases hc
      go_wp2
      exact bodyPost_ret (v := .tuple #[.agg #[.int .i64 0, .int .i64 0], .int .i64 8]) (by simp [results, Try.results37, go_sem, z2_0_4, z2_1_4, l2_4]) rfl ⟨rfl, by repeat' (first | exact Below.refl _ _ | exact HB4.out | assumption | refine below_drewN ?_ _ | refine Below.drew ?_ | refine Below.alloc ?_ (by first | omega | (simp; done) | (simp; omega) | (simp [World.setCell]; omega)) _ | refine Below.setCell ?_ (by first | omega | (simp; done) | (simp; omega)) _)⟩
  · have hc : ((0, 0), 22) = ((c1, c2), c3) := by
      rw [← HC.out]
      unfold ckIn
      rw [if_neg (by rw [hw1, hw2]; simp), hP, hn, if_pos rfl]
    cases hc
    have HN := Lib.hid hn
    have HW1 := Lib.hid hw1
    have HW2 := Lib.hid hw2
    have HP := Lib.hid hP
    clear hO hX hY hT hw1 hw2 hP hn HC hsm
    go_enter Try.func37, Try.ntmps37
    go_wp2_with fail
    refine (withinref_is _ _ _ _ HW1.out _).mono ?_
    rintro e w' ⟨rfl, rfl⟩
    go_wp2_with fail
    refine (withinref_is _ _ _ _ HW2.out _).mono ?_
    rintro e w' ⟨rfl, rfl⟩
    go_wp2
    refine Fx.regionW (fun W f w' => Below W.heap.size W w') (by kernel_rfl) (by kernel_rfl) ?_ ?_
    · intro f hf0
      exact below_drewN (Below.refl _ _) 1
    repeat (first
      | (refine Fx.skip_ (by rfl) (fun f w h => h) ?_; simp only [Act.put, List.setIfInBounds_toArray, List.set_cons_zero, List.set_cons_succ])
      | (refine Fx.val_ ?_ (by rfl) ?_ (fun f w h => h) ?_
         rotate_left
         · intro f w' hD hk
           have hb := hD
           have y0_0 : w'.cell? ⟨w.heap.size, 0, none⟩ = some (.int .i64 (rn)) := (step_blk hb (show Blk _ (w.heap.size) 23 #[.int .i64 (rn), .int .i64 (rd)] by repeat' (first | assumption | exact Blk.at_ _ (by first | rfl | (simp; done) | (simp; omega)) _ _ | refine Blk.drewN ?_ _ | refine Blk.drew ?_ | refine Blk.alloc ?_ _ | refine Blk.far ?_ (by first | omega | (simp; done) | (simp; omega)) _))).cell 0
           have y0_1 : w'.cell? ⟨w.heap.size, 1, none⟩ = some (.int .i64 (rd)) := (step_blk hb (show Blk _ (w.heap.size) 23 #[.int .i64 (rn), .int .i64 (rd)] by repeat' (first | assumption | exact Blk.at_ _ (by first | rfl | (simp; done) | (simp; omega)) _ _ | refine Blk.drewN ?_ _ | refine Blk.drew ?_ | refine Blk.alloc ?_ _ | refine Blk.far ?_ (by first | omega | (simp; done) | (simp; omega)) _))).cell 1
           have y1_0 : w'.cell? ⟨w.heap.size + 1, 0, none⟩ = some (.int .i64 (gd)) := (step_blk hb (show Blk _ (w.heap.size + 1) 45 #[.int .i64 (gd), .int .i64 (gv)] by repeat' (first | assumption | exact Blk.at_ _ (by first | rfl | (simp; done) | (simp; omega)) _ _ | refine Blk.drewN ?_ _ | refine Blk.drew ?_ | refine Blk.alloc ?_ _ | refine Blk.far ?_ (by first | omega | (simp; done) | (simp; omega)) _))).cell 0
           have y1_1 : w'.cell? ⟨w.heap.size + 1, 1, none⟩ = some (.int .i64 (gv)) := (step_blk hb (show Blk _ (w.heap.size + 1) 45 #[.int .i64 (gd), .int .i64 (gv)] by repeat' (first | assumption | exact Blk.at_ _ (by first | rfl | (simp; done) | (simp; omega)) _ _ | refine Blk.drewN ?_ _ | refine Blk.drew ?_ | refine Blk.alloc ?_ _ | refine Blk.far ?_ (by first | omega | (simp; done) | (simp; omega)) _))).cell 1
           have y2_0 : w'.cell? ⟨w.heap.size + 2, 0, none⟩ = some (.int .i64 (0)) := (step_blk hb (show Blk _ (w.heap.size + 2) 23 #[.int .i64 (0), .int .i64 (0)] by repeat' (first | assumption | exact Blk.at_ _ (by first | rfl | (simp; done) | (simp; omega)) _ _ | refine Blk.drewN ?_ _ | refine Blk.drew ?_ | refine Blk.alloc ?_ _ | refine Blk.far ?_ (by first | omega | (simp; done) | (simp; omega)) _))).cell 0
           have y2_1 : w'.cell? ⟨w.heap.size + 2, 1, none⟩ = some (.int .i64 (0)) := (step_blk hb (show Blk _ (w.heap.size + 2) 23 #[.int .i64 (0), .int .i64 (0)] by repeat' (first | assumption | exact Blk.at_ _ (by first | rfl | (simp; done) | (simp; omega)) _ _ | refine Blk.drewN ?_ _ | refine Blk.drew ?_ | refine Blk.alloc ?_ _ | refine Blk.far ?_ (by first | omega | (simp; done) | (simp; omega)) _))).cell 1
           clear hk hD hb
           go_simp
           try rfl
         simp only [Act.put, List.setIfInBounds_toArray, List.set_cons_zero, List.set_cons_succ]))
    refine Fx.call_ (.agg #[.int .i64 p1, .int .i64 p2]) ?_ ?_ (by rfl) ?_ ?_ ?_
    rotate_left 2
    · intro w'
      go_simp
      refine ⟨?_, ?_⟩ <;> rfl
    · intro f w' hD hk
      exact (rbest_is rn rd lo hi (p1, p2) HP.out _ (by omega) r2 (by omega) r4 l1 l2 l3).mono fun e w'' ⟨he, hw⟩ => ⟨he, step_below hw hD⟩
    simp only [Act.put, List.setIfInBounds_toArray, List.set_cons_zero, List.set_cons_succ]
    repeat (first
      | (refine Fx.skip_ (by rfl) (fun f w h => h) ?_; simp only [Act.put, List.setIfInBounds_toArray, List.set_cons_zero, List.set_cons_succ])
      | (refine Fx.val_ ?_ (by rfl) ?_ (fun f w h => h) ?_
         rotate_left
         · intro f w' hD hk
           have hb := hD
           have y0_0 : w'.cell? ⟨w.heap.size, 0, none⟩ = some (.int .i64 (rn)) := (step_blk hb (show Blk _ (w.heap.size) 23 #[.int .i64 (rn), .int .i64 (rd)] by repeat' (first | assumption | exact Blk.at_ _ (by first | rfl | (simp; done) | (simp; omega)) _ _ | refine Blk.drewN ?_ _ | refine Blk.drew ?_ | refine Blk.alloc ?_ _ | refine Blk.far ?_ (by first | omega | (simp; done) | (simp; omega)) _))).cell 0
           have y0_1 : w'.cell? ⟨w.heap.size, 1, none⟩ = some (.int .i64 (rd)) := (step_blk hb (show Blk _ (w.heap.size) 23 #[.int .i64 (rn), .int .i64 (rd)] by repeat' (first | assumption | exact Blk.at_ _ (by first | rfl | (simp; done) | (simp; omega)) _ _ | refine Blk.drewN ?_ _ | refine Blk.drew ?_ | refine Blk.alloc ?_ _ | refine Blk.far ?_ (by first | omega | (simp; done) | (simp; omega)) _))).cell 1
           have y1_0 : w'.cell? ⟨w.heap.size + 1, 0, none⟩ = some (.int .i64 (gd)) := (step_blk hb (show Blk _ (w.heap.size + 1) 45 #[.int .i64 (gd), .int .i64 (gv)] by repeat' (first | assumption | exact Blk.at_ _ (by first | rfl | (simp; done) | (simp; omega)) _ _ | refine Blk.drewN ?_ _ | refine Blk.drew ?_ | refine Blk.alloc ?_ _ | refine Blk.far ?_ (by first | omega | (simp; done) | (simp; omega)) _))).cell 0
           have y1_1 : w'.cell? ⟨w.heap.size + 1, 1, none⟩ = some (.int .i64 (gv)) := (step_blk hb (show Blk _ (w.heap.size + 1) 45 #[.int .i64 (gd), .int .i64 (gv)] by repeat' (first | assumption | exact Blk.at_ _ (by first | rfl | (simp; done) | (simp; omega)) _ _ | refine Blk.drewN ?_ _ | refine Blk.drew ?_ | refine Blk.alloc ?_ _ | refine Blk.far ?_ (by first | omega | (simp; done) | (simp; omega)) _))).cell 1
           have y2_0 : w'.cell? ⟨w.heap.size + 2, 0, none⟩ = some (.int .i64 (0)) := (step_blk hb (show Blk _ (w.heap.size + 2) 23 #[.int .i64 (0), .int .i64 (0)] by repeat' (first | assumption | exact Blk.at_ _ (by first | rfl | (simp; done) | (simp; omega)) _ _ | refine Blk.drewN ?_ _ | refine Blk.drew ?_ | refine Blk.alloc ?_ _ | refine Blk.far ?_ (by first | omega | (simp; done) | (simp; omega)) _))).cell 0
           have y2_1 : w'.cell? ⟨w.heap.size + 2, 1, none⟩ = some (.int .i64 (0)) := (step_blk hb (show Blk _ (w.heap.size + 2) 23 #[.int .i64 (0), .int .i64 (0)] by repeat' (first | assumption | exact Blk.at_ _ (by first | rfl | (simp; done) | (simp; omega)) _ _ | refine Blk.drewN ?_ _ | refine Blk.drew ?_ | refine Blk.alloc ?_ _ | refine Blk.far ?_ (by first | omega | (simp; done) | (simp; omega)) _))).cell 1
           clear hk hD hb
           go_simp
           try rfl
         simp only [Act.put, List.setIfInBounds_toArray, List.set_cons_zero, List.set_cons_succ]))
    refine Fx.call_ (.bool true) ?_ ?_ (by rfl) ?_ ?_ ?_
    rotate_left 2
    · intro w'
      go_simp
      refine ⟨?_, ?_⟩ <;> rfl
    · intro f w' hD hk
      exact (nearer_is rn rd p1 p2 (gd, gv) true HN.out _ (by omega) r2 (by omega) r4 (by omega) (by omega) (by omega) (by omega) (by simp only; omega) (by simp only; omega) (by simp only; omega) (by simp only; omega)).mono fun e w'' ⟨he, hw⟩ => ⟨he, step_below hw hD⟩
    simp only [Act.put, List.setIfInBounds_toArray, List.set_cons_zero, List.set_cons_succ]
    repeat (first
      | (refine Fx.skip_ (by rfl) (fun f w h => h) ?_; simp only [Act.put, List.setIfInBounds_toArray, List.set_cons_zero, List.set_cons_succ])
      | (refine Fx.val_ ?_ (by rfl) ?_ (fun f w h => h) ?_
         rotate_left
         · intro f w' hD hk
           have hb := hD
           have y0_0 : w'.cell? ⟨w.heap.size, 0, none⟩ = some (.int .i64 (rn)) := (step_blk hb (show Blk _ (w.heap.size) 23 #[.int .i64 (rn), .int .i64 (rd)] by repeat' (first | assumption | exact Blk.at_ _ (by first | rfl | (simp; done) | (simp; omega)) _ _ | refine Blk.drewN ?_ _ | refine Blk.drew ?_ | refine Blk.alloc ?_ _ | refine Blk.far ?_ (by first | omega | (simp; done) | (simp; omega)) _))).cell 0
           have y0_1 : w'.cell? ⟨w.heap.size, 1, none⟩ = some (.int .i64 (rd)) := (step_blk hb (show Blk _ (w.heap.size) 23 #[.int .i64 (rn), .int .i64 (rd)] by repeat' (first | assumption | exact Blk.at_ _ (by first | rfl | (simp; done) | (simp; omega)) _ _ | refine Blk.drewN ?_ _ | refine Blk.drew ?_ | refine Blk.alloc ?_ _ | refine Blk.far ?_ (by first | omega | (simp; done) | (simp; omega)) _))).cell 1
           have y1_0 : w'.cell? ⟨w.heap.size + 1, 0, none⟩ = some (.int .i64 (gd)) := (step_blk hb (show Blk _ (w.heap.size + 1) 45 #[.int .i64 (gd), .int .i64 (gv)] by repeat' (first | assumption | exact Blk.at_ _ (by first | rfl | (simp; done) | (simp; omega)) _ _ | refine Blk.drewN ?_ _ | refine Blk.drew ?_ | refine Blk.alloc ?_ _ | refine Blk.far ?_ (by first | omega | (simp; done) | (simp; omega)) _))).cell 0
           have y1_1 : w'.cell? ⟨w.heap.size + 1, 1, none⟩ = some (.int .i64 (gv)) := (step_blk hb (show Blk _ (w.heap.size + 1) 45 #[.int .i64 (gd), .int .i64 (gv)] by repeat' (first | assumption | exact Blk.at_ _ (by first | rfl | (simp; done) | (simp; omega)) _ _ | refine Blk.drewN ?_ _ | refine Blk.drew ?_ | refine Blk.alloc ?_ _ | refine Blk.far ?_ (by first | omega | (simp; done) | (simp; omega)) _))).cell 1
           have y2_0 : w'.cell? ⟨w.heap.size + 2, 0, none⟩ = some (.int .i64 (0)) := (step_blk hb (show Blk _ (w.heap.size + 2) 23 #[.int .i64 (0), .int .i64 (0)] by repeat' (first | assumption | exact Blk.at_ _ (by first | rfl | (simp; done) | (simp; omega)) _ _ | refine Blk.drewN ?_ _ | refine Blk.drew ?_ | refine Blk.alloc ?_ _ | refine Blk.far ?_ (by first | omega | (simp; done) | (simp; omega)) _))).cell 0
           have y2_1 : w'.cell? ⟨w.heap.size + 2, 1, none⟩ = some (.int .i64 (0)) := (step_blk hb (show Blk _ (w.heap.size + 2) 23 #[.int .i64 (0), .int .i64 (0)] by repeat' (first | assumption | exact Blk.at_ _ (by first | rfl | (simp; done) | (simp; omega)) _ _ | refine Blk.drewN ?_ _ | refine Blk.drew ?_ | refine Blk.alloc ?_ _ | refine Blk.far ?_ (by first | omega | (simp; done) | (simp; omega)) _))).cell 1
           clear hk hD hb
           go_simp
           try rfl
         simp only [Act.put, List.setIfInBounds_toArray, List.set_cons_zero, List.set_cons_succ]))
    refine Fx.nil_ ?_
    intro f w1 hall hb
    try clear hall
    have HB1 := Lib.hid (show Below w.heap.size w w1 from step_below hb (by repeat' (first | exact Below.refl _ _ | exact HB0.out | assumption | refine below_drewN ?_ _ | refine Below.drew ?_ | refine Below.alloc ?_ (by first | omega | (simp; done) | (simp; omega) | (simp [World.setCell]; omega)) _ | refine Below.setCell ?_ (by first | omega | (simp; done) | (simp; omega)) _)))
    have K0_1 := Lib.hid (step_blk hb (show Blk _ (w.heap.size) 23 #[.int .i64 (rn), .int .i64 (rd)] by repeat' (first | assumption | exact Blk.at_ _ (by first | rfl | (simp; done) | (simp; omega)) _ _ | refine Blk.drewN ?_ _ | refine Blk.drew ?_ | refine Blk.alloc ?_ _ | refine Blk.far ?_ (by first | omega | (simp; done) | (simp; omega)) _)))
    have K1_1 := Lib.hid (step_blk hb (show Blk _ (w.heap.size + 1) 45 #[.int .i64 (gd), .int .i64 (gv)] by repeat' (first | assumption | exact Blk.at_ _ (by first | rfl | (simp; done) | (simp; omega)) _ _ | refine Blk.drewN ?_ _ | refine Blk.drew ?_ | refine Blk.alloc ?_ _ | refine Blk.far ?_ (by first | omega | (simp; done) | (simp; omega)) _)))
    have K2_1 := Lib.hid (step_blk hb (show Blk _ (w.heap.size + 2) 23 #[.int .i64 (0), .int .i64 (0)] by repeat' (first | assumption | exact Blk.at_ _ (by first | rfl | (simp; done) | (simp; omega)) _ _ | refine Blk.drewN ?_ _ | refine Blk.drew ?_ | refine Blk.alloc ?_ _ | refine Blk.far ?_ (by first | omega | (simp; done) | (simp; omega)) _)))
    have hz1 := hb.size
    try simp only [World.size_alloc, World.drewN, World.drew] at hz1
    clear hb
    have l0_1 : w.heap.size < w1.heap.size := K0_1.out.lt
    have z0_0_1 : w1.cell? ⟨w.heap.size, 0, none⟩ = some (.int .i64 (rn)) := K0_1.out.cell 0
    have z0_1_1 : w1.cell? ⟨w.heap.size, 1, none⟩ = some (.int .i64 (rd)) := K0_1.out.cell 1
    have l1_1 : w.heap.size + 1 < w1.heap.size := K1_1.out.lt
    have z1_0_1 : w1.cell? ⟨w.heap.size + 1, 0, none⟩ = some (.int .i64 (gd)) := K1_1.out.cell 0
    have z1_1_1 : w1.cell? ⟨w.heap.size + 1, 1, none⟩ = some (.int .i64 (gv)) := K1_1.out.cell 1
    have l2_1 : w.heap.size + 2 < w1.heap.size := K2_1.out.lt
    have z2_0_1 : w1.cell? ⟨w.heap.size + 2, 0, none⟩ = some (.int .i64 (0)) := K2_1.out.cell 0
    have z2_1_1 : w1.cell? ⟨w.heap.size + 2, 1, none⟩ = some (.int .i64 (0)) := K2_1.out.cell 1
    have zf2_0 := K2_1.out.frozen 0
    have zf2_1 := K2_1.out.frozen 1
    go_wp2
    exact bodyPost_ret (v := .tuple #[.agg #[.int .i64 0, .int .i64 0], .int .i64 22]) (by simp [results, Try.results37, go_sem, z2_0_1, z2_1_1, l2_1]) rfl ⟨rfl, by repeat' (first | exact Below.refl _ _ | exact HB1.out | assumption | refine below_drewN ?_ _ | refine Below.drew ?_ | refine Below.alloc ?_ (by first | omega | (simp; done) | (simp; omega) | (simp [World.setCell]; omega)) _ | refine Below.setCell ?_ (by first | omega | (simp; done) | (simp; omega)) _)⟩

end Go.Proofs.Ytmioamcgbihhjaa
