import Derived.Test.YtdidcpealabaiaaQ11

section
/- Contracts of the exported functions of the apparent place and of the turns, and of the reference's turns. -/
namespace Go.Proofs.Ytdidcpealabaiaa
open Go Go.RowKit

/-- The first error of a mounting, a target and a day. -/
def mtdErr (m : Mnt) (t : Tgt) (day : Int) : Int := orE [mntErr m, tgtErr t, dayErr day]
theorem orE_zero {l : List Int} (h : orE l = 0) : ∀ z ∈ l, z = 0 := by
  induction l with
  | nil => intro z hz; cases hz
  | cons a l ih =>
    unfold orE at h
    by_cases h0 : a = 0
    · rw [if_neg (by simp [h0])] at h
      intro z hz
      rcases List.mem_cons.1 hz with rfl | hz
      · exact h0
      · exact ih h z hz
    · rw [if_pos h0] at h; exact absurd h h0
theorem mtd_zero {m : Mnt} {t : Tgt} {day : Int} (h : mtdErr m t day = 0) : mntErr m = 0 ∧ tgtErr t = 0 ∧ dayErr day = 0 := by
  have := orE_zero h
  exact ⟨this _ (by simp), this _ (by simp), this _ (by simp)⟩

set_option maxRecDepth 100000 in
set_option maxHeartbeats 4000000 in
theorem pApparent_ok (m : Mnt) (t : Tgt) (day X Y : Int) (hA : appF m t day = (X, Y)) (hE : mtdErr m t day = 0) (w : World) (hx : MntAt m w) (hs : t.name.size ≤ maxLen) :
    Calls Try.prog 34 #[m.val, t.val, .int .i64 day] w fun e w' => e = .returned (.tuple #[.agg #[.int .i64 X, .int .i64 Y], .int .i64 0]) ∧ Below w.heap.size w w' := by
  obtain ⟨z1, z2, z3⟩ := mtd_zero hE
  have H1 := Lib.hid z1
  have H2 := Lib.hid z2
  have H3 := Lib.hid z3
  have HX := Lib.hid hx
  have HA := Lib.hid hA
  clear z1 z2 z3 hE hx hA
  unfold Mnt.val Tgt.val
  go_enter Try.func34, Try.ntmps34
  go_wp2
  generalize hwn : (((w.alloc (.cells #[.int .i64 (m.ls), .int .i64 (m.ms), .int .i64 (m.lo), .int .i64 (m.hi), .int .i64 (m.sp), .slice m.A1 m.n1 m.c1, .slice m.A2 m.n2 m.c2] 58)).alloc (.cells #[.string t.name, .int .i64 (t.az), .int .i64 (t.ht), .int .i64 (t.fr), .int .i64 (t.to), .int .i64 (t.dw)] 75)).alloc (.cells #[.int .i64 (0), .int .i64 (0)] 60)) = w1
  have hbn : Below w.heap.size w w1 := by rw [← hwn]; repeat' (first | exact Below.refl _ _ | refine below_drewN ?_ _ | refine Below.drew ?_ | refine Below.alloc ?_ (by first | omega | (simp; done) | (simp; omega) | (simp [World.setCell]; omega)) _ | refine Below.setCell ?_ (by first | omega | (simp; done) | (simp; omega)) _)
  have HB1 := Lib.hid (show Below w.heap.size w w1 from hbn)
  have K0_1 := Lib.hid (show Blk w1 (w.heap.size) 58 #[.int .i64 (m.ls), .int .i64 (m.ms), .int .i64 (m.lo), .int .i64 (m.hi), .int .i64 (m.sp), .slice m.A1 m.n1 m.c1, .slice m.A2 m.n2 m.c2] by rw [← hwn]; repeat' (first | exact Blk.at_ _ (by first | rfl | (simp; done) | (simp; omega)) _ _ | refine Blk.drewN ?_ _ | refine Blk.drew ?_ | refine Blk.alloc ?_ _ | refine Blk.far ?_ (by first | omega | (simp; done) | (simp; omega)) _ | assumption))
  have K1_1 := Lib.hid (show Blk w1 (w.heap.size + 1) 75 #[.string t.name, .int .i64 (t.az), .int .i64 (t.ht), .int .i64 (t.fr), .int .i64 (t.to), .int .i64 (t.dw)] by rw [← hwn]; repeat' (first | exact Blk.at_ _ (by first | rfl | (simp; done) | (simp; omega)) _ _ | refine Blk.drewN ?_ _ | refine Blk.drew ?_ | refine Blk.alloc ?_ _ | refine Blk.far ?_ (by first | omega | (simp; done) | (simp; omega)) _ | assumption))
  have K2_1 := Lib.hid (show Blk w1 (w.heap.size + 2) 60 #[.int .i64 (0), .int .i64 (0)] by rw [← hwn]; repeat' (first | exact Blk.at_ _ (by first | rfl | (simp; done) | (simp; omega)) _ _ | refine Blk.drewN ?_ _ | refine Blk.drew ?_ | refine Blk.alloc ?_ _ | refine Blk.far ?_ (by first | omega | (simp; done) | (simp; omega)) _ | assumption))
  have HN1 := Lib.hid hbn
  have hz1 := hbn.size
  clear hwn hbn
  have l0_1 : w.heap.size < w1.heap.size := K0_1.out.lt
  have z0_0_1 : w1.cell? ⟨w.heap.size, 0, none⟩ = some (.int .i64 (m.ls)) := K0_1.out.cell 0
  have z0_1_1 : w1.cell? ⟨w.heap.size, 1, none⟩ = some (.int .i64 (m.ms)) := K0_1.out.cell 1
  have z0_2_1 : w1.cell? ⟨w.heap.size, 2, none⟩ = some (.int .i64 (m.lo)) := K0_1.out.cell 2
  have z0_3_1 : w1.cell? ⟨w.heap.size, 3, none⟩ = some (.int .i64 (m.hi)) := K0_1.out.cell 3
  have z0_4_1 : w1.cell? ⟨w.heap.size, 4, none⟩ = some (.int .i64 (m.sp)) := K0_1.out.cell 4
  have z0_5_1 : w1.cell? ⟨w.heap.size, 5, none⟩ = some (.slice m.A1 m.n1 m.c1) := K0_1.out.cell 5
  have z0_6_1 : w1.cell? ⟨w.heap.size, 6, none⟩ = some (.slice m.A2 m.n2 m.c2) := K0_1.out.cell 6
  have l1_1 : w.heap.size + 1 < w1.heap.size := K1_1.out.lt
  have z1_0_1 : w1.cell? ⟨w.heap.size + 1, 0, none⟩ = some (.string t.name) := K1_1.out.cell 0
  have z1_1_1 : w1.cell? ⟨w.heap.size + 1, 1, none⟩ = some (.int .i64 (t.az)) := K1_1.out.cell 1
  have z1_2_1 : w1.cell? ⟨w.heap.size + 1, 2, none⟩ = some (.int .i64 (t.ht)) := K1_1.out.cell 2
  have z1_3_1 : w1.cell? ⟨w.heap.size + 1, 3, none⟩ = some (.int .i64 (t.fr)) := K1_1.out.cell 3
  have z1_4_1 : w1.cell? ⟨w.heap.size + 1, 4, none⟩ = some (.int .i64 (t.to)) := K1_1.out.cell 4
  have z1_5_1 : w1.cell? ⟨w.heap.size + 1, 5, none⟩ = some (.int .i64 (t.dw)) := K1_1.out.cell 5
  have l2_1 : w.heap.size + 2 < w1.heap.size := K2_1.out.lt
  have z2_0_1 : w1.cell? ⟨w.heap.size + 2, 0, none⟩ = some (.int .i64 (0)) := K2_1.out.cell 0
  have z2_1_1 : w1.cell? ⟨w.heap.size + 2, 1, none⟩ = some (.int .i64 (0)) := K2_1.out.cell 1
  refine Fx.regionG (fun W g f w' => Below W.heap.size W w' ∧ ∀ x, g = some x → Reads w' w'.heap.size 1 (some ⟨x, 0, none⟩) 3 (([0, 0, 0] : List Int).map (.int .i64))) (fun x : Nat => .slice (some ⟨x, 0, none⟩) 3 3) 6 (by kernel_rfl) (by kernel_rfl) (by kernel_rfl) ?_ ?_
  · intro f hf0
    exact ⟨below_drewN (Below.refl _ _) 1, fun x h => by cases h⟩
  repeat (first
    | (refine Fx.skipE_ (by rfl) (fun g f w h => h) ?_; simp only [Act.put, List.setIfInBounds_toArray, List.set_cons_zero, List.set_cons_succ])
    | (refine Fx.valE_ ?_ (by rfl) ?_ (fun g f w h => h) ?_
       rotate_left
       · intro g f w' hD hk
         obtain ⟨hb, hg⟩ := id hD
         have kb0 := step_blk hb (show Blk _ (w.heap.size) 58 #[.int .i64 (m.ls), .int .i64 (m.ms), .int .i64 (m.lo), .int .i64 (m.hi), .int .i64 (m.sp), .slice m.A1 m.n1 m.c1, .slice m.A2 m.n2 m.c2] by repeat' (first | exact K0_1.out | exact K1_1.out | exact K2_1.out | exact Blk.at_ _ (by first | rfl | (simp; done) | (simp; omega)) _ _ | refine Blk.drewN ?_ _ | refine Blk.drew ?_ | refine Blk.alloc ?_ _ | refine Blk.far ?_ (by first | omega | (simp; done) | (simp; omega)) _ | assumption))
         have y0_0 : w'.cell? ⟨w.heap.size, 0, none⟩ = some (.int .i64 (m.ls)) := kb0.cell 0
         have y0_1 : w'.cell? ⟨w.heap.size, 1, none⟩ = some (.int .i64 (m.ms)) := kb0.cell 1
         have y0_2 : w'.cell? ⟨w.heap.size, 2, none⟩ = some (.int .i64 (m.lo)) := kb0.cell 2
         have y0_3 : w'.cell? ⟨w.heap.size, 3, none⟩ = some (.int .i64 (m.hi)) := kb0.cell 3
         have y0_4 : w'.cell? ⟨w.heap.size, 4, none⟩ = some (.int .i64 (m.sp)) := kb0.cell 4
         have y0_5 : w'.cell? ⟨w.heap.size, 5, none⟩ = some (.slice m.A1 m.n1 m.c1) := kb0.cell 5
         have y0_6 : w'.cell? ⟨w.heap.size, 6, none⟩ = some (.slice m.A2 m.n2 m.c2) := kb0.cell 6
         have kb1 := step_blk hb (show Blk _ (w.heap.size + 1) 75 #[.string t.name, .int .i64 (t.az), .int .i64 (t.ht), .int .i64 (t.fr), .int .i64 (t.to), .int .i64 (t.dw)] by repeat' (first | exact K0_1.out | exact K1_1.out | exact K2_1.out | exact Blk.at_ _ (by first | rfl | (simp; done) | (simp; omega)) _ _ | refine Blk.drewN ?_ _ | refine Blk.drew ?_ | refine Blk.alloc ?_ _ | refine Blk.far ?_ (by first | omega | (simp; done) | (simp; omega)) _ | assumption))
         have y1_0 : w'.cell? ⟨w.heap.size + 1, 0, none⟩ = some (.string t.name) := kb1.cell 0
         have y1_1 : w'.cell? ⟨w.heap.size + 1, 1, none⟩ = some (.int .i64 (t.az)) := kb1.cell 1
         have y1_2 : w'.cell? ⟨w.heap.size + 1, 2, none⟩ = some (.int .i64 (t.ht)) := kb1.cell 2
         have y1_3 : w'.cell? ⟨w.heap.size + 1, 3, none⟩ = some (.int .i64 (t.fr)) := kb1.cell 3
         have y1_4 : w'.cell? ⟨w.heap.size + 1, 4, none⟩ = some (.int .i64 (t.to)) := kb1.cell 4
         have y1_5 : w'.cell? ⟨w.heap.size + 1, 5, none⟩ = some (.int .i64 (t.dw)) := kb1.cell 5
         have kb2 := step_blk hb (show Blk _ (w.heap.size + 2) 60 #[.int .i64 (0), .int .i64 (0)] by repeat' (first | exact K0_1.out | exact K1_1.out | exact K2_1.out | exact Blk.at_ _ (by first | rfl | (simp; done) | (simp; omega)) _ _ | refine Blk.drewN ?_ _ | refine Blk.drew ?_ | refine Blk.alloc ?_ _ | refine Blk.far ?_ (by first | omega | (simp; done) | (simp; omega)) _ | assumption))
         have y2_0 : w'.cell? ⟨w.heap.size + 2, 0, none⟩ = some (.int .i64 (0)) := kb2.cell 0
         have y2_1 : w'.cell? ⟨w.heap.size + 2, 1, none⟩ = some (.int .i64 (0)) := kb2.cell 1
         clear kb0 kb1 kb2
         clear hk hD hb hg
         go_simp
         try rfl
       simp only [Act.put, List.setIfInBounds_toArray, List.set_cons_zero, List.set_cons_succ]))
  refine Fx.callvE_ (.int .i64 0) ?_ ?_ (by rfl) ?_ ?_ ?_
  rotate_left 2
  · intro w'
    go_simp
    refine ⟨?_, ?_⟩ <;> rfl
  · intro g f w' hD hk
    exact (pmount_is m 0 H1.out _ (HX.out.lay (step_below hD.1 HB1.out))).mono fun e w'' ⟨he, hw⟩ => ⟨he, step_below hw hD.1, fun y hy => ((hD.2 y hy).below hw).more hw.size⟩
  simp only [Act.put, List.setIfInBounds_toArray, List.set_cons_zero, List.set_cons_succ]
  repeat (first
    | (refine Fx.skipE_ (by rfl) (fun g f w h => h) ?_; simp only [Act.put, List.setIfInBounds_toArray, List.set_cons_zero, List.set_cons_succ])
    | (refine Fx.valE_ ?_ (by rfl) ?_ (fun g f w h => h) ?_
       rotate_left
       · intro g f w' hD hk
         obtain ⟨hb, hg⟩ := id hD
         have kb0 := step_blk hb (show Blk _ (w.heap.size) 58 #[.int .i64 (m.ls), .int .i64 (m.ms), .int .i64 (m.lo), .int .i64 (m.hi), .int .i64 (m.sp), .slice m.A1 m.n1 m.c1, .slice m.A2 m.n2 m.c2] by repeat' (first | exact K0_1.out | exact K1_1.out | exact K2_1.out | exact Blk.at_ _ (by first | rfl | (simp; done) | (simp; omega)) _ _ | refine Blk.drewN ?_ _ | refine Blk.drew ?_ | refine Blk.alloc ?_ _ | refine Blk.far ?_ (by first | omega | (simp; done) | (simp; omega)) _ | assumption))
         have y0_0 : w'.cell? ⟨w.heap.size, 0, none⟩ = some (.int .i64 (m.ls)) := kb0.cell 0
         have y0_1 : w'.cell? ⟨w.heap.size, 1, none⟩ = some (.int .i64 (m.ms)) := kb0.cell 1
         have y0_2 : w'.cell? ⟨w.heap.size, 2, none⟩ = some (.int .i64 (m.lo)) := kb0.cell 2
         have y0_3 : w'.cell? ⟨w.heap.size, 3, none⟩ = some (.int .i64 (m.hi)) := kb0.cell 3
         have y0_4 : w'.cell? ⟨w.heap.size, 4, none⟩ = some (.int .i64 (m.sp)) := kb0.cell 4
         have y0_5 : w'.cell? ⟨w.heap.size, 5, none⟩ = some (.slice m.A1 m.n1 m.c1) := kb0.cell 5
         have y0_6 : w'.cell? ⟨w.heap.size, 6, none⟩ = some (.slice m.A2 m.n2 m.c2) := kb0.cell 6
         have kb1 := step_blk hb (show Blk _ (w.heap.size + 1) 75 #[.string t.name, .int .i64 (t.az), .int .i64 (t.ht), .int .i64 (t.fr), .int .i64 (t.to), .int .i64 (t.dw)] by repeat' (first | exact K0_1.out | exact K1_1.out | exact K2_1.out | exact Blk.at_ _ (by first | rfl | (simp; done) | (simp; omega)) _ _ | refine Blk.drewN ?_ _ | refine Blk.drew ?_ | refine Blk.alloc ?_ _ | refine Blk.far ?_ (by first | omega | (simp; done) | (simp; omega)) _ | assumption))
         have y1_0 : w'.cell? ⟨w.heap.size + 1, 0, none⟩ = some (.string t.name) := kb1.cell 0
         have y1_1 : w'.cell? ⟨w.heap.size + 1, 1, none⟩ = some (.int .i64 (t.az)) := kb1.cell 1
         have y1_2 : w'.cell? ⟨w.heap.size + 1, 2, none⟩ = some (.int .i64 (t.ht)) := kb1.cell 2
         have y1_3 : w'.cell? ⟨w.heap.size + 1, 3, none⟩ = some (.int .i64 (t.fr)) := kb1.cell 3
         have y1_4 : w'.cell? ⟨w.heap.size + 1, 4, none⟩ = some (.int .i64 (t.to)) := kb1.cell 4
         have y1_5 : w'.cell? ⟨w.heap.size + 1, 5, none⟩ = some (.int .i64 (t.dw)) := kb1.cell 5
         have kb2 := step_blk hb (show Blk _ (w.heap.size + 2) 60 #[.int .i64 (0), .int .i64 (0)] by repeat' (first | exact K0_1.out | exact K1_1.out | exact K2_1.out | exact Blk.at_ _ (by first | rfl | (simp; done) | (simp; omega)) _ _ | refine Blk.drewN ?_ _ | refine Blk.drew ?_ | refine Blk.alloc ?_ _ | refine Blk.far ?_ (by first | omega | (simp; done) | (simp; omega)) _ | assumption))
         have y2_0 : w'.cell? ⟨w.heap.size + 2, 0, none⟩ = some (.int .i64 (0)) := kb2.cell 0
         have y2_1 : w'.cell? ⟨w.heap.size + 2, 1, none⟩ = some (.int .i64 (0)) := kb2.cell 1
         clear kb0 kb1 kb2
         clear hk hD hb hg
         go_simp
         try rfl
       simp only [Act.put, List.setIfInBounds_toArray, List.set_cons_zero, List.set_cons_succ]))
  refine Fx.callvE_ (.int .i64 0) ?_ ?_ (by rfl) ?_ ?_ ?_
  rotate_left 2
  · intro w'
    go_simp
    refine ⟨?_, ?_⟩ <;> rfl
  · intro g f w' hD hk
    exact (ptarget_is t 0 H2.out _ hs).mono fun e w'' ⟨he, hw⟩ => ⟨he, step_below hw hD.1, fun y hy => ((hD.2 y hy).below hw).more hw.size⟩
  simp only [Act.put, List.setIfInBounds_toArray, List.set_cons_zero, List.set_cons_succ]
  repeat (first
    | (refine Fx.skipE_ (by rfl) (fun g f w h => h) ?_; simp only [Act.put, List.setIfInBounds_toArray, List.set_cons_zero, List.set_cons_succ])
    | (refine Fx.valE_ ?_ (by rfl) ?_ (fun g f w h => h) ?_
       rotate_left
       · intro g f w' hD hk
         obtain ⟨hb, hg⟩ := id hD
         have kb0 := step_blk hb (show Blk _ (w.heap.size) 58 #[.int .i64 (m.ls), .int .i64 (m.ms), .int .i64 (m.lo), .int .i64 (m.hi), .int .i64 (m.sp), .slice m.A1 m.n1 m.c1, .slice m.A2 m.n2 m.c2] by repeat' (first | exact K0_1.out | exact K1_1.out | exact K2_1.out | exact Blk.at_ _ (by first | rfl | (simp; done) | (simp; omega)) _ _ | refine Blk.drewN ?_ _ | refine Blk.drew ?_ | refine Blk.alloc ?_ _ | refine Blk.far ?_ (by first | omega | (simp; done) | (simp; omega)) _ | assumption))
         have y0_0 : w'.cell? ⟨w.heap.size, 0, none⟩ = some (.int .i64 (m.ls)) := kb0.cell 0
         have y0_1 : w'.cell? ⟨w.heap.size, 1, none⟩ = some (.int .i64 (m.ms)) := kb0.cell 1
         have y0_2 : w'.cell? ⟨w.heap.size, 2, none⟩ = some (.int .i64 (m.lo)) := kb0.cell 2
         have y0_3 : w'.cell? ⟨w.heap.size, 3, none⟩ = some (.int .i64 (m.hi)) := kb0.cell 3
         have y0_4 : w'.cell? ⟨w.heap.size, 4, none⟩ = some (.int .i64 (m.sp)) := kb0.cell 4
         have y0_5 : w'.cell? ⟨w.heap.size, 5, none⟩ = some (.slice m.A1 m.n1 m.c1) := kb0.cell 5
         have y0_6 : w'.cell? ⟨w.heap.size, 6, none⟩ = some (.slice m.A2 m.n2 m.c2) := kb0.cell 6
         have kb1 := step_blk hb (show Blk _ (w.heap.size + 1) 75 #[.string t.name, .int .i64 (t.az), .int .i64 (t.ht), .int .i64 (t.fr), .int .i64 (t.to), .int .i64 (t.dw)] by repeat' (first | exact K0_1.out | exact K1_1.out | exact K2_1.out | exact Blk.at_ _ (by first | rfl | (simp; done) | (simp; omega)) _ _ | refine Blk.drewN ?_ _ | refine Blk.drew ?_ | refine Blk.alloc ?_ _ | refine Blk.far ?_ (by first | omega | (simp; done) | (simp; omega)) _ | assumption))
         have y1_0 : w'.cell? ⟨w.heap.size + 1, 0, none⟩ = some (.string t.name) := kb1.cell 0
         have y1_1 : w'.cell? ⟨w.heap.size + 1, 1, none⟩ = some (.int .i64 (t.az)) := kb1.cell 1
         have y1_2 : w'.cell? ⟨w.heap.size + 1, 2, none⟩ = some (.int .i64 (t.ht)) := kb1.cell 2
         have y1_3 : w'.cell? ⟨w.heap.size + 1, 3, none⟩ = some (.int .i64 (t.fr)) := kb1.cell 3
         have y1_4 : w'.cell? ⟨w.heap.size + 1, 4, none⟩ = some (.int .i64 (t.to)) := kb1.cell 4
         have y1_5 : w'.cell? ⟨w.heap.size + 1, 5, none⟩ = some (.int .i64 (t.dw)) := kb1.cell 5
         have kb2 := step_blk hb (show Blk _ (w.heap.size + 2) 60 #[.int .i64 (0), .int .i64 (0)] by repeat' (first | exact K0_1.out | exact K1_1.out | exact K2_1.out | exact Blk.at_ _ (by first | rfl | (simp; done) | (simp; omega)) _ _ | refine Blk.drewN ?_ _ | refine Blk.drew ?_ | refine Blk.alloc ?_ _ | refine Blk.far ?_ (by first | omega | (simp; done) | (simp; omega)) _ | assumption))
         have y2_0 : w'.cell? ⟨w.heap.size + 2, 0, none⟩ = some (.int .i64 (0)) := kb2.cell 0
         have y2_1 : w'.cell? ⟨w.heap.size + 2, 1, none⟩ = some (.int .i64 (0)) := kb2.cell 1
         clear kb0 kb1 kb2
         clear hk hD hb hg
         go_simp
         try rfl
       simp only [Act.put, List.setIfInBounds_toArray, List.set_cons_zero, List.set_cons_succ]))
  refine Fx.callvE_ (.int .i64 0) ?_ ?_ (by rfl) ?_ ?_ ?_
  rotate_left 2
  · intro w'
    go_simp
    refine ⟨?_, ?_⟩ <;> rfl
  · intro g f w' hD hk
    exact (checkday_is day 0 H3.out _).mono fun e w'' ⟨he, hw⟩ => ⟨he, hw ▸ hD⟩
  simp only [Act.put, List.setIfInBounds_toArray, List.set_cons_zero, List.set_cons_succ]
  repeat (first
    | (refine Fx.skipE_ (by rfl) (fun g f w h => h) ?_; simp only [Act.put, List.setIfInBounds_toArray, List.set_cons_zero, List.set_cons_succ])
    | (refine Fx.valE_ ?_ (by rfl) ?_ (fun g f w h => h) ?_
       rotate_left
       · intro g f w' hD hk
         obtain ⟨hb, hg⟩ := id hD
         have kb0 := step_blk hb (show Blk _ (w.heap.size) 58 #[.int .i64 (m.ls), .int .i64 (m.ms), .int .i64 (m.lo), .int .i64 (m.hi), .int .i64 (m.sp), .slice m.A1 m.n1 m.c1, .slice m.A2 m.n2 m.c2] by repeat' (first | exact K0_1.out | exact K1_1.out | exact K2_1.out | exact Blk.at_ _ (by first | rfl | (simp; done) | (simp; omega)) _ _ | refine Blk.drewN ?_ _ | refine Blk.drew ?_ | refine Blk.alloc ?_ _ | refine Blk.far ?_ (by first | omega | (simp; done) | (simp; omega)) _ | assumption))
         have y0_0 : w'.cell? ⟨w.heap.size, 0, none⟩ = some (.int .i64 (m.ls)) := kb0.cell 0
         have y0_1 : w'.cell? ⟨w.heap.size, 1, none⟩ = some (.int .i64 (m.ms)) := kb0.cell 1
         have y0_2 : w'.cell? ⟨w.heap.size, 2, none⟩ = some (.int .i64 (m.lo)) := kb0.cell 2
         have y0_3 : w'.cell? ⟨w.heap.size, 3, none⟩ = some (.int .i64 (m.hi)) := kb0.cell 3
         have y0_4 : w'.cell? ⟨w.heap.size, 4, none⟩ = some (.int .i64 (m.sp)) := kb0.cell 4
         have y0_5 : w'.cell? ⟨w.heap.size, 5, none⟩ = some (.slice m.A1 m.n1 m.c1) := kb0.cell 5
         have y0_6 : w'.cell? ⟨w.heap.size, 6, none⟩ = some (.slice m.A2 m.n2 m.c2) := kb0.cell 6
         have kb1 := step_blk hb (show Blk _ (w.heap.size + 1) 75 #[.string t.name, .int .i64 (t.az), .int .i64 (t.ht), .int .i64 (t.fr), .int .i64 (t.to), .int .i64 (t.dw)] by repeat' (first | exact K0_1.out | exact K1_1.out | exact K2_1.out | exact Blk.at_ _ (by first | rfl | (simp; done) | (simp; omega)) _ _ | refine Blk.drewN ?_ _ | refine Blk.drew ?_ | refine Blk.alloc ?_ _ | refine Blk.far ?_ (by first | omega | (simp; done) | (simp; omega)) _ | assumption))
         have y1_0 : w'.cell? ⟨w.heap.size + 1, 0, none⟩ = some (.string t.name) := kb1.cell 0
         have y1_1 : w'.cell? ⟨w.heap.size + 1, 1, none⟩ = some (.int .i64 (t.az)) := kb1.cell 1
         have y1_2 : w'.cell? ⟨w.heap.size + 1, 2, none⟩ = some (.int .i64 (t.ht)) := kb1.cell 2
         have y1_3 : w'.cell? ⟨w.heap.size + 1, 3, none⟩ = some (.int .i64 (t.fr)) := kb1.cell 3
         have y1_4 : w'.cell? ⟨w.heap.size + 1, 4, none⟩ = some (.int .i64 (t.to)) := kb1.cell 4
         have y1_5 : w'.cell? ⟨w.heap.size + 1, 5, none⟩ = some (.int .i64 (t.dw)) := kb1.cell 5
         have kb2 := step_blk hb (show Blk _ (w.heap.size + 2) 60 #[.int .i64 (0), .int .i64 (0)] by repeat' (first | exact K0_1.out | exact K1_1.out | exact K2_1.out | exact Blk.at_ _ (by first | rfl | (simp; done) | (simp; omega)) _ _ | refine Blk.drewN ?_ _ | refine Blk.drew ?_ | refine Blk.alloc ?_ _ | refine Blk.far ?_ (by first | omega | (simp; done) | (simp; omega)) _ | assumption))
         have y2_0 : w'.cell? ⟨w.heap.size + 2, 0, none⟩ = some (.int .i64 (0)) := kb2.cell 0
         have y2_1 : w'.cell? ⟨w.heap.size + 2, 1, none⟩ = some (.int .i64 (0)) := kb2.cell 1
         clear kb0 kb1 kb2
         clear hk hD hb hg
         go_simp
         try rfl
       simp only [Act.put, List.setIfInBounds_toArray, List.set_cons_zero, List.set_cons_succ]))
  refine Fx.makeE_ (by rfl) (by rfl) ?_ ?_
  · intro f w' hD hk
    refine ⟨w'.heap.size, w'.alloc (.cells #[.int .i64 (0), .int .i64 (0), .int .i64 (0)] 27), ?_, ?_⟩
    · clear hD hk
      go_simp
      try rfl
    · exact ⟨hD.1.alloc hD.1.size _, fun y hy => by cases hy; exact Blk.reads (Blk.new _ _ _) rfl⟩
  intro x
  simp only [Act.put, List.setIfInBounds_toArray, List.set_cons_zero, List.set_cons_succ]
  repeat (first
    | (refine Fx.skip_ (by rfl) (fun f w h => h) ?_; simp only [Act.put, List.setIfInBounds_toArray, List.set_cons_zero, List.set_cons_succ])
    | (refine Fx.val_ ?_ (by rfl) ?_ (fun f w h => h) ?_
       rotate_left
       · intro f w' hD hk
         obtain ⟨hb, hg⟩ := id hD
         have kb0 := step_blk hb (show Blk _ (w.heap.size) 58 #[.int .i64 (m.ls), .int .i64 (m.ms), .int .i64 (m.lo), .int .i64 (m.hi), .int .i64 (m.sp), .slice m.A1 m.n1 m.c1, .slice m.A2 m.n2 m.c2] by repeat' (first | exact K0_1.out | exact K1_1.out | exact K2_1.out | exact Blk.at_ _ (by first | rfl | (simp; done) | (simp; omega)) _ _ | refine Blk.drewN ?_ _ | refine Blk.drew ?_ | refine Blk.alloc ?_ _ | refine Blk.far ?_ (by first | omega | (simp; done) | (simp; omega)) _ | assumption))
         have y0_0 : w'.cell? ⟨w.heap.size, 0, none⟩ = some (.int .i64 (m.ls)) := kb0.cell 0
         have y0_1 : w'.cell? ⟨w.heap.size, 1, none⟩ = some (.int .i64 (m.ms)) := kb0.cell 1
         have y0_2 : w'.cell? ⟨w.heap.size, 2, none⟩ = some (.int .i64 (m.lo)) := kb0.cell 2
         have y0_3 : w'.cell? ⟨w.heap.size, 3, none⟩ = some (.int .i64 (m.hi)) := kb0.cell 3
         have y0_4 : w'.cell? ⟨w.heap.size, 4, none⟩ = some (.int .i64 (m.sp)) := kb0.cell 4
         have y0_5 : w'.cell? ⟨w.heap.size, 5, none⟩ = some (.slice m.A1 m.n1 m.c1) := kb0.cell 5
         have y0_6 : w'.cell? ⟨w.heap.size, 6, none⟩ = some (.slice m.A2 m.n2 m.c2) := kb0.cell 6
         have kb1 := step_blk hb (show Blk _ (w.heap.size + 1) 75 #[.string t.name, .int .i64 (t.az), .int .i64 (t.ht), .int .i64 (t.fr), .int .i64 (t.to), .int .i64 (t.dw)] by repeat' (first | exact K0_1.out | exact K1_1.out | exact K2_1.out | exact Blk.at_ _ (by first | rfl | (simp; done) | (simp; omega)) _ _ | refine Blk.drewN ?_ _ | refine Blk.drew ?_ | refine Blk.alloc ?_ _ | refine Blk.far ?_ (by first | omega | (simp; done) | (simp; omega)) _ | assumption))
         have y1_0 : w'.cell? ⟨w.heap.size + 1, 0, none⟩ = some (.string t.name) := kb1.cell 0
         have y1_1 : w'.cell? ⟨w.heap.size + 1, 1, none⟩ = some (.int .i64 (t.az)) := kb1.cell 1
         have y1_2 : w'.cell? ⟨w.heap.size + 1, 2, none⟩ = some (.int .i64 (t.ht)) := kb1.cell 2
         have y1_3 : w'.cell? ⟨w.heap.size + 1, 3, none⟩ = some (.int .i64 (t.fr)) := kb1.cell 3
         have y1_4 : w'.cell? ⟨w.heap.size + 1, 4, none⟩ = some (.int .i64 (t.to)) := kb1.cell 4
         have y1_5 : w'.cell? ⟨w.heap.size + 1, 5, none⟩ = some (.int .i64 (t.dw)) := kb1.cell 5
         have kb2 := step_blk hb (show Blk _ (w.heap.size + 2) 60 #[.int .i64 (0), .int .i64 (0)] by repeat' (first | exact K0_1.out | exact K1_1.out | exact K2_1.out | exact Blk.at_ _ (by first | rfl | (simp; done) | (simp; omega)) _ _ | refine Blk.drewN ?_ _ | refine Blk.drew ?_ | refine Blk.alloc ?_ _ | refine Blk.far ?_ (by first | omega | (simp; done) | (simp; omega)) _ | assumption))
         have y2_0 : w'.cell? ⟨w.heap.size + 2, 0, none⟩ = some (.int .i64 (0)) := kb2.cell 0
         have y2_1 : w'.cell? ⟨w.heap.size + 2, 1, none⟩ = some (.int .i64 (0)) := kb2.cell 1
         clear kb0 kb1 kb2
         clear hk hD hb hg
         go_simp
         try rfl
       simp only [Act.put, List.setIfInBounds_toArray, List.set_cons_zero, List.set_cons_succ]))
  refine Fx.call_ (.int .i64 (0)) ?_ ?_ (by rfl) ?_ ?_ ?_
  rotate_left 2
  · intro w'
    go_simp
    refine ⟨?_, ?_⟩ <;> rfl
  · intro f w' hD hk
    exact (orerr_is (some ⟨x, 0, none⟩) 3 3 _ [0, 0, 0] 0 rfl _ (hD.2 x rfl) (Nat.le_refl _) (by omega)).mono fun e w'' ⟨he, hw⟩ => ⟨he, hw ▸ hD⟩
  simp only [Act.put, List.setIfInBounds_toArray, List.set_cons_zero, List.set_cons_succ]
  repeat (first
    | (refine Fx.skip_ (by rfl) (fun f w h => h) ?_; simp only [Act.put, List.setIfInBounds_toArray, List.set_cons_zero, List.set_cons_succ])
    | (refine Fx.val_ ?_ (by rfl) ?_ (fun f w h => h) ?_
       rotate_left
       · intro f w' hD hk
         obtain ⟨hb, hg⟩ := id hD
         have kb0 := step_blk hb (show Blk _ (w.heap.size) 58 #[.int .i64 (m.ls), .int .i64 (m.ms), .int .i64 (m.lo), .int .i64 (m.hi), .int .i64 (m.sp), .slice m.A1 m.n1 m.c1, .slice m.A2 m.n2 m.c2] by repeat' (first | exact K0_1.out | exact K1_1.out | exact K2_1.out | exact Blk.at_ _ (by first | rfl | (simp; done) | (simp; omega)) _ _ | refine Blk.drewN ?_ _ | refine Blk.drew ?_ | refine Blk.alloc ?_ _ | refine Blk.far ?_ (by first | omega | (simp; done) | (simp; omega)) _ | assumption))
         have y0_0 : w'.cell? ⟨w.heap.size, 0, none⟩ = some (.int .i64 (m.ls)) := kb0.cell 0
         have y0_1 : w'.cell? ⟨w.heap.size, 1, none⟩ = some (.int .i64 (m.ms)) := kb0.cell 1
         have y0_2 : w'.cell? ⟨w.heap.size, 2, none⟩ = some (.int .i64 (m.lo)) := kb0.cell 2
         have y0_3 : w'.cell? ⟨w.heap.size, 3, none⟩ = some (.int .i64 (m.hi)) := kb0.cell 3
         have y0_4 : w'.cell? ⟨w.heap.size, 4, none⟩ = some (.int .i64 (m.sp)) := kb0.cell 4
         have y0_5 : w'.cell? ⟨w.heap.size, 5, none⟩ = some (.slice m.A1 m.n1 m.c1) := kb0.cell 5
         have y0_6 : w'.cell? ⟨w.heap.size, 6, none⟩ = some (.slice m.A2 m.n2 m.c2) := kb0.cell 6
         have kb1 := step_blk hb (show Blk _ (w.heap.size + 1) 75 #[.string t.name, .int .i64 (t.az), .int .i64 (t.ht), .int .i64 (t.fr), .int .i64 (t.to), .int .i64 (t.dw)] by repeat' (first | exact K0_1.out | exact K1_1.out | exact K2_1.out | exact Blk.at_ _ (by first | rfl | (simp; done) | (simp; omega)) _ _ | refine Blk.drewN ?_ _ | refine Blk.drew ?_ | refine Blk.alloc ?_ _ | refine Blk.far ?_ (by first | omega | (simp; done) | (simp; omega)) _ | assumption))
         have y1_0 : w'.cell? ⟨w.heap.size + 1, 0, none⟩ = some (.string t.name) := kb1.cell 0
         have y1_1 : w'.cell? ⟨w.heap.size + 1, 1, none⟩ = some (.int .i64 (t.az)) := kb1.cell 1
         have y1_2 : w'.cell? ⟨w.heap.size + 1, 2, none⟩ = some (.int .i64 (t.ht)) := kb1.cell 2
         have y1_3 : w'.cell? ⟨w.heap.size + 1, 3, none⟩ = some (.int .i64 (t.fr)) := kb1.cell 3
         have y1_4 : w'.cell? ⟨w.heap.size + 1, 4, none⟩ = some (.int .i64 (t.to)) := kb1.cell 4
         have y1_5 : w'.cell? ⟨w.heap.size + 1, 5, none⟩ = some (.int .i64 (t.dw)) := kb1.cell 5
         have kb2 := step_blk hb (show Blk _ (w.heap.size + 2) 60 #[.int .i64 (0), .int .i64 (0)] by repeat' (first | exact K0_1.out | exact K1_1.out | exact K2_1.out | exact Blk.at_ _ (by first | rfl | (simp; done) | (simp; omega)) _ _ | refine Blk.drewN ?_ _ | refine Blk.drew ?_ | refine Blk.alloc ?_ _ | refine Blk.far ?_ (by first | omega | (simp; done) | (simp; omega)) _ | assumption))
         have y2_0 : w'.cell? ⟨w.heap.size + 2, 0, none⟩ = some (.int .i64 (0)) := kb2.cell 0
         have y2_1 : w'.cell? ⟨w.heap.size + 2, 1, none⟩ = some (.int .i64 (0)) := kb2.cell 1
         clear kb0 kb1 kb2
         clear hk hD hb hg
         go_simp
         try rfl
       simp only [Act.put, List.setIfInBounds_toArray, List.set_cons_zero, List.set_cons_succ]))
  refine Fx.nil_ ?_
  intro f w2 hall hD
  have hb := hD.1
  clear hall hD
  have HB2 := Lib.hid (show Below w.heap.size w w2 from step_below hb (by repeat' (first | exact Below.refl _ _ | exact HB1.out | refine below_drewN ?_ _ | refine Below.drew ?_ | refine Below.alloc ?_ (by first | omega | (simp; done) | (simp; omega) | (simp [World.setCell]; omega)) _ | refine Below.setCell ?_ (by first | omega | (simp; done) | (simp; omega)) _ | assumption)))
  have K0_2 := Lib.hid (step_blk hb (show Blk _ (w.heap.size) 58 #[.int .i64 (m.ls), .int .i64 (m.ms), .int .i64 (m.lo), .int .i64 (m.hi), .int .i64 (m.sp), .slice m.A1 m.n1 m.c1, .slice m.A2 m.n2 m.c2] by repeat' (first | exact K0_1.out | exact K1_1.out | exact K2_1.out | exact Blk.at_ _ (by first | rfl | (simp; done) | (simp; omega)) _ _ | refine Blk.drewN ?_ _ | refine Blk.drew ?_ | refine Blk.alloc ?_ _ | refine Blk.far ?_ (by first | omega | (simp; done) | (simp; omega)) _ | assumption)))
  have K1_2 := Lib.hid (step_blk hb (show Blk _ (w.heap.size + 1) 75 #[.string t.name, .int .i64 (t.az), .int .i64 (t.ht), .int .i64 (t.fr), .int .i64 (t.to), .int .i64 (t.dw)] by repeat' (first | exact K0_1.out | exact K1_1.out | exact K2_1.out | exact Blk.at_ _ (by first | rfl | (simp; done) | (simp; omega)) _ _ | refine Blk.drewN ?_ _ | refine Blk.drew ?_ | refine Blk.alloc ?_ _ | refine Blk.far ?_ (by first | omega | (simp; done) | (simp; omega)) _ | assumption)))
  have K2_2 := Lib.hid (step_blk hb (show Blk _ (w.heap.size + 2) 60 #[.int .i64 (0), .int .i64 (0)] by repeat' (first | exact K0_1.out | exact K1_1.out | exact K2_1.out | exact Blk.at_ _ (by first | rfl | (simp; done) | (simp; omega)) _ _ | refine Blk.drewN ?_ _ | refine Blk.drew ?_ | refine Blk.alloc ?_ _ | refine Blk.far ?_ (by first | omega | (simp; done) | (simp; omega)) _ | assumption)))
  have hz2 := hb.size
  try simp only [World.size_alloc, World.drewN, World.drew] at hz2
  clear hb K0_1 K1_1 K2_1 z0_0_1 z0_1_1 z0_2_1 z0_3_1 z0_4_1 z0_5_1 z0_6_1 l0_1 z1_0_1 z1_1_1 z1_2_1 z1_3_1 z1_4_1 z1_5_1 l1_1 z2_0_1 z2_1_1 l2_1
  have l0_2 : w.heap.size < w2.heap.size := K0_2.out.lt
  have z0_0_2 : w2.cell? ⟨w.heap.size, 0, none⟩ = some (.int .i64 (m.ls)) := K0_2.out.cell 0
  have z0_1_2 : w2.cell? ⟨w.heap.size, 1, none⟩ = some (.int .i64 (m.ms)) := K0_2.out.cell 1
  have z0_2_2 : w2.cell? ⟨w.heap.size, 2, none⟩ = some (.int .i64 (m.lo)) := K0_2.out.cell 2
  have z0_3_2 : w2.cell? ⟨w.heap.size, 3, none⟩ = some (.int .i64 (m.hi)) := K0_2.out.cell 3
  have z0_4_2 : w2.cell? ⟨w.heap.size, 4, none⟩ = some (.int .i64 (m.sp)) := K0_2.out.cell 4
  have z0_5_2 : w2.cell? ⟨w.heap.size, 5, none⟩ = some (.slice m.A1 m.n1 m.c1) := K0_2.out.cell 5
  have z0_6_2 : w2.cell? ⟨w.heap.size, 6, none⟩ = some (.slice m.A2 m.n2 m.c2) := K0_2.out.cell 6
  have l1_2 : w.heap.size + 1 < w2.heap.size := K1_2.out.lt
  have z1_0_2 : w2.cell? ⟨w.heap.size + 1, 0, none⟩ = some (.string t.name) := K1_2.out.cell 0
  have z1_1_2 : w2.cell? ⟨w.heap.size + 1, 1, none⟩ = some (.int .i64 (t.az)) := K1_2.out.cell 1
  have z1_2_2 : w2.cell? ⟨w.heap.size + 1, 2, none⟩ = some (.int .i64 (t.ht)) := K1_2.out.cell 2
  have z1_3_2 : w2.cell? ⟨w.heap.size + 1, 3, none⟩ = some (.int .i64 (t.fr)) := K1_2.out.cell 3
  have z1_4_2 : w2.cell? ⟨w.heap.size + 1, 4, none⟩ = some (.int .i64 (t.to)) := K1_2.out.cell 4
  have z1_5_2 : w2.cell? ⟨w.heap.size + 1, 5, none⟩ = some (.int .i64 (t.dw)) := K1_2.out.cell 5
  have l2_2 : w.heap.size + 2 < w2.heap.size := K2_2.out.lt
  have z2_0_2 : w2.cell? ⟨w.heap.size + 2, 0, none⟩ = some (.int .i64 (0)) := K2_2.out.cell 0
  have z2_1_2 : w2.cell? ⟨w.heap.size + 2, 1, none⟩ = some (.int .i64 (0)) := K2_2.out.cell 1
  have zf2_0 := K2_2.out.frozen 0
  have zf2_1 := K2_2.out.frozen 1
  go_wp2_with fail
  refine (papparent_is m t day X Y HA.out _ (HX.out.lay HB2.out) H1.out H2.out H3.out).mono ?_
  rintro e w3 ⟨rfl, hb⟩
  have HB3 := Lib.hid (show Below w.heap.size w w3 from step_below hb (by repeat' (first | exact Below.refl _ _ | exact HB2.out | refine below_drewN ?_ _ | refine Below.drew ?_ | refine Below.alloc ?_ (by first | omega | (simp; done) | (simp; omega) | (simp [World.setCell]; omega)) _ | refine Below.setCell ?_ (by first | omega | (simp; done) | (simp; omega)) _ | assumption)))
  have K0_3 := Lib.hid (step_blk hb (show Blk _ (w.heap.size) 58 #[.int .i64 (m.ls), .int .i64 (m.ms), .int .i64 (m.lo), .int .i64 (m.hi), .int .i64 (m.sp), .slice m.A1 m.n1 m.c1, .slice m.A2 m.n2 m.c2] by repeat' (first | exact K0_2.out | exact K1_2.out | exact K2_2.out | exact Blk.at_ _ (by first | rfl | (simp; done) | (simp; omega)) _ _ | refine Blk.drewN ?_ _ | refine Blk.drew ?_ | refine Blk.alloc ?_ _ | refine Blk.far ?_ (by first | omega | (simp; done) | (simp; omega)) _ | assumption)))
  have K1_3 := Lib.hid (step_blk hb (show Blk _ (w.heap.size + 1) 75 #[.string t.name, .int .i64 (t.az), .int .i64 (t.ht), .int .i64 (t.fr), .int .i64 (t.to), .int .i64 (t.dw)] by repeat' (first | exact K0_2.out | exact K1_2.out | exact K2_2.out | exact Blk.at_ _ (by first | rfl | (simp; done) | (simp; omega)) _ _ | refine Blk.drewN ?_ _ | refine Blk.drew ?_ | refine Blk.alloc ?_ _ | refine Blk.far ?_ (by first | omega | (simp; done) | (simp; omega)) _ | assumption)))
  have K2_3 := Lib.hid (step_blk hb (show Blk _ (w.heap.size + 2) 60 #[.int .i64 (0), .int .i64 (0)] by repeat' (first | exact K0_2.out | exact K1_2.out | exact K2_2.out | exact Blk.at_ _ (by first | rfl | (simp; done) | (simp; omega)) _ _ | refine Blk.drewN ?_ _ | refine Blk.drew ?_ | refine Blk.alloc ?_ _ | refine Blk.far ?_ (by first | omega | (simp; done) | (simp; omega)) _ | assumption)))
  have hz3 := hb.size
  try simp only [World.size_alloc, World.drewN, World.drew] at hz3
  clear hb K0_2 K1_2 K2_2 z0_0_2 z0_1_2 z0_2_2 z0_3_2 z0_4_2 z0_5_2 z0_6_2 l0_2 z1_0_2 z1_1_2 z1_2_2 z1_3_2 z1_4_2 z1_5_2 l1_2 z2_0_2 z2_1_2 l2_2
  have l0_3 : w.heap.size < w3.heap.size := K0_3.out.lt
  have z0_0_3 : w3.cell? ⟨w.heap.size, 0, none⟩ = some (.int .i64 (m.ls)) := K0_3.out.cell 0
  have z0_1_3 : w3.cell? ⟨w.heap.size, 1, none⟩ = some (.int .i64 (m.ms)) := K0_3.out.cell 1
  have z0_2_3 : w3.cell? ⟨w.heap.size, 2, none⟩ = some (.int .i64 (m.lo)) := K0_3.out.cell 2
  have z0_3_3 : w3.cell? ⟨w.heap.size, 3, none⟩ = some (.int .i64 (m.hi)) := K0_3.out.cell 3
  have z0_4_3 : w3.cell? ⟨w.heap.size, 4, none⟩ = some (.int .i64 (m.sp)) := K0_3.out.cell 4
  have z0_5_3 : w3.cell? ⟨w.heap.size, 5, none⟩ = some (.slice m.A1 m.n1 m.c1) := K0_3.out.cell 5
  have z0_6_3 : w3.cell? ⟨w.heap.size, 6, none⟩ = some (.slice m.A2 m.n2 m.c2) := K0_3.out.cell 6
  have l1_3 : w.heap.size + 1 < w3.heap.size := K1_3.out.lt
  have z1_0_3 : w3.cell? ⟨w.heap.size + 1, 0, none⟩ = some (.string t.name) := K1_3.out.cell 0
  have z1_1_3 : w3.cell? ⟨w.heap.size + 1, 1, none⟩ = some (.int .i64 (t.az)) := K1_3.out.cell 1
  have z1_2_3 : w3.cell? ⟨w.heap.size + 1, 2, none⟩ = some (.int .i64 (t.ht)) := K1_3.out.cell 2
  have z1_3_3 : w3.cell? ⟨w.heap.size + 1, 3, none⟩ = some (.int .i64 (t.fr)) := K1_3.out.cell 3
  have z1_4_3 : w3.cell? ⟨w.heap.size + 1, 4, none⟩ = some (.int .i64 (t.to)) := K1_3.out.cell 4
  have z1_5_3 : w3.cell? ⟨w.heap.size + 1, 5, none⟩ = some (.int .i64 (t.dw)) := K1_3.out.cell 5
  have l2_3 : w.heap.size + 2 < w3.heap.size := K2_3.out.lt
  have z2_0_3 : w3.cell? ⟨w.heap.size + 2, 0, none⟩ = some (.int .i64 (0)) := K2_3.out.cell 0
  have z2_1_3 : w3.cell? ⟨w.heap.size + 2, 1, none⟩ = some (.int .i64 (0)) := K2_3.out.cell 1
  have zf2_0 := K2_3.out.frozen 0
  have zf2_1 := K2_3.out.frozen 1
  go_wp2
  exact bodyPost_ret (v := .tuple #[.agg #[.int .i64 X, .int .i64 Y], .int .i64 0]) (by simp [results, Try.results34, go_sem, z2_0_3, z2_1_3, l2_3]) rfl ⟨rfl, by repeat' (first | exact Below.refl _ _ | exact HB3.out | refine below_drewN ?_ _ | refine Below.drew ?_ | refine Below.alloc ?_ (by first | omega | (simp; done) | (simp; omega) | (simp [World.setCell]; omega)) _ | refine Below.setCell ?_ (by first | omega | (simp; done) | (simp; omega)) _ | assumption)⟩

def TurnsPost1 (L : List Int) (E : Int) (n : Nat) (w : World) (e : Ending) (w' : World) : Prop :=
  ∃ A c, e = .returned (.tuple #[.slice A n c, .int .i64 E]) ∧ Below w.heap.size w w' ∧ Reads w' w'.heap.size 1 A n (L.map (.int .i64))
theorem TurnsPost1.mk' {L : List Int} {E : Int} {n : Nat} {w w' : World} {e : Ending} {A : Option Addr} {c : Nat} (h1 : e = .returned (.tuple #[.slice A n c, .int .i64 E])) (h2 : Below w.heap.size w w') (h3 : Reads w' w'.heap.size 1 A n (L.map (.int .i64))) : TurnsPost1 L E n w e w' := ⟨A, c, h1, h2, h3⟩

set_option maxRecDepth 100000 in
set_option maxHeartbeats 4000000 in
theorem pTurns_ok (m : Mnt) (t : Tgt) (day X Y : Int) (L : List Int) (E : Int) (n : Nat) (hA : appF m t day = (X, Y)) (hT : turnsAt m X Y = (L, E)) (hn : L.length = n) (hE : mtdErr m t day = 0) (w : World) (hx : MntAt m w) (hs : t.name.size ≤ maxLen) :
    Calls Try.prog 59 #[m.val, t.val, .int .i64 day] w (TurnsPost1 L E n w) := by
  obtain ⟨z1, z2, z3⟩ := mtd_zero hE
  have H1 := Lib.hid z1
  have H2 := Lib.hid z2
  have H3 := Lib.hid z3
  have HX := Lib.hid hx
  have HA := Lib.hid hA
  have HT := Lib.hid hT
  have HN := Lib.hid hn
  clear z1 z2 z3 hE hx hA hT hn
  unfold Mnt.val Tgt.val
  go_enter Try.func59, Try.ntmps59
  go_wp2
  generalize hwn : ((w.alloc (.cells #[.int .i64 (m.ls), .int .i64 (m.ms), .int .i64 (m.lo), .int .i64 (m.hi), .int .i64 (m.sp), .slice m.A1 m.n1 m.c1, .slice m.A2 m.n2 m.c2] 58)).alloc (.cells #[.string t.name, .int .i64 (t.az), .int .i64 (t.ht), .int .i64 (t.fr), .int .i64 (t.to), .int .i64 (t.dw)] 75)) = w1
  have hbn : Below w.heap.size w w1 := by rw [← hwn]; repeat' (first | exact Below.refl _ _ | refine below_drewN ?_ _ | refine Below.drew ?_ | refine Below.alloc ?_ (by first | omega | (simp; done) | (simp; omega) | (simp [World.setCell]; omega)) _ | refine Below.setCell ?_ (by first | omega | (simp; done) | (simp; omega)) _)
  have HB1 := Lib.hid (show Below w.heap.size w w1 from hbn)
  have K0_1 := Lib.hid (show Blk w1 (w.heap.size) 58 #[.int .i64 (m.ls), .int .i64 (m.ms), .int .i64 (m.lo), .int .i64 (m.hi), .int .i64 (m.sp), .slice m.A1 m.n1 m.c1, .slice m.A2 m.n2 m.c2] by rw [← hwn]; repeat' (first | exact Blk.at_ _ (by first | rfl | (simp; done) | (simp; omega)) _ _ | refine Blk.drewN ?_ _ | refine Blk.drew ?_ | refine Blk.alloc ?_ _ | refine Blk.far ?_ (by first | omega | (simp; done) | (simp; omega)) _ | assumption))
  have K1_1 := Lib.hid (show Blk w1 (w.heap.size + 1) 75 #[.string t.name, .int .i64 (t.az), .int .i64 (t.ht), .int .i64 (t.fr), .int .i64 (t.to), .int .i64 (t.dw)] by rw [← hwn]; repeat' (first | exact Blk.at_ _ (by first | rfl | (simp; done) | (simp; omega)) _ _ | refine Blk.drewN ?_ _ | refine Blk.drew ?_ | refine Blk.alloc ?_ _ | refine Blk.far ?_ (by first | omega | (simp; done) | (simp; omega)) _ | assumption))
  have HN1 := Lib.hid hbn
  have hz1 := hbn.size
  clear hwn hbn
  have l0_1 : w.heap.size < w1.heap.size := K0_1.out.lt
  have z0_0_1 : w1.cell? ⟨w.heap.size, 0, none⟩ = some (.int .i64 (m.ls)) := K0_1.out.cell 0
  have z0_1_1 : w1.cell? ⟨w.heap.size, 1, none⟩ = some (.int .i64 (m.ms)) := K0_1.out.cell 1
  have z0_2_1 : w1.cell? ⟨w.heap.size, 2, none⟩ = some (.int .i64 (m.lo)) := K0_1.out.cell 2
  have z0_3_1 : w1.cell? ⟨w.heap.size, 3, none⟩ = some (.int .i64 (m.hi)) := K0_1.out.cell 3
  have z0_4_1 : w1.cell? ⟨w.heap.size, 4, none⟩ = some (.int .i64 (m.sp)) := K0_1.out.cell 4
  have z0_5_1 : w1.cell? ⟨w.heap.size, 5, none⟩ = some (.slice m.A1 m.n1 m.c1) := K0_1.out.cell 5
  have z0_6_1 : w1.cell? ⟨w.heap.size, 6, none⟩ = some (.slice m.A2 m.n2 m.c2) := K0_1.out.cell 6
  have l1_1 : w.heap.size + 1 < w1.heap.size := K1_1.out.lt
  have z1_0_1 : w1.cell? ⟨w.heap.size + 1, 0, none⟩ = some (.string t.name) := K1_1.out.cell 0
  have z1_1_1 : w1.cell? ⟨w.heap.size + 1, 1, none⟩ = some (.int .i64 (t.az)) := K1_1.out.cell 1
  have z1_2_1 : w1.cell? ⟨w.heap.size + 1, 2, none⟩ = some (.int .i64 (t.ht)) := K1_1.out.cell 2
  have z1_3_1 : w1.cell? ⟨w.heap.size + 1, 3, none⟩ = some (.int .i64 (t.fr)) := K1_1.out.cell 3
  have z1_4_1 : w1.cell? ⟨w.heap.size + 1, 4, none⟩ = some (.int .i64 (t.to)) := K1_1.out.cell 4
  have z1_5_1 : w1.cell? ⟨w.heap.size + 1, 5, none⟩ = some (.int .i64 (t.dw)) := K1_1.out.cell 5
  refine Fx.regionG (fun W g f w' => Below W.heap.size W w' ∧ ∀ x, g = some x → Reads w' w'.heap.size 1 (some ⟨x, 0, none⟩) 3 (([0, 0, 0] : List Int).map (.int .i64))) (fun x : Nat => .slice (some ⟨x, 0, none⟩) 3 3) 6 (by kernel_rfl) (by kernel_rfl) (by kernel_rfl) ?_ ?_
  · intro f hf0
    exact ⟨below_drewN (Below.refl _ _) 1, fun x h => by cases h⟩
  repeat (first
    | (refine Fx.skipE_ (by rfl) (fun g f w h => h) ?_; simp only [Act.put, List.setIfInBounds_toArray, List.set_cons_zero, List.set_cons_succ])
    | (refine Fx.valE_ ?_ (by rfl) ?_ (fun g f w h => h) ?_
       rotate_left
       · intro g f w' hD hk
         obtain ⟨hb, hg⟩ := id hD
         have kb0 := step_blk hb (show Blk _ (w.heap.size) 58 #[.int .i64 (m.ls), .int .i64 (m.ms), .int .i64 (m.lo), .int .i64 (m.hi), .int .i64 (m.sp), .slice m.A1 m.n1 m.c1, .slice m.A2 m.n2 m.c2] by repeat' (first | exact K0_1.out | exact K1_1.out | exact Blk.at_ _ (by first | rfl | (simp; done) | (simp; omega)) _ _ | refine Blk.drewN ?_ _ | refine Blk.drew ?_ | refine Blk.alloc ?_ _ | refine Blk.far ?_ (by first | omega | (simp; done) | (simp; omega)) _ | assumption))
         have y0_0 : w'.cell? ⟨w.heap.size, 0, none⟩ = some (.int .i64 (m.ls)) := kb0.cell 0
         have y0_1 : w'.cell? ⟨w.heap.size, 1, none⟩ = some (.int .i64 (m.ms)) := kb0.cell 1
         have y0_2 : w'.cell? ⟨w.heap.size, 2, none⟩ = some (.int .i64 (m.lo)) := kb0.cell 2
         have y0_3 : w'.cell? ⟨w.heap.size, 3, none⟩ = some (.int .i64 (m.hi)) := kb0.cell 3
         have y0_4 : w'.cell? ⟨w.heap.size, 4, none⟩ = some (.int .i64 (m.sp)) := kb0.cell 4
         have y0_5 : w'.cell? ⟨w.heap.size, 5, none⟩ = some (.slice m.A1 m.n1 m.c1) := kb0.cell 5
         have y0_6 : w'.cell? ⟨w.heap.size, 6, none⟩ = some (.slice m.A2 m.n2 m.c2) := kb0.cell 6
         have kb1 := step_blk hb (show Blk _ (w.heap.size + 1) 75 #[.string t.name, .int .i64 (t.az), .int .i64 (t.ht), .int .i64 (t.fr), .int .i64 (t.to), .int .i64 (t.dw)] by repeat' (first | exact K0_1.out | exact K1_1.out | exact Blk.at_ _ (by first | rfl | (simp; done) | (simp; omega)) _ _ | refine Blk.drewN ?_ _ | refine Blk.drew ?_ | refine Blk.alloc ?_ _ | refine Blk.far ?_ (by first | omega | (simp; done) | (simp; omega)) _ | assumption))
         have y1_0 : w'.cell? ⟨w.heap.size + 1, 0, none⟩ = some (.string t.name) := kb1.cell 0
         have y1_1 : w'.cell? ⟨w.heap.size + 1, 1, none⟩ = some (.int .i64 (t.az)) := kb1.cell 1
         have y1_2 : w'.cell? ⟨w.heap.size + 1, 2, none⟩ = some (.int .i64 (t.ht)) := kb1.cell 2
         have y1_3 : w'.cell? ⟨w.heap.size + 1, 3, none⟩ = some (.int .i64 (t.fr)) := kb1.cell 3
         have y1_4 : w'.cell? ⟨w.heap.size + 1, 4, none⟩ = some (.int .i64 (t.to)) := kb1.cell 4
         have y1_5 : w'.cell? ⟨w.heap.size + 1, 5, none⟩ = some (.int .i64 (t.dw)) := kb1.cell 5
         clear kb0 kb1
         clear hk hD hb hg
         go_simp
         try rfl
       simp only [Act.put, List.setIfInBounds_toArray, List.set_cons_zero, List.set_cons_succ]))
  refine Fx.callvE_ (.int .i64 0) ?_ ?_ (by rfl) ?_ ?_ ?_
  rotate_left 2
  · intro w'
    go_simp
    refine ⟨?_, ?_⟩ <;> rfl
  · intro g f w' hD hk
    exact (pmount_is m 0 H1.out _ (HX.out.lay (step_below hD.1 HB1.out))).mono fun e w'' ⟨he, hw⟩ => ⟨he, step_below hw hD.1, fun y hy => ((hD.2 y hy).below hw).more hw.size⟩
  simp only [Act.put, List.setIfInBounds_toArray, List.set_cons_zero, List.set_cons_succ]
  repeat (first
    | (refine Fx.skipE_ (by rfl) (fun g f w h => h) ?_; simp only [Act.put, List.setIfInBounds_toArray, List.set_cons_zero, List.set_cons_succ])
    | (refine Fx.valE_ ?_ (by rfl) ?_ (fun g f w h => h) ?_
       rotate_left
       · intro g f w' hD hk
         obtain ⟨hb, hg⟩ := id hD
         have kb0 := step_blk hb (show Blk _ (w.heap.size) 58 #[.int .i64 (m.ls), .int .i64 (m.ms), .int .i64 (m.lo), .int .i64 (m.hi), .int .i64 (m.sp), .slice m.A1 m.n1 m.c1, .slice m.A2 m.n2 m.c2] by repeat' (first | exact K0_1.out | exact K1_1.out | exact Blk.at_ _ (by first | rfl | (simp; done) | (simp; omega)) _ _ | refine Blk.drewN ?_ _ | refine Blk.drew ?_ | refine Blk.alloc ?_ _ | refine Blk.far ?_ (by first | omega | (simp; done) | (simp; omega)) _ | assumption))
         have y0_0 : w'.cell? ⟨w.heap.size, 0, none⟩ = some (.int .i64 (m.ls)) := kb0.cell 0
         have y0_1 : w'.cell? ⟨w.heap.size, 1, none⟩ = some (.int .i64 (m.ms)) := kb0.cell 1
         have y0_2 : w'.cell? ⟨w.heap.size, 2, none⟩ = some (.int .i64 (m.lo)) := kb0.cell 2
         have y0_3 : w'.cell? ⟨w.heap.size, 3, none⟩ = some (.int .i64 (m.hi)) := kb0.cell 3
         have y0_4 : w'.cell? ⟨w.heap.size, 4, none⟩ = some (.int .i64 (m.sp)) := kb0.cell 4
         have y0_5 : w'.cell? ⟨w.heap.size, 5, none⟩ = some (.slice m.A1 m.n1 m.c1) := kb0.cell 5
         have y0_6 : w'.cell? ⟨w.heap.size, 6, none⟩ = some (.slice m.A2 m.n2 m.c2) := kb0.cell 6
         have kb1 := step_blk hb (show Blk _ (w.heap.size + 1) 75 #[.string t.name, .int .i64 (t.az), .int .i64 (t.ht), .int .i64 (t.fr), .int .i64 (t.to), .int .i64 (t.dw)] by repeat' (first | exact K0_1.out | exact K1_1.out | exact Blk.at_ _ (by first | rfl | (simp; done) | (simp; omega)) _ _ | refine Blk.drewN ?_ _ | refine Blk.drew ?_ | refine Blk.alloc ?_ _ | refine Blk.far ?_ (by first | omega | (simp; done) | (simp; omega)) _ | assumption))
         have y1_0 : w'.cell? ⟨w.heap.size + 1, 0, none⟩ = some (.string t.name) := kb1.cell 0
         have y1_1 : w'.cell? ⟨w.heap.size + 1, 1, none⟩ = some (.int .i64 (t.az)) := kb1.cell 1
         have y1_2 : w'.cell? ⟨w.heap.size + 1, 2, none⟩ = some (.int .i64 (t.ht)) := kb1.cell 2
         have y1_3 : w'.cell? ⟨w.heap.size + 1, 3, none⟩ = some (.int .i64 (t.fr)) := kb1.cell 3
         have y1_4 : w'.cell? ⟨w.heap.size + 1, 4, none⟩ = some (.int .i64 (t.to)) := kb1.cell 4
         have y1_5 : w'.cell? ⟨w.heap.size + 1, 5, none⟩ = some (.int .i64 (t.dw)) := kb1.cell 5
         clear kb0 kb1
         clear hk hD hb hg
         go_simp
         try rfl
       simp only [Act.put, List.setIfInBounds_toArray, List.set_cons_zero, List.set_cons_succ]))
  refine Fx.callvE_ (.int .i64 0) ?_ ?_ (by rfl) ?_ ?_ ?_
  rotate_left 2
  · intro w'
    go_simp
    refine ⟨?_, ?_⟩ <;> rfl
  · intro g f w' hD hk
    exact (ptarget_is t 0 H2.out _ hs).mono fun e w'' ⟨he, hw⟩ => ⟨he, step_below hw hD.1, fun y hy => ((hD.2 y hy).below hw).more hw.size⟩
  simp only [Act.put, List.setIfInBounds_toArray, List.set_cons_zero, List.set_cons_succ]
  repeat (first
    | (refine Fx.skipE_ (by rfl) (fun g f w h => h) ?_; simp only [Act.put, List.setIfInBounds_toArray, List.set_cons_zero, List.set_cons_succ])
    | (refine Fx.valE_ ?_ (by rfl) ?_ (fun g f w h => h) ?_
       rotate_left
       · intro g f w' hD hk
         obtain ⟨hb, hg⟩ := id hD
         have kb0 := step_blk hb (show Blk _ (w.heap.size) 58 #[.int .i64 (m.ls), .int .i64 (m.ms), .int .i64 (m.lo), .int .i64 (m.hi), .int .i64 (m.sp), .slice m.A1 m.n1 m.c1, .slice m.A2 m.n2 m.c2] by repeat' (first | exact K0_1.out | exact K1_1.out | exact Blk.at_ _ (by first | rfl | (simp; done) | (simp; omega)) _ _ | refine Blk.drewN ?_ _ | refine Blk.drew ?_ | refine Blk.alloc ?_ _ | refine Blk.far ?_ (by first | omega | (simp; done) | (simp; omega)) _ | assumption))
         have y0_0 : w'.cell? ⟨w.heap.size, 0, none⟩ = some (.int .i64 (m.ls)) := kb0.cell 0
         have y0_1 : w'.cell? ⟨w.heap.size, 1, none⟩ = some (.int .i64 (m.ms)) := kb0.cell 1
         have y0_2 : w'.cell? ⟨w.heap.size, 2, none⟩ = some (.int .i64 (m.lo)) := kb0.cell 2
         have y0_3 : w'.cell? ⟨w.heap.size, 3, none⟩ = some (.int .i64 (m.hi)) := kb0.cell 3
         have y0_4 : w'.cell? ⟨w.heap.size, 4, none⟩ = some (.int .i64 (m.sp)) := kb0.cell 4
         have y0_5 : w'.cell? ⟨w.heap.size, 5, none⟩ = some (.slice m.A1 m.n1 m.c1) := kb0.cell 5
         have y0_6 : w'.cell? ⟨w.heap.size, 6, none⟩ = some (.slice m.A2 m.n2 m.c2) := kb0.cell 6
         have kb1 := step_blk hb (show Blk _ (w.heap.size + 1) 75 #[.string t.name, .int .i64 (t.az), .int .i64 (t.ht), .int .i64 (t.fr), .int .i64 (t.to), .int .i64 (t.dw)] by repeat' (first | exact K0_1.out | exact K1_1.out | exact Blk.at_ _ (by first | rfl | (simp; done) | (simp; omega)) _ _ | refine Blk.drewN ?_ _ | refine Blk.drew ?_ | refine Blk.alloc ?_ _ | refine Blk.far ?_ (by first | omega | (simp; done) | (simp; omega)) _ | assumption))
         have y1_0 : w'.cell? ⟨w.heap.size + 1, 0, none⟩ = some (.string t.name) := kb1.cell 0
         have y1_1 : w'.cell? ⟨w.heap.size + 1, 1, none⟩ = some (.int .i64 (t.az)) := kb1.cell 1
         have y1_2 : w'.cell? ⟨w.heap.size + 1, 2, none⟩ = some (.int .i64 (t.ht)) := kb1.cell 2
         have y1_3 : w'.cell? ⟨w.heap.size + 1, 3, none⟩ = some (.int .i64 (t.fr)) := kb1.cell 3
         have y1_4 : w'.cell? ⟨w.heap.size + 1, 4, none⟩ = some (.int .i64 (t.to)) := kb1.cell 4
         have y1_5 : w'.cell? ⟨w.heap.size + 1, 5, none⟩ = some (.int .i64 (t.dw)) := kb1.cell 5
         clear kb0 kb1
         clear hk hD hb hg
         go_simp
         try rfl
       simp only [Act.put, List.setIfInBounds_toArray, List.set_cons_zero, List.set_cons_succ]))
  refine Fx.callvE_ (.int .i64 0) ?_ ?_ (by rfl) ?_ ?_ ?_
  rotate_left 2
  · intro w'
    go_simp
    refine ⟨?_, ?_⟩ <;> rfl
  · intro g f w' hD hk
    exact (checkday_is day 0 H3.out _).mono fun e w'' ⟨he, hw⟩ => ⟨he, hw ▸ hD⟩
  simp only [Act.put, List.setIfInBounds_toArray, List.set_cons_zero, List.set_cons_succ]
  repeat (first
    | (refine Fx.skipE_ (by rfl) (fun g f w h => h) ?_; simp only [Act.put, List.setIfInBounds_toArray, List.set_cons_zero, List.set_cons_succ])
    | (refine Fx.valE_ ?_ (by rfl) ?_ (fun g f w h => h) ?_
       rotate_left
       · intro g f w' hD hk
         obtain ⟨hb, hg⟩ := id hD
         have kb0 := step_blk hb (show Blk _ (w.heap.size) 58 #[.int .i64 (m.ls), .int .i64 (m.ms), .int .i64 (m.lo), .int .i64 (m.hi), .int .i64 (m.sp), .slice m.A1 m.n1 m.c1, .slice m.A2 m.n2 m.c2] by repeat' (first | exact K0_1.out | exact K1_1.out | exact Blk.at_ _ (by first | rfl | (simp; done) | (simp; omega)) _ _ | refine Blk.drewN ?_ _ | refine Blk.drew ?_ | refine Blk.alloc ?_ _ | refine Blk.far ?_ (by first | omega | (simp; done) | (simp; omega)) _ | assumption))
         have y0_0 : w'.cell? ⟨w.heap.size, 0, none⟩ = some (.int .i64 (m.ls)) := kb0.cell 0
         have y0_1 : w'.cell? ⟨w.heap.size, 1, none⟩ = some (.int .i64 (m.ms)) := kb0.cell 1
         have y0_2 : w'.cell? ⟨w.heap.size, 2, none⟩ = some (.int .i64 (m.lo)) := kb0.cell 2
         have y0_3 : w'.cell? ⟨w.heap.size, 3, none⟩ = some (.int .i64 (m.hi)) := kb0.cell 3
         have y0_4 : w'.cell? ⟨w.heap.size, 4, none⟩ = some (.int .i64 (m.sp)) := kb0.cell 4
         have y0_5 : w'.cell? ⟨w.heap.size, 5, none⟩ = some (.slice m.A1 m.n1 m.c1) := kb0.cell 5
         have y0_6 : w'.cell? ⟨w.heap.size, 6, none⟩ = some (.slice m.A2 m.n2 m.c2) := kb0.cell 6
         have kb1 := step_blk hb (show Blk _ (w.heap.size + 1) 75 #[.string t.name, .int .i64 (t.az), .int .i64 (t.ht), .int .i64 (t.fr), .int .i64 (t.to), .int .i64 (t.dw)] by repeat' (first | exact K0_1.out | exact K1_1.out | exact Blk.at_ _ (by first | rfl | (simp; done) | (simp; omega)) _ _ | refine Blk.drewN ?_ _ | refine Blk.drew ?_ | refine Blk.alloc ?_ _ | refine Blk.far ?_ (by first | omega | (simp; done) | (simp; omega)) _ | assumption))
         have y1_0 : w'.cell? ⟨w.heap.size + 1, 0, none⟩ = some (.string t.name) := kb1.cell 0
         have y1_1 : w'.cell? ⟨w.heap.size + 1, 1, none⟩ = some (.int .i64 (t.az)) := kb1.cell 1
         have y1_2 : w'.cell? ⟨w.heap.size + 1, 2, none⟩ = some (.int .i64 (t.ht)) := kb1.cell 2
         have y1_3 : w'.cell? ⟨w.heap.size + 1, 3, none⟩ = some (.int .i64 (t.fr)) := kb1.cell 3
         have y1_4 : w'.cell? ⟨w.heap.size + 1, 4, none⟩ = some (.int .i64 (t.to)) := kb1.cell 4
         have y1_5 : w'.cell? ⟨w.heap.size + 1, 5, none⟩ = some (.int .i64 (t.dw)) := kb1.cell 5
         clear kb0 kb1
         clear hk hD hb hg
         go_simp
         try rfl
       simp only [Act.put, List.setIfInBounds_toArray, List.set_cons_zero, List.set_cons_succ]))
  refine Fx.makeE_ (by rfl) (by rfl) ?_ ?_
  · intro f w' hD hk
    refine ⟨w'.heap.size, w'.alloc (.cells #[.int .i64 (0), .int .i64 (0), .int .i64 (0)] 27), ?_, ?_⟩
    · clear hD hk
      go_simp
      try rfl
    · exact ⟨hD.1.alloc hD.1.size _, fun y hy => by cases hy; exact Blk.reads (Blk.new _ _ _) rfl⟩
  intro x
  simp only [Act.put, List.setIfInBounds_toArray, List.set_cons_zero, List.set_cons_succ]
  repeat (first
    | (refine Fx.skip_ (by rfl) (fun f w h => h) ?_; simp only [Act.put, List.setIfInBounds_toArray, List.set_cons_zero, List.set_cons_succ])
    | (refine Fx.val_ ?_ (by rfl) ?_ (fun f w h => h) ?_
       rotate_left
       · intro f w' hD hk
         obtain ⟨hb, hg⟩ := id hD
         have kb0 := step_blk hb (show Blk _ (w.heap.size) 58 #[.int .i64 (m.ls), .int .i64 (m.ms), .int .i64 (m.lo), .int .i64 (m.hi), .int .i64 (m.sp), .slice m.A1 m.n1 m.c1, .slice m.A2 m.n2 m.c2] by repeat' (first | exact K0_1.out | exact K1_1.out | exact Blk.at_ _ (by first | rfl | (simp; done) | (simp; omega)) _ _ | refine Blk.drewN ?_ _ | refine Blk.drew ?_ | refine Blk.alloc ?_ _ | refine Blk.far ?_ (by first | omega | (simp; done) | (simp; omega)) _ | assumption))
         have y0_0 : w'.cell? ⟨w.heap.size, 0, none⟩ = some (.int .i64 (m.ls)) := kb0.cell 0
         have y0_1 : w'.cell? ⟨w.heap.size, 1, none⟩ = some (.int .i64 (m.ms)) := kb0.cell 1
         have y0_2 : w'.cell? ⟨w.heap.size, 2, none⟩ = some (.int .i64 (m.lo)) := kb0.cell 2
         have y0_3 : w'.cell? ⟨w.heap.size, 3, none⟩ = some (.int .i64 (m.hi)) := kb0.cell 3
         have y0_4 : w'.cell? ⟨w.heap.size, 4, none⟩ = some (.int .i64 (m.sp)) := kb0.cell 4
         have y0_5 : w'.cell? ⟨w.heap.size, 5, none⟩ = some (.slice m.A1 m.n1 m.c1) := kb0.cell 5
         have y0_6 : w'.cell? ⟨w.heap.size, 6, none⟩ = some (.slice m.A2 m.n2 m.c2) := kb0.cell 6
         have kb1 := step_blk hb (show Blk _ (w.heap.size + 1) 75 #[.string t.name, .int .i64 (t.az), .int .i64 (t.ht), .int .i64 (t.fr), .int .i64 (t.to), .int .i64 (t.dw)] by repeat' (first | exact K0_1.out | exact K1_1.out | exact Blk.at_ _ (by first | rfl | (simp; done) | (simp; omega)) _ _ | refine Blk.drewN ?_ _ | refine Blk.drew ?_ | refine Blk.alloc ?_ _ | refine Blk.far ?_ (by first | omega | (simp; done) | (simp; omega)) _ | assumption))
         have y1_0 : w'.cell? ⟨w.heap.size + 1, 0, none⟩ = some (.string t.name) := kb1.cell 0
         have y1_1 : w'.cell? ⟨w.heap.size + 1, 1, none⟩ = some (.int .i64 (t.az)) := kb1.cell 1
         have y1_2 : w'.cell? ⟨w.heap.size + 1, 2, none⟩ = some (.int .i64 (t.ht)) := kb1.cell 2
         have y1_3 : w'.cell? ⟨w.heap.size + 1, 3, none⟩ = some (.int .i64 (t.fr)) := kb1.cell 3
         have y1_4 : w'.cell? ⟨w.heap.size + 1, 4, none⟩ = some (.int .i64 (t.to)) := kb1.cell 4
         have y1_5 : w'.cell? ⟨w.heap.size + 1, 5, none⟩ = some (.int .i64 (t.dw)) := kb1.cell 5
         clear kb0 kb1
         clear hk hD hb hg
         go_simp
         try rfl
       simp only [Act.put, List.setIfInBounds_toArray, List.set_cons_zero, List.set_cons_succ]))
  refine Fx.call_ (.int .i64 (0)) ?_ ?_ (by rfl) ?_ ?_ ?_
  rotate_left 2
  · intro w'
    go_simp
    refine ⟨?_, ?_⟩ <;> rfl
  · intro f w' hD hk
    exact (orerr_is (some ⟨x, 0, none⟩) 3 3 _ [0, 0, 0] 0 rfl _ (hD.2 x rfl) (Nat.le_refl _) (by omega)).mono fun e w'' ⟨he, hw⟩ => ⟨he, hw ▸ hD⟩
  simp only [Act.put, List.setIfInBounds_toArray, List.set_cons_zero, List.set_cons_succ]
  repeat (first
    | (refine Fx.skip_ (by rfl) (fun f w h => h) ?_; simp only [Act.put, List.setIfInBounds_toArray, List.set_cons_zero, List.set_cons_succ])
    | (refine Fx.val_ ?_ (by rfl) ?_ (fun f w h => h) ?_
       rotate_left
       · intro f w' hD hk
         obtain ⟨hb, hg⟩ := id hD
         have kb0 := step_blk hb (show Blk _ (w.heap.size) 58 #[.int .i64 (m.ls), .int .i64 (m.ms), .int .i64 (m.lo), .int .i64 (m.hi), .int .i64 (m.sp), .slice m.A1 m.n1 m.c1, .slice m.A2 m.n2 m.c2] by repeat' (first | exact K0_1.out | exact K1_1.out | exact Blk.at_ _ (by first | rfl | (simp; done) | (simp; omega)) _ _ | refine Blk.drewN ?_ _ | refine Blk.drew ?_ | refine Blk.alloc ?_ _ | refine Blk.far ?_ (by first | omega | (simp; done) | (simp; omega)) _ | assumption))
         have y0_0 : w'.cell? ⟨w.heap.size, 0, none⟩ = some (.int .i64 (m.ls)) := kb0.cell 0
         have y0_1 : w'.cell? ⟨w.heap.size, 1, none⟩ = some (.int .i64 (m.ms)) := kb0.cell 1
         have y0_2 : w'.cell? ⟨w.heap.size, 2, none⟩ = some (.int .i64 (m.lo)) := kb0.cell 2
         have y0_3 : w'.cell? ⟨w.heap.size, 3, none⟩ = some (.int .i64 (m.hi)) := kb0.cell 3
         have y0_4 : w'.cell? ⟨w.heap.size, 4, none⟩ = some (.int .i64 (m.sp)) := kb0.cell 4
         have y0_5 : w'.cell? ⟨w.heap.size, 5, none⟩ = some (.slice m.A1 m.n1 m.c1) := kb0.cell 5
         have y0_6 : w'.cell? ⟨w.heap.size, 6, none⟩ = some (.slice m.A2 m.n2 m.c2) := kb0.cell 6
         have kb1 := step_blk hb (show Blk _ (w.heap.size + 1) 75 #[.string t.name, .int .i64 (t.az), .int .i64 (t.ht), .int .i64 (t.fr), .int .i64 (t.to), .int .i64 (t.dw)] by repeat' (first | exact K0_1.out | exact K1_1.out | exact Blk.at_ _ (by first | rfl | (simp; done) | (simp; omega)) _ _ | refine Blk.drewN ?_ _ | refine Blk.drew ?_ | refine Blk.alloc ?_ _ | refine Blk.far ?_ (by first | omega | (simp; done) | (simp; omega)) _ | assumption))
         have y1_0 : w'.cell? ⟨w.heap.size + 1, 0, none⟩ = some (.string t.name) := kb1.cell 0
         have y1_1 : w'.cell? ⟨w.heap.size + 1, 1, none⟩ = some (.int .i64 (t.az)) := kb1.cell 1
         have y1_2 : w'.cell? ⟨w.heap.size + 1, 2, none⟩ = some (.int .i64 (t.ht)) := kb1.cell 2
         have y1_3 : w'.cell? ⟨w.heap.size + 1, 3, none⟩ = some (.int .i64 (t.fr)) := kb1.cell 3
         have y1_4 : w'.cell? ⟨w.heap.size + 1, 4, none⟩ = some (.int .i64 (t.to)) := kb1.cell 4
         have y1_5 : w'.cell? ⟨w.heap.size + 1, 5, none⟩ = some (.int .i64 (t.dw)) := kb1.cell 5
         clear kb0 kb1
         clear hk hD hb hg
         go_simp
         try rfl
       simp only [Act.put, List.setIfInBounds_toArray, List.set_cons_zero, List.set_cons_succ]))
  refine Fx.nil_ ?_
  intro f w2 hall hD
  have hb := hD.1
  clear hall hD
  have HB2 := Lib.hid (show Below w.heap.size w w2 from step_below hb (by repeat' (first | exact Below.refl _ _ | exact HB1.out | refine below_drewN ?_ _ | refine Below.drew ?_ | refine Below.alloc ?_ (by first | omega | (simp; done) | (simp; omega) | (simp [World.setCell]; omega)) _ | refine Below.setCell ?_ (by first | omega | (simp; done) | (simp; omega)) _ | assumption)))
  have K0_2 := Lib.hid (step_blk hb (show Blk _ (w.heap.size) 58 #[.int .i64 (m.ls), .int .i64 (m.ms), .int .i64 (m.lo), .int .i64 (m.hi), .int .i64 (m.sp), .slice m.A1 m.n1 m.c1, .slice m.A2 m.n2 m.c2] by repeat' (first | exact K0_1.out | exact K1_1.out | exact Blk.at_ _ (by first | rfl | (simp; done) | (simp; omega)) _ _ | refine Blk.drewN ?_ _ | refine Blk.drew ?_ | refine Blk.alloc ?_ _ | refine Blk.far ?_ (by first | omega | (simp; done) | (simp; omega)) _ | assumption)))
  have K1_2 := Lib.hid (step_blk hb (show Blk _ (w.heap.size + 1) 75 #[.string t.name, .int .i64 (t.az), .int .i64 (t.ht), .int .i64 (t.fr), .int .i64 (t.to), .int .i64 (t.dw)] by repeat' (first | exact K0_1.out | exact K1_1.out | exact Blk.at_ _ (by first | rfl | (simp; done) | (simp; omega)) _ _ | refine Blk.drewN ?_ _ | refine Blk.drew ?_ | refine Blk.alloc ?_ _ | refine Blk.far ?_ (by first | omega | (simp; done) | (simp; omega)) _ | assumption)))
  have hz2 := hb.size
  try simp only [World.size_alloc, World.drewN, World.drew] at hz2
  clear hb K0_1 K1_1 z0_0_1 z0_1_1 z0_2_1 z0_3_1 z0_4_1 z0_5_1 z0_6_1 l0_1 z1_0_1 z1_1_1 z1_2_1 z1_3_1 z1_4_1 z1_5_1 l1_1
  have l0_2 : w.heap.size < w2.heap.size := K0_2.out.lt
  have z0_0_2 : w2.cell? ⟨w.heap.size, 0, none⟩ = some (.int .i64 (m.ls)) := K0_2.out.cell 0
  have z0_1_2 : w2.cell? ⟨w.heap.size, 1, none⟩ = some (.int .i64 (m.ms)) := K0_2.out.cell 1
  have z0_2_2 : w2.cell? ⟨w.heap.size, 2, none⟩ = some (.int .i64 (m.lo)) := K0_2.out.cell 2
  have z0_3_2 : w2.cell? ⟨w.heap.size, 3, none⟩ = some (.int .i64 (m.hi)) := K0_2.out.cell 3
  have z0_4_2 : w2.cell? ⟨w.heap.size, 4, none⟩ = some (.int .i64 (m.sp)) := K0_2.out.cell 4
  have z0_5_2 : w2.cell? ⟨w.heap.size, 5, none⟩ = some (.slice m.A1 m.n1 m.c1) := K0_2.out.cell 5
  have z0_6_2 : w2.cell? ⟨w.heap.size, 6, none⟩ = some (.slice m.A2 m.n2 m.c2) := K0_2.out.cell 6
  have l1_2 : w.heap.size + 1 < w2.heap.size := K1_2.out.lt
  have z1_0_2 : w2.cell? ⟨w.heap.size + 1, 0, none⟩ = some (.string t.name) := K1_2.out.cell 0
  have z1_1_2 : w2.cell? ⟨w.heap.size + 1, 1, none⟩ = some (.int .i64 (t.az)) := K1_2.out.cell 1
  have z1_2_2 : w2.cell? ⟨w.heap.size + 1, 2, none⟩ = some (.int .i64 (t.ht)) := K1_2.out.cell 2
  have z1_3_2 : w2.cell? ⟨w.heap.size + 1, 3, none⟩ = some (.int .i64 (t.fr)) := K1_2.out.cell 3
  have z1_4_2 : w2.cell? ⟨w.heap.size + 1, 4, none⟩ = some (.int .i64 (t.to)) := K1_2.out.cell 4
  have z1_5_2 : w2.cell? ⟨w.heap.size + 1, 5, none⟩ = some (.int .i64 (t.dw)) := K1_2.out.cell 5
  go_wp2_with fail
  refine (pturns_is m t day X Y L E n HA.out HT.out HN.out _ (HX.out.lay HB2.out) H1.out H2.out H3.out).mono ?_
  rintro e w3 ⟨A, c, A', c', rfl, hb, ho, -⟩
  have hr := own_reads2 ho
  have hbw := step_below hb HB2.out
  have HBW := Lib.hid hbw
  have HR := Lib.hid hr
  clear hb hbw hr ho
  go_wp2
  go_ret2
  exact TurnsPost1.mk' rfl HBW.out HR.out

theorem info_ints1 : (Try.prog.info? 3).map (fun i => (i.zero, i.size, i.bytes)) = some (some (.int .i64 0), 1, 8) := by kernel_rfl
end Go.Proofs.Ytdidcpealabaiaa

end
