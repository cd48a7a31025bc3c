import Derived.Test.YtmejiafmmmeloaaQ15
import Derived.Test.YtmejiafmmmeloaaQ9

section
/- Contracts of Judge and Surface. -/
namespace Go.Proofs.Ytmejiafmmmeloaa
open Go Go.RowKit

def judgeV (v : Int) (i k : Nat) (E : Int) : Value := .tuple #[.int .i64 v, .agg #[.int .i64 (i : Int), .int .i64 (k : Int)], .int .i64 E]

theorem Judge_ok (A : Option Addr) (n c : Nat) (l : List (Int × Int)) (p s : Int) (hE : judgeErr l p s = 0) (v : Int) (i k : Nat) (hv : judgeF l p s = (v, (i, k))) (w : World) (hx : Reads w w.heap.size 2 A n (cells2 l)) :
    Calls Try.prog 11 #[.slice A n c, .agg #[.int .i64 p, .int .i64 s]] w fun e w' => e = .returned (.tuple #[.int .i64 v, .agg #[.int .i64 (i : Int), .int .i64 (k : Int)], .int .i64 0]) ∧ Below w.heap.size w w' := by
  have HE := Lib.hid hE
  have HV := Lib.hid hv
  clear hE hv
  go_enter Try.func11, Try.ntmps11
  have R0_0 := Lib.hid hx
  clear hx
  go_wp2_with fail
  generalize hwn : ((w.alloc (.cells #[.int .i64 (p), .int .i64 (s)] 45)).alloc (.cells #[.int .i64 (0), .int .i64 (0)] 40)) = w1
  have hbn : Below w.heap.size w w1 := by rw [← hwn]; repeat' (first | exact Below.refl _ _ | refine below_drewN ?_ _ | refine Below.drew ?_ | refine Below.alloc ?_ (by first | omega | (simp; done) | (simp; omega) | (simp [World.setCell]; omega)) _ | refine Below.setCell ?_ (by first | omega | (simp; done) | (simp; omega)) _)
  have HB1 := Lib.hid (show Below w.heap.size w w1 from hbn)
  have K0_1 := Lib.hid (show Blk w1 (w.heap.size) 45 #[.int .i64 (p), .int .i64 (s)] by rw [← hwn]; repeat' (first | exact Blk.at_ _ (by first | rfl | (simp; done) | (simp; omega)) _ _ | refine Blk.drewN ?_ _ | refine Blk.drew ?_ | refine Blk.alloc ?_ _ | refine Blk.far ?_ (by first | omega | (simp; done) | (simp; omega)) _ | assumption))
  have K1_1 := Lib.hid (show Blk w1 (w.heap.size + 1) 40 #[.int .i64 (0), .int .i64 (0)] by rw [← hwn]; repeat' (first | exact Blk.at_ _ (by first | rfl | (simp; done) | (simp; omega)) _ _ | refine Blk.drewN ?_ _ | refine Blk.drew ?_ | refine Blk.alloc ?_ _ | refine Blk.far ?_ (by first | omega | (simp; done) | (simp; omega)) _ | assumption))
  have R0_1 := Lib.hid ((R0_0.out.below hbn).more hbn.size)
  have HN1 := Lib.hid hbn
  have hz1 := hbn.size
  clear hwn hbn R0_0
  have l0_1 : w.heap.size < w1.heap.size := K0_1.out.lt
  have z0_0_1 : w1.cell? ⟨w.heap.size, 0, none⟩ = some (.int .i64 (p)) := K0_1.out.cell 0
  have z0_1_1 : w1.cell? ⟨w.heap.size, 1, none⟩ = some (.int .i64 (s)) := K0_1.out.cell 1
  have l1_1 : w.heap.size + 1 < w1.heap.size := K1_1.out.lt
  have z1_0_1 : w1.cell? ⟨w.heap.size + 1, 0, none⟩ = some (.int .i64 (0)) := K1_1.out.cell 0
  have z1_1_1 : w1.cell? ⟨w.heap.size + 1, 1, none⟩ = some (.int .i64 (0)) := K1_1.out.cell 1
  refine (all_is A n c l p s 0 HE.out _ R0_1.out).mono ?_
  rintro e w2 ⟨rfl, hb⟩
  have HB2 := Lib.hid (show Below w.heap.size w w2 from step_below hb (by repeat' (first | exact Below.refl _ _ | exact HB1.out | refine below_drewN ?_ _ | refine Below.drew ?_ | refine Below.alloc ?_ (by first | omega | (simp; done) | (simp; omega) | (simp [World.setCell]; omega)) _ | refine Below.setCell ?_ (by first | omega | (simp; done) | (simp; omega)) _ | assumption)))
  have K0_2 := Lib.hid (step_blk hb (show Blk _ (w.heap.size) 45 #[.int .i64 (p), .int .i64 (s)] by repeat' (first | exact K0_1.out | exact K1_1.out | exact Blk.at_ _ (by first | rfl | (simp; done) | (simp; omega)) _ _ | refine Blk.drewN ?_ _ | refine Blk.drew ?_ | refine Blk.alloc ?_ _ | refine Blk.far ?_ (by first | omega | (simp; done) | (simp; omega)) _ | assumption)))
  have K1_2 := Lib.hid (step_blk hb (show Blk _ (w.heap.size + 1) 40 #[.int .i64 (0), .int .i64 (0)] by repeat' (first | exact K0_1.out | exact K1_1.out | exact Blk.at_ _ (by first | rfl | (simp; done) | (simp; omega)) _ _ | refine Blk.drewN ?_ _ | refine Blk.drew ?_ | refine Blk.alloc ?_ _ | refine Blk.far ?_ (by first | omega | (simp; done) | (simp; omega)) _ | assumption)))
  have hL2 := Lib.hid (show Below w1.heap.size w1 _ from reads_mid hb (by repeat' (first | exact Below.refl _ _ | refine below_drewN ?_ _ | refine Below.drew ?_ | refine Below.alloc ?_ (by first | omega | (simp; done) | (simp; omega) | (simp [World.setCell]; omega)) _ | refine Below.setCell ?_ (by first | omega | (simp; done) | (simp; omega)) _)))
  have R0_2 := Lib.hid (reads_lay hb hL2.out R0_1.out)
  clear hL2 R0_1
  have hz2 := hb.size
  try simp only [World.size_alloc, World.drewN, World.drew] at hz2
  clear hb K0_1 K1_1 z0_0_1 z0_1_1 l0_1 z1_0_1 z1_1_1 l1_1
  have l0_2 : w.heap.size < w2.heap.size := K0_2.out.lt
  have z0_0_2 : w2.cell? ⟨w.heap.size, 0, none⟩ = some (.int .i64 (p)) := K0_2.out.cell 0
  have z0_1_2 : w2.cell? ⟨w.heap.size, 1, none⟩ = some (.int .i64 (s)) := K0_2.out.cell 1
  have l1_2 : w.heap.size + 1 < w2.heap.size := K1_2.out.lt
  have z1_0_2 : w2.cell? ⟨w.heap.size + 1, 0, none⟩ = some (.int .i64 (0)) := K1_2.out.cell 0
  have z1_1_2 : w2.cell? ⟨w.heap.size + 1, 1, none⟩ = some (.int .i64 (0)) := K1_2.out.cell 1
  go_wp2_with fail
  refine (judge_is A n c l p s HE.out v i k HV.out _ R0_2.out).mono ?_
  rintro e w3 ⟨rfl, hb⟩
  have HB3 := Lib.hid (show Below w.heap.size w w3 from step_below hb (by repeat' (first | exact Below.refl _ _ | exact HB2.out | refine below_drewN ?_ _ | refine Below.drew ?_ | refine Below.alloc ?_ (by first | omega | (simp; done) | (simp; omega) | (simp [World.setCell]; omega)) _ | refine Below.setCell ?_ (by first | omega | (simp; done) | (simp; omega)) _ | assumption)))
  have K0_3 := Lib.hid (step_blk hb (show Blk _ (w.heap.size) 45 #[.int .i64 (p), .int .i64 (s)] by repeat' (first | exact K0_2.out | exact K1_2.out | exact Blk.at_ _ (by first | rfl | (simp; done) | (simp; omega)) _ _ | refine Blk.drewN ?_ _ | refine Blk.drew ?_ | refine Blk.alloc ?_ _ | refine Blk.far ?_ (by first | omega | (simp; done) | (simp; omega)) _ | assumption)))
  have K1_3 := Lib.hid (step_blk hb (show Blk _ (w.heap.size + 1) 40 #[.int .i64 (0), .int .i64 (0)] by repeat' (first | exact K0_2.out | exact K1_2.out | exact Blk.at_ _ (by first | rfl | (simp; done) | (simp; omega)) _ _ | refine Blk.drewN ?_ _ | refine Blk.drew ?_ | refine Blk.alloc ?_ _ | refine Blk.far ?_ (by first | omega | (simp; done) | (simp; omega)) _ | assumption)))
  have hL3 := Lib.hid (show Below w2.heap.size w2 _ from reads_mid hb (by repeat' (first | exact Below.refl _ _ | refine below_drewN ?_ _ | refine Below.drew ?_ | refine Below.alloc ?_ (by first | omega | (simp; done) | (simp; omega) | (simp [World.setCell]; omega)) _ | refine Below.setCell ?_ (by first | omega | (simp; done) | (simp; omega)) _)))
  have R0_3 := Lib.hid (reads_lay hb hL3.out R0_2.out)
  clear hL3 R0_2
  have hz3 := hb.size
  try simp only [World.size_alloc, World.drewN, World.drew] at hz3
  clear hb K0_2 K1_2 z0_0_2 z0_1_2 l0_2 z1_0_2 z1_1_2 l1_2
  have l0_3 : w.heap.size < w3.heap.size := K0_3.out.lt
  have z0_0_3 : w3.cell? ⟨w.heap.size, 0, none⟩ = some (.int .i64 (p)) := K0_3.out.cell 0
  have z0_1_3 : w3.cell? ⟨w.heap.size, 1, none⟩ = some (.int .i64 (s)) := K0_3.out.cell 1
  have l1_3 : w.heap.size + 1 < w3.heap.size := K1_3.out.lt
  have z1_0_3 : w3.cell? ⟨w.heap.size + 1, 0, none⟩ = some (.int .i64 (0)) := K1_3.out.cell 0
  have z1_1_3 : w3.cell? ⟨w.heap.size + 1, 1, none⟩ = some (.int .i64 (0)) := K1_3.out.cell 1
  go_wp2_with fail
  generalize hwn : (w3.alloc (.cells #[.int .i64 ((i : Int)), .int .i64 ((k : Int))] 40)) = w4
  have hbn : Below w3.heap.size w3 w4 := by rw [← hwn]; repeat' (first | exact Below.refl _ _ | refine below_drewN ?_ _ | refine Below.drew ?_ | refine Below.alloc ?_ (by first | omega | (simp; done) | (simp; omega) | (simp [World.setCell]; omega)) _ | refine Below.setCell ?_ (by first | omega | (simp; done) | (simp; omega)) _)
  have HB4 := Lib.hid (show Below w.heap.size w w4 from HB3.out.trans (hbn.mono HB3.out.size))
  have K0_4 := Lib.hid (step_blk hbn K0_3.out)
  have K1_4 := Lib.hid (step_blk hbn K1_3.out)
  have K2_4 := Lib.hid (show Blk w4 (w3.heap.size) 40 #[.int .i64 ((i : Int)), .int .i64 ((k : Int))] by rw [← hwn]; repeat' (first | exact Blk.at_ _ (by first | rfl | (simp; done) | (simp; omega)) _ _ | refine Blk.drewN ?_ _ | refine Blk.drew ?_ | refine Blk.alloc ?_ _ | refine Blk.far ?_ (by first | omega | (simp; done) | (simp; omega)) _ | assumption))
  have R0_4 := Lib.hid ((R0_3.out.below hbn).more hbn.size)
  have HN4 := Lib.hid hbn
  have hz4 := hbn.size
  clear hwn hbn K0_3 l0_3 z0_0_3 z0_1_3 K1_3 l1_3 z1_0_3 z1_1_3 R0_3
  have l0_4 : w.heap.size < w4.heap.size := K0_4.out.lt
  have z0_0_4 : w4.cell? ⟨w.heap.size, 0, none⟩ = some (.int .i64 (p)) := K0_4.out.cell 0
  have z0_1_4 : w4.cell? ⟨w.heap.size, 1, none⟩ = some (.int .i64 (s)) := K0_4.out.cell 1
  have l1_4 : w.heap.size + 1 < w4.heap.size := K1_4.out.lt
  have z1_0_4 : w4.cell? ⟨w.heap.size + 1, 0, none⟩ = some (.int .i64 (0)) := K1_4.out.cell 0
  have z1_1_4 : w4.cell? ⟨w.heap.size + 1, 1, none⟩ = some (.int .i64 (0)) := K1_4.out.cell 1
  have l2_4 : w3.heap.size < w4.heap.size := K2_4.out.lt
  have z2_0_4 : w4.cell? ⟨w3.heap.size, 0, none⟩ = some (.int .i64 ((i : Int))) := K2_4.out.cell 0
  have z2_1_4 : w4.cell? ⟨w3.heap.size, 1, none⟩ = some (.int .i64 ((k : Int))) := K2_4.out.cell 1
  have zf1_0 := K1_4.out.frozen 0
  have zf1_1 := K1_4.out.frozen 1
  obtain ⟨W0, hW0⟩ : ∃ W0, W0 = w4.drewN 1 := ⟨_, rfl⟩
  have m0 : W0.cell? ⟨w3.heap.size, 0, none⟩ = some (.int .i64 (i : Int)) := by rw [hW0]; exact z2_0_4
  have m1 : W0.cell? ⟨w3.heap.size, 1, none⟩ = some (.int .i64 (k : Int)) := by rw [hW0]; exact z2_1_4
  have kb : Blk W0 (w.heap.size + 1) 40 #[.int .i64 0, .int .i64 0] := by rw [hW0]; exact Blk.drewN K1_4.out 1
  have HKB := Lib.hid kb
  have mo0 := kb.cell 0
  have mo1 := kb.cell 1
  have mf0 := kb.frozen 0
  have mf1 := kb.frozen 1
  clear kb
  refine Fx.region (fun f w' => (f 3 = false → w' = W0) ∧ (f 3 = true → w' = (W0.setCell ⟨w.heap.size + 1, 0, none⟩ (.int .i64 (i : Int))).setCell ⟨w.heap.size + 1, 1, none⟩ (.int .i64 (k : Int)))) (by kernel_rfl) (by kernel_rfl) ?_ ?_
  · intro f hf0
    exact ⟨fun _ => hW0.symm, fun h => by rw [hf0 3] at h; cases h⟩
  have HW0 := Lib.hid hW0
  clear hW0
  repeat (first
    | (refine Fx.skip_ (by rfl) (fun f w h => h) ?_; simp only [Act.put, List.setIfInBounds_toArray, List.set_cons_zero, List.set_cons_succ])
    | (refine Fx.val_ ?_ (by rfl) ?_ (fun f w h => h) ?_
       rotate_left
       · intro f w' hD hk
         obtain ⟨jw, jr⟩ := id hD
         clear hk hD jw jr
         go_simp
         try rfl
       simp only [Act.put, List.setIfInBounds_toArray, List.set_cons_zero, List.set_cons_succ]))
  refine Fx.val_ ?_ (by rfl) ?_ (fun f w h => h) ?_
  rotate_left
  · intro f w' hD hk
    obtain ⟨jw, jr⟩ := id hD
    have jw := jw (hk.2.1 3 (by kernel_rfl))
    have q0 : w'.cell? ⟨w3.heap.size, 0, none⟩ = some (.int .i64 (i : Int)) := by rw [jw]; exact m0
    have q1 : w'.cell? ⟨w3.heap.size, 1, none⟩ = some (.int .i64 (k : Int)) := by rw [jw]; exact m1
    clear hk hD jw jr
    go_simp
    try rfl
  simp only [Act.put, List.setIfInBounds_toArray, List.set_cons_zero, List.set_cons_succ]
  repeat (first
    | (refine Fx.skip_ (by rfl) (fun f w h => h) ?_; simp only [Act.put, List.setIfInBounds_toArray, List.set_cons_zero, List.set_cons_succ])
    | (refine Fx.val_ ?_ (by rfl) ?_ (fun f w h => h) ?_
       rotate_left
       · intro f w' hD hk
         obtain ⟨jw, jr⟩ := id hD
         clear hk hD jw jr
         go_simp
         try rfl
       simp only [Act.put, List.setIfInBounds_toArray, List.set_cons_zero, List.set_cons_succ]))
  refine Fx.store_ (fun w' => (w'.setCell ⟨w.heap.size + 1, 0, none⟩ (.int .i64 (i : Int))).setCell ⟨w.heap.size + 1, 1, none⟩ (.int .i64 (k : Int))) (by rfl) ?_ ?_ ?_
  · intro f w' hD hk
    obtain ⟨jw, jr⟩ := id hD
    have jw := jw hk.1
    have q0 : w'.cell? ⟨w.heap.size + 1, 0, none⟩ = some (.int .i64 0) := by rw [jw]; exact mo0
    have q1 : w'.cell? ⟨w.heap.size + 1, 1, none⟩ = some (.int .i64 0) := by rw [jw]; exact mo1
    have q2 : w'.frozen? ⟨w.heap.size + 1, 0, none⟩ = false := by rw [jw]; exact mf0
    have q3 : w'.frozen? ⟨w.heap.size + 1, 1, none⟩ = false := by rw [jw]; exact mf1
    clear hk hD jw jr
    go_simp
  · intro f w' hD hk
    obtain ⟨jw, jr⟩ := id hD
    have jw := jw hk.1
    exact ⟨fun h => by simp [Fx.add] at h, fun _ => by rw [jw]⟩
  simp only [Act.put, List.setIfInBounds_toArray, List.set_cons_zero, List.set_cons_succ]
  repeat (first
    | (refine Fx.skip_ (by rfl) (fun f w h => h) ?_; simp only [Act.put, List.setIfInBounds_toArray, List.set_cons_zero, List.set_cons_succ])
    | (refine Fx.val_ ?_ (by rfl) ?_ (fun f w h => h) ?_
       rotate_left
       · intro f w' hD hk
         obtain ⟨jw, jr⟩ := id hD
         clear hk hD jw jr
         go_simp
         try rfl
       simp only [Act.put, List.setIfInBounds_toArray, List.set_cons_zero, List.set_cons_succ]))
  refine Fx.nil_ ?_
  intro f w1 hall hD
  have hf3 := hall 3 (by simp)
  obtain ⟨jw, jr⟩ := hD
  simp only [hf3, if_true] at *
  have jr := jr (by first | rfl | trivial)
  clear jw
  try clear hall
  subst jr
  have hkb := (HKB.out.set_ 0 (.int .i64 (i : Int))).set_ 1 (.int .i64 (k : Int))
  have y0 := hkb.cell 0
  have y1 := hkb.cell 1
  have yl := hkb.lt
  simp only [List.setIfInBounds_toArray, List.set_cons_zero, List.set_cons_succ] at y0 y1
  have hbb : Below w.heap.size w ((W0.setCell ⟨w.heap.size + 1, 0, none⟩ (.int .i64 (i : Int))).setCell ⟨w.heap.size + 1, 1, none⟩ (.int .i64 (k : Int))) := by
    rw [HW0.out]
    exact ((below_drewN HB4.out 1).setCell (p := ⟨w.heap.size + 1, 0, none⟩) (by show _ ≤ w.heap.size + 1; omega) _).setCell (p := ⟨w.heap.size + 1, 1, none⟩) (by show _ ≤ w.heap.size + 1; omega) _
  go_wp2
  exact bodyPost_ret (v := .tuple #[.int .i64 v, .agg #[.int .i64 (i : Int), .int .i64 (k : Int)], .int .i64 0]) (by simp [results, Try.results11, go_sem, y0, y1, yl]) rfl ⟨rfl, hbb⟩

set_option maxRecDepth 100000 in
set_option maxHeartbeats 4000000 in
theorem surface_ok (A : Option Addr) (n c : Nat) (l : List (Int × Int)) (p s : Int) (hE : judgeErr l p s = 0) (v : Int) (i k : Nat) (hv : judgeF l p s = (v, (i, k))) (hv1 : v ≠ -1) (w : World) (hx : Reads w w.heap.size 2 A n (cells2 l)) :
    Calls Try.prog 13 #[.slice A n c, .agg #[.int .i64 p, .int .i64 s]] w fun e w' => ∃ A' c', e = .returned (.tuple #[.slice A' n c', .int .i64 0]) ∧ Below w.heap.size w w' ∧ Reads w' w'.heap.size 1 A' n ((surfF l p s n).map (.int .i64)) := by
  have hl := hx.len2
  obtain ⟨hE1, hE2⟩ := judgeErr_ok hE
  obtain ⟨n1, n2, hr⟩ := encl_ok hE1
  obtain ⟨t1, t2, t3, t4⟩ := tol_ok hE2
  rw [hl] at n1 n2
  have e1 : (v == -1) = false := by simpa using hv1
  have HX := Lib.hid hx
  have HE := Lib.hid hE
  have HV := Lib.hid hv
  have HL := Lib.hid hl
  have HRG := Lib.hid hr
  clear hE hv hl hE1 hE2 hr hv1 hx
  go_enter Try.func13, Try.ntmps13
  go_wp2_with fail
  generalize hwn : (w.alloc (.cells #[.int .i64 (p), .int .i64 (s)] 45)) = w1
  have hbn : Below w.heap.size w w1 := by rw [← hwn]; repeat' (first | exact Below.refl _ _ | refine below_drewN ?_ _ | refine Below.drew ?_ | refine Below.alloc ?_ (by first | omega | (simp; done) | (simp; omega) | (simp [World.setCell]; omega)) _ | refine Below.setCell ?_ (by first | omega | (simp; done) | (simp; omega)) _)
  have HB1 := Lib.hid (show Below w.heap.size w w1 from hbn)
  have K0_1 := Lib.hid (show Blk w1 (w.heap.size) 45 #[.int .i64 (p), .int .i64 (s)] by rw [← hwn]; repeat' (first | exact Blk.at_ _ (by first | rfl | (simp; done) | (simp; omega)) _ _ | refine Blk.drewN ?_ _ | refine Blk.drew ?_ | refine Blk.alloc ?_ _ | refine Blk.far ?_ (by first | omega | (simp; done) | (simp; omega)) _ | assumption))
  have HN1 := Lib.hid hbn
  have hz1 := hbn.size
  clear hwn hbn
  have l0_1 : w.heap.size < w1.heap.size := K0_1.out.lt
  have z0_0_1 : w1.cell? ⟨w.heap.size, 0, none⟩ = some (.int .i64 (p)) := K0_1.out.cell 0
  have z0_1_1 : w1.cell? ⟨w.heap.size, 1, none⟩ = some (.int .i64 (s)) := K0_1.out.cell 1
  refine (Judge_ok A n c l p s HE.out v i k HV.out _ ((HX.out.below HB1.out).more HB1.out.size)).mono ?_
  rintro e w2 ⟨rfl, hb⟩
  have HB2 := Lib.hid (show Below w.heap.size w w2 from step_below hb (by repeat' (first | exact Below.refl _ _ | exact HB1.out | refine below_drewN ?_ _ | refine Below.drew ?_ | refine Below.alloc ?_ (by first | omega | (simp; done) | (simp; omega) | (simp [World.setCell]; omega)) _ | refine Below.setCell ?_ (by first | omega | (simp; done) | (simp; omega)) _ | assumption)))
  have K0_2 := Lib.hid (step_blk hb (show Blk _ (w.heap.size) 45 #[.int .i64 (p), .int .i64 (s)] by repeat' (first | exact K0_1.out | exact Blk.at_ _ (by first | rfl | (simp; done) | (simp; omega)) _ _ | refine Blk.drewN ?_ _ | refine Blk.drew ?_ | refine Blk.alloc ?_ _ | refine Blk.far ?_ (by first | omega | (simp; done) | (simp; omega)) _ | assumption)))
  have hz2 := hb.size
  try simp only [World.size_alloc, World.drewN, World.drew] at hz2
  clear hb K0_1 z0_0_1 z0_1_1 l0_1
  have l0_2 : w.heap.size < w2.heap.size := K0_2.out.lt
  have z0_0_2 : w2.cell? ⟨w.heap.size, 0, none⟩ = some (.int .i64 (p)) := K0_2.out.cell 0
  have z0_1_2 : w2.cell? ⟨w.heap.size, 1, none⟩ = some (.int .i64 (s)) := K0_2.out.cell 1
  go_wp2
  generalize hwn : (w2.alloc (.cells #[.int .i64 ((i : Int)), .int .i64 ((k : Int))] 40)) = w3
  have hbn : Below w2.heap.size w2 w3 := by rw [← hwn]; repeat' (first | exact Below.refl _ _ | refine below_drewN ?_ _ | refine Below.drew ?_ | refine Below.alloc ?_ (by first | omega | (simp; done) | (simp; omega) | (simp [World.setCell]; omega)) _ | refine Below.setCell ?_ (by first | omega | (simp; done) | (simp; omega)) _)
  have HB3 := Lib.hid (show Below w.heap.size w w3 from HB2.out.trans (hbn.mono HB2.out.size))
  have K0_3 := Lib.hid (step_blk hbn K0_2.out)
  have K1_3 := Lib.hid (show Blk w3 (w2.heap.size) 40 #[.int .i64 ((i : Int)), .int .i64 ((k : Int))] by rw [← hwn]; repeat' (first | exact Blk.at_ _ (by first | rfl | (simp; done) | (simp; omega)) _ _ | refine Blk.drewN ?_ _ | refine Blk.drew ?_ | refine Blk.alloc ?_ _ | refine Blk.far ?_ (by first | omega | (simp; done) | (simp; omega)) _ | assumption))
  have HN3 := Lib.hid hbn
  have hz3 := hbn.size
  clear hwn hbn K0_2 l0_2 z0_0_2 z0_1_2
  have l0_3 : w.heap.size < w3.heap.size := K0_3.out.lt
  have z0_0_3 : w3.cell? ⟨w.heap.size, 0, none⟩ = some (.int .i64 (p)) := K0_3.out.cell 0
  have z0_1_3 : w3.cell? ⟨w.heap.size, 1, none⟩ = some (.int .i64 (s)) := K0_3.out.cell 1
  have l1_3 : w2.heap.size < w3.heap.size := K1_3.out.lt
  have z1_0_3 : w3.cell? ⟨w2.heap.size, 0, none⟩ = some (.int .i64 ((i : Int))) := K1_3.out.cell 0
  have z1_1_3 : w3.cell? ⟨w2.heap.size, 1, none⟩ = some (.int .i64 ((k : Int))) := K1_3.out.cell 1
  have hs3 := HB3.out.size
  go_loopw [9, 31] (fun v i wr => ∃ k : Nat, k ≤ n ∧ i = .int .i64 k ∧ Below w3.heap.size w3 wr ∧ wr.ownsRow w3.heap.size 3 1 v k ((surfF l p s k).map (.int .i64))) (fun _ i _ => n - (intOf i).toNat)
  case atStart => exact ⟨0, by omega, rfl, Below.refl _ _, World.ownsRow_nil _ _ _ _⟩
  case round =>
    obtain ⟨k0, hk, rfl, hb, ho⟩ := hrel
    obtain ⟨w4, hnm⟩ : ∃ z : World, z = wr := ⟨_, rfl⟩
    subst hnm
    have HO := Lib.hid ho
    have HBR := Lib.hid hb
    have hk0 := Blk.below K0_3.out hb l0_3
    have hb' := HB3.out.trans (hb.mono HB3.out.size)
    have hrd := HX.out.below hb'
    clear hb ho
    have HB4 := Lib.hid hb'
    have K0_4 := Lib.hid (show Blk w4 (w.heap.size) 45 #[.int .i64 (p), .int .i64 (s)] from hk0)
    clear hb' hk0
    have l0_4 : w.heap.size < w4.heap.size := K0_4.out.lt
    have z0_0_4 : w4.cell? ⟨w.heap.size, 0, none⟩ = some (.int .i64 (p)) := K0_4.out.cell 0
    have z0_1_4 : w4.cell? ⟨w.heap.size, 1, none⟩ = some (.int .i64 (s)) := K0_4.out.cell 1
    by_cases hlt : k0 < n
    rotate_left
    · obtain rfl : k0 = n := by omega
      obtain ⟨A6, c6, rfl, hr6⟩ := own_reads HO.out
      have HR6 := Lib.hid hr6
      clear hr6 hrd
      go_wp2
      go_ret2
      exact ⟨A6, c6, rfl, by repeat' (first | exact Below.refl _ _ | exact HB4.out | refine below_drewN ?_ _ | refine Below.drew ?_ | refine Below.alloc ?_ (by first | omega | (simp; done) | (simp; omega) | (simp [World.setCell]; omega)) _ | refine Below.setCell ?_ (by first | omega | (simp; done) | (simp; omega)) _ | assumption), HR6.out⟩
    obtain ⟨xb, xo, pq, rfl, hxb, hpq, c0, c1⟩ := hrd.pair hlt
    obtain ⟨pa, pv⟩ := pq
    simp only at c0 c1
    have hkk : (k0 : Int) < (n : Int) := by omega
    have hlow0 : lowF l p s k0 0 = pa := by show (l.getD k0 (0, 0)).1 = pa; rw [getD_of hpq]
    have HLOW0 := Lib.hid hlow0
    clear hpq hlow0 hrd
    go_wp2
    generalize hwn : (w4.alloc (.cells #[.int .i64 (pa), .int .i64 (pv)] 54)) = w5
    have hbn : Below w4.heap.size w4 w5 := by rw [← hwn]; repeat' (first | exact Below.refl _ _ | refine below_drewN ?_ _ | refine Below.drew ?_ | refine Below.alloc ?_ (by first | omega | (simp; done) | (simp; omega) | (simp [World.setCell]; omega)) _ | refine Below.setCell ?_ (by first | omega | (simp; done) | (simp; omega)) _)
    have HB5 := Lib.hid (show Below w.heap.size w w5 from HB4.out.trans (hbn.mono HB4.out.size))
    have K0_5 := Lib.hid (step_blk hbn K0_4.out)
    have K1_5 := Lib.hid (show Blk w5 (w4.heap.size) 54 #[.int .i64 (pa), .int .i64 (pv)] by rw [← hwn]; repeat' (first | exact Blk.at_ _ (by first | rfl | (simp; done) | (simp; omega)) _ _ | refine Blk.drewN ?_ _ | refine Blk.drew ?_ | refine Blk.alloc ?_ _ | refine Blk.far ?_ (by first | omega | (simp; done) | (simp; omega)) _ | assumption))
    have HN5 := Lib.hid hbn
    have hz5 := hbn.size
    clear hwn hbn K0_4 l0_4 z0_0_4 z0_1_4
    have l0_5 : w.heap.size < w5.heap.size := K0_5.out.lt
    have z0_0_5 : w5.cell? ⟨w.heap.size, 0, none⟩ = some (.int .i64 (p)) := K0_5.out.cell 0
    have z0_1_5 : w5.cell? ⟨w.heap.size, 1, none⟩ = some (.int .i64 (s)) := K0_5.out.cell 1
    have l1_5 : w4.heap.size < w5.heap.size := K1_5.out.lt
    have z1_0_5 : w5.cell? ⟨w4.heap.size, 0, none⟩ = some (.int .i64 (pa)) := K1_5.out.cell 0
    have z1_1_5 : w5.cell? ⟨w4.heap.size, 1, none⟩ = some (.int .i64 (pv)) := K1_5.out.cell 1
    clear c0 c1
    have hs5 := HB5.out.size
    have hs45 : w4.heap.size ≤ w5.heap.size := HN5.out.size
    go_loopw [12, 40] (fun v i wr => ∃ j : Nat, j ≤ n ∧ v = .int .i64 (lowF l p s k0 j) ∧ i = .int .i64 j ∧ Below w5.heap.size w5 wr) (fun _ i _ => n - (intOf i).toNat)
    case atStart => exact ⟨0, by omega, by rw [HLOW0.out], rfl, Below.refl _ _⟩
    case round =>
      obtain ⟨j, hj, rfl, rfl, hb⟩ := hrel
      obtain ⟨w6, hnm⟩ : ∃ z : World, z = wr := ⟨_, rfl⟩
      subst hnm
      have HBJ := Lib.hid hb
      have hk0 := Blk.below K0_5.out hb l0_5
      have hb' := HB5.out.trans (hb.mono HB5.out.size)
      have hrd := HX.out.below hb'
      clear hb
      have HB6 := Lib.hid hb'
      have K0_6 := Lib.hid (show Blk w6 (w.heap.size) 45 #[.int .i64 (p), .int .i64 (s)] from hk0)
      clear hb' hk0
      have l0_6 : w.heap.size < w6.heap.size := K0_6.out.lt
      have z0_0_6 : w6.cell? ⟨w.heap.size, 0, none⟩ = some (.int .i64 (p)) := K0_6.out.cell 0
      have z0_1_6 : w6.cell? ⟨w.heap.size, 1, none⟩ = some (.int .i64 (s)) := K0_6.out.cell 1
      by_cases hjt : j < n
      · obtain ⟨yb, yo, qq, hA, hyb, hqq, d0, d1⟩ := hrd.pair hjt
        obtain ⟨rfl, rfl⟩ : xb = yb ∧ xo = yo := by simpa using hA
        obtain ⟨qa, qv⟩ := qq
        simp only at d0 d1
        have rq := HRG.out _ (List.mem_of_getElem? hqq)
        simp only at rq
        obtain ⟨b, hb⟩ : ∃ b, bndF p s k0 j = b := ⟨_, rfl⟩
        obtain ⟨a, ha⟩ : ∃ a, lowF l p s k0 j = a := ⟨_, rfl⟩
        obtain ⟨g, hg⟩ : ∃ g, (if a < qa - b then qa - b else a) = g := ⟨_, rfl⟩
        have hbi := bnd_in (i := k0) (k := j) t1 t2 t3 (s := s)
        have hai := lowF_in (i := k0) HRG.out t1 t3 j
        rw [hb] at hbi
        rw [ha] at hai
        have hnext : lowF l p s k0 (j + 1) = g := by rw [lowF_succ, ha, hb, getD_of hqq, ← hg]; simp only; omega
        have hjj : (j : Int) < (n : Int) := by omega
        have e3 := IntWalk.i64_in (qa - b) ⟨by omega, by omega⟩
        have HBD := Lib.hid hb
        have HG := Lib.hid hg
        have HNEXT := Lib.hid hnext
        rw [ha]
        clear hqq hA hrd hb ha hg hnext
        go_wp2
        generalize hwn : (w6.alloc (.cells #[.int .i64 (qa), .int .i64 (qv)] 54)) = w7
        have hbn : Below w6.heap.size w6 w7 := by rw [← hwn]; repeat' (first | exact Below.refl _ _ | refine below_drewN ?_ _ | refine Below.drew ?_ | refine Below.alloc ?_ (by first | omega | (simp; done) | (simp; omega) | (simp [World.setCell]; omega)) _ | refine Below.setCell ?_ (by first | omega | (simp; done) | (simp; omega)) _)
        have HB7 := Lib.hid (show Below w.heap.size w w7 from HB6.out.trans (hbn.mono HB6.out.size))
        have K0_7 := Lib.hid (step_blk hbn K0_6.out)
        have K1_7 := Lib.hid (show Blk w7 (w6.heap.size) 54 #[.int .i64 (qa), .int .i64 (qv)] by rw [← hwn]; repeat' (first | exact Blk.at_ _ (by first | rfl | (simp; done) | (simp; omega)) _ _ | refine Blk.drewN ?_ _ | refine Blk.drew ?_ | refine Blk.alloc ?_ _ | refine Blk.far ?_ (by first | omega | (simp; done) | (simp; omega)) _ | assumption))
        have HN7 := Lib.hid hbn
        have hz7 := hbn.size
        clear hwn hbn K0_6 l0_6 z0_0_6 z0_1_6
        have l0_7 : w.heap.size < w7.heap.size := K0_7.out.lt
        have z0_0_7 : w7.cell? ⟨w.heap.size, 0, none⟩ = some (.int .i64 (p)) := K0_7.out.cell 0
        have z0_1_7 : w7.cell? ⟨w.heap.size, 1, none⟩ = some (.int .i64 (s)) := K0_7.out.cell 1
        have l1_7 : w6.heap.size < w7.heap.size := K1_7.out.lt
        have z1_0_7 : w7.cell? ⟨w6.heap.size, 0, none⟩ = some (.int .i64 (qa)) := K1_7.out.cell 0
        have z1_1_7 : w7.cell? ⟨w6.heap.size, 1, none⟩ = some (.int .i64 (qv)) := K1_7.out.cell 1
        clear d0 d1
        refine Fx.regionW (fun W f w' => Below W.heap.size W w') (by kernel_rfl) (by kernel_rfl) ?_ ?_
        · intro f hf0
          exact below_drewN (Below.refl _ _) 1
        repeat (first
          | (refine Fx.skip_ (by rfl) (fun f w h => h) ?_; simp only [Act.put, List.setIfInBounds_toArray, List.set_cons_zero, List.set_cons_succ])
          | (refine Fx.val_ ?_ (by rfl) ?_ (fun f w h => h) ?_
             rotate_left
             · intro f w' hD hk
               have hb := hD
               have kb0 := step_blk hb (show Blk _ (w.heap.size) 45 #[.int .i64 (p), .int .i64 (s)] by repeat' (first | exact K0_7.out | exact K1_7.out | exact Blk.at_ _ (by first | rfl | (simp; done) | (simp; omega)) _ _ | refine Blk.drewN ?_ _ | refine Blk.drew ?_ | refine Blk.alloc ?_ _ | refine Blk.far ?_ (by first | omega | (simp; done) | (simp; omega)) _ | assumption))
               have y0_0 : w'.cell? ⟨w.heap.size, 0, none⟩ = some (.int .i64 (p)) := kb0.cell 0
               have y0_1 : w'.cell? ⟨w.heap.size, 1, none⟩ = some (.int .i64 (s)) := kb0.cell 1
               have kb1 := step_blk hb (show Blk _ (w6.heap.size) 54 #[.int .i64 (qa), .int .i64 (qv)] by repeat' (first | exact K0_7.out | exact K1_7.out | exact Blk.at_ _ (by first | rfl | (simp; done) | (simp; omega)) _ _ | refine Blk.drewN ?_ _ | refine Blk.drew ?_ | refine Blk.alloc ?_ _ | refine Blk.far ?_ (by first | omega | (simp; done) | (simp; omega)) _ | assumption))
               have y1_0 : w'.cell? ⟨w6.heap.size, 0, none⟩ = some (.int .i64 (qa)) := kb1.cell 0
               have y1_1 : w'.cell? ⟨w6.heap.size, 1, none⟩ = some (.int .i64 (qv)) := kb1.cell 1
               clear kb0 kb1
               clear hk hD hb
               go_simp
               try rfl
             simp only [Act.put, List.setIfInBounds_toArray, List.set_cons_zero, List.set_cons_succ]))
        refine Fx.call_ (.int .i64 (b)) ?_ ?_ (by rfl) ?_ ?_ ?_
        rotate_left 2
        · intro w'
          go_simp
          refine ⟨?_, ?_⟩ <;> rfl
        · intro f w' hD hk
          exact (bound_is p s k0 j b HBD.out w' t1 t2 t3 t4 (by omega) (by omega)).mono fun e w'' ⟨he, hw⟩ => ⟨he, step_below hw hD⟩
        simp only [Act.put, List.setIfInBounds_toArray, List.set_cons_zero, List.set_cons_succ]
        repeat (first
          | (refine Fx.skip_ (by rfl) (fun f w h => h) ?_; simp only [Act.put, List.setIfInBounds_toArray, List.set_cons_zero, List.set_cons_succ])
          | (refine Fx.val_ ?_ (by rfl) ?_ (fun f w h => h) ?_
             rotate_left
             · intro f w' hD hk
               have hb := hD
               have kb0 := step_blk hb (show Blk _ (w.heap.size) 45 #[.int .i64 (p), .int .i64 (s)] by repeat' (first | exact K0_7.out | exact K1_7.out | exact Blk.at_ _ (by first | rfl | (simp; done) | (simp; omega)) _ _ | refine Blk.drewN ?_ _ | refine Blk.drew ?_ | refine Blk.alloc ?_ _ | refine Blk.far ?_ (by first | omega | (simp; done) | (simp; omega)) _ | assumption))
               have y0_0 : w'.cell? ⟨w.heap.size, 0, none⟩ = some (.int .i64 (p)) := kb0.cell 0
               have y0_1 : w'.cell? ⟨w.heap.size, 1, none⟩ = some (.int .i64 (s)) := kb0.cell 1
               have kb1 := step_blk hb (show Blk _ (w6.heap.size) 54 #[.int .i64 (qa), .int .i64 (qv)] by repeat' (first | exact K0_7.out | exact K1_7.out | exact Blk.at_ _ (by first | rfl | (simp; done) | (simp; omega)) _ _ | refine Blk.drewN ?_ _ | refine Blk.drew ?_ | refine Blk.alloc ?_ _ | refine Blk.far ?_ (by first | omega | (simp; done) | (simp; omega)) _ | assumption))
               have y1_0 : w'.cell? ⟨w6.heap.size, 0, none⟩ = some (.int .i64 (qa)) := kb1.cell 0
               have y1_1 : w'.cell? ⟨w6.heap.size, 1, none⟩ = some (.int .i64 (qv)) := kb1.cell 1
               clear kb0 kb1
               clear hk hD hb
               go_simp
               try rfl
             simp only [Act.put, List.setIfInBounds_toArray, List.set_cons_zero, List.set_cons_succ]))
        refine Fx.nil_ ?_
        intro f w8 hall hb
        try clear hall
        have HB78 := Lib.hid hb
        have HB8 := Lib.hid (show Below w.heap.size w w8 from step_below hb (by repeat' (first | exact Below.refl _ _ | exact HB7.out | refine below_drewN ?_ _ | refine Below.drew ?_ | refine Below.alloc ?_ (by first | omega | (simp; done) | (simp; omega) | (simp [World.setCell]; omega)) _ | refine Below.setCell ?_ (by first | omega | (simp; done) | (simp; omega)) _ | assumption)))
        have K0_8 := Lib.hid (step_blk hb (show Blk _ (w.heap.size) 45 #[.int .i64 (p), .int .i64 (s)] by repeat' (first | exact K0_7.out | exact K1_7.out | exact Blk.at_ _ (by first | rfl | (simp; done) | (simp; omega)) _ _ | refine Blk.drewN ?_ _ | refine Blk.drew ?_ | refine Blk.alloc ?_ _ | refine Blk.far ?_ (by first | omega | (simp; done) | (simp; omega)) _ | assumption)))
        have K1_8 := Lib.hid (step_blk hb (show Blk _ (w6.heap.size) 54 #[.int .i64 (qa), .int .i64 (qv)] by repeat' (first | exact K0_7.out | exact K1_7.out | exact Blk.at_ _ (by first | rfl | (simp; done) | (simp; omega)) _ _ | refine Blk.drewN ?_ _ | refine Blk.drew ?_ | refine Blk.alloc ?_ _ | refine Blk.far ?_ (by first | omega | (simp; done) | (simp; omega)) _ | assumption)))
        have hz8 := hb.size
        try simp only [World.size_alloc, World.drewN, World.drew] at hz8
        clear hb K0_7 K1_7 z0_0_7 z0_1_7 l0_7 z1_0_7 z1_1_7 l1_7
        have l0_8 : w.heap.size < w8.heap.size := K0_8.out.lt
        have z0_0_8 : w8.cell? ⟨w.heap.size, 0, none⟩ = some (.int .i64 (p)) := K0_8.out.cell 0
        have z0_1_8 : w8.cell? ⟨w.heap.size, 1, none⟩ = some (.int .i64 (s)) := K0_8.out.cell 1
        have l1_8 : w6.heap.size < w8.heap.size := K1_8.out.lt
        have z1_0_8 : w8.cell? ⟨w6.heap.size, 0, none⟩ = some (.int .i64 (qa)) := K1_8.out.cell 0
        have z1_1_8 : w8.cell? ⟨w6.heap.size, 1, none⟩ = some (.int .i64 (qv)) := K1_8.out.cell 1
        simp only [HG.out]
        have hbz := HBJ.out.trans (HN7.out.mono HBJ.out.size) |>.trans ((show Below w7.heap.size w7 w8 from HB78.out).mono (Nat.le_trans HBJ.out.size HN7.out.size))
        have HBZ := Lib.hid hbz
        clear hbz
        go_wp2
        go_roundw
        case rel => exact ⟨j + 1, by omega, by rw [HNEXT.out], by go_num, HBZ.out⟩
        case measure => simp [intOf]; omega
      · obtain rfl : j = n := by omega
        have hbx : Below w3.heap.size w3 w6 := HBR.out.trans ((show Below w4.heap.size w4 w5 from HN5.out).mono HBR.out.size) |>.trans (HBJ.out.mono (Nat.le_trans HBR.out.size hs45))
        have HO7 := Lib.hid (own_below HO.out ((show Below w4.heap.size w4 w5 from HN5.out).trans (HBJ.out.mono hs45)) (Nat.le_refl _))
        obtain ⟨v', W2, hrun, ho2, hb2⟩ := snocint_run w3.heap.size _ k0 _ (lowF l p s k0 j) w6 HO7.out hbx.size (by omega)
        have HRUN := Lib.hid hrun
        have HO2 := Lib.hid ho2
        have HBX := Lib.hid (hbx.trans hb2)
        clear hrun ho2 hb2 hbx hrd
        go_wp2_with (first | (at_builtin; refine wpList_app _ W2 v' rfl _ _ _ rfl _ _ rfl rfl HRUN.out ?_))
        go_roundw
        case rel => exact ⟨k0 + 1, by omega, by go_num, HBX.out, by rw [surfF_succ, HL.out, List.map_append]; exact HO2.out⟩
        case measure => simp [intOf]; omega
end Go.Proofs.Ytmejiafmmmeloaa

end
