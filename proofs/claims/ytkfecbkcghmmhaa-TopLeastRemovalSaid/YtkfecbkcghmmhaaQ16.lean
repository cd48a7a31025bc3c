import Derived.Test.YtkfecbkcghmmhaaQ15
import Derived.Test.YtkfecbkcghmmhaaQ9

section
/- Contracts of Judge and Surface. -/
namespace Go.Proofs.Ytkfecbkcghmmhaa
open Go Go.RowKit

def judgeV (v : Int) (i k : Nat) (E : Int) : Value := .tuple #[.int .i64 v, .agg #[.int .i64 (i : Int), .int .i64 (k : Int)], .int .i64 E]

theorem Judge_ok (A : Option Addr) (n c : Nat) (l : List (Int × Int)) (p s : Int) (hE : judgeErr l p s = 0) (v : Int) (i k : Nat) (hv : judgeF l p s = (v, (i, k))) (w : World) (hx : Reads w w.heap.size 2 A n (cells2 l)) :
    Calls Try.prog 13 #[.slice A n c, .agg #[.int .i64 p, .int .i64 s]] w fun e w' => e = .returned (.tuple #[.int .i64 v, .agg #[.int .i64 (i : Int), .int .i64 (k : Int)], .int .i64 0]) ∧ Below w.heap.size w w' := by
  have HE := Lib.hid hE
  have HV := Lib.hid hv
  clear hE hv
  go_enter Try.func13, Try.ntmps13
  have R0_0 := Lib.hid hx
  clear hx
  go_wp2_with fail
  generalize hwn : ((w.alloc (.cells #[.int .i64 (p), .int .i64 (s)] 58)).alloc (.cells #[.int .i64 (0), .int .i64 (0)] 43)) = w1
  have hbn : Below w.heap.size w w1 := by rw [← hwn]; repeat' (first | exact Below.refl _ _ | refine below_drewN ?_ _ | refine Below.drew ?_ | refine Below.alloc ?_ (by first | omega | (simp; done) | (simp; omega) | (simp [World.setCell]; omega)) _ | refine Below.setCell ?_ (by first | omega | (simp; done) | (simp; omega)) _)
  have HB1 := Lib.hid (show Below w.heap.size w w1 from hbn)
  have K0_1 := Lib.hid (show Blk w1 (w.heap.size) 58 #[.int .i64 (p), .int .i64 (s)] by rw [← hwn]; repeat' (first | exact Blk.at_ _ (by first | rfl | (simp; done) | (simp; omega)) _ _ | refine Blk.drewN ?_ _ | refine Blk.drew ?_ | refine Blk.alloc ?_ _ | refine Blk.far ?_ (by first | omega | (simp; done) | (simp; omega)) _ | assumption))
  have K1_1 := Lib.hid (show Blk w1 (w.heap.size + 1) 43 #[.int .i64 (0), .int .i64 (0)] by rw [← hwn]; repeat' (first | exact Blk.at_ _ (by first | rfl | (simp; done) | (simp; omega)) _ _ | refine Blk.drewN ?_ _ | refine Blk.drew ?_ | refine Blk.alloc ?_ _ | refine Blk.far ?_ (by first | omega | (simp; done) | (simp; omega)) _ | assumption))
  have R0_1 := Lib.hid ((R0_0.out.below hbn).more hbn.size)
  have HN1 := Lib.hid hbn
  have hz1 := hbn.size
  clear hwn hbn R0_0
  have l0_1 : w.heap.size < w1.heap.size := K0_1.out.lt
  have z0_0_1 : w1.cell? ⟨w.heap.size, 0, none⟩ = some (.int .i64 (p)) := K0_1.out.cell 0
  have z0_1_1 : w1.cell? ⟨w.heap.size, 1, none⟩ = some (.int .i64 (s)) := K0_1.out.cell 1
  have l1_1 : w.heap.size + 1 < w1.heap.size := K1_1.out.lt
  have z1_0_1 : w1.cell? ⟨w.heap.size + 1, 0, none⟩ = some (.int .i64 (0)) := K1_1.out.cell 0
  have z1_1_1 : w1.cell? ⟨w.heap.size + 1, 1, none⟩ = some (.int .i64 (0)) := K1_1.out.cell 1
  refine (all_is A n c l p s 0 HE.out _ R0_1.out).mono ?_
  rintro e w2 ⟨rfl, hb⟩
  have HB2 := Lib.hid (show Below w.heap.size w w2 from step_below hb (by repeat' (first | exact Below.refl _ _ | exact HB1.out | refine below_drewN ?_ _ | refine Below.drew ?_ | refine Below.alloc ?_ (by first | omega | (simp; done) | (simp; omega) | (simp [World.setCell]; omega)) _ | refine Below.setCell ?_ (by first | omega | (simp; done) | (simp; omega)) _ | assumption)))
  have K0_2 := Lib.hid (step_blk hb (show Blk _ (w.heap.size) 58 #[.int .i64 (p), .int .i64 (s)] by repeat' (first | exact K0_1.out | exact K1_1.out | exact Blk.at_ _ (by first | rfl | (simp; done) | (simp; omega)) _ _ | refine Blk.drewN ?_ _ | refine Blk.drew ?_ | refine Blk.alloc ?_ _ | refine Blk.far ?_ (by first | omega | (simp; done) | (simp; omega)) _ | assumption)))
  have K1_2 := Lib.hid (step_blk hb (show Blk _ (w.heap.size + 1) 43 #[.int .i64 (0), .int .i64 (0)] by repeat' (first | exact K0_1.out | exact K1_1.out | exact Blk.at_ _ (by first | rfl | (simp; done) | (simp; omega)) _ _ | refine Blk.drewN ?_ _ | refine Blk.drew ?_ | refine Blk.alloc ?_ _ | refine Blk.far ?_ (by first | omega | (simp; done) | (simp; omega)) _ | assumption)))
  have hL2 := Lib.hid (show Below w1.heap.size w1 _ from reads_mid hb (by repeat' (first | exact Below.refl _ _ | refine below_drewN ?_ _ | refine Below.drew ?_ | refine Below.alloc ?_ (by first | omega | (simp; done) | (simp; omega) | (simp [World.setCell]; omega)) _ | refine Below.setCell ?_ (by first | omega | (simp; done) | (simp; omega)) _)))
  have R0_2 := Lib.hid (reads_lay hb hL2.out R0_1.out)
  clear hL2 R0_1
  have hz2 := hb.size
  try simp only [World.size_alloc, World.drewN, World.drew] at hz2
  clear hb K0_1 K1_1 z0_0_1 z0_1_1 l0_1 z1_0_1 z1_1_1 l1_1
  have l0_2 : w.heap.size < w2.heap.size := K0_2.out.lt
  have z0_0_2 : w2.cell? ⟨w.heap.size, 0, none⟩ = some (.int .i64 (p)) := K0_2.out.cell 0
  have z0_1_2 : w2.cell? ⟨w.heap.size, 1, none⟩ = some (.int .i64 (s)) := K0_2.out.cell 1
  have l1_2 : w.heap.size + 1 < w2.heap.size := K1_2.out.lt
  have z1_0_2 : w2.cell? ⟨w.heap.size + 1, 0, none⟩ = some (.int .i64 (0)) := K1_2.out.cell 0
  have z1_1_2 : w2.cell? ⟨w.heap.size + 1, 1, none⟩ = some (.int .i64 (0)) := K1_2.out.cell 1
  go_wp2_with fail
  refine (judge_is A n c l p s HE.out v i k HV.out _ R0_2.out).mono ?_
  rintro e w3 ⟨rfl, hb⟩
  have HB3 := Lib.hid (show Below w.heap.size w w3 from step_below hb (by repeat' (first | exact Below.refl _ _ | exact HB2.out | refine below_drewN ?_ _ | refine Below.drew ?_ | refine Below.alloc ?_ (by first | omega | (simp; done) | (simp; omega) | (simp [World.setCell]; omega)) _ | refine Below.setCell ?_ (by first | omega | (simp; done) | (simp; omega)) _ | assumption)))
  have K0_3 := Lib.hid (step_blk hb (show Blk _ (w.heap.size) 58 #[.int .i64 (p), .int .i64 (s)] by repeat' (first | exact K0_2.out | exact K1_2.out | exact Blk.at_ _ (by first | rfl | (simp; done) | (simp; omega)) _ _ | refine Blk.drewN ?_ _ | refine Blk.drew ?_ | refine Blk.alloc ?_ _ | refine Blk.far ?_ (by first | omega | (simp; done) | (simp; omega)) _ | assumption)))
  have K1_3 := Lib.hid (step_blk hb (show Blk _ (w.heap.size + 1) 43 #[.int .i64 (0), .int .i64 (0)] by repeat' (first | exact K0_2.out | exact K1_2.out | exact Blk.at_ _ (by first | rfl | (simp; done) | (simp; omega)) _ _ | refine Blk.drewN ?_ _ | refine Blk.drew ?_ | refine Blk.alloc ?_ _ | refine Blk.far ?_ (by first | omega | (simp; done) | (simp; omega)) _ | assumption)))
  have hL3 := Lib.hid (show Below w2.heap.size w2 _ from reads_mid hb (by repeat' (first | exact Below.refl _ _ | refine below_drewN ?_ _ | refine Below.drew ?_ | refine Below.alloc ?_ (by first | omega | (simp; done) | (simp; omega) | (simp [World.setCell]; omega)) _ | refine Below.setCell ?_ (by first | omega | (simp; done) | (simp; omega)) _)))
  have R0_3 := Lib.hid (reads_lay hb hL3.out R0_2.out)
  clear hL3 R0_2
  have hz3 := hb.size
  try simp only [World.size_alloc, World.drewN, World.drew] at hz3
  clear hb K0_2 K1_2 z0_0_2 z0_1_2 l0_2 z1_0_2 z1_1_2 l1_2
  have l0_3 : w.heap.size < w3.heap.size := K0_3.out.lt
  have z0_0_3 : w3.cell? ⟨w.heap.size, 0, none⟩ = some (.int .i64 (p)) := K0_3.out.cell 0
  have z0_1_3 : w3.cell? ⟨w.heap.size, 1, none⟩ = some (.int .i64 (s)) := K0_3.out.cell 1
  have l1_3 : w.heap.size + 1 < w3.heap.size := K1_3.out.lt
  have z1_0_3 : w3.cell? ⟨w.heap.size + 1, 0, none⟩ = some (.int .i64 (0)) := K1_3.out.cell 0
  have z1_1_3 : w3.cell? ⟨w.heap.size + 1, 1, none⟩ = some (.int .i64 (0)) := K1_3.out.cell 1
  go_wp2_with fail
  generalize hwn : (w3.alloc (.cells #[.int .i64 ((i : Int)), .int .i64 ((k : Int))] 43)) = w4
  have hbn : Below w3.heap.size w3 w4 := by rw [← hwn]; repeat' (first | exact Below.refl _ _ | refine below_drewN ?_ _ | refine Below.drew ?_ | refine Below.alloc ?_ (by first | omega | (simp; done) | (simp; omega) | (simp [World.setCell]; omega)) _ | refine Below.setCell ?_ (by first | omega | (simp; done) | (simp; omega)) _)
  have HB4 := Lib.hid (show Below w.heap.size w w4 from HB3.out.trans (hbn.mono HB3.out.size))
  have K0_4 := Lib.hid (step_blk hbn K0_3.out)
  have K1_4 := Lib.hid (step_blk hbn K1_3.out)
  have K2_4 := Lib.hid (show Blk w4 (w3.heap.size) 43 #[.int .i64 ((i : Int)), .int .i64 ((k : Int))] by rw [← hwn]; repeat' (first | exact Blk.at_ _ (by first | rfl | (simp; done) | (simp; omega)) _ _ | refine Blk.drewN ?_ _ | refine Blk.drew ?_ | refine Blk.alloc ?_ _ | refine Blk.far ?_ (by first | omega | (simp; done) | (simp; omega)) _ | assumption))
  have R0_4 := Lib.hid ((R0_3.out.below hbn).more hbn.size)
  have HN4 := Lib.hid hbn
  have hz4 := hbn.size
  clear hwn hbn K0_3 l0_3 z0_0_3 z0_1_3 K1_3 l1_3 z1_0_3 z1_1_3 R0_3
  have l0_4 : w.heap.size < w4.heap.size := K0_4.out.lt
  have z0_0_4 : w4.cell? ⟨w.heap.size, 0, none⟩ = some (.int .i64 (p)) := K0_4.out.cell 0
  have z0_1_4 : w4.cell? ⟨w.heap.size, 1, none⟩ = some (.int .i64 (s)) := K0_4.out.cell 1
  have l1_4 : w.heap.size + 1 < w4.heap.size := K1_4.out.lt
  have z1_0_4 : w4.cell? ⟨w.heap.size + 1, 0, none⟩ = some (.int .i64 (0)) := K1_4.out.cell 0
  have z1_1_4 : w4.cell? ⟨w.heap.size + 1, 1, none⟩ = some (.int .i64 (0)) := K1_4.out.cell 1
  have l2_4 : w3.heap.size < w4.heap.size := K2_4.out.lt
  have z2_0_4 : w4.cell? ⟨w3.heap.size, 0, none⟩ = some (.int .i64 ((i : Int))) := K2_4.out.cell 0
  have z2_1_4 : w4.cell? ⟨w3.heap.size, 1, none⟩ = some (.int .i64 ((k : Int))) := K2_4.out.cell 1
  have zf1_0 := K1_4.out.frozen 0
  have zf1_1 := K1_4.out.frozen 1
  obtain ⟨W0, hW0⟩ : ∃ W0, W0 = w4.drewN 1 := ⟨_, rfl⟩
  have m0 : W0.cell? ⟨w3.heap.size, 0, none⟩ = some (.int .i64 (i : Int)) := by rw [hW0]; exact z2_0_4
  have m1 : W0.cell? ⟨w3.heap.size, 1, none⟩ = some (.int .i64 (k : Int)) := by rw [hW0]; exact z2_1_4
  have kb : Blk W0 (w.heap.size + 1) 43 #[.int .i64 0, .int .i64 0] := by rw [hW0]; exact Blk.drewN K1_4.out 1
  have HKB := Lib.hid kb
  have mo0 := kb.cell 0
  have mo1 := kb.cell 1
  have mf0 := kb.frozen 0
  have mf1 := kb.frozen 1
  clear kb
  refine Fx.region (fun f w' => (f 3 = false → w' = W0) ∧ (f 3 = true → w' = (W0.setCell ⟨w.heap.size + 1, 0, none⟩ (.int .i64 (i : Int))).setCell ⟨w.heap.size + 1, 1, none⟩ (.int .i64 (k : Int)))) (by kernel_rfl) (by kernel_rfl) ?_ ?_
  · intro f hf0
    exact ⟨fun _ => hW0.symm, fun h => by rw [hf0 3] at h; cases h⟩
  have HW0 := Lib.hid hW0
  clear hW0
  repeat (first
    | (refine Fx.skip_ (by rfl) (fun f w h => h) ?_; simp only [Act.put, List.setIfInBounds_toArray, List.set_cons_zero, List.set_cons_succ])
    | (refine Fx.val_ ?_ (by rfl) ?_ (fun f w h => h) ?_
       rotate_left
       · intro f w' hD hk
         obtain ⟨jw, jr⟩ := id hD
         clear hk hD jw jr
         go_simp
         try rfl
       simp only [Act.put, List.setIfInBounds_toArray, List.set_cons_zero, List.set_cons_succ]))
  refine Fx.val_ ?_ (by rfl) ?_ (fun f w h => h) ?_
  rotate_left
  · intro f w' hD hk
    obtain ⟨jw, jr⟩ := id hD
    have jw := jw (hk.2.1 3 (by kernel_rfl))
    have q0 : w'.cell? ⟨w3.heap.size, 0, none⟩ = some (.int .i64 (i : Int)) := by rw [jw]; exact m0
    have q1 : w'.cell? ⟨w3.heap.size, 1, none⟩ = some (.int .i64 (k : Int)) := by rw [jw]; exact m1
    clear hk hD jw jr
    go_simp
    try rfl
  simp only [Act.put, List.setIfInBounds_toArray, List.set_cons_zero, List.set_cons_succ]
  repeat (first
    | (refine Fx.skip_ (by rfl) (fun f w h => h) ?_; simp only [Act.put, List.setIfInBounds_toArray, List.set_cons_zero, List.set_cons_succ])
    | (refine Fx.val_ ?_ (by rfl) ?_ (fun f w h => h) ?_
       rotate_left
       · intro f w' hD hk
         obtain ⟨jw, jr⟩ := id hD
         clear hk hD jw jr
         go_simp
         try rfl
       simp only [Act.put, List.setIfInBounds_toArray, List.set_cons_zero, List.set_cons_succ]))
  refine Fx.store_ (fun w' => (w'.setCell ⟨w.heap.size + 1, 0, none⟩ (.int .i64 (i : Int))).setCell ⟨w.heap.size + 1, 1, none⟩ (.int .i64 (k : Int))) (by rfl) ?_ ?_ ?_
  · intro f w' hD hk
    obtain ⟨jw, jr⟩ := id hD
    have jw := jw hk.1
    have q0 : w'.cell? ⟨w.heap.size + 1, 0, none⟩ = some (.int .i64 0) := by rw [jw]; exact mo0
    have q1 : w'.cell? ⟨w.heap.size + 1, 1, none⟩ = some (.int .i64 0) := by rw [jw]; exact mo1
    have q2 : w'.frozen? ⟨w.heap.size + 1, 0, none⟩ = false := by rw [jw]; exact mf0
    have q3 : w'.frozen? ⟨w.heap.size + 1, 1, none⟩ = false := by rw [jw]; exact mf1
    clear hk hD jw jr
    go_simp
  · intro f w' hD hk
    obtain ⟨jw, jr⟩ := id hD
    have jw := jw hk.1
    exact ⟨fun h => by simp [Fx.add] at h, fun _ => by rw [jw]⟩
  simp only [Act.put, List.setIfInBounds_toArray, List.set_cons_zero, List.set_cons_succ]
  repeat (first
    | (refine Fx.skip_ (by rfl) (fun f w h => h) ?_; simp only [Act.put, List.setIfInBounds_toArray, List.set_cons_zero, List.set_cons_succ])
    | (refine Fx.val_ ?_ (by rfl) ?_ (fun f w h => h) ?_
       rotate_left
       · intro f w' hD hk
         obtain ⟨jw, jr⟩ := id hD
         clear hk hD jw jr
         go_simp
         try rfl
       simp only [Act.put, List.setIfInBounds_toArray, List.set_cons_zero, List.set_cons_succ]))
  refine Fx.nil_ ?_
  intro f w1 hall hD
  have hf3 := hall 3 (by simp)
  obtain ⟨jw, jr⟩ := hD
  simp only [hf3, if_true] at *
  have jr := jr (by first | rfl | trivial)
  clear jw
  try clear hall
  subst jr
  have hkb := (HKB.out.set_ 0 (.int .i64 (i : Int))).set_ 1 (.int .i64 (k : Int))
  have y0 := hkb.cell 0
  have y1 := hkb.cell 1
  have yl := hkb.lt
  simp only [List.setIfInBounds_toArray, List.set_cons_zero, List.set_cons_succ] at y0 y1
  have hbb : Below w.heap.size w ((W0.setCell ⟨w.heap.size + 1, 0, none⟩ (.int .i64 (i : Int))).setCell ⟨w.heap.size + 1, 1, none⟩ (.int .i64 (k : Int))) := by
    rw [HW0.out]
    exact ((below_drewN HB4.out 1).setCell (p := ⟨w.heap.size + 1, 0, none⟩) (by show _ ≤ w.heap.size + 1; omega) _).setCell (p := ⟨w.heap.size + 1, 1, none⟩) (by show _ ≤ w.heap.size + 1; omega) _
  go_wp2
  exact bodyPost_ret (v := .tuple #[.int .i64 v, .agg #[.int .i64 (i : Int), .int .i64 (k : Int)], .int .i64 0]) (by simp [results, Try.results13, go_sem, y0, y1, yl]) rfl ⟨rfl, hbb⟩

end Go.Proofs.Ytkfecbkcghmmhaa

end

section
/- The contract of the check of a map. -/
namespace Go.Proofs.Ytkfecbkcghmmhaa
open Go Go.RowKit

def zoneB (hs qs ws : List Int) (i : Nat) : Bool := hgtB (hs.getD i 0) && (withinB (qs.getD i 0) 0 1000 && withinB (ws.getD i 0) 0 1000)
/-- The error of a map. -/
def mapErr (hs qs ws : List Int) : Int := if hs.length < 1 ∨ 40 < hs.length ∨ qs.length ≠ hs.length ∨ ws.length ≠ hs.length then 10 else if (List.range hs.length).all (zoneB hs qs ws) then (if ws.all (fun z => decide (z = 0)) then 11 else 0) else 2
theorem map_shape {hs qs ws : List Int} (h : hs.length < 1 ∨ 40 < hs.length ∨ qs.length ≠ hs.length ∨ ws.length ≠ hs.length) : mapErr hs qs ws = 10 := by unfold mapErr; rw [if_pos h]
theorem map_bad {hs qs ws : List Int} (h : ¬ (hs.length < 1 ∨ 40 < hs.length ∨ qs.length ≠ hs.length ∨ ws.length ≠ hs.length)) {k : Nat} (hk : k < hs.length) (hz : zoneB hs qs ws k = false) : mapErr hs qs ws = 2 := by
  unfold mapErr
  rw [if_neg h, if_neg]
  intro ha
  have := List.all_eq_true.1 ha k (List.mem_range.2 hk)
  rw [hz] at this
  cases this
theorem map_all {hs qs ws : List Int} (h : ¬ (hs.length < 1 ∨ 40 < hs.length ∨ qs.length ≠ hs.length ∨ ws.length ≠ hs.length)) (hz : ∀ k, k < hs.length → zoneB hs qs ws k = true) : mapErr hs qs ws = if ws.all (fun z => decide (z = 0)) then 11 else 0 := by
  unfold mapErr
  rw [if_neg h, if_pos (List.all_eq_true.2 fun k hk => hz k (List.mem_range.1 hk))]

set_option maxRecDepth 100000 in
set_option maxHeartbeats 4000000 in
theorem checkmap_is (A1 : Option Addr) (n1 c1 : Nat) (hs : List Int) (A2 : Option Addr) (n2 c2 : Nat) (qs : List Int) (A3 : Option Addr) (n3 c3 : Nat) (ws : List Int) (E : Int) (hE : mapErr hs qs ws = E) (w : World)
    (r1 : Reads w w.heap.size 1 A1 n1 (hs.map (.int .i64))) (r2 : Reads w w.heap.size 1 A2 n2 (qs.map (.int .i64))) (r3 : Reads w w.heap.size 1 A3 n3 (ws.map (.int .i64))) (hc1 : n1 ≤ 9223372036854775807) (hc2 : n2 ≤ 9223372036854775807) (hc3 : n3 ≤ 9223372036854775807) :
    Calls Try.prog 20 #[.agg #[.slice A1 n1 c1, .slice A2 n2 c2, .slice A3 n3 c3]] w fun e w' => e = .returned (.int .i64 E) ∧ Below w.heap.size w w' := by
  have l1 : hs.length = n1 := by have := r1.1; simpa using this
  have l2 : qs.length = n2 := by have := r2.1; simpa using this
  have l3 : ws.length = n3 := by have := r3.1; simpa using this
  have HE := Lib.hid hE
  have R1 := Lib.hid r1
  have R2 := Lib.hid r2
  have R3 := Lib.hid r3
  clear hE r1 r2 r3
  cases hz : withinB (n1 : Int) 1 40
  · have e : (10 : Int) = E := by rw [← HE.out, map_shape (by have := zones_no hz; omega)]
    have HEE := Lib.hid e
    have HZ := Lib.hid hz
    clear hz e l1 l2 l3
    go_enter Try.func20, Try.ntmps20
    go_wp2_with fail
    refine (iszones_is _ false HZ.out _).mono ?_
    rintro e w' ⟨rfl, rfl⟩
    go_wp2
    go_ret
    exact ⟨ret_int HEE.out, by repeat' (first | exact Below.refl _ _ | assumption | refine below_drewN ?_ _ | refine Below.drew ?_ | refine Below.alloc ?_ (by first | omega | (simp; done) | (simp; omega)) _ | refine Below.setCell ?_ (by first | omega | (simp; done) | (simp; omega)) _)⟩
  have hzy := zones_yes hz
  have HZ := Lib.hid hz
  by_cases h2 : n2 = n1
  rotate_left
  · have e : (10 : Int) = E := by rw [← HE.out, map_shape (by omega)]
    have HEE := Lib.hid e
    have hd : ((n2 : Int) != (n1 : Int)) = true := by simp; omega
    clear hz e l1 l2 l3 h2 hzy
    go_enter Try.func20, Try.ntmps20
    go_wp2_with fail
    refine (iszones_is _ true HZ.out _).mono ?_
    rintro e w' ⟨rfl, rfl⟩
    go_wp2
    go_ret
    exact ⟨ret_int HEE.out, by repeat' (first | exact Below.refl _ _ | assumption | refine below_drewN ?_ _ | refine Below.drew ?_ | refine Below.alloc ?_ (by first | omega | (simp; done) | (simp; omega)) _ | refine Below.setCell ?_ (by first | omega | (simp; done) | (simp; omega)) _)⟩
  by_cases h3 : n3 = n1
  rotate_left
  · have e : (10 : Int) = E := by rw [← HE.out, map_shape (by omega)]
    have HEE := Lib.hid e
    have hd : ((n2 : Int) != (n1 : Int)) = false := by simp; omega
    have hd3 : ((n3 : Int) != (n1 : Int)) = true := by simp; omega
    clear hz e l1 l2 l3 h2 h3 hzy
    go_enter Try.func20, Try.ntmps20
    go_wp2_with fail
    refine (iszones_is _ true HZ.out _).mono ?_
    rintro e w' ⟨rfl, rfl⟩
    go_wp2
    go_ret
    exact ⟨ret_int HEE.out, by repeat' (first | exact Below.refl _ _ | assumption | refine below_drewN ?_ _ | refine Below.drew ?_ | refine Below.alloc ?_ (by first | omega | (simp; done) | (simp; omega)) _ | refine Below.setCell ?_ (by first | omega | (simp; done) | (simp; omega)) _)⟩
  subst h2 h3
  have HSH : Hid (¬ (hs.length < 1 ∨ 40 < hs.length ∨ qs.length ≠ hs.length ∨ ws.length ≠ hs.length)) := by show ¬ _; rw [l1, l2, l3]; omega
  have hn40 : n3 ≤ 40 := by omega
  have hn1 : 1 ≤ n3 := by omega
  have HL := Lib.hid l1
  have HL3 := Lib.hid l3
  obtain ⟨b1, o1, z1, rfl, hb1, -, -⟩ := R1.out.int_ (show 0 < n3 by omega)
  obtain ⟨b2, o2, z2, rfl, hb2, -, -⟩ := R2.out.int_ (show 0 < n3 by omega)
  obtain ⟨b3, o3, z3, rfl, hb3, -, -⟩ := R3.out.int_ (show 0 < n3 by omega)
  clear hz hzy l1 l2 l3 hc1 hc2 hc3 z1 z2 z3
  go_enter Try.func20, Try.ntmps20
  go_wp2_with fail
  refine (iszones_is _ true HZ.out _).mono ?_
  rintro e w' ⟨rfl, rfl⟩
  go_wp2
  generalize hwn : (w.alloc (.cells #[.slice (some ⟨b1, o1, none⟩) n3 c1, .slice (some ⟨b2, o2, none⟩) n3 c2, .slice (some ⟨b3, o3, none⟩) n3 c3] 36)) = w1
  have hbn : Below w.heap.size w w1 := by rw [← hwn]; repeat' (first | exact Below.refl _ _ | refine below_drewN ?_ _ | refine Below.drew ?_ | refine Below.alloc ?_ (by first | omega | (simp; done) | (simp; omega) | (simp [World.setCell]; omega)) _ | refine Below.setCell ?_ (by first | omega | (simp; done) | (simp; omega)) _)
  have HB1 := Lib.hid (show Below w.heap.size w w1 from hbn)
  have K0_1 := Lib.hid (show Blk w1 (w.heap.size) 36 #[.slice (some ⟨b1, o1, none⟩) n3 c1, .slice (some ⟨b2, o2, none⟩) n3 c2, .slice (some ⟨b3, o3, none⟩) n3 c3] by rw [← hwn]; repeat' (first | exact Blk.at_ _ (by first | rfl | (simp; done) | (simp; omega)) _ _ | refine Blk.drewN ?_ _ | refine Blk.drew ?_ | refine Blk.alloc ?_ _ | refine Blk.far ?_ (by first | omega | (simp; done) | (simp; omega)) _ | assumption))
  have HN1 := Lib.hid hbn
  have hz1 := hbn.size
  clear hwn hbn
  have l0_1 : w.heap.size < w1.heap.size := K0_1.out.lt
  have z0_0_1 : w1.cell? ⟨w.heap.size, 0, none⟩ = some (.slice (some ⟨b1, o1, none⟩) n3 c1) := K0_1.out.cell 0
  have z0_1_1 : w1.cell? ⟨w.heap.size, 1, none⟩ = some (.slice (some ⟨b2, o2, none⟩) n3 c2) := K0_1.out.cell 1
  have z0_2_1 : w1.cell? ⟨w.heap.size, 2, none⟩ = some (.slice (some ⟨b3, o3, none⟩) n3 c3) := K0_1.out.cell 2
  have hs1 := HB1.out.size
  go_loopw [29] (fun i wr => ∃ k : Nat, k ≤ n3 ∧ i = .int .i64 k ∧ w1 = wr ∧ ∀ j, j < k → zoneB hs qs ws j = true) (fun i _ => n3 - (intOf i).toNat)
  case atStart => exact ⟨0, by omega, rfl, rfl, fun j hj => absurd hj (by omega)⟩
  case round =>
    obtain ⟨k, hk, rfl, rfl, hup⟩ := hrel
    have HUP := Lib.hid hup
    clear hup
    by_cases hlt : k < n3
    · obtain ⟨yb, yo, x1, hA, -, g1, d1⟩ := (R1.out.below HB1.out).int_ hlt
      obtain ⟨rfl, rfl⟩ : b1 = yb ∧ o1 = yo := by simpa using hA
      obtain ⟨yb, yo, x2, hA2, -, g2, d2⟩ := (R2.out.below HB1.out).int_ hlt
      obtain ⟨rfl, rfl⟩ : b2 = yb ∧ o2 = yo := by simpa using hA2
      obtain ⟨yb, yo, x3, hA3, -, g3, d3⟩ := (R3.out.below HB1.out).int_ hlt
      obtain ⟨rfl, rfl⟩ : b3 = yb ∧ o3 = yo := by simpa using hA3
      have hzo : zoneB hs qs ws k = (hgtB x1 && (withinB x2 0 1000 && withinB x3 0 1000)) := by
        unfold zoneB
        rw [getD_of g1, getD_of g2, getD_of g3]
      have hkk : (k : Int) < (n3 : Int) := by omega
      have HZO := Lib.hid hzo
      clear hA hA2 hA3 g1 g2 g3 hzo
      cases h1 : hgtB x1
      · have H1 := Lib.hid h1
        have HEE := Lib.hid ((map_bad HSH.out (by rw [HL.out]; exact hlt) (by rw [HZO.out, h1]; rfl)).symm.trans HE.out)
        clear h1
        go_wp2_with fail
        refine (withinfig_is _ _ _ false H1.out _).mono ?_
        rintro e w' ⟨rfl, rfl⟩
        go_wp2
        go_ret
        exact ⟨ret_int HEE.out, HB1.out⟩
      have H1 := Lib.hid h1
      cases h2 : withinB x2 0 1000
      · have H2 := Lib.hid h2
        have HEE := Lib.hid ((map_bad HSH.out (by rw [HL.out]; exact hlt) (by rw [HZO.out, h1, h2]; rfl)).symm.trans HE.out)
        clear h1 h2
        go_wp2_with fail
        refine (withinfig_is _ _ _ true H1.out _).mono ?_
        rintro e w' ⟨rfl, rfl⟩
        go_wp2_with fail
        refine (withinfig_is _ _ _ false H2.out _).mono ?_
        rintro e w' ⟨rfl, rfl⟩
        go_wp2
        go_ret
        exact ⟨ret_int HEE.out, HB1.out⟩
      have H2 := Lib.hid h2
      cases h3 : withinB x3 0 1000
      · have H3 := Lib.hid h3
        have HEE := Lib.hid ((map_bad HSH.out (by rw [HL.out]; exact hlt) (by rw [HZO.out, h1, h2, h3]; rfl)).symm.trans HE.out)
        clear h1 h2 h3
        go_wp2_with fail
        refine (withinfig_is _ _ _ true H1.out _).mono ?_
        rintro e w' ⟨rfl, rfl⟩
        go_wp2_with fail
        refine (withinfig_is _ _ _ true H2.out _).mono ?_
        rintro e w' ⟨rfl, rfl⟩
        go_wp2_with fail
        refine (withinfig_is _ _ _ false H3.out _).mono ?_
        rintro e w' ⟨rfl, rfl⟩
        go_wp2
        go_ret
        exact ⟨ret_int HEE.out, HB1.out⟩
      have H3 := Lib.hid h3
      have hok : zoneB hs qs ws k = true := by rw [HZO.out, h1, h2, h3]; rfl
      have HOK := Lib.hid hok
      clear h1 h2 h3 hok
      go_wp2_with fail
      refine (withinfig_is _ _ _ true H1.out _).mono ?_
      rintro e w' ⟨rfl, rfl⟩
      go_wp2_with fail
      refine (withinfig_is _ _ _ true H2.out _).mono ?_
      rintro e w' ⟨rfl, rfl⟩
      go_wp2_with fail
      refine (withinfig_is _ _ _ true H3.out _).mono ?_
      rintro e w' ⟨rfl, rfl⟩
      go_wp2
      go_roundw
      case rel => exact ⟨k + 1, by omega, by go_num, trivial, fun j hj => by
        rcases Nat.lt_or_ge j k with h | h
        · exact HUP.out j h
        · obtain rfl : j = k := by omega
          exact HOK.out⟩
      case measure => simp [intOf]; omega
    · obtain rfl : k = n3 := by omega
      have hall := map_all HSH.out (fun j hj => HUP.out j (by rw [HL.out] at hj; exact hj))
      have hws : ∀ z ∈ ws, 0 ≤ z ∧ z ≤ 1000 := fun z hz => by
        obtain ⟨i, hi⟩ := List.getElem?_of_mem hz
        have h1 := HUP.out i (by rw [← HL3.out]; exact (List.getElem?_eq_some_iff.1 hi).1)
        unfold zoneB at h1
        rw [getD_of hi, Bool.and_eq_true, Bool.and_eq_true, withinB_iff] at h1
        exact within_yes h1.2.2
      have HALL := Lib.hid (hall.symm.trans HE.out)
      have HWS := Lib.hid hws
      clear hall hws
      go_wp2_with fail
      refine (max_any _ k c3 ws hn1 (by omega) HWS.out _ ((R3.out.below HB1.out).more HB1.out.size)).mono ?_
      rintro e w' ⟨⟨v, rfl, hv⟩, rfl⟩
      by_cases hv0 : v = 0
      · have hd : (v == 0) = true := by simpa using hv0
        have he : (11 : Int) = E := by rw [← HALL.out, if_pos (List.all_eq_true.2 fun z hz => by simpa using (hv.1 hv0) z hz)]
        have HEE := Lib.hid he
        clear hv hv0 he
        go_wp2
        go_ret
        exact ⟨ret_int HEE.out, HB1.out⟩
      · have hd : (v == 0) = false := by simpa using hv0
        have he : (0 : Int) = E := by
          rw [← HALL.out, if_neg]
          intro ha
          exact hv0 (hv.2 fun z hz => by simpa using List.all_eq_true.1 ha z hz)
        have HEE := Lib.hid he
        clear hv hv0 he
        go_wp2
        go_ret
        exact ⟨ret_int HEE.out, HB1.out⟩
end Go.Proofs.Ytkfecbkcghmmhaa

end
