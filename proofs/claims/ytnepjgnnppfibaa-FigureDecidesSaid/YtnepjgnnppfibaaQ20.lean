import Derived.Test.YtnepjgnnppfibaaQ19

section
/- Contracts of chapter 6: the reference's judgement, copies of enclosures, the check of a pair that refuses. -/
namespace Go.Proofs.Ytnepjgnnppfibaa
open Go Go.RowKit

theorem lranges_any (A : Option Addr) (n c N : Nat) (l : List (Int × Int)) (w : World) (hx : Reads w N 2 A n (cells2 l)) (hN : N ≤ w.heap.size) (hn : n ≤ 1000000) :
    Calls Try.prog 26 #[.slice A n c] w (CopyPost w 50 2 n (cells2 l)) := by
  obtain ⟨v', W2, hrun, ho, hb⟩ := copy_run (P := Try.prog) 36 36 50 _ 2 16 Try.underlying36 info_range rfl (by omega) w N A n c (cells2 l) hx hN (one_cells2 l) (by unfold maxLen; omega) (by omega)
  have HRUN := Lib.hid hrun
  have HO := Lib.hid ho
  have HB := Lib.hid hb
  clear hrun ho hb
  go_enter Try.func26, Try.ntmps26
  go_wp2_with (first | (at_builtin; refine wpList_app _ W2 v' rfl _ _ _ rfl _ _ rfl rfl HRUN.out ?_))
  go_ret
  exact CopyPost.of HO.out HB.out
/-- A copy of an enclosure, by what is read there. -/
theorem cranges_any (A : Option Addr) (n c : Nat) (l : List (Int × Int)) (w : World) (hx : Reads w w.heap.size 2 A n (cells2 l)) (hn : n ≤ 1000000) :
    Calls Try.prog 26 #[.slice A n c] w fun e w' => ∃ A' c', e = .returned (.slice A' n c') ∧ Below w.heap.size w w' ∧ Reads w' w'.heap.size 2 A' n (cells2 l) :=
  (lranges_any A n c _ l w hx (Nat.le_refl _) hn).mono fun e w' h => by
    obtain ⟨A', c', he, hb, hr, -⟩ := h
    exact ⟨A', c', he, hb, hr⟩

theorem figjudgeerr_is (A : Option Addr) (n c : Nat) (l : List (Int × Int)) (p s E : Int) (hE : judgeErr l p s = E) (w : World) (hx : Reads w w.heap.size 2 A n (cells2 l)) :
    Calls Try.prog 27 #[.slice A n c, .agg #[.int .i64 p, .int .i64 s]] w fun e w' => e = .returned (.int .i64 E) ∧ Below w.heap.size w w' := by
  unfold judgeErr at hE
  obtain ⟨E1, hE1⟩ : ∃ E1, enclErr l = E1 := ⟨_, rfl⟩
  rw [hE1] at hE
  have HE1 := Lib.hid hE1
  clear hE1
  by_cases h0 : E1 = 0
  rotate_left
  · rw [if_pos h0] at hE
    subst hE
    have e1 : (E1 != 0) = true := by simpa using h0
    clear h0
    go_enter Try.func27, Try.ntmps27
    have R0_0 := Lib.hid hx
    clear hx
    go_wp2_with fail
    refine (rencl_is A n c l E1 HE1.out _ ((R0_0.out.alloc (Nat.le_refl _) _).more (by simp))).mono ?_
    rintro e w1 ⟨rfl, hb⟩
    have HB1 := Lib.hid (show Below w.heap.size w w1 from step_below hb (by repeat' (first | exact Below.refl _ _ | exact HB0.out | refine below_drewN ?_ _ | refine Below.drew ?_ | refine Below.alloc ?_ (by first | omega | (simp; done) | (simp; omega) | (simp [World.setCell]; omega)) _ | refine Below.setCell ?_ (by first | omega | (simp; done) | (simp; omega)) _ | assumption)))
    have K0_1 := Lib.hid (step_blk hb (show Blk _ (w.heap.size) 38 #[.int .i64 (p), .int .i64 (s)] by repeat' (first | exact Blk.at_ _ (by first | rfl | (simp; done) | (simp; omega)) _ _ | refine Blk.drewN ?_ _ | refine Blk.drew ?_ | refine Blk.alloc ?_ _ | refine Blk.far ?_ (by first | omega | (simp; done) | (simp; omega)) _ | assumption)))
    have hL1 := Lib.hid (show Below w.heap.size w _ from reads_mid hb (by repeat' (first | exact Below.refl _ _ | refine below_drewN ?_ _ | refine Below.drew ?_ | refine Below.alloc ?_ (by first | omega | (simp; done) | (simp; omega) | (simp [World.setCell]; omega)) _ | refine Below.setCell ?_ (by first | omega | (simp; done) | (simp; omega)) _)))
    have R0_1 := Lib.hid (reads_lay hb hL1.out R0_0.out)
    clear hL1 R0_0
    have hz1 := hb.size
    try simp only [World.size_alloc, World.drewN, World.drew] at hz1
    clear hb
    have l0_1 : w.heap.size < w1.heap.size := K0_1.out.lt
    have z0_0_1 : w1.cell? ⟨w.heap.size, 0, none⟩ = some (.int .i64 (p)) := K0_1.out.cell 0
    have z0_1_1 : w1.cell? ⟨w.heap.size, 1, none⟩ = some (.int .i64 (s)) := K0_1.out.cell 1
    go_wp2
    go_ret
    exact ⟨rfl, by repeat' (first | exact Below.refl _ _ | exact HB1.out | refine below_drewN ?_ _ | refine Below.drew ?_ | refine Below.alloc ?_ (by first | omega | (simp; done) | (simp; omega) | (simp [World.setCell]; omega)) _ | refine Below.setCell ?_ (by first | omega | (simp; done) | (simp; omega)) _ | assumption)⟩
  subst h0
  rw [if_neg (by simp)] at hE
  have HE := Lib.hid hE
  clear hE
  go_enter Try.func27, Try.ntmps27
  have R0_0 := Lib.hid hx
  clear hx
  go_wp2_with fail
  refine (rencl_is A n c l 0 HE1.out _ ((R0_0.out.alloc (Nat.le_refl _) _).more (by simp))).mono ?_
  rintro e w1 ⟨rfl, hb⟩
  have HB1 := Lib.hid (show Below w.heap.size w w1 from step_below hb (by repeat' (first | exact Below.refl _ _ | exact HB0.out | refine below_drewN ?_ _ | refine Below.drew ?_ | refine Below.alloc ?_ (by first | omega | (simp; done) | (simp; omega) | (simp [World.setCell]; omega)) _ | refine Below.setCell ?_ (by first | omega | (simp; done) | (simp; omega)) _ | assumption)))
  have K0_1 := Lib.hid (step_blk hb (show Blk _ (w.heap.size) 38 #[.int .i64 (p), .int .i64 (s)] by repeat' (first | exact Blk.at_ _ (by first | rfl | (simp; done) | (simp; omega)) _ _ | refine Blk.drewN ?_ _ | refine Blk.drew ?_ | refine Blk.alloc ?_ _ | refine Blk.far ?_ (by first | omega | (simp; done) | (simp; omega)) _ | assumption)))
  have hL1 := Lib.hid (show Below w.heap.size w _ from reads_mid hb (by repeat' (first | exact Below.refl _ _ | refine below_drewN ?_ _ | refine Below.drew ?_ | refine Below.alloc ?_ (by first | omega | (simp; done) | (simp; omega) | (simp [World.setCell]; omega)) _ | refine Below.setCell ?_ (by first | omega | (simp; done) | (simp; omega)) _)))
  have R0_1 := Lib.hid (reads_lay hb hL1.out R0_0.out)
  clear hL1 R0_0
  have hz1 := hb.size
  try simp only [World.size_alloc, World.drewN, World.drew] at hz1
  clear hb
  have l0_1 : w.heap.size < w1.heap.size := K0_1.out.lt
  have z0_0_1 : w1.cell? ⟨w.heap.size, 0, none⟩ = some (.int .i64 (p)) := K0_1.out.cell 0
  have z0_1_1 : w1.cell? ⟨w.heap.size, 1, none⟩ = some (.int .i64 (s)) := K0_1.out.cell 1
  go_wp2_with fail
  refine (rtol_is p s E HE.out _).mono ?_
  rintro e w2 ⟨rfl, hb⟩
  have HB2 := Lib.hid (show Below w.heap.size w w2 from step_below hb (by repeat' (first | exact Below.refl _ _ | exact HB1.out | refine below_drewN ?_ _ | refine Below.drew ?_ | refine Below.alloc ?_ (by first | omega | (simp; done) | (simp; omega) | (simp [World.setCell]; omega)) _ | refine Below.setCell ?_ (by first | omega | (simp; done) | (simp; omega)) _ | assumption)))
  have K0_2 := Lib.hid (step_blk hb (show Blk _ (w.heap.size) 38 #[.int .i64 (p), .int .i64 (s)] by repeat' (first | exact K0_1.out | exact Blk.at_ _ (by first | rfl | (simp; done) | (simp; omega)) _ _ | refine Blk.drewN ?_ _ | refine Blk.drew ?_ | refine Blk.alloc ?_ _ | refine Blk.far ?_ (by first | omega | (simp; done) | (simp; omega)) _ | assumption)))
  have hL2 := Lib.hid (show Below w1.heap.size w1 _ from reads_mid hb (by repeat' (first | exact Below.refl _ _ | refine below_drewN ?_ _ | refine Below.drew ?_ | refine Below.alloc ?_ (by first | omega | (simp; done) | (simp; omega) | (simp [World.setCell]; omega)) _ | refine Below.setCell ?_ (by first | omega | (simp; done) | (simp; omega)) _)))
  have R0_2 := Lib.hid (reads_lay hb hL2.out R0_1.out)
  clear hL2 R0_1
  have hz2 := hb.size
  try simp only [World.size_alloc, World.drewN, World.drew] at hz2
  clear hb K0_1 z0_0_1 z0_1_1 l0_1
  have l0_2 : w.heap.size < w2.heap.size := K0_2.out.lt
  have z0_0_2 : w2.cell? ⟨w.heap.size, 0, none⟩ = some (.int .i64 (p)) := K0_2.out.cell 0
  have z0_1_2 : w2.cell? ⟨w.heap.size, 1, none⟩ = some (.int .i64 (s)) := K0_2.out.cell 1
  go_wp2
  go_ret
  exact ⟨rfl, by repeat' (first | exact Below.refl _ _ | exact HB2.out | refine below_drewN ?_ _ | refine Below.drew ?_ | refine Below.alloc ?_ (by first | omega | (simp; done) | (simp; omega) | (simp [World.setCell]; omega)) _ | refine Below.setCell ?_ (by first | omega | (simp; done) | (simp; omega)) _ | assumption)⟩

theorem judge_first {l : List (Int × Int)} {p s v : Int} {i k : Nat} (hv : judgeF l p s = (v, (i, k))) :
    (firstP l.length (refB l p s) = some (i, k) ∧ v = -1) ∨ (firstP l.length (refB l p s) = none ∧ i = 0 ∧ k = 0 ∧ v = ansV l p s (pairsL l.length)) := by
  unfold judgeF at hv
  cases h : firstP l.length (refB l p s) with
  | some x =>
    rw [h] at hv
    simp only [Prod.mk.injEq] at hv
    exact .inl ⟨congrArg some hv.2, hv.1.symm⟩
  | none =>
    rw [h] at hv
    simp only [Prod.mk.injEq] at hv
    exact .inr ⟨rfl, hv.2.1.symm, hv.2.2.symm, hv.1.symm⟩
theorem ans_hit {l : List (Int × Int)} {p s : Int} {xs : List (Nat × Nat)} {x : Nat × Nat} (hx : x ∈ xs) (h : openB l p s x.1 x.2 = true) : ansV l p s xs = 0 := by
  unfold ansV
  rw [if_pos (List.any_eq_true.2 ⟨x, hx, h⟩)]
theorem ans_no {l : List (Int × Int)} {p s : Int} {xs : List (Nat × Nat)} (h : NoP (openB l p s) xs) : ansV l p s xs = 1 := by
  unfold ansV
  rw [if_neg]
  intro h1
  obtain ⟨x, hx, h2⟩ := List.any_eq_true.1 h1
  rw [h x hx] at h2
  cases h2

set_option maxRecDepth 100000 in
set_option maxHeartbeats 4000000 in
theorem rjudge_is (A : Option Addr) (n c : Nat) (l : List (Int × Int)) (p s : Int) (hE : judgeErr l p s = 0) (v : Int) (i0 k0 : Nat) (hv : judgeF l p s = (v, (i0, k0))) (w : World) (hx : Reads w w.heap.size 2 A n (cells2 l)) :
    Calls Try.prog 28 #[.slice A n c, .agg #[.int .i64 p, .int .i64 s]] w fun e w' => e = .returned (.tuple #[.int .i64 v, .agg #[.int .i64 (i0 : Int), .int .i64 (k0 : Int)]]) ∧ Below w.heap.size w w' := by
  have hl := hx.len2
  obtain ⟨hE1, hE2⟩ := judgeErr_ok hE
  obtain ⟨n1, n2, hr⟩ := encl_ok hE1
  obtain ⟨t1, t2, t3, t4⟩ := tol_ok hE2
  have hjf := judge_first hv
  rw [hl] at n1 n2 hjf
  have HX := Lib.hid hx
  have HE := Lib.hid hE
  have HRG := Lib.hid hr
  clear hx hE hl hE1 hE2 hr hv
  rcases hjf with ⟨hf, rfl⟩ | ⟨hf, rfl, rfl, hva⟩
  · have HF := Lib.hid (show firstP n (refB l p s) = if true = true then some (i0, k0) else none by rw [if_pos rfl]; exact hf)
    clear hf
    go_enter Try.func28, Try.ntmps28
    go_wp2_with fail
    generalize hwn : ((w.alloc (.cells #[.int .i64 (p), .int .i64 (s)] 38)).alloc (.cells #[.int .i64 (0), .int .i64 (0)] 39)) = w1
    have hbn : Below w.heap.size w w1 := by rw [← hwn]; repeat' (first | exact Below.refl _ _ | refine below_drewN ?_ _ | refine Below.drew ?_ | refine Below.alloc ?_ (by first | omega | (simp; done) | (simp; omega) | (simp [World.setCell]; omega)) _ | refine Below.setCell ?_ (by first | omega | (simp; done) | (simp; omega)) _)
    have HB1 := Lib.hid (show Below w.heap.size w w1 from hbn)
    have K0_1 := Lib.hid (show Blk w1 (w.heap.size) 38 #[.int .i64 (p), .int .i64 (s)] by rw [← hwn]; repeat' (first | exact Blk.at_ _ (by first | rfl | (simp; done) | (simp; omega)) _ _ | refine Blk.drewN ?_ _ | refine Blk.drew ?_ | refine Blk.alloc ?_ _ | refine Blk.far ?_ (by first | omega | (simp; done) | (simp; omega)) _ | assumption))
    have K1_1 := Lib.hid (show Blk w1 (w.heap.size + 1) 39 #[.int .i64 (0), .int .i64 (0)] by rw [← hwn]; repeat' (first | exact Blk.at_ _ (by first | rfl | (simp; done) | (simp; omega)) _ _ | refine Blk.drewN ?_ _ | refine Blk.drew ?_ | refine Blk.alloc ?_ _ | refine Blk.far ?_ (by first | omega | (simp; done) | (simp; omega)) _ | assumption))
    have HN1 := Lib.hid hbn
    have hz1 := hbn.size
    clear hwn hbn
    have l0_1 : w.heap.size < w1.heap.size := K0_1.out.lt
    have z0_0_1 : w1.cell? ⟨w.heap.size, 0, none⟩ = some (.int .i64 (p)) := K0_1.out.cell 0
    have z0_1_1 : w1.cell? ⟨w.heap.size, 1, none⟩ = some (.int .i64 (s)) := K0_1.out.cell 1
    have l1_1 : w.heap.size + 1 < w1.heap.size := K1_1.out.lt
    have z1_0_1 : w1.cell? ⟨w.heap.size + 1, 0, none⟩ = some (.int .i64 (0)) := K1_1.out.cell 0
    have z1_1_1 : w1.cell? ⟨w.heap.size + 1, 1, none⟩ = some (.int .i64 (0)) := K1_1.out.cell 1
    refine (refused_is A n c l p s HE.out i0 k0 true HF.out (fun h => by cases h) _ ((HX.out.below HB1.out).more HB1.out.size)).mono ?_
    rintro e w2 ⟨rfl, hb⟩
    have HB2 := Lib.hid (show Below w.heap.size w w2 from step_below hb (by repeat' (first | exact Below.refl _ _ | exact HB1.out | refine below_drewN ?_ _ | refine Below.drew ?_ | refine Below.alloc ?_ (by first | omega | (simp; done) | (simp; omega) | (simp [World.setCell]; omega)) _ | refine Below.setCell ?_ (by first | omega | (simp; done) | (simp; omega)) _ | assumption)))
    have K0_2 := Lib.hid (step_blk hb (show Blk _ (w.heap.size) 38 #[.int .i64 (p), .int .i64 (s)] by repeat' (first | exact K0_1.out | exact K1_1.out | exact Blk.at_ _ (by first | rfl | (simp; done) | (simp; omega)) _ _ | refine Blk.drewN ?_ _ | refine Blk.drew ?_ | refine Blk.alloc ?_ _ | refine Blk.far ?_ (by first | omega | (simp; done) | (simp; omega)) _ | assumption)))
    have K1_2 := Lib.hid (step_blk hb (show Blk _ (w.heap.size + 1) 39 #[.int .i64 (0), .int .i64 (0)] by repeat' (first | exact K0_1.out | exact K1_1.out | exact Blk.at_ _ (by first | rfl | (simp; done) | (simp; omega)) _ _ | refine Blk.drewN ?_ _ | refine Blk.drew ?_ | refine Blk.alloc ?_ _ | refine Blk.far ?_ (by first | omega | (simp; done) | (simp; omega)) _ | assumption)))
    have hz2 := hb.size
    try simp only [World.size_alloc, World.drewN, World.drew] at hz2
    clear hb K0_1 K1_1 z0_0_1 z0_1_1 l0_1 z1_0_1 z1_1_1 l1_1
    have l0_2 : w.heap.size < w2.heap.size := K0_2.out.lt
    have z0_0_2 : w2.cell? ⟨w.heap.size, 0, none⟩ = some (.int .i64 (p)) := K0_2.out.cell 0
    have z0_1_2 : w2.cell? ⟨w.heap.size, 1, none⟩ = some (.int .i64 (s)) := K0_2.out.cell 1
    have l1_2 : w.heap.size + 1 < w2.heap.size := K1_2.out.lt
    have z1_0_2 : w2.cell? ⟨w.heap.size + 1, 0, none⟩ = some (.int .i64 (0)) := K1_2.out.cell 0
    have z1_1_2 : w2.cell? ⟨w.heap.size + 1, 1, none⟩ = some (.int .i64 (0)) := K1_2.out.cell 1
    go_wp2_with fail
    generalize hwn : (w2.alloc (.cells #[.int .i64 ((i0 : Int)), .int .i64 ((k0 : Int))] 39)) = w3
    have hbn : Below w2.heap.size w2 w3 := by rw [← hwn]; repeat' (first | exact Below.refl _ _ | refine below_drewN ?_ _ | refine Below.drew ?_ | refine Below.alloc ?_ (by first | omega | (simp; done) | (simp; omega) | (simp [World.setCell]; omega)) _ | refine Below.setCell ?_ (by first | omega | (simp; done) | (simp; omega)) _)
    have HB3 := Lib.hid (show Below w.heap.size w w3 from HB2.out.trans (hbn.mono HB2.out.size))
    have K0_3 := Lib.hid (step_blk hbn K0_2.out)
    have K1_3 := Lib.hid (step_blk hbn K1_2.out)
    have K2_3 := Lib.hid (show Blk w3 (w2.heap.size) 39 #[.int .i64 ((i0 : Int)), .int .i64 ((k0 : Int))] by rw [← hwn]; repeat' (first | exact Blk.at_ _ (by first | rfl | (simp; done) | (simp; omega)) _ _ | refine Blk.drewN ?_ _ | refine Blk.drew ?_ | refine Blk.alloc ?_ _ | refine Blk.far ?_ (by first | omega | (simp; done) | (simp; omega)) _ | assumption))
    have HN3 := Lib.hid hbn
    have hz3 := hbn.size
    clear hwn hbn K0_2 l0_2 z0_0_2 z0_1_2 K1_2 l1_2 z1_0_2 z1_1_2
    have l0_3 : w.heap.size < w3.heap.size := K0_3.out.lt
    have z0_0_3 : w3.cell? ⟨w.heap.size, 0, none⟩ = some (.int .i64 (p)) := K0_3.out.cell 0
    have z0_1_3 : w3.cell? ⟨w.heap.size, 1, none⟩ = some (.int .i64 (s)) := K0_3.out.cell 1
    have l1_3 : w.heap.size + 1 < w3.heap.size := K1_3.out.lt
    have z1_0_3 : w3.cell? ⟨w.heap.size + 1, 0, none⟩ = some (.int .i64 (0)) := K1_3.out.cell 0
    have z1_1_3 : w3.cell? ⟨w.heap.size + 1, 1, none⟩ = some (.int .i64 (0)) := K1_3.out.cell 1
    have l2_3 : w2.heap.size < w3.heap.size := K2_3.out.lt
    have z2_0_3 : w3.cell? ⟨w2.heap.size, 0, none⟩ = some (.int .i64 ((i0 : Int))) := K2_3.out.cell 0
    have z2_1_3 : w3.cell? ⟨w2.heap.size, 1, none⟩ = some (.int .i64 ((k0 : Int))) := K2_3.out.cell 1
    obtain ⟨W0, hW0⟩ : ∃ W0, W0 = w3.drewN 1 := ⟨_, rfl⟩
    have m0 : W0.cell? ⟨w2.heap.size, 0, none⟩ = some (.int .i64 (i0 : Int)) := by rw [hW0]; exact z2_0_3
    have m1 : W0.cell? ⟨w2.heap.size, 1, none⟩ = some (.int .i64 (k0 : Int)) := by rw [hW0]; exact z2_1_3
    have kb : Blk W0 (w.heap.size + 1) 39 #[.int .i64 0, .int .i64 0] := by rw [hW0]; exact Blk.drewN K1_3.out 1
    have HKB := Lib.hid kb
    have mo0 := kb.cell 0
    have mo1 := kb.cell 1
    have mf0 := kb.frozen 0
    have mf1 := kb.frozen 1
    clear kb
    refine Fx.region (fun f w' => (f 2 = false → w' = W0) ∧ (f 2 = true → w' = (W0.setCell ⟨w.heap.size + 1, 0, none⟩ (.int .i64 (i0 : Int))).setCell ⟨w.heap.size + 1, 1, none⟩ (.int .i64 (k0 : Int)))) (by kernel_rfl) (by kernel_rfl) ?_ ?_
    · intro f hf0
      exact ⟨fun _ => hW0.symm, fun h => by rw [hf0 2] at h; cases h⟩
    have HW0 := Lib.hid hW0
    clear hW0
    refine Fx.val_ ?_ (by rfl) ?_ (fun f w h => h) ?_
    rotate_left
    · intro f w' hD hk
      obtain ⟨jw, jr⟩ := id hD
      have jw := jw (hk.2.1 2 (by kernel_rfl))
      have q0 : w'.cell? ⟨w2.heap.size, 0, none⟩ = some (.int .i64 (i0 : Int)) := by rw [jw]; exact m0
      have q1 : w'.cell? ⟨w2.heap.size, 1, none⟩ = some (.int .i64 (k0 : Int)) := by rw [jw]; exact m1
      clear hk hD jw jr
      go_simp
      try rfl
    simp only [Act.put, List.setIfInBounds_toArray, List.set_cons_zero, List.set_cons_succ]
    repeat (first
      | (refine Fx.skip_ (by rfl) (fun f w h => h) ?_; simp only [Act.put, List.setIfInBounds_toArray, List.set_cons_zero, List.set_cons_succ])
      | (refine Fx.val_ ?_ (by rfl) ?_ (fun f w h => h) ?_
         rotate_left
         · intro f w' hD hk
           obtain ⟨jw, jr⟩ := id hD
           clear hk hD jw jr
           go_simp
           try rfl
         simp only [Act.put, List.setIfInBounds_toArray, List.set_cons_zero, List.set_cons_succ]))
    refine Fx.store_ (fun w' => (w'.setCell ⟨w.heap.size + 1, 0, none⟩ (.int .i64 (i0 : Int))).setCell ⟨w.heap.size + 1, 1, none⟩ (.int .i64 (k0 : Int))) (by rfl) ?_ ?_ ?_
    · intro f w' hD hk
      obtain ⟨jw, jr⟩ := id hD
      have jw := jw hk.1
      have q0 : w'.cell? ⟨w.heap.size + 1, 0, none⟩ = some (.int .i64 0) := by rw [jw]; exact mo0
      have q1 : w'.cell? ⟨w.heap.size + 1, 1, none⟩ = some (.int .i64 0) := by rw [jw]; exact mo1
      have q2 : w'.frozen? ⟨w.heap.size + 1, 0, none⟩ = false := by rw [jw]; exact mf0
      have q3 : w'.frozen? ⟨w.heap.size + 1, 1, none⟩ = false := by rw [jw]; exact mf1
      clear hk hD jw jr
      go_simp
    · intro f w' hD hk
      obtain ⟨jw, jr⟩ := id hD
      have jw := jw hk.1
      exact ⟨fun h => by simp [Fx.add] at h, fun _ => by rw [jw]⟩
    simp only [Act.put, List.setIfInBounds_toArray, List.set_cons_zero, List.set_cons_succ]
    refine Fx.nil_ ?_
    intro f w1 hall hD
    have hf2 := hall 2 (by simp)
    obtain ⟨jw, jr⟩ := hD
    simp only [hf2, if_true] at *
    have jr := jr (by first | rfl | trivial)
    clear jw
    try clear hall
    subst jr
    have hkb := (HKB.out.set_ 0 (.int .i64 (i0 : Int))).set_ 1 (.int .i64 (k0 : Int))
    have y0 := hkb.cell 0
    have y1 := hkb.cell 1
    have yl := hkb.lt
    simp only [List.setIfInBounds_toArray, List.set_cons_zero, List.set_cons_succ] at y0 y1
    have hbb : Below w.heap.size w ((W0.setCell ⟨w.heap.size + 1, 0, none⟩ (.int .i64 (i0 : Int))).setCell ⟨w.heap.size + 1, 1, none⟩ (.int .i64 (k0 : Int))) := by
      rw [HW0.out]
      exact ((below_drewN HB3.out 1).setCell (p := ⟨w.heap.size + 1, 0, none⟩) (by show _ ≤ w.heap.size + 1; omega) _).setCell (p := ⟨w.heap.size + 1, 1, none⟩) (by show _ ≤ w.heap.size + 1; omega) _
    go_wp2
    exact bodyPost_ret (v := .tuple #[.int .i64 (-1), .agg #[.int .i64 (i0 : Int), .int .i64 (k0 : Int)]]) (by simp [results, Try.results28, go_sem, y0, y1, yl]) rfl ⟨rfl, hbb⟩
  · have HF := Lib.hid (show firstP n (refB l p s) = if false = true then some (0, 0) else none by rw [if_neg (by simp)]; exact hf)
    have HVA := Lib.hid hva
    have HL := Lib.hid (show l.length = n from HX.out.len2)
    clear hf hva
    go_enter Try.func28, Try.ntmps28
    go_wp2_with fail
    generalize hwn : ((w.alloc (.cells #[.int .i64 (p), .int .i64 (s)] 38)).alloc (.cells #[.int .i64 (0), .int .i64 (0)] 39)) = w1
    have hbn : Below w.heap.size w w1 := by rw [← hwn]; repeat' (first | exact Below.refl _ _ | refine below_drewN ?_ _ | refine Below.drew ?_ | refine Below.alloc ?_ (by first | omega | (simp; done) | (simp; omega) | (simp [World.setCell]; omega)) _ | refine Below.setCell ?_ (by first | omega | (simp; done) | (simp; omega)) _)
    have HB1 := Lib.hid (show Below w.heap.size w w1 from hbn)
    have K0_1 := Lib.hid (show Blk w1 (w.heap.size) 38 #[.int .i64 (p), .int .i64 (s)] by rw [← hwn]; repeat' (first | exact Blk.at_ _ (by first | rfl | (simp; done) | (simp; omega)) _ _ | refine Blk.drewN ?_ _ | refine Blk.drew ?_ | refine Blk.alloc ?_ _ | refine Blk.far ?_ (by first | omega | (simp; done) | (simp; omega)) _ | assumption))
    have K1_1 := Lib.hid (show Blk w1 (w.heap.size + 1) 39 #[.int .i64 (0), .int .i64 (0)] by rw [← hwn]; repeat' (first | exact Blk.at_ _ (by first | rfl | (simp; done) | (simp; omega)) _ _ | refine Blk.drewN ?_ _ | refine Blk.drew ?_ | refine Blk.alloc ?_ _ | refine Blk.far ?_ (by first | omega | (simp; done) | (simp; omega)) _ | assumption))
    have HN1 := Lib.hid hbn
    have hz1 := hbn.size
    clear hwn hbn
    have l0_1 : w.heap.size < w1.heap.size := K0_1.out.lt
    have z0_0_1 : w1.cell? ⟨w.heap.size, 0, none⟩ = some (.int .i64 (p)) := K0_1.out.cell 0
    have z0_1_1 : w1.cell? ⟨w.heap.size, 1, none⟩ = some (.int .i64 (s)) := K0_1.out.cell 1
    have l1_1 : w.heap.size + 1 < w1.heap.size := K1_1.out.lt
    have z1_0_1 : w1.cell? ⟨w.heap.size + 1, 0, none⟩ = some (.int .i64 (0)) := K1_1.out.cell 0
    have z1_1_1 : w1.cell? ⟨w.heap.size + 1, 1, none⟩ = some (.int .i64 (0)) := K1_1.out.cell 1
    refine (refused_is A n c l p s HE.out 0 0 false HF.out (fun _ => ⟨rfl, rfl⟩) _ ((HX.out.below HB1.out).more HB1.out.size)).mono ?_
    rintro e w2 ⟨rfl, hb⟩
    have HB2 := Lib.hid (show Below w.heap.size w w2 from step_below hb (by repeat' (first | exact Below.refl _ _ | exact HB1.out | refine below_drewN ?_ _ | refine Below.drew ?_ | refine Below.alloc ?_ (by first | omega | (simp; done) | (simp; omega) | (simp [World.setCell]; omega)) _ | refine Below.setCell ?_ (by first | omega | (simp; done) | (simp; omega)) _ | assumption)))
    have K0_2 := Lib.hid (step_blk hb (show Blk _ (w.heap.size) 38 #[.int .i64 (p), .int .i64 (s)] by repeat' (first | exact K0_1.out | exact K1_1.out | exact Blk.at_ _ (by first | rfl | (simp; done) | (simp; omega)) _ _ | refine Blk.drewN ?_ _ | refine Blk.drew ?_ | refine Blk.alloc ?_ _ | refine Blk.far ?_ (by first | omega | (simp; done) | (simp; omega)) _ | assumption)))
    have K1_2 := Lib.hid (step_blk hb (show Blk _ (w.heap.size + 1) 39 #[.int .i64 (0), .int .i64 (0)] by repeat' (first | exact K0_1.out | exact K1_1.out | exact Blk.at_ _ (by first | rfl | (simp; done) | (simp; omega)) _ _ | refine Blk.drewN ?_ _ | refine Blk.drew ?_ | refine Blk.alloc ?_ _ | refine Blk.far ?_ (by first | omega | (simp; done) | (simp; omega)) _ | assumption)))
    have hz2 := hb.size
    try simp only [World.size_alloc, World.drewN, World.drew] at hz2
    clear hb K0_1 K1_1 z0_0_1 z0_1_1 l0_1 z1_0_1 z1_1_1 l1_1
    have l0_2 : w.heap.size < w2.heap.size := K0_2.out.lt
    have z0_0_2 : w2.cell? ⟨w.heap.size, 0, none⟩ = some (.int .i64 (p)) := K0_2.out.cell 0
    have z0_1_2 : w2.cell? ⟨w.heap.size, 1, none⟩ = some (.int .i64 (s)) := K0_2.out.cell 1
    have l1_2 : w.heap.size + 1 < w2.heap.size := K1_2.out.lt
    have z1_0_2 : w2.cell? ⟨w.heap.size + 1, 0, none⟩ = some (.int .i64 (0)) := K1_2.out.cell 0
    have z1_1_2 : w2.cell? ⟨w.heap.size + 1, 1, none⟩ = some (.int .i64 (0)) := K1_2.out.cell 1
    go_wp2
    generalize hwn : (w2.alloc (.cells #[.int .i64 (0), .int .i64 (0)] 39)) = w3
    have hbn : Below w2.heap.size w2 w3 := by rw [← hwn]; repeat' (first | exact Below.refl _ _ | refine below_drewN ?_ _ | refine Below.drew ?_ | refine Below.alloc ?_ (by first | omega | (simp; done) | (simp; omega) | (simp [World.setCell]; omega)) _ | refine Below.setCell ?_ (by first | omega | (simp; done) | (simp; omega)) _)
    have HB3 := Lib.hid (show Below w.heap.size w w3 from HB2.out.trans (hbn.mono HB2.out.size))
    have K0_3 := Lib.hid (step_blk hbn K0_2.out)
    have K1_3 := Lib.hid (step_blk hbn K1_2.out)
    have K2_3 := Lib.hid (show Blk w3 (w2.heap.size) 39 #[.int .i64 (0), .int .i64 (0)] by rw [← hwn]; repeat' (first | exact Blk.at_ _ (by first | rfl | (simp; done) | (simp; omega)) _ _ | refine Blk.drewN ?_ _ | refine Blk.drew ?_ | refine Blk.alloc ?_ _ | refine Blk.far ?_ (by first | omega | (simp; done) | (simp; omega)) _ | assumption))
    have HN3 := Lib.hid hbn
    have hz3 := hbn.size
    clear hwn hbn K0_2 l0_2 z0_0_2 z0_1_2 K1_2 l1_2 z1_0_2 z1_1_2
    have l0_3 : w.heap.size < w3.heap.size := K0_3.out.lt
    have z0_0_3 : w3.cell? ⟨w.heap.size, 0, none⟩ = some (.int .i64 (p)) := K0_3.out.cell 0
    have z0_1_3 : w3.cell? ⟨w.heap.size, 1, none⟩ = some (.int .i64 (s)) := K0_3.out.cell 1
    have l1_3 : w.heap.size + 1 < w3.heap.size := K1_3.out.lt
    have z1_0_3 : w3.cell? ⟨w.heap.size + 1, 0, none⟩ = some (.int .i64 (0)) := K1_3.out.cell 0
    have z1_1_3 : w3.cell? ⟨w.heap.size + 1, 1, none⟩ = some (.int .i64 (0)) := K1_3.out.cell 1
    have l2_3 : w2.heap.size < w3.heap.size := K2_3.out.lt
    have z2_0_3 : w3.cell? ⟨w2.heap.size, 0, none⟩ = some (.int .i64 (0)) := K2_3.out.cell 0
    have z2_1_3 : w3.cell? ⟨w2.heap.size, 1, none⟩ = some (.int .i64 (0)) := K2_3.out.cell 1
    have KA := K0_3
    have KB := K1_3
    have HBB3 := HB3
    have hs1 := HB3.out.size
    go_loopw [8] (fun v wr => ∃ i : Nat, i ≤ n ∧ v = .int .i64 i ∧ Below w3.heap.size w3 wr ∧ NoP (openB l p s) (preP n i 0)) (fun v _ => n - (intOf v).toNat)
    case atStart => exact ⟨0, by omega, rfl, Below.refl _ _, NoP.nil _⟩
    case round =>
      obtain ⟨i, hi, rfl, hb, hno⟩ := hrel
      obtain ⟨w4, hnm⟩ : ∃ z : World, z = wr := ⟨_, rfl⟩
      subst hnm
      have HBI := Lib.hid hb
      have HNO := Lib.hid hno
      have HB4 := Lib.hid (show Below w.heap.size w w4 from step_below hb (by repeat' (first | exact Below.refl _ _ | exact HB3.out | refine below_drewN ?_ _ | refine Below.drew ?_ | refine Below.alloc ?_ (by first | omega | (simp; done) | (simp; omega) | (simp [World.setCell]; omega)) _ | refine Below.setCell ?_ (by first | omega | (simp; done) | (simp; omega)) _ | assumption)))
      have K0_4 := Lib.hid (step_blk hb (show Blk _ (w.heap.size) 38 #[.int .i64 (p), .int .i64 (s)] by repeat' (first | exact K0_3.out | exact K1_3.out | exact K2_3.out | exact Blk.at_ _ (by first | rfl | (simp; done) | (simp; omega)) _ _ | refine Blk.drewN ?_ _ | refine Blk.drew ?_ | refine Blk.alloc ?_ _ | refine Blk.far ?_ (by first | omega | (simp; done) | (simp; omega)) _ | assumption)))
      have K1_4 := Lib.hid (step_blk hb (show Blk _ (w.heap.size + 1) 39 #[.int .i64 (0), .int .i64 (0)] by repeat' (first | exact K0_3.out | exact K1_3.out | exact K2_3.out | exact Blk.at_ _ (by first | rfl | (simp; done) | (simp; omega)) _ _ | refine Blk.drewN ?_ _ | refine Blk.drew ?_ | refine Blk.alloc ?_ _ | refine Blk.far ?_ (by first | omega | (simp; done) | (simp; omega)) _ | assumption)))
      have K2_4 := Lib.hid (step_blk hb (show Blk _ (w2.heap.size) 39 #[.int .i64 (0), .int .i64 (0)] by repeat' (first | exact K0_3.out | exact K1_3.out | exact K2_3.out | exact Blk.at_ _ (by first | rfl | (simp; done) | (simp; omega)) _ _ | refine Blk.drewN ?_ _ | refine Blk.drew ?_ | refine Blk.alloc ?_ _ | refine Blk.far ?_ (by first | omega | (simp; done) | (simp; omega)) _ | assumption)))
      have hz4 := hb.size
      try simp only [World.size_alloc, World.drewN, World.drew] at hz4
      clear hb K0_3 K1_3 K2_3 z0_0_3 z0_1_3 l0_3 z1_0_3 z1_1_3 l1_3 z2_0_3 z2_1_3 l2_3
      have l0_4 : w.heap.size < w4.heap.size := K0_4.out.lt
      have z0_0_4 : w4.cell? ⟨w.heap.size, 0, none⟩ = some (.int .i64 (p)) := K0_4.out.cell 0
      have z0_1_4 : w4.cell? ⟨w.heap.size, 1, none⟩ = some (.int .i64 (s)) := K0_4.out.cell 1
      have l1_4 : w.heap.size + 1 < w4.heap.size := K1_4.out.lt
      have z1_0_4 : w4.cell? ⟨w.heap.size + 1, 0, none⟩ = some (.int .i64 (0)) := K1_4.out.cell 0
      have z1_1_4 : w4.cell? ⟨w.heap.size + 1, 1, none⟩ = some (.int .i64 (0)) := K1_4.out.cell 1
      have l2_4 : w2.heap.size < w4.heap.size := K2_4.out.lt
      have z2_0_4 : w4.cell? ⟨w2.heap.size, 0, none⟩ = some (.int .i64 (0)) := K2_4.out.cell 0
      have z2_1_4 : w4.cell? ⟨w2.heap.size, 1, none⟩ = some (.int .i64 (0)) := K2_4.out.cell 1
      clear hno
      by_cases hlt : i < n
      rotate_left
      · obtain rfl : i = n := by omega
        have hv1 : v = 1 := by rw [HVA.out]; exact ans_no (by rw [← preP_all]; exact HNO.out)
        subst hv1
        have zf1_0 := K1_4.out.frozen 0
        have zf1_1 := K1_4.out.frozen 1
        go_wp2
        exact bodyPost_ret (v := .tuple #[.int .i64 1, .agg #[.int .i64 0, .int .i64 0]]) (by simp [results, Try.results28, go_sem, z1_0_4, z1_1_4, l1_4]) rfl ⟨rfl, by repeat' (first | exact Below.refl _ _ | exact HB4.out | refine below_drewN ?_ _ | refine Below.drew ?_ | refine Below.alloc ?_ (by first | omega | (simp; done) | (simp; omega) | (simp [World.setCell]; omega)) _ | refine Below.setCell ?_ (by first | omega | (simp; done) | (simp; omega)) _ | assumption)⟩
      have hii : (i : Int) < (n : Int) := by omega
      go_wp2
      go_loopw [9] (fun v wr => ∃ k : Nat, k ≤ n ∧ v = .int .i64 k ∧ Below w3.heap.size w3 wr ∧ NoP (openB l p s) (preP n i k)) (fun v _ => n - (intOf v).toNat)
      case atStart => exact ⟨0, by omega, rfl, HBI.out, HNO.out⟩
      case round =>
        obtain ⟨k, hk, rfl, hb3, hno3⟩ := hrel
        obtain ⟨w5, hnm⟩ : ∃ z : World, z = wr := ⟨_, rfl⟩
        subst hnm
        have HBK := Lib.hid hb3
        have HNO3 := Lib.hid hno3
        have hb' := HBB3.out.trans (hb3.mono HBB3.out.size)
        have k0 := Blk.below KA.out hb3 KA.out.lt
        have k1 := Blk.below KB.out hb3 KB.out.lt
        have hrd := HX.out.below hb'
        clear hno3 hb3
        have HB5 := Lib.hid hb'
        have K0_5 := Lib.hid (show Blk w5 (w.heap.size) 38 #[.int .i64 (p), .int .i64 (s)] from k0)
        have K1_5 := Lib.hid (show Blk w5 (w.heap.size + 1) 39 #[.int .i64 (0), .int .i64 (0)] from k1)
        clear hb' k0 k1
        have l0_5 : w.heap.size < w5.heap.size := K0_5.out.lt
        have z0_0_5 : w5.cell? ⟨w.heap.size, 0, none⟩ = some (.int .i64 (p)) := K0_5.out.cell 0
        have z0_1_5 : w5.cell? ⟨w.heap.size, 1, none⟩ = some (.int .i64 (s)) := K0_5.out.cell 1
        have l1_5 : w.heap.size + 1 < w5.heap.size := K1_5.out.lt
        have z1_0_5 : w5.cell? ⟨w.heap.size + 1, 0, none⟩ = some (.int .i64 (0)) := K1_5.out.cell 0
        have z1_1_5 : w5.cell? ⟨w.heap.size + 1, 1, none⟩ = some (.int .i64 (0)) := K1_5.out.cell 1
        by_cases hkt : k < n
        rotate_left
        · obtain rfl : k = n := by omega
          go_wp2
          go_roundw
          case rel => exact ⟨i + 1, by omega, by go_num, HBK.out, by rw [preP_row]; exact HNO3.out⟩
          case measure => simp [intOf]; omega
        have hkk : (k : Int) < (n : Int) := by omega
        by_cases hne : i = k
        · subst hne
          have hd : ((i : Int) != (i : Int)) = false := by simp
          go_wp2
          refine Fx.regionW (fun W f w' => Below W.heap.size W w') (by kernel_rfl) (by kernel_rfl) ?_ ?_
          · intro f hf0
            exact below_drewN (Below.refl _ _) 1
          repeat (first
            | (refine Fx.skip_ (by rfl) (fun f w h => h) ?_; simp only [Act.put, List.setIfInBounds_toArray, List.set_cons_zero, List.set_cons_succ])
            | (refine Fx.val_ ?_ (by rfl) ?_ (fun f w h => h) ?_
               rotate_left
               · intro f w' hD hk
                 have hb := hD
                 have kb0 := step_blk hb (show Blk _ (w.heap.size) 38 #[.int .i64 (p), .int .i64 (s)] by repeat' (first | exact K0_5.out | exact K1_5.out | exact Blk.at_ _ (by first | rfl | (simp; done) | (simp; omega)) _ _ | refine Blk.drewN ?_ _ | refine Blk.drew ?_ | refine Blk.alloc ?_ _ | refine Blk.far ?_ (by first | omega | (simp; done) | (simp; omega)) _ | assumption))
                 have y0_0 : w'.cell? ⟨w.heap.size, 0, none⟩ = some (.int .i64 (p)) := kb0.cell 0
                 have y0_1 : w'.cell? ⟨w.heap.size, 1, none⟩ = some (.int .i64 (s)) := kb0.cell 1
                 have kb1 := step_blk hb (show Blk _ (w.heap.size + 1) 39 #[.int .i64 (0), .int .i64 (0)] by repeat' (first | exact K0_5.out | exact K1_5.out | exact Blk.at_ _ (by first | rfl | (simp; done) | (simp; omega)) _ _ | refine Blk.drewN ?_ _ | refine Blk.drew ?_ | refine Blk.alloc ?_ _ | refine Blk.far ?_ (by first | omega | (simp; done) | (simp; omega)) _ | assumption))
                 have y1_0 : w'.cell? ⟨w.heap.size + 1, 0, none⟩ = some (.int .i64 (0)) := kb1.cell 0
                 have y1_1 : w'.cell? ⟨w.heap.size + 1, 1, none⟩ = some (.int .i64 (0)) := kb1.cell 1
                 clear kb0 kb1
                 clear hk hD hb
                 go_simp
                 try rfl
               simp only [Act.put, List.setIfInBounds_toArray, List.set_cons_zero, List.set_cons_succ]))
          refine Fx.nil_ ?_
          intro f w6 hall hb
          try clear hall
          have HB56 := Lib.hid hb
          have HB6 := Lib.hid (show Below w.heap.size w w6 from step_below hb (by repeat' (first | exact Below.refl _ _ | exact HB5.out | refine below_drewN ?_ _ | refine Below.drew ?_ | refine Below.alloc ?_ (by first | omega | (simp; done) | (simp; omega) | (simp [World.setCell]; omega)) _ | refine Below.setCell ?_ (by first | omega | (simp; done) | (simp; omega)) _ | assumption)))
          have K0_6 := Lib.hid (step_blk hb (show Blk _ (w.heap.size) 38 #[.int .i64 (p), .int .i64 (s)] by repeat' (first | exact K0_5.out | exact K1_5.out | exact Blk.at_ _ (by first | rfl | (simp; done) | (simp; omega)) _ _ | refine Blk.drewN ?_ _ | refine Blk.drew ?_ | refine Blk.alloc ?_ _ | refine Blk.far ?_ (by first | omega | (simp; done) | (simp; omega)) _ | assumption)))
          have K1_6 := Lib.hid (step_blk hb (show Blk _ (w.heap.size + 1) 39 #[.int .i64 (0), .int .i64 (0)] by repeat' (first | exact K0_5.out | exact K1_5.out | exact Blk.at_ _ (by first | rfl | (simp; done) | (simp; omega)) _ _ | refine Blk.drewN ?_ _ | refine Blk.drew ?_ | refine Blk.alloc ?_ _ | refine Blk.far ?_ (by first | omega | (simp; done) | (simp; omega)) _ | assumption)))
          have hz6 := hb.size
          try simp only [World.size_alloc, World.drewN, World.drew] at hz6
          clear hb K0_5 K1_5 z0_0_5 z0_1_5 l0_5 z1_0_5 z1_1_5 l1_5
          have l0_6 : w.heap.size < w6.heap.size := K0_6.out.lt
          have z0_0_6 : w6.cell? ⟨w.heap.size, 0, none⟩ = some (.int .i64 (p)) := K0_6.out.cell 0
          have z0_1_6 : w6.cell? ⟨w.heap.size, 1, none⟩ = some (.int .i64 (s)) := K0_6.out.cell 1
          have l1_6 : w.heap.size + 1 < w6.heap.size := K1_6.out.lt
          have z1_0_6 : w6.cell? ⟨w.heap.size + 1, 0, none⟩ = some (.int .i64 (0)) := K1_6.out.cell 0
          have z1_1_6 : w6.cell? ⟨w.heap.size + 1, 1, none⟩ = some (.int .i64 (0)) := K1_6.out.cell 1
          have HBF := Lib.hid (HBK.out.trans ((show Below w5.heap.size w5 w6 from HB56.out).mono HBK.out.size))
          go_wp2
          go_roundw
          case rel => exact ⟨i + 1, by omega, by go_num, HBF.out, by rw [preP_same]; exact HNO3.out⟩
          case measure => simp [intOf]; omega
        have hd : ((i : Int) != (k : Int)) = true := by simp; omega
        obtain ⟨xb, xo, pi, rfl, hxb, hpi, ci0, ci1⟩ := hrd.pair hlt
        obtain ⟨yb, yo, pk, hA2, hyb, hpk, ck0, ck1⟩ := hrd.pair hkt
        obtain ⟨rfl, rfl⟩ : xb = yb ∧ xo = yo := by simpa using hA2
        obtain ⟨pi1, pi2⟩ := pi
        obtain ⟨pk1, pk2⟩ := pk
        simp only at ci0 ci1 ck0 ck1
        have r1 := HRG.out _ (List.mem_of_getElem? hpi)
        have r2 := HRG.out _ (List.mem_of_getElem? hpk)
        simp only at r1 r2
        obtain ⟨bd, hbd⟩ : ∃ b, bndF p s i k = b := ⟨_, rfl⟩
        have hbi := bnd_in (i := i) (k := k) t1 t2 t3 (s := s)
        rw [hbd] at hbi
        have e1 := IntWalk.i64_in (pi2 - pk1) ⟨by omega, by omega⟩
        have hrf : openB l p s i k = decide (bd < pi2 - pk1) := by unfold openB; rw [getD_of hpi, getD_of hpk, hbd]
        have HBD := Lib.hid hbd
        have HRF := Lib.hid hrf
        have l3x : xb < w5.heap.size := by have := l0_5; omega
        clear hA2 hpi hpk hrf hbd hrd ci0 ck1
        have C0_5 := Lib.hid ci1
        have C1_5 := Lib.hid ck0
        clear ci1 ck0
        go_wp2
        refine Fx.regionW (fun W f w' => Below W.heap.size W w') (by kernel_rfl) (by kernel_rfl) ?_ ?_
        · intro f hf0
          exact below_drewN (Below.refl _ _) 1
        repeat (first
          | (refine Fx.skip_ (by rfl) (fun f w h => h) ?_; simp only [Act.put, List.setIfInBounds_toArray, List.set_cons_zero, List.set_cons_succ])
          | (refine Fx.val_ ?_ (by rfl) ?_ (fun f w h => h) ?_
             rotate_left
             · intro f w' hD hk
               have hb := hD
               have kb0 := step_blk hb (show Blk _ (w.heap.size) 38 #[.int .i64 (p), .int .i64 (s)] by repeat' (first | exact K0_5.out | exact K1_5.out | exact Blk.at_ _ (by first | rfl | (simp; done) | (simp; omega)) _ _ | refine Blk.drewN ?_ _ | refine Blk.drew ?_ | refine Blk.alloc ?_ _ | refine Blk.far ?_ (by first | omega | (simp; done) | (simp; omega)) _ | assumption))
               have y0_0 : w'.cell? ⟨w.heap.size, 0, none⟩ = some (.int .i64 (p)) := kb0.cell 0
               have y0_1 : w'.cell? ⟨w.heap.size, 1, none⟩ = some (.int .i64 (s)) := kb0.cell 1
               have kb1 := step_blk hb (show Blk _ (w.heap.size + 1) 39 #[.int .i64 (0), .int .i64 (0)] by repeat' (first | exact K0_5.out | exact K1_5.out | exact Blk.at_ _ (by first | rfl | (simp; done) | (simp; omega)) _ _ | refine Blk.drewN ?_ _ | refine Blk.drew ?_ | refine Blk.alloc ?_ _ | refine Blk.far ?_ (by first | omega | (simp; done) | (simp; omega)) _ | assumption))
               have y1_0 : w'.cell? ⟨w.heap.size + 1, 0, none⟩ = some (.int .i64 (0)) := kb1.cell 0
               have y1_1 : w'.cell? ⟨w.heap.size + 1, 1, none⟩ = some (.int .i64 (0)) := kb1.cell 1
               have yc0 : w'.cell? ⟨xb, xo + i * 2 + 1, none⟩ = some (.int .i64 (pi2)) := step_cell hb (show World.cell? _ ⟨xb, xo + i * 2 + 1, none⟩ = some (.int .i64 (pi2)) by first | exact C0_5.out | go_simp) (by have := l3x; first | omega | (simp; omega))
               have yc1 : w'.cell? ⟨xb, xo + k * 2, none⟩ = some (.int .i64 (pk1)) := step_cell hb (show World.cell? _ ⟨xb, xo + k * 2, none⟩ = some (.int .i64 (pk1)) by first | exact C1_5.out | go_simp) (by have := l3x; first | omega | (simp; omega))
               clear kb0 kb1
               clear hk hD hb
               go_simp
               try rfl
             simp only [Act.put, List.setIfInBounds_toArray, List.set_cons_zero, List.set_cons_succ]))
        refine Fx.call_ (.int .i64 (bd)) ?_ ?_ (by rfl) ?_ ?_ ?_
        rotate_left 2
        · intro w'
          go_simp
          refine ⟨?_, ?_⟩ <;> rfl
        · intro f w' hD hk
          exact (rbound_is p s i k bd HBD.out w' t1 t2 t3 t4 (by omega) (by omega)).mono fun e w'' ⟨he, hw⟩ => ⟨he, step_below hw hD⟩
        simp only [Act.put, List.setIfInBounds_toArray, List.set_cons_zero, List.set_cons_succ]
        repeat (first
          | (refine Fx.skip_ (by rfl) (fun f w h => h) ?_; simp only [Act.put, List.setIfInBounds_toArray, List.set_cons_zero, List.set_cons_succ])
          | (refine Fx.val_ ?_ (by rfl) ?_ (fun f w h => h) ?_
             rotate_left
             · intro f w' hD hk
               have hb := hD
               have kb0 := step_blk hb (show Blk _ (w.heap.size) 38 #[.int .i64 (p), .int .i64 (s)] by repeat' (first | exact K0_5.out | exact K1_5.out | exact Blk.at_ _ (by first | rfl | (simp; done) | (simp; omega)) _ _ | refine Blk.drewN ?_ _ | refine Blk.drew ?_ | refine Blk.alloc ?_ _ | refine Blk.far ?_ (by first | omega | (simp; done) | (simp; omega)) _ | assumption))
               have y0_0 : w'.cell? ⟨w.heap.size, 0, none⟩ = some (.int .i64 (p)) := kb0.cell 0
               have y0_1 : w'.cell? ⟨w.heap.size, 1, none⟩ = some (.int .i64 (s)) := kb0.cell 1
               have kb1 := step_blk hb (show Blk _ (w.heap.size + 1) 39 #[.int .i64 (0), .int .i64 (0)] by repeat' (first | exact K0_5.out | exact K1_5.out | exact Blk.at_ _ (by first | rfl | (simp; done) | (simp; omega)) _ _ | refine Blk.drewN ?_ _ | refine Blk.drew ?_ | refine Blk.alloc ?_ _ | refine Blk.far ?_ (by first | omega | (simp; done) | (simp; omega)) _ | assumption))
               have y1_0 : w'.cell? ⟨w.heap.size + 1, 0, none⟩ = some (.int .i64 (0)) := kb1.cell 0
               have y1_1 : w'.cell? ⟨w.heap.size + 1, 1, none⟩ = some (.int .i64 (0)) := kb1.cell 1
               have yc0 : w'.cell? ⟨xb, xo + i * 2 + 1, none⟩ = some (.int .i64 (pi2)) := step_cell hb (show World.cell? _ ⟨xb, xo + i * 2 + 1, none⟩ = some (.int .i64 (pi2)) by first | exact C0_5.out | go_simp) (by have := l3x; first | omega | (simp; omega))
               have yc1 : w'.cell? ⟨xb, xo + k * 2, none⟩ = some (.int .i64 (pk1)) := step_cell hb (show World.cell? _ ⟨xb, xo + k * 2, none⟩ = some (.int .i64 (pk1)) by first | exact C1_5.out | go_simp) (by have := l3x; first | omega | (simp; omega))
               clear kb0 kb1
               clear hk hD hb
               go_simp
               try rfl
             simp only [Act.put, List.setIfInBounds_toArray, List.set_cons_zero, List.set_cons_succ]))
        refine Fx.nil_ ?_
        intro f w6 hall hb
        try clear hall
        have HB56 := Lib.hid hb
        have HB6 := Lib.hid (show Below w.heap.size w w6 from step_below hb (by repeat' (first | exact Below.refl _ _ | exact HB5.out | refine below_drewN ?_ _ | refine Below.drew ?_ | refine Below.alloc ?_ (by first | omega | (simp; done) | (simp; omega) | (simp [World.setCell]; omega)) _ | refine Below.setCell ?_ (by first | omega | (simp; done) | (simp; omega)) _ | assumption)))
        have K0_6 := Lib.hid (step_blk hb (show Blk _ (w.heap.size) 38 #[.int .i64 (p), .int .i64 (s)] by repeat' (first | exact K0_5.out | exact K1_5.out | exact Blk.at_ _ (by first | rfl | (simp; done) | (simp; omega)) _ _ | refine Blk.drewN ?_ _ | refine Blk.drew ?_ | refine Blk.alloc ?_ _ | refine Blk.far ?_ (by first | omega | (simp; done) | (simp; omega)) _ | assumption)))
        have K1_6 := Lib.hid (step_blk hb (show Blk _ (w.heap.size + 1) 39 #[.int .i64 (0), .int .i64 (0)] by repeat' (first | exact K0_5.out | exact K1_5.out | exact Blk.at_ _ (by first | rfl | (simp; done) | (simp; omega)) _ _ | refine Blk.drewN ?_ _ | refine Blk.drew ?_ | refine Blk.alloc ?_ _ | refine Blk.far ?_ (by first | omega | (simp; done) | (simp; omega)) _ | assumption)))
        have C0_6 := Lib.hid (step_cell hb (show World.cell? _ ⟨xb, xo + i * 2 + 1, none⟩ = some (.int .i64 (pi2)) by first | exact C0_5.out | go_simp) (by have := l3x; first | omega | (simp; omega)))
        have C1_6 := Lib.hid (step_cell hb (show World.cell? _ ⟨xb, xo + k * 2, none⟩ = some (.int .i64 (pk1)) by first | exact C1_5.out | go_simp) (by have := l3x; first | omega | (simp; omega)))
        have hz6 := hb.size
        try simp only [World.size_alloc, World.drewN, World.drew] at hz6
        clear hb K0_5 K1_5 z0_0_5 z0_1_5 l0_5 z1_0_5 z1_1_5 l1_5
        have l0_6 : w.heap.size < w6.heap.size := K0_6.out.lt
        have z0_0_6 : w6.cell? ⟨w.heap.size, 0, none⟩ = some (.int .i64 (p)) := K0_6.out.cell 0
        have z0_1_6 : w6.cell? ⟨w.heap.size, 1, none⟩ = some (.int .i64 (s)) := K0_6.out.cell 1
        have l1_6 : w.heap.size + 1 < w6.heap.size := K1_6.out.lt
        have z1_0_6 : w6.cell? ⟨w.heap.size + 1, 0, none⟩ = some (.int .i64 (0)) := K1_6.out.cell 0
        have z1_1_6 : w6.cell? ⟨w.heap.size + 1, 1, none⟩ = some (.int .i64 (0)) := K1_6.out.cell 1
        by_cases hlt2 : bd < pi2 - pk1
        · have hdt : decide (bd < pi2 - pk1) = true := by simpa using hlt2
          have hv1 : v = 0 := by rw [HVA.out]; exact ans_hit (x := (i, k)) (mem_pairs.2 ⟨hlt, hkt, hne⟩) (by rw [HRF.out]; exact hdt)
          subst hv1
          have zf1_0 := K1_6.out.frozen 0
          have zf1_1 := K1_6.out.frozen 1
          go_wp2
          exact bodyPost_ret (v := .tuple #[.int .i64 0, .agg #[.int .i64 0, .int .i64 0]]) (by simp [results, Try.results28, go_sem, z1_0_6, z1_1_6, l1_6]) rfl ⟨rfl, by repeat' (first | exact Below.refl _ _ | exact HB6.out | refine below_drewN ?_ _ | refine Below.drew ?_ | refine Below.alloc ?_ (by first | omega | (simp; done) | (simp; omega) | (simp [World.setCell]; omega)) _ | refine Below.setCell ?_ (by first | omega | (simp; done) | (simp; omega)) _ | assumption)⟩
        · have hdt : decide (bd < pi2 - pk1) = false := by simpa using hlt2
          have hns := HNO3.out.snoc (x := (i, k)) (by rw [HRF.out]; exact hdt)
          rw [← preP_succ hne] at hns
          have HNS := Lib.hid hns
          have HBF := Lib.hid (HBK.out.trans ((show Below w5.heap.size w5 w6 from HB56.out).mono HBK.out.size))
          clear hns
          go_wp2
          go_roundw
          case rel => exact ⟨k + 1, by omega, by go_num, HBF.out, HNS.out⟩
          case measure => simp [intOf]; omega
end Go.Proofs.Ytnepjgnnppfibaa

end
