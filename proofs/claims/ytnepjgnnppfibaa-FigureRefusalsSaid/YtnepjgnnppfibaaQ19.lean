import Derived.Test.YtnepjgnnppfibaaQ18

section
/- Contracts of chapter 6: the reference's judgement, copies of enclosures, the check of a pair that refuses. -/
namespace Go.Proofs.Ytnepjgnnppfibaa
open Go Go.RowKit

theorem lranges_any (A : Option Addr) (n c N : Nat) (l : List (Int × Int)) (w : World) (hx : Reads w N 2 A n (cells2 l)) (hN : N ≤ w.heap.size) (hn : n ≤ 1000000) :
    Calls Try.prog 26 #[.slice A n c] w (CopyPost w 50 2 n (cells2 l)) := by
  obtain ⟨v', W2, hrun, ho, hb⟩ := copy_run (P := Try.prog) 36 36 50 _ 2 16 Try.underlying36 info_range rfl (by omega) w N A n c (cells2 l) hx hN (one_cells2 l) (by unfold maxLen; omega) (by omega)
  have HRUN := Lib.hid hrun
  have HO := Lib.hid ho
  have HB := Lib.hid hb
  clear hrun ho hb
  go_enter Try.func26, Try.ntmps26
  go_wp2_with (first | (at_builtin; refine wpList_app _ W2 v' rfl _ _ _ rfl _ _ rfl rfl HRUN.out ?_))
  go_ret
  exact CopyPost.of HO.out HB.out
/-- A copy of an enclosure, by what is read there. -/
theorem cranges_any (A : Option Addr) (n c : Nat) (l : List (Int × Int)) (w : World) (hx : Reads w w.heap.size 2 A n (cells2 l)) (hn : n ≤ 1000000) :
    Calls Try.prog 26 #[.slice A n c] w fun e w' => ∃ A' c', e = .returned (.slice A' n c') ∧ Below w.heap.size w w' ∧ Reads w' w'.heap.size 2 A' n (cells2 l) :=
  (lranges_any A n c _ l w hx (Nat.le_refl _) hn).mono fun e w' h => by
    obtain ⟨A', c', he, hb, hr, -⟩ := h
    exact ⟨A', c', he, hb, hr⟩

theorem figjudgeerr_is (A : Option Addr) (n c : Nat) (l : List (Int × Int)) (p s E : Int) (hE : judgeErr l p s = E) (w : World) (hx : Reads w w.heap.size 2 A n (cells2 l)) :
    Calls Try.prog 27 #[.slice A n c, .agg #[.int .i64 p, .int .i64 s]] w fun e w' => e = .returned (.int .i64 E) ∧ Below w.heap.size w w' := by
  unfold judgeErr at hE
  obtain ⟨E1, hE1⟩ : ∃ E1, enclErr l = E1 := ⟨_, rfl⟩
  rw [hE1] at hE
  have HE1 := Lib.hid hE1
  clear hE1
  by_cases h0 : E1 = 0
  rotate_left
  · rw [if_pos h0] at hE
    subst hE
    have e1 : (E1 != 0) = true := by simpa using h0
    clear h0
    go_enter Try.func27, Try.ntmps27
    have R0_0 := Lib.hid hx
    clear hx
    go_wp2_with fail
    refine (rencl_is A n c l E1 HE1.out _ ((R0_0.out.alloc (Nat.le_refl _) _).more (by simp))).mono ?_
    rintro e w1 ⟨rfl, hb⟩
    have HB1 := Lib.hid (show Below w.heap.size w w1 from step_below hb (by repeat' (first | exact Below.refl _ _ | exact HB0.out | refine below_drewN ?_ _ | refine Below.drew ?_ | refine Below.alloc ?_ (by first | omega | (simp; done) | (simp; omega) | (simp [World.setCell]; omega)) _ | refine Below.setCell ?_ (by first | omega | (simp; done) | (simp; omega)) _ | assumption)))
    have K0_1 := Lib.hid (step_blk hb (show Blk _ (w.heap.size) 38 #[.int .i64 (p), .int .i64 (s)] by repeat' (first | exact Blk.at_ _ (by first | rfl | (simp; done) | (simp; omega)) _ _ | refine Blk.drewN ?_ _ | refine Blk.drew ?_ | refine Blk.alloc ?_ _ | refine Blk.far ?_ (by first | omega | (simp; done) | (simp; omega)) _ | assumption)))
    have hL1 := Lib.hid (show Below w.heap.size w _ from reads_mid hb (by repeat' (first | exact Below.refl _ _ | refine below_drewN ?_ _ | refine Below.drew ?_ | refine Below.alloc ?_ (by first | omega | (simp; done) | (simp; omega) | (simp [World.setCell]; omega)) _ | refine Below.setCell ?_ (by first | omega | (simp; done) | (simp; omega)) _)))
    have R0_1 := Lib.hid (reads_lay hb hL1.out R0_0.out)
    clear hL1 R0_0
    have hz1 := hb.size
    try simp only [World.size_alloc, World.drewN, World.drew] at hz1
    clear hb
    have l0_1 : w.heap.size < w1.heap.size := K0_1.out.lt
    have z0_0_1 : w1.cell? ⟨w.heap.size, 0, none⟩ = some (.int .i64 (p)) := K0_1.out.cell 0
    have z0_1_1 : w1.cell? ⟨w.heap.size, 1, none⟩ = some (.int .i64 (s)) := K0_1.out.cell 1
    go_wp2
    go_ret
    exact ⟨rfl, by repeat' (first | exact Below.refl _ _ | exact HB1.out | refine below_drewN ?_ _ | refine Below.drew ?_ | refine Below.alloc ?_ (by first | omega | (simp; done) | (simp; omega) | (simp [World.setCell]; omega)) _ | refine Below.setCell ?_ (by first | omega | (simp; done) | (simp; omega)) _ | assumption)⟩
  subst h0
  rw [if_neg (by simp)] at hE
  have HE := Lib.hid hE
  clear hE
  go_enter Try.func27, Try.ntmps27
  have R0_0 := Lib.hid hx
  clear hx
  go_wp2_with fail
  refine (rencl_is A n c l 0 HE1.out _ ((R0_0.out.alloc (Nat.le_refl _) _).more (by simp))).mono ?_
  rintro e w1 ⟨rfl, hb⟩
  have HB1 := Lib.hid (show Below w.heap.size w w1 from step_below hb (by repeat' (first | exact Below.refl _ _ | exact HB0.out | refine below_drewN ?_ _ | refine Below.drew ?_ | refine Below.alloc ?_ (by first | omega | (simp; done) | (simp; omega) | (simp [World.setCell]; omega)) _ | refine Below.setCell ?_ (by first | omega | (simp; done) | (simp; omega)) _ | assumption)))
  have K0_1 := Lib.hid (step_blk hb (show Blk _ (w.heap.size) 38 #[.int .i64 (p), .int .i64 (s)] by repeat' (first | exact Blk.at_ _ (by first | rfl | (simp; done) | (simp; omega)) _ _ | refine Blk.drewN ?_ _ | refine Blk.drew ?_ | refine Blk.alloc ?_ _ | refine Blk.far ?_ (by first | omega | (simp; done) | (simp; omega)) _ | assumption)))
  have hL1 := Lib.hid (show Below w.heap.size w _ from reads_mid hb (by repeat' (first | exact Below.refl _ _ | refine below_drewN ?_ _ | refine Below.drew ?_ | refine Below.alloc ?_ (by first | omega | (simp; done) | (simp; omega) | (simp [World.setCell]; omega)) _ | refine Below.setCell ?_ (by first | omega | (simp; done) | (simp; omega)) _)))
  have R0_1 := Lib.hid (reads_lay hb hL1.out R0_0.out)
  clear hL1 R0_0
  have hz1 := hb.size
  try simp only [World.size_alloc, World.drewN, World.drew] at hz1
  clear hb
  have l0_1 : w.heap.size < w1.heap.size := K0_1.out.lt
  have z0_0_1 : w1.cell? ⟨w.heap.size, 0, none⟩ = some (.int .i64 (p)) := K0_1.out.cell 0
  have z0_1_1 : w1.cell? ⟨w.heap.size, 1, none⟩ = some (.int .i64 (s)) := K0_1.out.cell 1
  go_wp2_with fail
  refine (rtol_is p s E HE.out _).mono ?_
  rintro e w2 ⟨rfl, hb⟩
  have HB2 := Lib.hid (show Below w.heap.size w w2 from step_below hb (by repeat' (first | exact Below.refl _ _ | exact HB1.out | refine below_drewN ?_ _ | refine Below.drew ?_ | refine Below.alloc ?_ (by first | omega | (simp; done) | (simp; omega) | (simp [World.setCell]; omega)) _ | refine Below.setCell ?_ (by first | omega | (simp; done) | (simp; omega)) _ | assumption)))
  have K0_2 := Lib.hid (step_blk hb (show Blk _ (w.heap.size) 38 #[.int .i64 (p), .int .i64 (s)] by repeat' (first | exact K0_1.out | exact Blk.at_ _ (by first | rfl | (simp; done) | (simp; omega)) _ _ | refine Blk.drewN ?_ _ | refine Blk.drew ?_ | refine Blk.alloc ?_ _ | refine Blk.far ?_ (by first | omega | (simp; done) | (simp; omega)) _ | assumption)))
  have hL2 := Lib.hid (show Below w1.heap.size w1 _ from reads_mid hb (by repeat' (first | exact Below.refl _ _ | refine below_drewN ?_ _ | refine Below.drew ?_ | refine Below.alloc ?_ (by first | omega | (simp; done) | (simp; omega) | (simp [World.setCell]; omega)) _ | refine Below.setCell ?_ (by first | omega | (simp; done) | (simp; omega)) _)))
  have R0_2 := Lib.hid (reads_lay hb hL2.out R0_1.out)
  clear hL2 R0_1
  have hz2 := hb.size
  try simp only [World.size_alloc, World.drewN, World.drew] at hz2
  clear hb K0_1 z0_0_1 z0_1_1 l0_1
  have l0_2 : w.heap.size < w2.heap.size := K0_2.out.lt
  have z0_0_2 : w2.cell? ⟨w.heap.size, 0, none⟩ = some (.int .i64 (p)) := K0_2.out.cell 0
  have z0_1_2 : w2.cell? ⟨w.heap.size, 1, none⟩ = some (.int .i64 (s)) := K0_2.out.cell 1
  go_wp2
  go_ret
  exact ⟨rfl, by repeat' (first | exact Below.refl _ _ | exact HB2.out | refine below_drewN ?_ _ | refine Below.drew ?_ | refine Below.alloc ?_ (by first | omega | (simp; done) | (simp; omega) | (simp [World.setCell]; omega)) _ | refine Below.setCell ?_ (by first | omega | (simp; done) | (simp; omega)) _ | assumption)⟩

theorem judge_first {l : List (Int × Int)} {p s v : Int} {i k : Nat} (hv : judgeF l p s = (v, (i, k))) :
    (firstP l.length (refB l p s) = some (i, k) ∧ v = -1) ∨ (firstP l.length (refB l p s) = none ∧ i = 0 ∧ k = 0 ∧ v = ansV l p s (pairsL l.length)) := by
  unfold judgeF at hv
  cases h : firstP l.length (refB l p s) with
  | some x =>
    rw [h] at hv
    simp only [Prod.mk.injEq] at hv
    exact .inl ⟨congrArg some hv.2, hv.1.symm⟩
  | none =>
    rw [h] at hv
    simp only [Prod.mk.injEq] at hv
    exact .inr ⟨rfl, hv.2.1.symm, hv.2.2.symm, hv.1.symm⟩
end Go.Proofs.Ytnepjgnnppfibaa

end

section
/- The contract of the check of a pair that refuses. -/
namespace Go.Proofs.Ytnepjgnnppfibaa
open Go Go.RowKit

set_option maxRecDepth 100000 in
set_option maxHeartbeats 4000000 in
theorem crefused_two (A : Option Addr) (n c : Nat) (l : List (Int × Int)) (p s : Int) (hE : judgeErr l p s = 0) (i k : Nat) (hi : i < n) (hk : k < n) (hne : i ≠ k) (t : Bool) (ht : refB l p s i k = t) (w : World) (hx : Reads w w.heap.size 2 A n (cells2 l)) :
    Calls Try.prog 29 #[.slice A n c, .agg #[.int .i64 p, .int .i64 s], .agg #[.int .i64 (i : Int), .int .i64 (k : Int)]] w fun e w' => e = .returned (.int .i64 (if t then 0 else 22)) ∧ Below w.heap.size w w' := by
  have hl := hx.len2
  obtain ⟨hE1, hE2⟩ := judgeErr_ok hE
  obtain ⟨n1, n2, hr⟩ := encl_ok hE1
  obtain ⟨t1, t2, t3, t4⟩ := tol_ok hE2
  rw [hl] at n1 n2
  have i0 : ∀ w, (Instr.index 39 (.agg #[.int .i64 (i : Int), .int .i64 (k : Int)]) (.int .i64 0)).run Try.prog w = .ok (.int .i64 (i : Int)) w := fun _ => by kernel_rfl
  have i1 : ∀ w, (Instr.index 39 (.agg #[.int .i64 (i : Int), .int .i64 (k : Int)]) (.int .i64 1)).run Try.prog w = .ok (.int .i64 (k : Int)) w := fun _ => by kernel_rfl
  have e0 := IntWalk.i64_in ((n : Int) - 1) ⟨by omega, by omega⟩
  have HI := Lib.hid (within_mk (show (0 : Int) ≤ (i : Int) by omega) (show (i : Int) ≤ (n : Int) - 1 by omega))
  have HK := Lib.hid (within_mk (show (0 : Int) ≤ (k : Int) by omega) (show (k : Int) ≤ (n : Int) - 1 by omega))
  have HE := Lib.hid hE
  have HRG := Lib.hid hr
  have HX := Lib.hid hx
  have HT := Lib.hid ht
  have hii : (i : Int) < (n : Int) := by omega
  have hkk : (k : Int) < (n : Int) := by omega
  have hik : ((i : Int) == (k : Int)) = false := by simp; omega
  clear hx hE hl hE1 hE2 hr ht
  go_enter Try.func29, Try.ntmps29
  go_wp2_with fail
  generalize hwn : ((w.alloc (.cells #[.int .i64 (p), .int .i64 (s)] 38)).alloc (.cells #[.int .i64 ((i : Int)), .int .i64 ((k : Int))] 39)) = w1
  have hbn : Below w.heap.size w w1 := by rw [← hwn]; repeat' (first | exact Below.refl _ _ | refine below_drewN ?_ _ | refine Below.drew ?_ | refine Below.alloc ?_ (by first | omega | (simp; done) | (simp; omega) | (simp [World.setCell]; omega)) _ | refine Below.setCell ?_ (by first | omega | (simp; done) | (simp; omega)) _)
  have HB1 := Lib.hid (show Below w.heap.size w w1 from hbn)
  have K0_1 := Lib.hid (show Blk w1 (w.heap.size) 38 #[.int .i64 (p), .int .i64 (s)] by rw [← hwn]; repeat' (first | exact Blk.at_ _ (by first | rfl | (simp; done) | (simp; omega)) _ _ | refine Blk.drewN ?_ _ | refine Blk.drew ?_ | refine Blk.alloc ?_ _ | refine Blk.far ?_ (by first | omega | (simp; done) | (simp; omega)) _ | assumption))
  have K1_1 := Lib.hid (show Blk w1 (w.heap.size + 1) 39 #[.int .i64 ((i : Int)), .int .i64 ((k : Int))] by rw [← hwn]; repeat' (first | exact Blk.at_ _ (by first | rfl | (simp; done) | (simp; omega)) _ _ | refine Blk.drewN ?_ _ | refine Blk.drew ?_ | refine Blk.alloc ?_ _ | refine Blk.far ?_ (by first | omega | (simp; done) | (simp; omega)) _ | assumption))
  have HN1 := Lib.hid hbn
  have hz1 := hbn.size
  clear hwn hbn
  have l0_1 : w.heap.size < w1.heap.size := K0_1.out.lt
  have z0_0_1 : w1.cell? ⟨w.heap.size, 0, none⟩ = some (.int .i64 (p)) := K0_1.out.cell 0
  have z0_1_1 : w1.cell? ⟨w.heap.size, 1, none⟩ = some (.int .i64 (s)) := K0_1.out.cell 1
  have l1_1 : w.heap.size + 1 < w1.heap.size := K1_1.out.lt
  have z1_0_1 : w1.cell? ⟨w.heap.size + 1, 0, none⟩ = some (.int .i64 ((i : Int))) := K1_1.out.cell 0
  have z1_1_1 : w1.cell? ⟨w.heap.size + 1, 1, none⟩ = some (.int .i64 ((k : Int))) := K1_1.out.cell 1
  refine (all_is A n c l p s 0 HE.out _ ((HX.out.below HB1.out).more HB1.out.size)).mono ?_
  rintro e w2 ⟨rfl, hb⟩
  have HB2 := Lib.hid (show Below w.heap.size w w2 from step_below hb (by repeat' (first | exact Below.refl _ _ | exact HB1.out | refine below_drewN ?_ _ | refine Below.drew ?_ | refine Below.alloc ?_ (by first | omega | (simp; done) | (simp; omega) | (simp [World.setCell]; omega)) _ | refine Below.setCell ?_ (by first | omega | (simp; done) | (simp; omega)) _ | assumption)))
  have K0_2 := Lib.hid (step_blk hb (show Blk _ (w.heap.size) 38 #[.int .i64 (p), .int .i64 (s)] by repeat' (first | exact K0_1.out | exact K1_1.out | exact Blk.at_ _ (by first | rfl | (simp; done) | (simp; omega)) _ _ | refine Blk.drewN ?_ _ | refine Blk.drew ?_ | refine Blk.alloc ?_ _ | refine Blk.far ?_ (by first | omega | (simp; done) | (simp; omega)) _ | assumption)))
  have K1_2 := Lib.hid (step_blk hb (show Blk _ (w.heap.size + 1) 39 #[.int .i64 ((i : Int)), .int .i64 ((k : Int))] by repeat' (first | exact K0_1.out | exact K1_1.out | exact Blk.at_ _ (by first | rfl | (simp; done) | (simp; omega)) _ _ | refine Blk.drewN ?_ _ | refine Blk.drew ?_ | refine Blk.alloc ?_ _ | refine Blk.far ?_ (by first | omega | (simp; done) | (simp; omega)) _ | assumption)))
  have hz2 := hb.size
  try simp only [World.size_alloc, World.drewN, World.drew] at hz2
  clear hb K0_1 K1_1 z0_0_1 z0_1_1 l0_1 z1_0_1 z1_1_1 l1_1
  have l0_2 : w.heap.size < w2.heap.size := K0_2.out.lt
  have z0_0_2 : w2.cell? ⟨w.heap.size, 0, none⟩ = some (.int .i64 (p)) := K0_2.out.cell 0
  have z0_1_2 : w2.cell? ⟨w.heap.size, 1, none⟩ = some (.int .i64 (s)) := K0_2.out.cell 1
  have l1_2 : w.heap.size + 1 < w2.heap.size := K1_2.out.lt
  have z1_0_2 : w2.cell? ⟨w.heap.size + 1, 0, none⟩ = some (.int .i64 ((i : Int))) := K1_2.out.cell 0
  have z1_1_2 : w2.cell? ⟨w.heap.size + 1, 1, none⟩ = some (.int .i64 ((k : Int))) := K1_2.out.cell 1
  go_wp2
  refine wp_loop_rounds 3 ?_
  rw [rounds_succ]
  go_wp2_with fail
  refine (withinfig_is _ _ _ true HI.out _).mono ?_
  rintro e w' ⟨rfl, rfl⟩
  go_wp2
  rw [rounds_succ]
  go_wp2_with fail
  refine (withinfig_is _ _ _ true HK.out _).mono ?_
  rintro e w' ⟨rfl, rfl⟩
  go_wp2
  rw [rounds_succ]
  go_wp2
  refine Fx.regionW (fun W f w' => Below W.heap.size W w') (by kernel_rfl) (by kernel_rfl) ?_ ?_
  · intro f hf0
    exact below_drewN (Below.refl _ _) 1
  repeat (first
    | (refine Fx.skip_ (by rfl) (fun f w h => h) ?_; simp only [Act.put, List.setIfInBounds_toArray, List.set_cons_zero, List.set_cons_succ])
    | (refine Fx.val_ ?_ (by rfl) ?_ (fun f w h => h) ?_
       rotate_left
       · intro f w' hD hk
         have hb := hD
         have kb0 := step_blk hb (show Blk _ (w.heap.size) 38 #[.int .i64 (p), .int .i64 (s)] by repeat' (first | exact K0_2.out | exact K1_2.out | exact Blk.at_ _ (by first | rfl | (simp; done) | (simp; omega)) _ _ | refine Blk.drewN ?_ _ | refine Blk.drew ?_ | refine Blk.alloc ?_ _ | refine Blk.far ?_ (by first | omega | (simp; done) | (simp; omega)) _ | assumption))
         have y0_0 : w'.cell? ⟨w.heap.size, 0, none⟩ = some (.int .i64 (p)) := kb0.cell 0
         have y0_1 : w'.cell? ⟨w.heap.size, 1, none⟩ = some (.int .i64 (s)) := kb0.cell 1
         have kb1 := step_blk hb (show Blk _ (w.heap.size + 1) 39 #[.int .i64 ((i : Int)), .int .i64 ((k : Int))] by repeat' (first | exact K0_2.out | exact K1_2.out | exact Blk.at_ _ (by first | rfl | (simp; done) | (simp; omega)) _ _ | refine Blk.drewN ?_ _ | refine Blk.drew ?_ | refine Blk.alloc ?_ _ | refine Blk.far ?_ (by first | omega | (simp; done) | (simp; omega)) _ | assumption))
         have y1_0 : w'.cell? ⟨w.heap.size + 1, 0, none⟩ = some (.int .i64 ((i : Int))) := kb1.cell 0
         have y1_1 : w'.cell? ⟨w.heap.size + 1, 1, none⟩ = some (.int .i64 ((k : Int))) := kb1.cell 1
         clear kb0 kb1
         clear hk hD hb
         go_simp
         try rfl
       simp only [Act.put, List.setIfInBounds_toArray, List.set_cons_zero, List.set_cons_succ]))
  refine Fx.nil_ ?_
  intro f w3 hall hb
  try clear hall
  have HB23 := Lib.hid hb
  have HB3 := Lib.hid (show Below w.heap.size w w3 from step_below hb (by repeat' (first | exact Below.refl _ _ | exact HB2.out | refine below_drewN ?_ _ | refine Below.drew ?_ | refine Below.alloc ?_ (by first | omega | (simp; done) | (simp; omega) | (simp [World.setCell]; omega)) _ | refine Below.setCell ?_ (by first | omega | (simp; done) | (simp; omega)) _ | assumption)))
  have K0_3 := Lib.hid (step_blk hb (show Blk _ (w.heap.size) 38 #[.int .i64 (p), .int .i64 (s)] by repeat' (first | exact K0_2.out | exact K1_2.out | exact Blk.at_ _ (by first | rfl | (simp; done) | (simp; omega)) _ _ | refine Blk.drewN ?_ _ | refine Blk.drew ?_ | refine Blk.alloc ?_ _ | refine Blk.far ?_ (by first | omega | (simp; done) | (simp; omega)) _ | assumption)))
  have K1_3 := Lib.hid (step_blk hb (show Blk _ (w.heap.size + 1) 39 #[.int .i64 ((i : Int)), .int .i64 ((k : Int))] by repeat' (first | exact K0_2.out | exact K1_2.out | exact Blk.at_ _ (by first | rfl | (simp; done) | (simp; omega)) _ _ | refine Blk.drewN ?_ _ | refine Blk.drew ?_ | refine Blk.alloc ?_ _ | refine Blk.far ?_ (by first | omega | (simp; done) | (simp; omega)) _ | assumption)))
  have hz3 := hb.size
  try simp only [World.size_alloc, World.drewN, World.drew] at hz3
  clear hb K0_2 K1_2 z0_0_2 z0_1_2 l0_2 z1_0_2 z1_1_2 l1_2
  have l0_3 : w.heap.size < w3.heap.size := K0_3.out.lt
  have z0_0_3 : w3.cell? ⟨w.heap.size, 0, none⟩ = some (.int .i64 (p)) := K0_3.out.cell 0
  have z0_1_3 : w3.cell? ⟨w.heap.size, 1, none⟩ = some (.int .i64 (s)) := K0_3.out.cell 1
  have l1_3 : w.heap.size + 1 < w3.heap.size := K1_3.out.lt
  have z1_0_3 : w3.cell? ⟨w.heap.size + 1, 0, none⟩ = some (.int .i64 ((i : Int))) := K1_3.out.cell 0
  have z1_1_3 : w3.cell? ⟨w.heap.size + 1, 1, none⟩ = some (.int .i64 ((k : Int))) := K1_3.out.cell 1
  have hrd := HX.out.below HB3.out
  obtain ⟨xb, xo, pi, rfl, hxb, hpi, ci0, ci1⟩ := hrd.pair hi
  obtain ⟨yb, yo, pk, hA2, hyb, hpk, ck0, ck1⟩ := hrd.pair hk
  obtain ⟨rfl, rfl⟩ : xb = yb ∧ xo = yo := by simpa using hA2
  obtain ⟨pi1, pi2⟩ := pi
  obtain ⟨pk1, pk2⟩ := pk
  simp only at ci0 ci1 ck0 ck1
  have r1 := HRG.out _ (List.mem_of_getElem? hpi)
  have r2 := HRG.out _ (List.mem_of_getElem? hpk)
  simp only at r1 r2
  obtain ⟨bd, hbd⟩ : ∃ b, bndF p s i k = b := ⟨_, rfl⟩
  have hbi := bnd_in (i := i) (k := k) t1 t2 t3 (s := s)
  rw [hbd] at hbi
  have e1 := IntWalk.i64_in (pi1 - pk2) ⟨by omega, by omega⟩
  have hrf : decide (bd < pi1 - pk2) = t := by rw [← HT.out]; unfold refB; rw [getD_of hpi, getD_of hpk, hbd]
  have HBD := Lib.hid hbd
  have HRF := Lib.hid hrf
  have l3x : xb < w3.heap.size := by have := l0_3; omega
  clear hA2 hpi hpk hrf hbd hrd ci1 ck0
  have C0_3 := Lib.hid ci0
  have C1_3 := Lib.hid ck1
  clear ci0 ck1
  go_wp2
  refine Fx.regionW (fun W f w' => Below W.heap.size W w') (by kernel_rfl) (by kernel_rfl) ?_ ?_
  · intro f hf0
    exact below_drewN (Below.refl _ _) 1
  repeat (first
    | (refine Fx.skip_ (by rfl) (fun f w h => h) ?_; simp only [Act.put, List.setIfInBounds_toArray, List.set_cons_zero, List.set_cons_succ])
    | (refine Fx.val_ ?_ (by rfl) ?_ (fun f w h => h) ?_
       rotate_left
       · intro f w' hD hk
         have hb := hD
         have kb0 := step_blk hb (show Blk _ (w.heap.size) 38 #[.int .i64 (p), .int .i64 (s)] by repeat' (first | exact K0_3.out | exact K1_3.out | exact Blk.at_ _ (by first | rfl | (simp; done) | (simp; omega)) _ _ | refine Blk.drewN ?_ _ | refine Blk.drew ?_ | refine Blk.alloc ?_ _ | refine Blk.far ?_ (by first | omega | (simp; done) | (simp; omega)) _ | assumption))
         have y0_0 : w'.cell? ⟨w.heap.size, 0, none⟩ = some (.int .i64 (p)) := kb0.cell 0
         have y0_1 : w'.cell? ⟨w.heap.size, 1, none⟩ = some (.int .i64 (s)) := kb0.cell 1
         have kb1 := step_blk hb (show Blk _ (w.heap.size + 1) 39 #[.int .i64 ((i : Int)), .int .i64 ((k : Int))] by repeat' (first | exact K0_3.out | exact K1_3.out | exact Blk.at_ _ (by first | rfl | (simp; done) | (simp; omega)) _ _ | refine Blk.drewN ?_ _ | refine Blk.drew ?_ | refine Blk.alloc ?_ _ | refine Blk.far ?_ (by first | omega | (simp; done) | (simp; omega)) _ | assumption))
         have y1_0 : w'.cell? ⟨w.heap.size + 1, 0, none⟩ = some (.int .i64 ((i : Int))) := kb1.cell 0
         have y1_1 : w'.cell? ⟨w.heap.size + 1, 1, none⟩ = some (.int .i64 ((k : Int))) := kb1.cell 1
         have yc0 : w'.cell? ⟨xb, xo + i * 2, none⟩ = some (.int .i64 (pi1)) := step_cell hb (show World.cell? _ ⟨xb, xo + i * 2, none⟩ = some (.int .i64 (pi1)) by first | exact C0_3.out | go_simp) (by have := l3x; first | omega | (simp; omega))
         have yc1 : w'.cell? ⟨xb, xo + k * 2 + 1, none⟩ = some (.int .i64 (pk2)) := step_cell hb (show World.cell? _ ⟨xb, xo + k * 2 + 1, none⟩ = some (.int .i64 (pk2)) by first | exact C1_3.out | go_simp) (by have := l3x; first | omega | (simp; omega))
         clear kb0 kb1
         clear hk hD hb
         go_simp
         try rfl
       simp only [Act.put, List.setIfInBounds_toArray, List.set_cons_zero, List.set_cons_succ]))
  refine Fx.call_ (.int .i64 (bd)) ?_ ?_ (by rfl) ?_ ?_ ?_
  rotate_left 2
  · intro w'
    go_simp
    refine ⟨?_, ?_⟩ <;> rfl
  · intro f w' hD hk
    exact (bound_is p s i k bd HBD.out w' t1 t2 t3 t4 (by omega) (by omega)).mono fun e w'' ⟨he, hw⟩ => ⟨he, step_below hw hD⟩
  simp only [Act.put, List.setIfInBounds_toArray, List.set_cons_zero, List.set_cons_succ]
  repeat (first
    | (refine Fx.skip_ (by rfl) (fun f w h => h) ?_; simp only [Act.put, List.setIfInBounds_toArray, List.set_cons_zero, List.set_cons_succ])
    | (refine Fx.val_ ?_ (by rfl) ?_ (fun f w h => h) ?_
       rotate_left
       · intro f w' hD hk
         have hb := hD
         have kb0 := step_blk hb (show Blk _ (w.heap.size) 38 #[.int .i64 (p), .int .i64 (s)] by repeat' (first | exact K0_3.out | exact K1_3.out | exact Blk.at_ _ (by first | rfl | (simp; done) | (simp; omega)) _ _ | refine Blk.drewN ?_ _ | refine Blk.drew ?_ | refine Blk.alloc ?_ _ | refine Blk.far ?_ (by first | omega | (simp; done) | (simp; omega)) _ | assumption))
         have y0_0 : w'.cell? ⟨w.heap.size, 0, none⟩ = some (.int .i64 (p)) := kb0.cell 0
         have y0_1 : w'.cell? ⟨w.heap.size, 1, none⟩ = some (.int .i64 (s)) := kb0.cell 1
         have kb1 := step_blk hb (show Blk _ (w.heap.size + 1) 39 #[.int .i64 ((i : Int)), .int .i64 ((k : Int))] by repeat' (first | exact K0_3.out | exact K1_3.out | exact Blk.at_ _ (by first | rfl | (simp; done) | (simp; omega)) _ _ | refine Blk.drewN ?_ _ | refine Blk.drew ?_ | refine Blk.alloc ?_ _ | refine Blk.far ?_ (by first | omega | (simp; done) | (simp; omega)) _ | assumption))
         have y1_0 : w'.cell? ⟨w.heap.size + 1, 0, none⟩ = some (.int .i64 ((i : Int))) := kb1.cell 0
         have y1_1 : w'.cell? ⟨w.heap.size + 1, 1, none⟩ = some (.int .i64 ((k : Int))) := kb1.cell 1
         have yc0 : w'.cell? ⟨xb, xo + i * 2, none⟩ = some (.int .i64 (pi1)) := step_cell hb (show World.cell? _ ⟨xb, xo + i * 2, none⟩ = some (.int .i64 (pi1)) by first | exact C0_3.out | go_simp) (by have := l3x; first | omega | (simp; omega))
         have yc1 : w'.cell? ⟨xb, xo + k * 2 + 1, none⟩ = some (.int .i64 (pk2)) := step_cell hb (show World.cell? _ ⟨xb, xo + k * 2 + 1, none⟩ = some (.int .i64 (pk2)) by first | exact C1_3.out | go_simp) (by have := l3x; first | omega | (simp; omega))
         clear kb0 kb1
         clear hk hD hb
         go_simp
         try rfl
       simp only [Act.put, List.setIfInBounds_toArray, List.set_cons_zero, List.set_cons_succ]))
  refine Fx.nil_ ?_
  intro f w4 hall hb
  try clear hall
  have HB34 := Lib.hid hb
  have HB4 := Lib.hid (show Below w.heap.size w w4 from step_below hb (by repeat' (first | exact Below.refl _ _ | exact HB3.out | refine below_drewN ?_ _ | refine Below.drew ?_ | refine Below.alloc ?_ (by first | omega | (simp; done) | (simp; omega) | (simp [World.setCell]; omega)) _ | refine Below.setCell ?_ (by first | omega | (simp; done) | (simp; omega)) _ | assumption)))
  have K0_4 := Lib.hid (step_blk hb (show Blk _ (w.heap.size) 38 #[.int .i64 (p), .int .i64 (s)] by repeat' (first | exact K0_3.out | exact K1_3.out | exact Blk.at_ _ (by first | rfl | (simp; done) | (simp; omega)) _ _ | refine Blk.drewN ?_ _ | refine Blk.drew ?_ | refine Blk.alloc ?_ _ | refine Blk.far ?_ (by first | omega | (simp; done) | (simp; omega)) _ | assumption)))
  have K1_4 := Lib.hid (step_blk hb (show Blk _ (w.heap.size + 1) 39 #[.int .i64 ((i : Int)), .int .i64 ((k : Int))] by repeat' (first | exact K0_3.out | exact K1_3.out | exact Blk.at_ _ (by first | rfl | (simp; done) | (simp; omega)) _ _ | refine Blk.drewN ?_ _ | refine Blk.drew ?_ | refine Blk.alloc ?_ _ | refine Blk.far ?_ (by first | omega | (simp; done) | (simp; omega)) _ | assumption)))
  have C0_4 := Lib.hid (step_cell hb (show World.cell? _ ⟨xb, xo + i * 2, none⟩ = some (.int .i64 (pi1)) by first | exact C0_3.out | go_simp) (by have := l3x; first | omega | (simp; omega)))
  have C1_4 := Lib.hid (step_cell hb (show World.cell? _ ⟨xb, xo + k * 2 + 1, none⟩ = some (.int .i64 (pk2)) by first | exact C1_3.out | go_simp) (by have := l3x; first | omega | (simp; omega)))
  have hz4 := hb.size
  try simp only [World.size_alloc, World.drewN, World.drew] at hz4
  clear hb K0_3 K1_3 z0_0_3 z0_1_3 l0_3 z1_0_3 z1_1_3 l1_3
  have l0_4 : w.heap.size < w4.heap.size := K0_4.out.lt
  have z0_0_4 : w4.cell? ⟨w.heap.size, 0, none⟩ = some (.int .i64 (p)) := K0_4.out.cell 0
  have z0_1_4 : w4.cell? ⟨w.heap.size, 1, none⟩ = some (.int .i64 (s)) := K0_4.out.cell 1
  have l1_4 : w.heap.size + 1 < w4.heap.size := K1_4.out.lt
  have z1_0_4 : w4.cell? ⟨w.heap.size + 1, 0, none⟩ = some (.int .i64 ((i : Int))) := K1_4.out.cell 0
  have z1_1_4 : w4.cell? ⟨w.heap.size + 1, 1, none⟩ = some (.int .i64 ((k : Int))) := K1_4.out.cell 1
  by_cases hlt2 : bd < pi1 - pk2
  · have ht : t = true := by rw [← HRF.out]; simpa using hlt2
    have hd : decide (pi1 - pk2 ≤ bd) = false := by simp; omega
    subst ht
    go_wp2
    go_ret
    exact ⟨rfl, HB4.out⟩
  · have ht : t = false := by rw [← HRF.out]; simpa using hlt2
    have hd : decide (pi1 - pk2 ≤ bd) = true := by simp; omega
    subst ht
    go_wp2
    go_ret
    exact ⟨rfl, HB4.out⟩
end Go.Proofs.Ytnepjgnnppfibaa

end

section
/- The walk of the statement on judgements of enclosures. -/
namespace Go.Proofs.Ytnepjgnnppfibaa
open Go Go.RowKit

def PfR (l : List (Int × Int)) (n ci : Nat) (i : Nat) (x : Pick2) (w : World) : Prop := i = ci → Reads w w.heap.size 2 x.1.1 n (cells2 l)
theorem PfR.stb {l : List (Int × Int)} {n ci : Nat} : Stb (PfR l n ci) := fun _ _ _ _ hb h e => ((h e).below hb).more hb.size

end Go.Proofs.Ytnepjgnnppfibaa

end
