import Derived.Test.YtnepjgnnppfibaaQ19

section
/- Contracts of chapter 6: the reference's judgement, copies of enclosures, the check of a pair that refuses. -/
namespace Go.Proofs.Ytnepjgnnppfibaa
open Go Go.RowKit

theorem lranges_any (A : Option Addr) (n c N : Nat) (l : List (Int × Int)) (w : World) (hx : Reads w N 2 A n (cells2 l)) (hN : N ≤ w.heap.size) (hn : n ≤ 1000000) :
    Calls Try.prog 26 #[.slice A n c] w (CopyPost w 50 2 n (cells2 l)) := by
  obtain ⟨v', W2, hrun, ho, hb⟩ := copy_run (P := Try.prog) 36 36 50 _ 2 16 Try.underlying36 info_range rfl (by omega) w N A n c (cells2 l) hx hN (one_cells2 l) (by unfold maxLen; omega) (by omega)
  have HRUN := Lib.hid hrun
  have HO := Lib.hid ho
  have HB := Lib.hid hb
  clear hrun ho hb
  go_enter Try.func26, Try.ntmps26
  go_wp2_with (first | (at_builtin; refine wpList_app _ W2 v' rfl _ _ _ rfl _ _ rfl rfl HRUN.out ?_))
  go_ret
  exact CopyPost.of HO.out HB.out
/-- A copy of an enclosure, by what is read there. -/
theorem cranges_any (A : Option Addr) (n c : Nat) (l : List (Int × Int)) (w : World) (hx : Reads w w.heap.size 2 A n (cells2 l)) (hn : n ≤ 1000000) :
    Calls Try.prog 26 #[.slice A n c] w fun e w' => ∃ A' c', e = .returned (.slice A' n c') ∧ Below w.heap.size w w' ∧ Reads w' w'.heap.size 2 A' n (cells2 l) :=
  (lranges_any A n c _ l w hx (Nat.le_refl _) hn).mono fun e w' h => by
    obtain ⟨A', c', he, hb, hr, -⟩ := h
    exact ⟨A', c', he, hb, hr⟩

theorem figjudgeerr_is (A : Option Addr) (n c : Nat) (l : List (Int × Int)) (p s E : Int) (hE : judgeErr l p s = E) (w : World) (hx : Reads w w.heap.size 2 A n (cells2 l)) :
    Calls Try.prog 27 #[.slice A n c, .agg #[.int .i64 p, .int .i64 s]] w fun e w' => e = .returned (.int .i64 E) ∧ Below w.heap.size w w' := by
  unfold judgeErr at hE
  obtain ⟨E1, hE1⟩ : ∃ E1, enclErr l = E1 := ⟨_, rfl⟩
  rw [hE1] at hE
  have HE1 := Lib.hid hE1
  clear hE1
  by_cases h0 : E1 = 0
  rotate_left
  · rw [if_pos h0] at hE
    subst hE
    have e1 : (E1 != 0) = true := by simpa using h0
    clear h0
    go_enter Try.func27, Try.ntmps27
    have R0_0 := Lib.hid hx
    clear hx
    go_wp2_with fail
    refine (rencl_is A n c l E1 HE1.out _ ((R0_0.out.alloc (Nat.le_refl _) _).more (by simp))).mono ?_
    rintro e w1 ⟨rfl, hb⟩
    have HB1 := Lib.hid (show Below w.heap.size w w1 from step_below hb (by repeat' (first | exact Below.refl _ _ | exact HB0.out | refine below_drewN ?_ _ | refine Below.drew ?_ | refine Below.alloc ?_ (by first | omega | (simp; done) | (simp; omega) | (simp [World.setCell]; omega)) _ | refine Below.setCell ?_ (by first | omega | (simp; done) | (simp; omega)) _ | assumption)))
    have K0_1 := Lib.hid (step_blk hb (show Blk _ (w.heap.size) 38 #[.int .i64 (p), .int .i64 (s)] by repeat' (first | exact Blk.at_ _ (by first | rfl | (simp; done) | (simp; omega)) _ _ | refine Blk.drewN ?_ _ | refine Blk.drew ?_ | refine Blk.alloc ?_ _ | refine Blk.far ?_ (by first | omega | (simp; done) | (simp; omega)) _ | assumption)))
    have hL1 := Lib.hid (show Below w.heap.size w _ from reads_mid hb (by repeat' (first | exact Below.refl _ _ | refine below_drewN ?_ _ | refine Below.drew ?_ | refine Below.alloc ?_ (by first | omega | (simp; done) | (simp; omega) | (simp [World.setCell]; omega)) _ | refine Below.setCell ?_ (by first | omega | (simp; done) | (simp; omega)) _)))
    have R0_1 := Lib.hid (reads_lay hb hL1.out R0_0.out)
    clear hL1 R0_0
    have hz1 := hb.size
    try simp only [World.size_alloc, World.drewN, World.drew] at hz1
    clear hb
    have l0_1 : w.heap.size < w1.heap.size := K0_1.out.lt
    have z0_0_1 : w1.cell? ⟨w.heap.size, 0, none⟩ = some (.int .i64 (p)) := K0_1.out.cell 0
    have z0_1_1 : w1.cell? ⟨w.heap.size, 1, none⟩ = some (.int .i64 (s)) := K0_1.out.cell 1
    go_wp2
    go_ret
    exact ⟨rfl, by repeat' (first | exact Below.refl _ _ | exact HB1.out | refine below_drewN ?_ _ | refine Below.drew ?_ | refine Below.alloc ?_ (by first | omega | (simp; done) | (simp; omega) | (simp [World.setCell]; omega)) _ | refine Below.setCell ?_ (by first | omega | (simp; done) | (simp; omega)) _ | assumption)⟩
  subst h0
  rw [if_neg (by simp)] at hE
  have HE := Lib.hid hE
  clear hE
  go_enter Try.func27, Try.ntmps27
  have R0_0 := Lib.hid hx
  clear hx
  go_wp2_with fail
  refine (rencl_is A n c l 0 HE1.out _ ((R0_0.out.alloc (Nat.le_refl _) _).more (by simp))).mono ?_
  rintro e w1 ⟨rfl, hb⟩
  have HB1 := Lib.hid (show Below w.heap.size w w1 from step_below hb (by repeat' (first | exact Below.refl _ _ | exact HB0.out | refine below_drewN ?_ _ | refine Below.drew ?_ | refine Below.alloc ?_ (by first | omega | (simp; done) | (simp; omega) | (simp [World.setCell]; omega)) _ | refine Below.setCell ?_ (by first | omega | (simp; done) | (simp; omega)) _ | assumption)))
  have K0_1 := Lib.hid (step_blk hb (show Blk _ (w.heap.size) 38 #[.int .i64 (p), .int .i64 (s)] by repeat' (first | exact Blk.at_ _ (by first | rfl | (simp; done) | (simp; omega)) _ _ | refine Blk.drewN ?_ _ | refine Blk.drew ?_ | refine Blk.alloc ?_ _ | refine Blk.far ?_ (by first | omega | (simp; done) | (simp; omega)) _ | assumption)))
  have hL1 := Lib.hid (show Below w.heap.size w _ from reads_mid hb (by repeat' (first | exact Below.refl _ _ | refine below_drewN ?_ _ | refine Below.drew ?_ | refine Below.alloc ?_ (by first | omega | (simp; done) | (simp; omega) | (simp [World.setCell]; omega)) _ | refine Below.setCell ?_ (by first | omega | (simp; done) | (simp; omega)) _)))
  have R0_1 := Lib.hid (reads_lay hb hL1.out R0_0.out)
  clear hL1 R0_0
  have hz1 := hb.size
  try simp only [World.size_alloc, World.drewN, World.drew] at hz1
  clear hb
  have l0_1 : w.heap.size < w1.heap.size := K0_1.out.lt
  have z0_0_1 : w1.cell? ⟨w.heap.size, 0, none⟩ = some (.int .i64 (p)) := K0_1.out.cell 0
  have z0_1_1 : w1.cell? ⟨w.heap.size, 1, none⟩ = some (.int .i64 (s)) := K0_1.out.cell 1
  go_wp2_with fail
  refine (rtol_is p s E HE.out _).mono ?_
  rintro e w2 ⟨rfl, hb⟩
  have HB2 := Lib.hid (show Below w.heap.size w w2 from step_below hb (by repeat' (first | exact Below.refl _ _ | exact HB1.out | refine below_drewN ?_ _ | refine Below.drew ?_ | refine Below.alloc ?_ (by first | omega | (simp; done) | (simp; omega) | (simp [World.setCell]; omega)) _ | refine Below.setCell ?_ (by first | omega | (simp; done) | (simp; omega)) _ | assumption)))
  have K0_2 := Lib.hid (step_blk hb (show Blk _ (w.heap.size) 38 #[.int .i64 (p), .int .i64 (s)] by repeat' (first | exact K0_1.out | exact Blk.at_ _ (by first | rfl | (simp; done) | (simp; omega)) _ _ | refine Blk.drewN ?_ _ | refine Blk.drew ?_ | refine Blk.alloc ?_ _ | refine Blk.far ?_ (by first | omega | (simp; done) | (simp; omega)) _ | assumption)))
  have hL2 := Lib.hid (show Below w1.heap.size w1 _ from reads_mid hb (by repeat' (first | exact Below.refl _ _ | refine below_drewN ?_ _ | refine Below.drew ?_ | refine Below.alloc ?_ (by first | omega | (simp; done) | (simp; omega) | (simp [World.setCell]; omega)) _ | refine Below.setCell ?_ (by first | omega | (simp; done) | (simp; omega)) _)))
  have R0_2 := Lib.hid (reads_lay hb hL2.out R0_1.out)
  clear hL2 R0_1
  have hz2 := hb.size
  try simp only [World.size_alloc, World.drewN, World.drew] at hz2
  clear hb K0_1 z0_0_1 z0_1_1 l0_1
  have l0_2 : w.heap.size < w2.heap.size := K0_2.out.lt
  have z0_0_2 : w2.cell? ⟨w.heap.size, 0, none⟩ = some (.int .i64 (p)) := K0_2.out.cell 0
  have z0_1_2 : w2.cell? ⟨w.heap.size, 1, none⟩ = some (.int .i64 (s)) := K0_2.out.cell 1
  go_wp2
  go_ret
  exact ⟨rfl, by repeat' (first | exact Below.refl _ _ | exact HB2.out | refine below_drewN ?_ _ | refine Below.drew ?_ | refine Below.alloc ?_ (by first | omega | (simp; done) | (simp; omega) | (simp [World.setCell]; omega)) _ | refine Below.setCell ?_ (by first | omega | (simp; done) | (simp; omega)) _ | assumption)⟩

theorem judge_first {l : List (Int × Int)} {p s v : Int} {i k : Nat} (hv : judgeF l p s = (v, (i, k))) :
    (firstP l.length (refB l p s) = some (i, k) ∧ v = -1) ∨ (firstP l.length (refB l p s) = none ∧ i = 0 ∧ k = 0 ∧ v = ansV l p s (pairsL l.length)) := by
  unfold judgeF at hv
  cases h : firstP l.length (refB l p s) with
  | some x =>
    rw [h] at hv
    simp only [Prod.mk.injEq] at hv
    exact .inl ⟨congrArg some hv.2, hv.1.symm⟩
  | none =>
    rw [h] at hv
    simp only [Prod.mk.injEq] at hv
    exact .inr ⟨rfl, hv.2.1.symm, hv.2.2.symm, hv.1.symm⟩
end Go.Proofs.Ytnepjgnnppfibaa

end

section
/- The contract of the check of a surface. -/
namespace Go.Proofs.Ytnepjgnnppfibaa
open Go Go.RowKit Go.Shelf

attribute [local go_sem] Oper.semAt_some

/-- Two zones differ too much. -/
def meetB (l : List Int) (p s : Int) (i k : Nat) : Bool := decide (i < k) && decide (bndF p s i k < ((l.getD i 0 - l.getD k 0).natAbs : Int))
def meetErr (l : List Int) (p s : Int) : Int := if heightsErr l ≠ 0 then heightsErr l else tolErr p s
theorem meetErr_ok {l : List Int} {p s : Int} (h : meetErr l p s = 0) : heightsErr l = 0 ∧ tolErr p s = 0 := by
  unfold meetErr at h
  by_cases h0 : heightsErr l ≠ 0
  · rw [if_pos h0] at h; exact absurd h h0
  · rw [if_neg h0] at h; exact ⟨Decidable.not_not.1 h0, h⟩

set_option maxRecDepth 100000 in
set_option maxHeartbeats 4000000 in
theorem meets_ok (A : Option Addr) (n c : Nat) (l : List Int) (p s : Int) (hE : meetErr l p s = 0) (a b : Nat) (t : Bool) (ho : firstP n (meetB l p s) = if t then some (a, b) else none) (h0 : t = false → a = 0 ∧ b = 0) (w : World) (hx : Reads w w.heap.size 1 A n (l.map (.int .i64))) :
    Calls Try.prog 33 #[.slice A n c, .agg #[.int .i64 p, .int .i64 s]] w fun e w' => e = .returned (.tuple #[.agg #[.int .i64 (a : Int), .int .i64 (b : Int)], .int .i64 (if t then 26 else 0)]) ∧ Below w.heap.size w w' := by
  have hl : l.length = n := by have := hx.1; simpa using this
  obtain ⟨hE1, hE2⟩ := meetErr_ok hE
  obtain ⟨n1, n2, hr⟩ := heights_ok hE1
  obtain ⟨t1, t2, t3, t4⟩ := tol_ok hE2
  rw [hl] at n1 n2
  have HX := Lib.hid hx
  have HO := Lib.hid ho
  have H0 := Lib.hid h0
  have HL := Lib.hid hl
  have HRG := Lib.hid hr
  have HE1 := Lib.hid hE1
  have HE2 := Lib.hid hE2
  clear hx hE ho h0 hl hE1 hE2 hr
  refine callsIn_wide.1 (callsIn_of_wp_marks (n := 10) Try.func33 rfl trivial (wpIn_wide.2 ?_) rfl)
  simp only [Try.ntmps33, List.size_toArray, List.length_cons, List.length_nil, Nat.reduceAdd, Nat.reduceSub, Array.replicate_succ, Array.replicate_zero, List.push_toArray, List.append_toArray, List.nil_append, List.cons_append]
  go_wp2_with fail
  generalize hwn : ((((w.alloc (.cells #[.slice A n c] 22)).alloc (.cells #[.int .i64 (p), .int .i64 (s)] 38)).alloc (.cells #[.int .i64 (0), .int .i64 (0)] 39)).alloc (.cells #[.int .i64 (0)] 29)) = w1
  have hbn : Below w.heap.size w w1 := by rw [← hwn]; repeat' (first | exact Below.refl _ _ | refine below_drewN ?_ _ | refine Below.drew ?_ | refine Below.alloc ?_ (by first | omega | (simp; done) | (simp; omega) | (simp [World.setCell]; omega)) _ | refine Below.setCell ?_ (by first | omega | (simp; done) | (simp; omega)) _)
  have HB1 := Lib.hid (show Below w.heap.size w w1 from hbn)
  have K0_1 := Lib.hid (show Blk w1 (w.heap.size) 22 #[.slice A n c] by rw [← hwn]; repeat' (first | exact Blk.at_ _ (by first | rfl | (simp; done) | (simp; omega)) _ _ | refine Blk.drewN ?_ _ | refine Blk.drew ?_ | refine Blk.alloc ?_ _ | refine Blk.far ?_ (by first | omega | (simp; done) | (simp; omega)) _ | assumption))
  have K1_1 := Lib.hid (show Blk w1 (w.heap.size + 1) 38 #[.int .i64 (p), .int .i64 (s)] by rw [← hwn]; repeat' (first | exact Blk.at_ _ (by first | rfl | (simp; done) | (simp; omega)) _ _ | refine Blk.drewN ?_ _ | refine Blk.drew ?_ | refine Blk.alloc ?_ _ | refine Blk.far ?_ (by first | omega | (simp; done) | (simp; omega)) _ | assumption))
  have K2_1 := Lib.hid (show Blk w1 (w.heap.size + 1 + 1) 39 #[.int .i64 (0), .int .i64 (0)] by rw [← hwn]; repeat' (first | exact Blk.at_ _ (by first | rfl | (simp; done) | (simp; omega)) _ _ | refine Blk.drewN ?_ _ | refine Blk.drew ?_ | refine Blk.alloc ?_ _ | refine Blk.far ?_ (by first | omega | (simp; done) | (simp; omega)) _ | assumption))
  have K3_1 := Lib.hid (show Blk w1 (w.heap.size + 1 + 1 + 1) 29 #[.int .i64 (0)] by rw [← hwn]; repeat' (first | exact Blk.at_ _ (by first | rfl | (simp; done) | (simp; omega)) _ _ | refine Blk.drewN ?_ _ | refine Blk.drew ?_ | refine Blk.alloc ?_ _ | refine Blk.far ?_ (by first | omega | (simp; done) | (simp; omega)) _ | assumption))
  have HN1 := Lib.hid hbn
  have hz1 := hbn.size
  clear hwn hbn
  have l0_1 : w.heap.size < w1.heap.size := K0_1.out.lt
  have z0_0_1 : w1.cell? ⟨w.heap.size, 0, none⟩ = some (.slice A n c) := K0_1.out.cell 0
  have l1_1 : w.heap.size + 1 < w1.heap.size := K1_1.out.lt
  have z1_0_1 : w1.cell? ⟨w.heap.size + 1, 0, none⟩ = some (.int .i64 (p)) := K1_1.out.cell 0
  have z1_1_1 : w1.cell? ⟨w.heap.size + 1, 1, none⟩ = some (.int .i64 (s)) := K1_1.out.cell 1
  have l2_1 : w.heap.size + 1 + 1 < w1.heap.size := K2_1.out.lt
  have z2_0_1 : w1.cell? ⟨w.heap.size + 1 + 1, 0, none⟩ = some (.int .i64 (0)) := K2_1.out.cell 0
  have z2_1_1 : w1.cell? ⟨w.heap.size + 1 + 1, 1, none⟩ = some (.int .i64 (0)) := K2_1.out.cell 1
  have l3_1 : w.heap.size + 1 + 1 + 1 < w1.heap.size := K3_1.out.lt
  have z3_0_1 : w1.cell? ⟨w.heap.size + 1 + 1 + 1, 0, none⟩ = some (.int .i64 (0)) := K3_1.out.cell 0
  have hs1 := HB1.out.size
  refine (heights_is A n c l 0 HE1.out _ ((HX.out.below HB1.out).more HB1.out.size) (by omega)).mono ?_
  rintro e w2 ⟨rfl, hb⟩
  have HB2 := Lib.hid (show Below w.heap.size w w2 from step_below hb (by repeat' (first | exact Below.refl _ _ | exact HB1.out | refine below_drewN ?_ _ | refine Below.drew ?_ | refine Below.alloc ?_ (by first | omega | (simp; done) | (simp; omega) | (simp [World.setCell]; omega)) _ | refine Below.setCell ?_ (by first | omega | (simp; done) | (simp; omega)) _ | assumption)))
  have K0_2 := Lib.hid (step_blk hb (show Blk _ (w.heap.size) 22 #[.slice A n c] by repeat' (first | exact K0_1.out | exact K1_1.out | exact K2_1.out | exact K3_1.out | exact Blk.at_ _ (by first | rfl | (simp; done) | (simp; omega)) _ _ | refine Blk.drewN ?_ _ | refine Blk.drew ?_ | refine Blk.alloc ?_ _ | refine Blk.far ?_ (by first | omega | (simp; done) | (simp; omega)) _ | assumption)))
  have K1_2 := Lib.hid (step_blk hb (show Blk _ (w.heap.size + 1) 38 #[.int .i64 (p), .int .i64 (s)] by repeat' (first | exact K0_1.out | exact K1_1.out | exact K2_1.out | exact K3_1.out | exact Blk.at_ _ (by first | rfl | (simp; done) | (simp; omega)) _ _ | refine Blk.drewN ?_ _ | refine Blk.drew ?_ | refine Blk.alloc ?_ _ | refine Blk.far ?_ (by first | omega | (simp; done) | (simp; omega)) _ | assumption)))
  have K2_2 := Lib.hid (step_blk hb (show Blk _ (w.heap.size + 1 + 1) 39 #[.int .i64 (0), .int .i64 (0)] by repeat' (first | exact K0_1.out | exact K1_1.out | exact K2_1.out | exact K3_1.out | exact Blk.at_ _ (by first | rfl | (simp; done) | (simp; omega)) _ _ | refine Blk.drewN ?_ _ | refine Blk.drew ?_ | refine Blk.alloc ?_ _ | refine Blk.far ?_ (by first | omega | (simp; done) | (simp; omega)) _ | assumption)))
  have K3_2 := Lib.hid (step_blk hb (show Blk _ (w.heap.size + 1 + 1 + 1) 29 #[.int .i64 (0)] by repeat' (first | exact K0_1.out | exact K1_1.out | exact K2_1.out | exact K3_1.out | exact Blk.at_ _ (by first | rfl | (simp; done) | (simp; omega)) _ _ | refine Blk.drewN ?_ _ | refine Blk.drew ?_ | refine Blk.alloc ?_ _ | refine Blk.far ?_ (by first | omega | (simp; done) | (simp; omega)) _ | assumption)))
  have hz2 := hb.size
  try simp only [World.size_alloc, World.drewN, World.drew] at hz2
  clear hb K0_1 K1_1 K2_1 K3_1 z0_0_1 l0_1 z1_0_1 z1_1_1 l1_1 z2_0_1 z2_1_1 l2_1 z3_0_1 l3_1
  have l0_2 : w.heap.size < w2.heap.size := K0_2.out.lt
  have z0_0_2 : w2.cell? ⟨w.heap.size, 0, none⟩ = some (.slice A n c) := K0_2.out.cell 0
  have l1_2 : w.heap.size + 1 < w2.heap.size := K1_2.out.lt
  have z1_0_2 : w2.cell? ⟨w.heap.size + 1, 0, none⟩ = some (.int .i64 (p)) := K1_2.out.cell 0
  have z1_1_2 : w2.cell? ⟨w.heap.size + 1, 1, none⟩ = some (.int .i64 (s)) := K1_2.out.cell 1
  have l2_2 : w.heap.size + 1 + 1 < w2.heap.size := K2_2.out.lt
  have z2_0_2 : w2.cell? ⟨w.heap.size + 1 + 1, 0, none⟩ = some (.int .i64 (0)) := K2_2.out.cell 0
  have z2_1_2 : w2.cell? ⟨w.heap.size + 1 + 1, 1, none⟩ = some (.int .i64 (0)) := K2_2.out.cell 1
  have l3_2 : w.heap.size + 1 + 1 + 1 < w2.heap.size := K3_2.out.lt
  have z3_0_2 : w2.cell? ⟨w.heap.size + 1 + 1 + 1, 0, none⟩ = some (.int .i64 (0)) := K3_2.out.cell 0
  go_wp2_with fail
  refine (tol_is p s 0 HE2.out _).mono ?_
  rintro e w3 ⟨rfl, hb⟩
  have HB3 := Lib.hid (show Below w.heap.size w w3 from step_below hb (by repeat' (first | exact Below.refl _ _ | exact HB2.out | refine below_drewN ?_ _ | refine Below.drew ?_ | refine Below.alloc ?_ (by first | omega | (simp; done) | (simp; omega) | (simp [World.setCell]; omega)) _ | refine Below.setCell ?_ (by first | omega | (simp; done) | (simp; omega)) _ | assumption)))
  have K0_3 := Lib.hid (step_blk hb (show Blk _ (w.heap.size) 22 #[.slice A n c] by repeat' (first | exact K0_2.out | exact K1_2.out | exact K2_2.out | exact K3_2.out | exact Blk.at_ _ (by first | rfl | (simp; done) | (simp; omega)) _ _ | refine Blk.drewN ?_ _ | refine Blk.drew ?_ | refine Blk.alloc ?_ _ | refine Blk.far ?_ (by first | omega | (simp; done) | (simp; omega)) _ | assumption)))
  have K1_3 := Lib.hid (step_blk hb (show Blk _ (w.heap.size + 1) 38 #[.int .i64 (p), .int .i64 (s)] by repeat' (first | exact K0_2.out | exact K1_2.out | exact K2_2.out | exact K3_2.out | exact Blk.at_ _ (by first | rfl | (simp; done) | (simp; omega)) _ _ | refine Blk.drewN ?_ _ | refine Blk.drew ?_ | refine Blk.alloc ?_ _ | refine Blk.far ?_ (by first | omega | (simp; done) | (simp; omega)) _ | assumption)))
  have K2_3 := Lib.hid (step_blk hb (show Blk _ (w.heap.size + 1 + 1) 39 #[.int .i64 (0), .int .i64 (0)] by repeat' (first | exact K0_2.out | exact K1_2.out | exact K2_2.out | exact K3_2.out | exact Blk.at_ _ (by first | rfl | (simp; done) | (simp; omega)) _ _ | refine Blk.drewN ?_ _ | refine Blk.drew ?_ | refine Blk.alloc ?_ _ | refine Blk.far ?_ (by first | omega | (simp; done) | (simp; omega)) _ | assumption)))
  have K3_3 := Lib.hid (step_blk hb (show Blk _ (w.heap.size + 1 + 1 + 1) 29 #[.int .i64 (0)] by repeat' (first | exact K0_2.out | exact K1_2.out | exact K2_2.out | exact K3_2.out | exact Blk.at_ _ (by first | rfl | (simp; done) | (simp; omega)) _ _ | refine Blk.drewN ?_ _ | refine Blk.drew ?_ | refine Blk.alloc ?_ _ | refine Blk.far ?_ (by first | omega | (simp; done) | (simp; omega)) _ | assumption)))
  have hz3 := hb.size
  try simp only [World.size_alloc, World.drewN, World.drew] at hz3
  clear hb K0_2 K1_2 K2_2 K3_2 z0_0_2 l0_2 z1_0_2 z1_1_2 l1_2 z2_0_2 z2_1_2 l2_2 z3_0_2 l3_2
  have l0_3 : w.heap.size < w3.heap.size := K0_3.out.lt
  have z0_0_3 : w3.cell? ⟨w.heap.size, 0, none⟩ = some (.slice A n c) := K0_3.out.cell 0
  have l1_3 : w.heap.size + 1 < w3.heap.size := K1_3.out.lt
  have z1_0_3 : w3.cell? ⟨w.heap.size + 1, 0, none⟩ = some (.int .i64 (p)) := K1_3.out.cell 0
  have z1_1_3 : w3.cell? ⟨w.heap.size + 1, 1, none⟩ = some (.int .i64 (s)) := K1_3.out.cell 1
  have l2_3 : w.heap.size + 1 + 1 < w3.heap.size := K2_3.out.lt
  have z2_0_3 : w3.cell? ⟨w.heap.size + 1 + 1, 0, none⟩ = some (.int .i64 (0)) := K2_3.out.cell 0
  have z2_1_3 : w3.cell? ⟨w.heap.size + 1 + 1, 1, none⟩ = some (.int .i64 (0)) := K2_3.out.cell 1
  have l3_3 : w.heap.size + 1 + 1 + 1 < w3.heap.size := K3_3.out.lt
  have z3_0_3 : w3.cell? ⟨w.heap.size + 1 + 1 + 1, 0, none⟩ = some (.int .i64 (0)) := K3_3.out.cell 0
  go_wp2_with fail
  refine (pairs_any _ _).mono ?_
  rintro e w4 ⟨rfl, hw4⟩
  subst hw4
  have hz3 : w.heap.size + 4 ≤ w3.heap.size := by have := l3_3; omega
  generalize hwn : (w3.alloc (.cells #[.int .i64 ((n : Int))] 3)) = w4
  have hbn : Below w3.heap.size w3 w4 := by rw [← hwn]; repeat' (first | exact Below.refl _ _ | refine below_drewN ?_ _ | refine Below.drew ?_ | refine Below.alloc ?_ (by first | omega | (simp; done) | (simp; omega) | (simp [World.setCell]; omega)) _ | refine Below.setCell ?_ (by first | omega | (simp; done) | (simp; omega)) _)
  have HB4 := Lib.hid (show Below w.heap.size w w4 from HB3.out.trans (hbn.mono HB3.out.size))
  have K0_4 := Lib.hid (step_blk hbn K0_3.out)
  have K1_4 := Lib.hid (step_blk hbn K1_3.out)
  have K2_4 := Lib.hid (step_blk hbn K2_3.out)
  have K3_4 := Lib.hid (step_blk hbn K3_3.out)
  have K4_4 := Lib.hid (show Blk w4 (w3.heap.size) 3 #[.int .i64 ((n : Int))] by rw [← hwn]; repeat' (first | exact Blk.at_ _ (by first | rfl | (simp; done) | (simp; omega)) _ _ | refine Blk.drewN ?_ _ | refine Blk.drew ?_ | refine Blk.alloc ?_ _ | refine Blk.far ?_ (by first | omega | (simp; done) | (simp; omega)) _ | assumption))
  have HN4 := Lib.hid hbn
  have hz4 := hbn.size
  clear hwn hbn K0_3 l0_3 z0_0_3 K1_3 l1_3 z1_0_3 z1_1_3 K2_3 l2_3 z2_0_3 z2_1_3 K3_3 l3_3 z3_0_3
  have l0_4 : w.heap.size < w4.heap.size := K0_4.out.lt
  have z0_0_4 : w4.cell? ⟨w.heap.size, 0, none⟩ = some (.slice A n c) := K0_4.out.cell 0
  have l1_4 : w.heap.size + 1 < w4.heap.size := K1_4.out.lt
  have z1_0_4 : w4.cell? ⟨w.heap.size + 1, 0, none⟩ = some (.int .i64 (p)) := K1_4.out.cell 0
  have z1_1_4 : w4.cell? ⟨w.heap.size + 1, 1, none⟩ = some (.int .i64 (s)) := K1_4.out.cell 1
  have l2_4 : w.heap.size + 1 + 1 < w4.heap.size := K2_4.out.lt
  have z2_0_4 : w4.cell? ⟨w.heap.size + 1 + 1, 0, none⟩ = some (.int .i64 (0)) := K2_4.out.cell 0
  have z2_1_4 : w4.cell? ⟨w.heap.size + 1 + 1, 1, none⟩ = some (.int .i64 (0)) := K2_4.out.cell 1
  have l3_4 : w.heap.size + 1 + 1 + 1 < w4.heap.size := K3_4.out.lt
  have z3_0_4 : w4.cell? ⟨w.heap.size + 1 + 1 + 1, 0, none⟩ = some (.int .i64 (0)) := K3_4.out.cell 0
  have l4_4 : w3.heap.size < w4.heap.size := K4_4.out.lt
  have z4_0_4 : w4.cell? ⟨w3.heap.size, 0, none⟩ = some (.int .i64 ((n : Int))) := K4_4.out.cell 0
  have hs4 := HB4.out.size
  obtain ⟨Bz, hBz⟩ : ∃ b, w3.heap.size = b := ⟨_, rfl⟩
  rw [hBz] at hz3
  have l4_4' : Bz < w4.heap.size := by rw [← hBz]; exact l4_4
  have z4_0_4' : w4.cell? ⟨Bz, 0, none⟩ = some (.int .i64 (n : Int)) := by rw [← hBz]; exact z4_0_4
  rw [hBz]
  go_wp2_with fail
  refine (wpIn_wide (n := 10)).1 ?_
  refine wpIn_rangeFunc_ownG (F := Fence.wide) rfl (by decide) (gf := 119) (lb := #[.pointer (some ⟨Bz, 0, none⟩)]) rfl trivial (enters_of Try.func119 (by kernel_rfl) rfl)
    (pairs_stops n (by omega) Bz 9 w4 l4_4' z4_0_4')
    kpZ_t (kpZ_b l4_4') (Below.refl _ _) (fun _ => rfl)
    (fun (pre : List (Pr n)) W => (NoP (meetB l p s) (prs pre) ∧ w4.grownBy W none))
    (fun cd (pre : List (Pr n)) W => (((cd = .ret ∧ HitP (meetB l p s) (prs pre) (lastP (prs pre))) ∧ Below w.heap.size w4 W) ∧ W.heap[w.heap.size + 1 + 1 + 1]? = some (.cells #[.int .i64 26] 29 (0, 0))) ∧ W.heap[w.heap.size + 1 + 1]? = some (.cells #[.int .i64 ((lastP (prs pre)).1 : Int), .int .i64 ((lastP (prs pre)).2 : Int)] 39 (0, 0)))
    (OwnFrom.and (ownFrom_pure _ _) (Fx.ownFrom_grown (Nat.le_refl _)))
    (fun cd => OwnFrom.and (OwnFrom.and (OwnFrom.and (ownFrom_pure _ _) (ownFrom_below (by omega) (by omega))) Fx.ownFrom_cells) Fx.ownFrom_cells)
    ⟨NoP.nil _, World.grownBy.refl _ _⟩
    (fun x => { tmps := #[.slice A n c, .agg #[.int .i64 p, .int .i64 s], .pointer (some ⟨w.heap.size, 0, none⟩), .pointer (some ⟨w.heap.size + 1, 0, none⟩), .pointer (some ⟨w.heap.size + 1 + 1, 0, none⟩), .pointer (some ⟨w.heap.size + 1 + 1 + 1, 0, none⟩), .int .i64 0, .int .i64 0, .int .i64 (x.1.1 : Int), .int .i64 (x.1.2 : Int), .slice A n c, .int .i64 0, .int .i64 0, .bool false, undef, undef, .agg #[.int .i64 p, .int .i64 s], .int .i64 0, .int .i64 0, .bool false, undef, undef, .slice A n c, .int .i64 (n : Int), .func (.func 119) #[] #[.pointer (some ⟨Bz, 0, none⟩)], .int .i64 (x.1.1 : Int), .int .i64 (x.1.2 : Int)] ++ Array.replicate 25 undef, defers := [] }) ?assign ?body ?done ?stop
  case assign =>
    intro l' x W K hK
    unfold encP
    simp only [Array.replicate_succ, Array.replicate_zero, List.push_toArray, List.append_toArray, List.nil_append, List.cons_append] at hK
    gi_wp2
    exact hK
  case body =>
    rintro l' pre ⟨⟨i0, k0⟩, hi, hk, hne⟩ W ⟨hno, hgr⟩ hlt
    simp only [Array.replicate_succ, Array.replicate_zero, List.push_toArray, List.append_toArray, List.nil_append, List.cons_append]
    have hne : ∀ {g : Nat}, some g ≠ none := fun h => by cases h
    have hB0 : Below w.heap.size w W := HB4.out.grown hgr (by omega) (fun g hg => by cases hg)
    have d0 := (K0_4.out.grown hgr hne).cell 0
    have k1 := K1_4.out.grown hgr hne
    have k2 := K2_4.out.grown hgr hne
    have k3 := K3_4.out.grown hgr hne
    have d1_0 := k1.cell 0
    have d1_1 := k1.cell 1
    have lz := hgr.size
    obtain ⟨bd, hb⟩ : ∃ b, bndF p s i0 k0 = b := ⟨_, rfl⟩
    have hrd : Reads W w.heap.size 1 A n (l.map (.int .i64)) := HX.out.below hB0
    obtain ⟨xb, xo, y, hA, hxb, hpi, ci⟩ := hrd.int_ hi
    obtain ⟨yb, yo, z, hA2, hyb, hpk, ck⟩ := hrd.int_ hk
    subst hA
    obtain ⟨rfl, rfl⟩ : xb = yb ∧ xo = yo := by simpa using hA2
    have r1 := HRG.out _ (List.mem_of_getElem? hpi)
    have r2 := HRG.out _ (List.mem_of_getElem? hpk)
    have e1 := IntWalk.i64_in (y - z) ⟨by omega, by omega⟩
    obtain ⟨d, hdd⟩ : ∃ d : Int, ((y - z).natAbs : Int) = d := ⟨_, rfl⟩
    have hrf : meetB l p s i0 k0 = (decide (i0 < k0) && decide (bd < d)) := by unfold meetB; rw [getD_of hpi, getD_of hpk, hb, hdd]
    have hii : (i0 : Int) < (n : Int) := by omega
    have hkk : (k0 : Int) < (n : Int) := by omega
    have HBD := Lib.hid hb
    have HD := Lib.hid hdd
    have HRF := Lib.hid hrf
    have HGR := Lib.hid hgr
    have HNO := Lib.hid hno
    have HK2 := Lib.hid k2
    have HK3 := Lib.hid k3
    have lk1 : w.heap.size + 1 < W.heap.size := by omega
    have lk0 : w.heap.size < W.heap.size := by omega
    have lkx : xb < W.heap.size := by omega
    clear hA2 hpi hpk hb hdd hrf hgr hno hrd hB0 k1 k2 k3
    by_cases hlk : i0 < k0
    rotate_left
    · have hlk1 : decide (i0 < k0) = false := by simpa using hlk
      have hlk2 : decide ((i0 : Int) < (k0 : Int)) = false := by simp; omega
      gi_wp2_with fail
      refine Fx.regionIn (fun f w' => Below W.heap.size W w') (by kernel_rfl) (by kernel_rfl) (by kernel_rfl) ?_ ?_
      · intro f hf0
        exact below_drewN (Below.refl _ _) 1
      repeat (first
        | (refine Fx.skip_ (by rfl) (fun f w h => h) ?_; simp only [Act.put, List.setIfInBounds_toArray, List.set_cons_zero, List.set_cons_succ])
        | (refine Fx.val_ ?_ (by rfl) ?_ (fun f w h => h) ?_
           rotate_left
           · intro f w' hD hk
             obtain hb := id hD
             have q0 : w'.cell? ⟨w.heap.size, 0, none⟩ = some (.slice (some ⟨xb, xo, none⟩) n c) := (Below.cell hb (p := ⟨w.heap.size, 0, none⟩) (lk0)).trans (d0)
             clear hk hD hb
             go_simp
             try rfl
           simp only [Act.put, List.setIfInBounds_toArray, List.set_cons_zero, List.set_cons_succ]))
      refine Fx.nil_ ?_
      intro f W2 hall hb
      clear hall
      gi_wp2_with fail
      have hns := HNO.out.snoc (x := (i0, k0)) (by rw [HRF.out, hlk1]; rfl)
      refine ⟨keeps_below hb, kpZ_t (kpZ_below hb (by omega)) rfl, ?_, Fx.grown_trans_ HGR.out (only_of_below hb _)⟩
      rw [prs_snoc]; exact hns
    have hlk1 : decide (i0 < k0) = true := by simpa using hlk
    have hlk2 : decide ((i0 : Int) < (k0 : Int)) = true := by simp; omega
    gi_wp2_with fail
    refine Fx.regionIn (fun f w' => Below W.heap.size W w') (by kernel_rfl) (by kernel_rfl) (by kernel_rfl) ?_ ?_
    · intro f hf0
      exact below_drewN (Below.refl _ _) 1
    repeat (first
      | (refine Fx.skip_ (by rfl) (fun f w h => h) ?_; simp only [Act.put, List.setIfInBounds_toArray, List.set_cons_zero, List.set_cons_succ])
      | (refine Fx.val_ ?_ (by rfl) ?_ (fun f w h => h) ?_
         rotate_left
         · intro f w' hD hk
           obtain hb := id hD
           have q0 : w'.cell? ⟨w.heap.size, 0, none⟩ = some (.slice (some ⟨xb, xo, none⟩) n c) := (Below.cell hb (p := ⟨w.heap.size, 0, none⟩) (lk0)).trans (d0)
           have q1 : w'.cell? ⟨w.heap.size + 1, 0, none⟩ = some (.int .i64 (p)) := (Below.cell hb (p := ⟨w.heap.size + 1, 0, none⟩) (lk1)).trans (d1_0)
           have q2 : w'.cell? ⟨w.heap.size + 1, 1, none⟩ = some (.int .i64 (s)) := (Below.cell hb (p := ⟨w.heap.size + 1, 1, none⟩) (lk1)).trans (d1_1)
           have q3 : w'.cell? ⟨xb, xo + i0, none⟩ = some (.int .i64 (y)) := (Below.cell hb (p := ⟨xb, xo + i0, none⟩) (lkx)).trans (ci)
           have q4 : w'.cell? ⟨xb, xo + k0, none⟩ = some (.int .i64 (z)) := (Below.cell hb (p := ⟨xb, xo + k0, none⟩) (lkx)).trans (ck)
           clear hk hD hb
           go_simp
           try rfl
         simp only [Act.put, List.setIfInBounds_toArray, List.set_cons_zero, List.set_cons_succ]))
    refine Fx.call_ (.int .i64 (d)) ?_ ?_ (by rfl) ?_ ?_ ?_
    rotate_left 2
    · intro w'
      go_simp
      refine ⟨?_, ?_⟩ <;> rfl
    · intro f w' hD hk
      exact (size_is _ d HD.out w' (by omega) (by omega)).mono fun e w'' ⟨he, hw⟩ => ⟨he, hw ▸ hD⟩
    simp only [Act.put, List.setIfInBounds_toArray, List.set_cons_zero, List.set_cons_succ]
    repeat (first
      | (refine Fx.skip_ (by rfl) (fun f w h => h) ?_; simp only [Act.put, List.setIfInBounds_toArray, List.set_cons_zero, List.set_cons_succ])
      | (refine Fx.val_ ?_ (by rfl) ?_ (fun f w h => h) ?_
         rotate_left
         · intro f w' hD hk
           obtain hb := id hD
           have q0 : w'.cell? ⟨w.heap.size, 0, none⟩ = some (.slice (some ⟨xb, xo, none⟩) n c) := (Below.cell hb (p := ⟨w.heap.size, 0, none⟩) (lk0)).trans (d0)
           have q1 : w'.cell? ⟨w.heap.size + 1, 0, none⟩ = some (.int .i64 (p)) := (Below.cell hb (p := ⟨w.heap.size + 1, 0, none⟩) (lk1)).trans (d1_0)
           have q2 : w'.cell? ⟨w.heap.size + 1, 1, none⟩ = some (.int .i64 (s)) := (Below.cell hb (p := ⟨w.heap.size + 1, 1, none⟩) (lk1)).trans (d1_1)
           have q3 : w'.cell? ⟨xb, xo + i0, none⟩ = some (.int .i64 (y)) := (Below.cell hb (p := ⟨xb, xo + i0, none⟩) (lkx)).trans (ci)
           have q4 : w'.cell? ⟨xb, xo + k0, none⟩ = some (.int .i64 (z)) := (Below.cell hb (p := ⟨xb, xo + k0, none⟩) (lkx)).trans (ck)
           clear hk hD hb
           go_simp
           try rfl
         simp only [Act.put, List.setIfInBounds_toArray, List.set_cons_zero, List.set_cons_succ]))
    refine Fx.call_ (.int .i64 (bd)) ?_ ?_ (by rfl) ?_ ?_ ?_
    rotate_left 2
    · intro w'
      go_simp
      refine ⟨?_, ?_⟩ <;> rfl
    · intro f w' hD hk
      exact (bound_is p s i0 k0 bd HBD.out w' t1 t2 t3 t4 (by omega) (by omega)).mono fun e w'' ⟨he, hw⟩ => ⟨he, step_below hw hD⟩
    simp only [Act.put, List.setIfInBounds_toArray, List.set_cons_zero, List.set_cons_succ]
    repeat (first
      | (refine Fx.skip_ (by rfl) (fun f w h => h) ?_; simp only [Act.put, List.setIfInBounds_toArray, List.set_cons_zero, List.set_cons_succ])
      | (refine Fx.val_ ?_ (by rfl) ?_ (fun f w h => h) ?_
         rotate_left
         · intro f w' hD hk
           obtain hb := id hD
           have q0 : w'.cell? ⟨w.heap.size, 0, none⟩ = some (.slice (some ⟨xb, xo, none⟩) n c) := (Below.cell hb (p := ⟨w.heap.size, 0, none⟩) (lk0)).trans (d0)
           have q1 : w'.cell? ⟨w.heap.size + 1, 0, none⟩ = some (.int .i64 (p)) := (Below.cell hb (p := ⟨w.heap.size + 1, 0, none⟩) (lk1)).trans (d1_0)
           have q2 : w'.cell? ⟨w.heap.size + 1, 1, none⟩ = some (.int .i64 (s)) := (Below.cell hb (p := ⟨w.heap.size + 1, 1, none⟩) (lk1)).trans (d1_1)
           have q3 : w'.cell? ⟨xb, xo + i0, none⟩ = some (.int .i64 (y)) := (Below.cell hb (p := ⟨xb, xo + i0, none⟩) (lkx)).trans (ci)
           have q4 : w'.cell? ⟨xb, xo + k0, none⟩ = some (.int .i64 (z)) := (Below.cell hb (p := ⟨xb, xo + k0, none⟩) (lkx)).trans (ck)
           clear hk hD hb
           go_simp
           try rfl
         simp only [Act.put, List.setIfInBounds_toArray, List.set_cons_zero, List.set_cons_succ]))
    refine Fx.nil_ ?_
    intro f W2 hall hb
    clear hall
    have hgr2 := Fx.grown_trans_ HGR.out (only_of_below hb none)
    have HG2 := Lib.hid hgr2
    have HBW := Lib.hid hb
    clear hgr2
    have k2 : Blk W2 (w.heap.size + 1 + 1) 39 #[.int .i64 0, .int .i64 0] := Blk.below HK2.out hb (Blk.lt HK2.out)
    have k3 : Blk W2 (w.heap.size + 1 + 1 + 1) 29 #[.int .i64 0] := Blk.below HK3.out hb (Blk.lt HK3.out)
    have y20 := k2.cell 0
    have y21 := k2.cell 1
    have f20 := k2.frozen 0
    have f21 := k2.frozen 1
    have y3 := k3.cell 0
    have f3 := k3.frozen 0
    have HK2' := Lib.hid k2
    have HK3' := Lib.hid k3
    clear k2 k3 hb
    by_cases hd : bd < d
    · have hd' : decide (bd < d) = true := by simpa using hd
      gi_wp2_with fail
      refine ⟨?_, ⟨⟨⟨rfl, ?_⟩, ?_⟩, ?_⟩, ?_⟩
      · exact (((keeps_below HBW.out).trans (keeps_set _ _ _ _)).trans (keeps_set _ _ _ _)).trans (keeps_set _ _ _ _)
      · rw [prs_snoc, lastP_snoc]
        exact HNO.out.hit (by rw [HRF.out, hlk1, hd']; rfl)
      · have h0 : Below w.heap.size w4 W2 := (Below.refl _ _).grown HG2.out (by omega) (fun g hg => by cases hg)
        exact ((h0.setCell (p := ⟨w.heap.size + 1 + 1, 0, none⟩) (by show _ ≤ w.heap.size + 1 + 1; omega) _).setCell (p := ⟨w.heap.size + 1 + 1, 1, none⟩) (by show _ ≤ w.heap.size + 1 + 1; omega) _).setCell (p := ⟨w.heap.size + 1 + 1 + 1, 0, none⟩) (by show _ ≤ w.heap.size + 1 + 1 + 1; omega) _
      · have h0 := (HK3'.out.far (p := ⟨w.heap.size + 1 + 1, 0, none⟩) (by show w.heap.size + 1 + 1 + 1 ≠ w.heap.size + 1 + 1; omega) (.int .i64 (i0 : Int))).far (p := ⟨w.heap.size + 1 + 1, 1, none⟩) (by show w.heap.size + 1 + 1 + 1 ≠ w.heap.size + 1 + 1; omega) (.int .i64 (k0 : Int))
        exact h0.set_ 0 (.int .i64 26)
      · rw [prs_snoc, lastP_snoc]
        have h0 := (HK2'.out.set_ 0 (.int .i64 (i0 : Int))).set_ 1 (.int .i64 (k0 : Int))
        exact h0.far (p := ⟨w.heap.size + 1 + 1 + 1, 0, none⟩) (by show w.heap.size + 1 + 1 ≠ w.heap.size + 1 + 1 + 1; omega) _
    have hd' : decide (bd < d) = false := by simpa using hd
    have hns := HNO.out.snoc (x := (i0, k0)) (by rw [HRF.out, hlk1, hd']; rfl)
    gi_wp2_with fail
    refine ⟨keeps_below HBW.out, kpZ_t (kpZ_below HBW.out (by omega)) rfl, ?_, HG2.out⟩
    rw [prs_snoc]; exact hns
  case stop =>
    rintro D cd pre W hD hsp ⟨⟨⟨⟨rfl, hit⟩, hb⟩, hk3⟩, hk2⟩ hK
    have hf := hit.first hsp
    have hp : t = true ∧ a = (lastP (prs pre)).1 ∧ b = (lastP (prs pre)).2 := by
      have h1 := HO.out
      rw [hf] at h1
      cases t with
      | false => cases h1
      | true =>
        have h2 : lastP (prs pre) = (a, b) := Option.some.inj h1
        exact ⟨rfl, by rw [h2], by rw [h2]⟩
    obtain ⟨rfl, rfl, rfl⟩ := hp
    have hmk : Fx.MarksAt w4.heap.size [D] W := (Fx.MarksAt.nil _ W).cons hD hK (by simp)
    have hb' := HB4.out.trans hb
    clear hb hit hK hf
    gi_wp2_with fail
    refine Fx.leaves_marks [D] W hmk fun w' q1 q2 q3 q4 q5 => ?_
    have b2 := leave_blk hk2 (by omega) q1
    have b3 := leave_blk hk3 (by omega) q1
    have y20 := b2.cell 0
    have y21 := b2.cell 1
    have y3 := b3.cell 0
    have l2 := b2.lt
    have l3 := b3.lt
    exact ⟨.tuple #[.agg #[.int .i64 ((lastP (prs pre)).1 : Int), .int .i64 ((lastP (prs pre)).2 : Int)], .int .i64 26], by simp [results, Try.results33, go_sem, y20, y21, y3, l2, l3], by simp, leave_below hb' (by omega) (Nat.le_refl _) q1 q2 q3 q4 q5⟩
  case done =>
    rintro D ys W hD hys ⟨hno, hgr⟩ hK
    rw [hys] at hno
    have hf := firstP_none hno
    have hp : t = false ∧ a = 0 ∧ b = 0 := by
      have h1 := HO.out
      rw [hf] at h1
      cases t with
      | false => exact ⟨rfl, H0.out rfl⟩
      | true => cases h1
    obtain ⟨rfl, rfl, rfl⟩ := hp
    have hne : ∀ {g : Nat}, some g ≠ none := fun h => by cases h
    have hmk : Fx.MarksAt w4.heap.size [D] W := (Fx.MarksAt.nil _ W).cons hD hK (by simp)
    have k2 := K2_4.out.grown hgr hne
    have k3 := K3_4.out.grown hgr hne
    have y20 := k2.cell 0
    have y21 := k2.cell 1
    have f20 := k2.frozen 0
    have f21 := k2.frozen 1
    have y3 := k3.cell 0
    have f3 := k3.frozen 0
    have HK2 := Lib.hid k2
    have HK3 := Lib.hid k3
    have HGR := Lib.hid hgr
    have HMK := Lib.hid hmk
    clear k2 k3 hgr hno hmk hys hK hf
    go_wp2_with fail
    refine Fx.leaves_marks [D] _ (marks_set (marks_set (marks_set HMK.out (p := ⟨w.heap.size + 1 + 1, 0, none⟩) (by omega) _) (p := ⟨w.heap.size + 1 + 1, 1, none⟩) (by omega) _) (p := ⟨w.heap.size + 1 + 1 + 1, 0, none⟩) (by omega) _) fun w' q1 q2 q3 q4 q5 => ?_
    have b2 := leave_blk (((HK2.out.set_ 0 (.int .i64 0)).set_ 1 (.int .i64 0)).far (p := ⟨w.heap.size + 1 + 1 + 1, 0, none⟩) (by show w.heap.size + 1 + 1 ≠ w.heap.size + 1 + 1 + 1; omega) (.int .i64 0)) (by omega) q1
    have b3 := leave_blk (((HK3.out.far (p := ⟨w.heap.size + 1 + 1, 0, none⟩) (by show w.heap.size + 1 + 1 + 1 ≠ w.heap.size + 1 + 1; omega) (.int .i64 0)).far (p := ⟨w.heap.size + 1 + 1, 1, none⟩) (by show w.heap.size + 1 + 1 + 1 ≠ w.heap.size + 1 + 1; omega) (.int .i64 0)).set_ 0 (.int .i64 0)) (by omega) q1
    have y20 := b2.cell 0
    have y21 := b2.cell 1
    have y3 := b3.cell 0
    simp only [List.setIfInBounds_toArray, List.set_cons_zero, List.set_cons_succ] at y20 y21 y3
    have l2 := b2.lt
    have l3 := b3.lt
    have hB0 : Below w.heap.size w W := HB4.out.grown HGR.out (by omega) (fun g hg => by cases hg)
    have hB1 := ((hB0.setCell (p := ⟨w.heap.size + 1 + 1, 0, none⟩) (by show _ ≤ w.heap.size + 1 + 1; omega) (.int .i64 0)).setCell (p := ⟨w.heap.size + 1 + 1, 1, none⟩) (by show _ ≤ w.heap.size + 1 + 1; omega) (.int .i64 0)).setCell (p := ⟨w.heap.size + 1 + 1 + 1, 0, none⟩) (by show _ ≤ w.heap.size + 1 + 1 + 1; omega) (.int .i64 0)
    exact ⟨.tuple #[.agg #[.int .i64 0, .int .i64 0], .int .i64 0], by simp [results, Try.results33, go_sem, y20, y21, y3, l2, l3], by simp, leave_below hB1 (by omega) (Nat.le_refl _) q1 q2 q3 q4 q5⟩
end Go.Proofs.Ytnepjgnnppfibaa

end

section
/- The errors of the check of a surface; the reference's. -/
namespace Go.Proofs.Ytnepjgnnppfibaa
open Go Go.RowKit Go.Shelf

end Go.Proofs.Ytnepjgnnppfibaa

end

section
/- The contract of the check of a pair that refuses. -/
namespace Go.Proofs.Ytnepjgnnppfibaa
open Go Go.RowKit

end Go.Proofs.Ytnepjgnnppfibaa

end

section
/- The walk of the statement on judgements of enclosures. -/
namespace Go.Proofs.Ytnepjgnnppfibaa
open Go Go.RowKit

def PfR (l : List (Int × Int)) (n ci : Nat) (i : Nat) (x : Pick2) (w : World) : Prop := i = ci → Reads w w.heap.size 2 x.1.1 n (cells2 l)
theorem PfR.stb {l : List (Int × Int)} {n ci : Nat} : Stb (PfR l n ci) := fun _ _ _ _ hb h e => ((h e).below hb).more hb.size

end Go.Proofs.Ytnepjgnnppfibaa

end

section
/- The check of a pair that refuses, of any pair. -/
namespace Go.Proofs.Ytnepjgnnppfibaa
open Go Go.RowKit

/-- The error of a pair that is to refuse. -/
def crefF (l : List (Int × Int)) (p s a b : Int) : Int :=
  if judgeErr l p s ≠ 0 then judgeErr l p s
  else if withinB a 0 ((l.length : Int) - 1) = false ∨ withinB b 0 ((l.length : Int) - 1) = false then 6
  else if a = b then 3
  else if refB l p s a.toNat b.toNat then 0 else 22

end Go.Proofs.Ytnepjgnnppfibaa

end
