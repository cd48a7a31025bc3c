import Derived.Test.YtnepjgnnppfibaaQ19

section
/- The errors of the check of a surface; the reference's. -/
namespace Go.Proofs.Ytnepjgnnppfibaa
open Go Go.RowKit Go.Shelf

theorem take_all {α : Type} {P : α → Prop} {l : List α} {k : Nat} {x : α} (hx : l[k]? = some x) (h : ∀ y ∈ l.take k, P y) (hp : P x) : ∀ y ∈ l.take (k + 1), P y := by
  intro y hy
  rw [List.take_add_one, hx, List.mem_append] at hy
  rcases hy with hy | hy
  · exact h y hy
  · obtain rfl : y = x := by simpa using hy
    exact hp
theorem noP_row {P : Nat → Nat → Bool} {n i : Nat} (h : NoP P (preP n i 0)) (hP : ∀ k, k < i → P i k = false) : NoP P (preP n i (i + 1)) := by
  rw [preP_same]
  have : ∀ k, k ≤ i → NoP P (preP n i k) := by
    intro k
    induction k with
    | zero => exact fun _ => h
    | succ k ih =>
      intro hk
      rw [preP_succ (by omega)]
      exact (ih (by omega)).snoc (hP k (by omega))
  exact this i (Nat.le_refl _)

set_option maxRecDepth 100000 in
set_option maxHeartbeats 4000000 in
theorem meets_bad (A : Option Addr) (n c : Nat) (l : List Int) (p s E : Int) (hE : meetErr l p s = E) (h0 : E ≠ 0) (hn : n ≤ 9223372036854775807) (w : World) (hx : Reads w w.heap.size 1 A n (l.map (.int .i64))) :
    Calls Try.prog 33 #[.slice A n c, .agg #[.int .i64 p, .int .i64 s]] w fun e w' => e = .returned (.tuple #[.agg #[.int .i64 0, .int .i64 0], .int .i64 E]) ∧ Below w.heap.size w w' := by
  have HX := Lib.hid hx
  have e1 : (E != 0) = true := by simpa using h0
  unfold meetErr at hE
  by_cases hh : heightsErr l ≠ 0
  · rw [if_pos hh] at hE
    have HE := Lib.hid hE
    clear hx hE hh
    go_enter Try.func33, Try.ntmps33
    go_wp2_with fail
    generalize hwn : ((((w.alloc (.cells #[.slice A n c] 22)).alloc (.cells #[.int .i64 (p), .int .i64 (s)] 38)).alloc (.cells #[.int .i64 (0), .int .i64 (0)] 39)).alloc (.cells #[.int .i64 (0)] 29)) = w1
    have hbn : Below w.heap.size w w1 := by rw [← hwn]; repeat' (first | exact Below.refl _ _ | refine below_drewN ?_ _ | refine Below.drew ?_ | refine Below.alloc ?_ (by first | omega | (simp; done) | (simp; omega) | (simp [World.setCell]; omega)) _ | refine Below.setCell ?_ (by first | omega | (simp; done) | (simp; omega)) _)
    have HB1 := Lib.hid (show Below w.heap.size w w1 from hbn)
    have K0_1 := Lib.hid (show Blk w1 (w.heap.size) 22 #[.slice A n c] by rw [← hwn]; repeat' (first | exact Blk.at_ _ (by first | rfl | (simp; done) | (simp; omega)) _ _ | refine Blk.drewN ?_ _ | refine Blk.drew ?_ | refine Blk.alloc ?_ _ | refine Blk.far ?_ (by first | omega | (simp; done) | (simp; omega)) _ | assumption))
    have K1_1 := Lib.hid (show Blk w1 (w.heap.size + 1) 38 #[.int .i64 (p), .int .i64 (s)] by rw [← hwn]; repeat' (first | exact Blk.at_ _ (by first | rfl | (simp; done) | (simp; omega)) _ _ | refine Blk.drewN ?_ _ | refine Blk.drew ?_ | refine Blk.alloc ?_ _ | refine Blk.far ?_ (by first | omega | (simp; done) | (simp; omega)) _ | assumption))
    have K2_1 := Lib.hid (show Blk w1 (w.heap.size + 1 + 1) 39 #[.int .i64 (0), .int .i64 (0)] by rw [← hwn]; repeat' (first | exact Blk.at_ _ (by first | rfl | (simp; done) | (simp; omega)) _ _ | refine Blk.drewN ?_ _ | refine Blk.drew ?_ | refine Blk.alloc ?_ _ | refine Blk.far ?_ (by first | omega | (simp; done) | (simp; omega)) _ | assumption))
    have K3_1 := Lib.hid (show Blk w1 (w.heap.size + 1 + 1 + 1) 29 #[.int .i64 (0)] by rw [← hwn]; repeat' (first | exact Blk.at_ _ (by first | rfl | (simp; done) | (simp; omega)) _ _ | refine Blk.drewN ?_ _ | refine Blk.drew ?_ | refine Blk.alloc ?_ _ | refine Blk.far ?_ (by first | omega | (simp; done) | (simp; omega)) _ | assumption))
    have HN1 := Lib.hid hbn
    have hz1 := hbn.size
    clear hwn hbn
    have l0_1 : w.heap.size < w1.heap.size := K0_1.out.lt
    have z0_0_1 : w1.cell? ⟨w.heap.size, 0, none⟩ = some (.slice A n c) := K0_1.out.cell 0
    have l1_1 : w.heap.size + 1 < w1.heap.size := K1_1.out.lt
    have z1_0_1 : w1.cell? ⟨w.heap.size + 1, 0, none⟩ = some (.int .i64 (p)) := K1_1.out.cell 0
    have z1_1_1 : w1.cell? ⟨w.heap.size + 1, 1, none⟩ = some (.int .i64 (s)) := K1_1.out.cell 1
    have l2_1 : w.heap.size + 1 + 1 < w1.heap.size := K2_1.out.lt
    have z2_0_1 : w1.cell? ⟨w.heap.size + 1 + 1, 0, none⟩ = some (.int .i64 (0)) := K2_1.out.cell 0
    have z2_1_1 : w1.cell? ⟨w.heap.size + 1 + 1, 1, none⟩ = some (.int .i64 (0)) := K2_1.out.cell 1
    have l3_1 : w.heap.size + 1 + 1 + 1 < w1.heap.size := K3_1.out.lt
    have z3_0_1 : w1.cell? ⟨w.heap.size + 1 + 1 + 1, 0, none⟩ = some (.int .i64 (0)) := K3_1.out.cell 0
    refine (heights_is A n c l E HE.out _ ((HX.out.below HB1.out).more HB1.out.size) hn).mono ?_
    rintro e w2 ⟨rfl, hb⟩
    have HB2 := Lib.hid (show Below w.heap.size w w2 from step_below hb (by repeat' (first | exact Below.refl _ _ | exact HB1.out | refine below_drewN ?_ _ | refine Below.drew ?_ | refine Below.alloc ?_ (by first | omega | (simp; done) | (simp; omega) | (simp [World.setCell]; omega)) _ | refine Below.setCell ?_ (by first | omega | (simp; done) | (simp; omega)) _ | assumption)))
    have K0_2 := Lib.hid (step_blk hb (show Blk _ (w.heap.size) 22 #[.slice A n c] by repeat' (first | exact K0_1.out | exact K1_1.out | exact K2_1.out | exact K3_1.out | exact Blk.at_ _ (by first | rfl | (simp; done) | (simp; omega)) _ _ | refine Blk.drewN ?_ _ | refine Blk.drew ?_ | refine Blk.alloc ?_ _ | refine Blk.far ?_ (by first | omega | (simp; done) | (simp; omega)) _ | assumption)))
    have K1_2 := Lib.hid (step_blk hb (show Blk _ (w.heap.size + 1) 38 #[.int .i64 (p), .int .i64 (s)] by repeat' (first | exact K0_1.out | exact K1_1.out | exact K2_1.out | exact K3_1.out | exact Blk.at_ _ (by first | rfl | (simp; done) | (simp; omega)) _ _ | refine Blk.drewN ?_ _ | refine Blk.drew ?_ | refine Blk.alloc ?_ _ | refine Blk.far ?_ (by first | omega | (simp; done) | (simp; omega)) _ | assumption)))
    have K2_2 := Lib.hid (step_blk hb (show Blk _ (w.heap.size + 1 + 1) 39 #[.int .i64 (0), .int .i64 (0)] by repeat' (first | exact K0_1.out | exact K1_1.out | exact K2_1.out | exact K3_1.out | exact Blk.at_ _ (by first | rfl | (simp; done) | (simp; omega)) _ _ | refine Blk.drewN ?_ _ | refine Blk.drew ?_ | refine Blk.alloc ?_ _ | refine Blk.far ?_ (by first | omega | (simp; done) | (simp; omega)) _ | assumption)))
    have K3_2 := Lib.hid (step_blk hb (show Blk _ (w.heap.size + 1 + 1 + 1) 29 #[.int .i64 (0)] by repeat' (first | exact K0_1.out | exact K1_1.out | exact K2_1.out | exact K3_1.out | exact Blk.at_ _ (by first | rfl | (simp; done) | (simp; omega)) _ _ | refine Blk.drewN ?_ _ | refine Blk.drew ?_ | refine Blk.alloc ?_ _ | refine Blk.far ?_ (by first | omega | (simp; done) | (simp; omega)) _ | assumption)))
    have hz2 := hb.size
    try simp only [World.size_alloc, World.drewN, World.drew] at hz2
    clear hb K0_1 K1_1 K2_1 K3_1 z0_0_1 l0_1 z1_0_1 z1_1_1 l1_1 z2_0_1 z2_1_1 l2_1 z3_0_1 l3_1
    have l0_2 : w.heap.size < w2.heap.size := K0_2.out.lt
    have z0_0_2 : w2.cell? ⟨w.heap.size, 0, none⟩ = some (.slice A n c) := K0_2.out.cell 0
    have l1_2 : w.heap.size + 1 < w2.heap.size := K1_2.out.lt
    have z1_0_2 : w2.cell? ⟨w.heap.size + 1, 0, none⟩ = some (.int .i64 (p)) := K1_2.out.cell 0
    have z1_1_2 : w2.cell? ⟨w.heap.size + 1, 1, none⟩ = some (.int .i64 (s)) := K1_2.out.cell 1
    have l2_2 : w.heap.size + 1 + 1 < w2.heap.size := K2_2.out.lt
    have z2_0_2 : w2.cell? ⟨w.heap.size + 1 + 1, 0, none⟩ = some (.int .i64 (0)) := K2_2.out.cell 0
    have z2_1_2 : w2.cell? ⟨w.heap.size + 1 + 1, 1, none⟩ = some (.int .i64 (0)) := K2_2.out.cell 1
    have l3_2 : w.heap.size + 1 + 1 + 1 < w2.heap.size := K3_2.out.lt
    have z3_0_2 : w2.cell? ⟨w.heap.size + 1 + 1 + 1, 0, none⟩ = some (.int .i64 (0)) := K3_2.out.cell 0
    have zf2_0 := K2_2.out.frozen 0
    have zf2_1 := K2_2.out.frozen 1
    have zf3_0 := K3_2.out.frozen 0
    go_wp2
    exact bodyPost_ret (v := .tuple #[.agg #[.int .i64 0, .int .i64 0], .int .i64 E]) (by simp [results, Try.results33, go_sem, z2_0_2, z2_1_2, z3_0_2, l2_2, l3_2]) rfl ⟨rfl, by repeat' (first | exact Below.refl _ _ | exact HB2.out | refine below_drewN ?_ _ | refine Below.drew ?_ | refine Below.alloc ?_ (by first | omega | (simp; done) | (simp; omega) | (simp [World.setCell]; omega)) _ | refine Below.setCell ?_ (by first | omega | (simp; done) | (simp; omega)) _ | assumption)⟩
  · rw [if_neg hh] at hE
    have HE := Lib.hid hE
    have HE1 := Lib.hid (Decidable.not_not.1 hh)
    clear hx hE hh
    go_enter Try.func33, Try.ntmps33
    go_wp2_with fail
    generalize hwn : ((((w.alloc (.cells #[.slice A n c] 22)).alloc (.cells #[.int .i64 (p), .int .i64 (s)] 38)).alloc (.cells #[.int .i64 (0), .int .i64 (0)] 39)).alloc (.cells #[.int .i64 (0)] 29)) = w1
    have hbn : Below w.heap.size w w1 := by rw [← hwn]; repeat' (first | exact Below.refl _ _ | refine below_drewN ?_ _ | refine Below.drew ?_ | refine Below.alloc ?_ (by first | omega | (simp; done) | (simp; omega) | (simp [World.setCell]; omega)) _ | refine Below.setCell ?_ (by first | omega | (simp; done) | (simp; omega)) _)
    have HB1 := Lib.hid (show Below w.heap.size w w1 from hbn)
    have K0_1 := Lib.hid (show Blk w1 (w.heap.size) 22 #[.slice A n c] by rw [← hwn]; repeat' (first | exact Blk.at_ _ (by first | rfl | (simp; done) | (simp; omega)) _ _ | refine Blk.drewN ?_ _ | refine Blk.drew ?_ | refine Blk.alloc ?_ _ | refine Blk.far ?_ (by first | omega | (simp; done) | (simp; omega)) _ | assumption))
    have K1_1 := Lib.hid (show Blk w1 (w.heap.size + 1) 38 #[.int .i64 (p), .int .i64 (s)] by rw [← hwn]; repeat' (first | exact Blk.at_ _ (by first | rfl | (simp; done) | (simp; omega)) _ _ | refine Blk.drewN ?_ _ | refine Blk.drew ?_ | refine Blk.alloc ?_ _ | refine Blk.far ?_ (by first | omega | (simp; done) | (simp; omega)) _ | assumption))
    have K2_1 := Lib.hid (show Blk w1 (w.heap.size + 1 + 1) 39 #[.int .i64 (0), .int .i64 (0)] by rw [← hwn]; repeat' (first | exact Blk.at_ _ (by first | rfl | (simp; done) | (simp; omega)) _ _ | refine Blk.drewN ?_ _ | refine Blk.drew ?_ | refine Blk.alloc ?_ _ | refine Blk.far ?_ (by first | omega | (simp; done) | (simp; omega)) _ | assumption))
    have K3_1 := Lib.hid (show Blk w1 (w.heap.size + 1 + 1 + 1) 29 #[.int .i64 (0)] by rw [← hwn]; repeat' (first | exact Blk.at_ _ (by first | rfl | (simp; done) | (simp; omega)) _ _ | refine Blk.drewN ?_ _ | refine Blk.drew ?_ | refine Blk.alloc ?_ _ | refine Blk.far ?_ (by first | omega | (simp; done) | (simp; omega)) _ | assumption))
    have HN1 := Lib.hid hbn
    have hz1 := hbn.size
    clear hwn hbn
    have l0_1 : w.heap.size < w1.heap.size := K0_1.out.lt
    have z0_0_1 : w1.cell? ⟨w.heap.size, 0, none⟩ = some (.slice A n c) := K0_1.out.cell 0
    have l1_1 : w.heap.size + 1 < w1.heap.size := K1_1.out.lt
    have z1_0_1 : w1.cell? ⟨w.heap.size + 1, 0, none⟩ = some (.int .i64 (p)) := K1_1.out.cell 0
    have z1_1_1 : w1.cell? ⟨w.heap.size + 1, 1, none⟩ = some (.int .i64 (s)) := K1_1.out.cell 1
    have l2_1 : w.heap.size + 1 + 1 < w1.heap.size := K2_1.out.lt
    have z2_0_1 : w1.cell? ⟨w.heap.size + 1 + 1, 0, none⟩ = some (.int .i64 (0)) := K2_1.out.cell 0
    have z2_1_1 : w1.cell? ⟨w.heap.size + 1 + 1, 1, none⟩ = some (.int .i64 (0)) := K2_1.out.cell 1
    have l3_1 : w.heap.size + 1 + 1 + 1 < w1.heap.size := K3_1.out.lt
    have z3_0_1 : w1.cell? ⟨w.heap.size + 1 + 1 + 1, 0, none⟩ = some (.int .i64 (0)) := K3_1.out.cell 0
    refine (heights_is A n c l 0 HE1.out _ ((HX.out.below HB1.out).more HB1.out.size) hn).mono ?_
    rintro e w2 ⟨rfl, hb⟩
    have HB2 := Lib.hid (show Below w.heap.size w w2 from step_below hb (by repeat' (first | exact Below.refl _ _ | exact HB1.out | refine below_drewN ?_ _ | refine Below.drew ?_ | refine Below.alloc ?_ (by first | omega | (simp; done) | (simp; omega) | (simp [World.setCell]; omega)) _ | refine Below.setCell ?_ (by first | omega | (simp; done) | (simp; omega)) _ | assumption)))
    have K0_2 := Lib.hid (step_blk hb (show Blk _ (w.heap.size) 22 #[.slice A n c] by repeat' (first | exact K0_1.out | exact K1_1.out | exact K2_1.out | exact K3_1.out | exact Blk.at_ _ (by first | rfl | (simp; done) | (simp; omega)) _ _ | refine Blk.drewN ?_ _ | refine Blk.drew ?_ | refine Blk.alloc ?_ _ | refine Blk.far ?_ (by first | omega | (simp; done) | (simp; omega)) _ | assumption)))
    have K1_2 := Lib.hid (step_blk hb (show Blk _ (w.heap.size + 1) 38 #[.int .i64 (p), .int .i64 (s)] by repeat' (first | exact K0_1.out | exact K1_1.out | exact K2_1.out | exact K3_1.out | exact Blk.at_ _ (by first | rfl | (simp; done) | (simp; omega)) _ _ | refine Blk.drewN ?_ _ | refine Blk.drew ?_ | refine Blk.alloc ?_ _ | refine Blk.far ?_ (by first | omega | (simp; done) | (simp; omega)) _ | assumption)))
    have K2_2 := Lib.hid (step_blk hb (show Blk _ (w.heap.size + 1 + 1) 39 #[.int .i64 (0), .int .i64 (0)] by repeat' (first | exact K0_1.out | exact K1_1.out | exact K2_1.out | exact K3_1.out | exact Blk.at_ _ (by first | rfl | (simp; done) | (simp; omega)) _ _ | refine Blk.drewN ?_ _ | refine Blk.drew ?_ | refine Blk.alloc ?_ _ | refine Blk.far ?_ (by first | omega | (simp; done) | (simp; omega)) _ | assumption)))
    have K3_2 := Lib.hid (step_blk hb (show Blk _ (w.heap.size + 1 + 1 + 1) 29 #[.int .i64 (0)] by repeat' (first | exact K0_1.out | exact K1_1.out | exact K2_1.out | exact K3_1.out | exact Blk.at_ _ (by first | rfl | (simp; done) | (simp; omega)) _ _ | refine Blk.drewN ?_ _ | refine Blk.drew ?_ | refine Blk.alloc ?_ _ | refine Blk.far ?_ (by first | omega | (simp; done) | (simp; omega)) _ | assumption)))
    have hz2 := hb.size
    try simp only [World.size_alloc, World.drewN, World.drew] at hz2
    clear hb K0_1 K1_1 K2_1 K3_1 z0_0_1 l0_1 z1_0_1 z1_1_1 l1_1 z2_0_1 z2_1_1 l2_1 z3_0_1 l3_1
    have l0_2 : w.heap.size < w2.heap.size := K0_2.out.lt
    have z0_0_2 : w2.cell? ⟨w.heap.size, 0, none⟩ = some (.slice A n c) := K0_2.out.cell 0
    have l1_2 : w.heap.size + 1 < w2.heap.size := K1_2.out.lt
    have z1_0_2 : w2.cell? ⟨w.heap.size + 1, 0, none⟩ = some (.int .i64 (p)) := K1_2.out.cell 0
    have z1_1_2 : w2.cell? ⟨w.heap.size + 1, 1, none⟩ = some (.int .i64 (s)) := K1_2.out.cell 1
    have l2_2 : w.heap.size + 1 + 1 < w2.heap.size := K2_2.out.lt
    have z2_0_2 : w2.cell? ⟨w.heap.size + 1 + 1, 0, none⟩ = some (.int .i64 (0)) := K2_2.out.cell 0
    have z2_1_2 : w2.cell? ⟨w.heap.size + 1 + 1, 1, none⟩ = some (.int .i64 (0)) := K2_2.out.cell 1
    have l3_2 : w.heap.size + 1 + 1 + 1 < w2.heap.size := K3_2.out.lt
    have z3_0_2 : w2.cell? ⟨w.heap.size + 1 + 1 + 1, 0, none⟩ = some (.int .i64 (0)) := K3_2.out.cell 0
    go_wp2_with fail
    refine (tol_is p s E HE.out _).mono ?_
    rintro e w3 ⟨rfl, hb⟩
    have HB3 := Lib.hid (show Below w.heap.size w w3 from step_below hb (by repeat' (first | exact Below.refl _ _ | exact HB2.out | refine below_drewN ?_ _ | refine Below.drew ?_ | refine Below.alloc ?_ (by first | omega | (simp; done) | (simp; omega) | (simp [World.setCell]; omega)) _ | refine Below.setCell ?_ (by first | omega | (simp; done) | (simp; omega)) _ | assumption)))
    have K0_3 := Lib.hid (step_blk hb (show Blk _ (w.heap.size) 22 #[.slice A n c] by repeat' (first | exact K0_2.out | exact K1_2.out | exact K2_2.out | exact K3_2.out | exact Blk.at_ _ (by first | rfl | (simp; done) | (simp; omega)) _ _ | refine Blk.drewN ?_ _ | refine Blk.drew ?_ | refine Blk.alloc ?_ _ | refine Blk.far ?_ (by first | omega | (simp; done) | (simp; omega)) _ | assumption)))
    have K1_3 := Lib.hid (step_blk hb (show Blk _ (w.heap.size + 1) 38 #[.int .i64 (p), .int .i64 (s)] by repeat' (first | exact K0_2.out | exact K1_2.out | exact K2_2.out | exact K3_2.out | exact Blk.at_ _ (by first | rfl | (simp; done) | (simp; omega)) _ _ | refine Blk.drewN ?_ _ | refine Blk.drew ?_ | refine Blk.alloc ?_ _ | refine Blk.far ?_ (by first | omega | (simp; done) | (simp; omega)) _ | assumption)))
    have K2_3 := Lib.hid (step_blk hb (show Blk _ (w.heap.size + 1 + 1) 39 #[.int .i64 (0), .int .i64 (0)] by repeat' (first | exact K0_2.out | exact K1_2.out | exact K2_2.out | exact K3_2.out | exact Blk.at_ _ (by first | rfl | (simp; done) | (simp; omega)) _ _ | refine Blk.drewN ?_ _ | refine Blk.drew ?_ | refine Blk.alloc ?_ _ | refine Blk.far ?_ (by first | omega | (simp; done) | (simp; omega)) _ | assumption)))
    have K3_3 := Lib.hid (step_blk hb (show Blk _ (w.heap.size + 1 + 1 + 1) 29 #[.int .i64 (0)] by repeat' (first | exact K0_2.out | exact K1_2.out | exact K2_2.out | exact K3_2.out | exact Blk.at_ _ (by first | rfl | (simp; done) | (simp; omega)) _ _ | refine Blk.drewN ?_ _ | refine Blk.drew ?_ | refine Blk.alloc ?_ _ | refine Blk.far ?_ (by first | omega | (simp; done) | (simp; omega)) _ | assumption)))
    have hz3 := hb.size
    try simp only [World.size_alloc, World.drewN, World.drew] at hz3
    clear hb K0_2 K1_2 K2_2 K3_2 z0_0_2 l0_2 z1_0_2 z1_1_2 l1_2 z2_0_2 z2_1_2 l2_2 z3_0_2 l3_2
    have l0_3 : w.heap.size < w3.heap.size := K0_3.out.lt
    have z0_0_3 : w3.cell? ⟨w.heap.size, 0, none⟩ = some (.slice A n c) := K0_3.out.cell 0
    have l1_3 : w.heap.size + 1 < w3.heap.size := K1_3.out.lt
    have z1_0_3 : w3.cell? ⟨w.heap.size + 1, 0, none⟩ = some (.int .i64 (p)) := K1_3.out.cell 0
    have z1_1_3 : w3.cell? ⟨w.heap.size + 1, 1, none⟩ = some (.int .i64 (s)) := K1_3.out.cell 1
    have l2_3 : w.heap.size + 1 + 1 < w3.heap.size := K2_3.out.lt
    have z2_0_3 : w3.cell? ⟨w.heap.size + 1 + 1, 0, none⟩ = some (.int .i64 (0)) := K2_3.out.cell 0
    have z2_1_3 : w3.cell? ⟨w.heap.size + 1 + 1, 1, none⟩ = some (.int .i64 (0)) := K2_3.out.cell 1
    have l3_3 : w.heap.size + 1 + 1 + 1 < w3.heap.size := K3_3.out.lt
    have z3_0_3 : w3.cell? ⟨w.heap.size + 1 + 1 + 1, 0, none⟩ = some (.int .i64 (0)) := K3_3.out.cell 0
    have zf2_0 := K2_3.out.frozen 0
    have zf2_1 := K2_3.out.frozen 1
    have zf3_0 := K3_3.out.frozen 0
    go_wp2
    exact bodyPost_ret (v := .tuple #[.agg #[.int .i64 0, .int .i64 0], .int .i64 E]) (by simp [results, Try.results33, go_sem, z2_0_3, z2_1_3, z3_0_3, l2_3, l3_3]) rfl ⟨rfl, by repeat' (first | exact Below.refl _ _ | exact HB3.out | refine below_drewN ?_ _ | refine Below.drew ?_ | refine Below.alloc ?_ (by first | omega | (simp; done) | (simp; omega) | (simp [World.setCell]; omega)) _ | refine Below.setCell ?_ (by first | omega | (simp; done) | (simp; omega)) _ | assumption)⟩

set_option maxRecDepth 100000 in
theorem rheights_is (A : Option Addr) (n c : Nat) (l : List Int) (E : Int) (hE : heightsErr l = E) (w : World) (hx : Reads w w.heap.size 1 A n (l.map (.int .i64))) :
    Calls Try.prog 37 #[.slice A n c] w fun e w' => e = .returned (.int .i64 E) ∧ Below w.heap.size w w' := by
  have hl : l.length = n := by have := hx.1; simpa using this
  unfold heightsErr at hE
  rw [hl] at hE
  cases hz : withinB (n : Int) 1 40
  · rw [if_pos (zones_no hz)] at hE
    subst hE
    have HZ := Lib.hid hz
    clear hz hl
    go_enter Try.func37, Try.ntmps37
    go_wp2_with fail
    refine (withinref_is _ _ _ false HZ.out _).mono ?_
    rintro e w' ⟨rfl, rfl⟩
    go_wp2
    go_ret
    exact ⟨rfl, by repeat' (first | exact Below.refl _ _ | exact HB0.out | refine below_drewN ?_ _ | refine Below.drew ?_ | refine Below.alloc ?_ (by first | omega | (simp; done) | (simp; omega) | (simp [World.setCell]; omega)) _ | refine Below.setCell ?_ (by first | omega | (simp; done) | (simp; omega)) _ | assumption)⟩
  have hn40 : n ≤ 40 := by have := within_yes hz; omega
  rw [if_neg (zones_yes hz)] at hE
  have HE := Lib.hid hE
  have HL := Lib.hid hl
  have HZ := Lib.hid hz
  have HX := Lib.hid hx
  clear hz hx hl hE
  go_enter Try.func37, Try.ntmps37
  go_wp2_with fail
  refine (withinref_is _ _ _ true HZ.out _).mono ?_
  rintro e w' ⟨rfl, rfl⟩
  go_wp2
  go_loopw [3] (fun i wr => ∃ k : Nat, k ≤ n ∧ i = .int .i64 k ∧ Below w.heap.size w wr ∧ ∀ x ∈ l.take k, hgtB x = true) (fun i _ => n - (intOf i).toNat)
  case atStart => exact ⟨0, by omega, rfl, Below.refl _ _, by simp⟩
  case round =>
    obtain ⟨k, hk, rfl, hb, hup⟩ := hrel
    obtain ⟨w1, hnm⟩ : ∃ z : World, z = wr := ⟨_, rfl⟩
    subst hnm
    have HUP := Lib.hid hup
    have hrd : Reads w1 w.heap.size 1 A n (l.map (.int .i64)) := HX.out.below hb
    have HBW := Lib.hid hb
    clear hup
    by_cases hlt : k < n
    · obtain ⟨xb, xo, z, rfl, hxb, hp, c0⟩ := hrd.int_ hlt
      have HP := Lib.hid hp
      have hzb := hb.size
      clear hp hrd hb
      have hkk : (k : Int) < (n : Int) := by omega
      cases h1 : hgtB z
      · have H1 := Lib.hid h1
        have hany : l.any (fun z => !(hgtB z)) = true := List.any_eq_true.2 ⟨z, List.mem_of_getElem? HP.out, by rw [h1]; rfl⟩
        have hEE : (2 : Int) = E := by have := HE.out; rw [hany] at this; exact this
        have HEE := Lib.hid hEE
        clear h1 hany hEE
        go_wp2_with fail
        refine (figheight_is _ false H1.out _).mono ?_
        rintro e w' ⟨rfl, rfl⟩
        go_wp2
        go_ret
        exact ⟨ret_int HEE.out, HBW.out⟩
      · have H1 := Lib.hid h1
        have HU := Lib.hid (take_all HP.out HUP.out h1)
        clear h1
        go_wp2_with fail
        refine (figheight_is _ true H1.out _).mono ?_
        rintro e w' ⟨rfl, rfl⟩
        go_wp2
        go_roundw
        case rel => exact ⟨k + 1, by omega, by go_num, HBW.out, HU.out⟩
        case measure => simp [intOf]; omega
    · obtain rfl : n = k := by omega
      have hall : l.any (fun z => !(hgtB z)) = false := by
        rw [List.any_eq_false]
        intro x hx
        have := HUP.out x (by rw [← HL.out, List.take_length]; exact hx)
        simp [this]
      have hEE : (0 : Int) = E := by have := HE.out; rw [hall] at this; exact this
      have HEE := Lib.hid hEE
      clear hrd hb hall hEE
      go_wp2
      go_ret
      exact ⟨ret_int HEE.out, HBW.out⟩

set_option maxRecDepth 100000 in
set_option maxHeartbeats 4000000 in
theorem rmeets_is (A : Option Addr) (n c : Nat) (l : List Int) (p s : Int) (hE : meetErr l p s = 0) (a b : Nat) (t : Bool) (ho : firstP n (meetB l p s) = if t then some (a, b) else none) (h0 : t = false → a = 0 ∧ b = 0) (w : World) (hx : Reads w w.heap.size 1 A n (l.map (.int .i64))) :
    Calls Try.prog 38 #[.slice A n c, .agg #[.int .i64 p, .int .i64 s]] w fun e w' => e = .returned (.tuple #[.agg #[.int .i64 (a : Int), .int .i64 (b : Int)], .bool t]) ∧ Below w.heap.size w w' := by
  have hl : l.length = n := by have := hx.1; simpa using this
  obtain ⟨hE1, hE2⟩ := meetErr_ok hE
  obtain ⟨n1, n2, hr⟩ := heights_ok hE1
  obtain ⟨t1, t2, t3, t4⟩ := tol_ok hE2
  rw [hl] at n1 n2
  have HX := Lib.hid hx
  have HO := Lib.hid ho
  have H0 := Lib.hid h0
  have HRG := Lib.hid hr
  clear hx hE hl hE1 hE2 hr ho h0
  go_enter Try.func38, Try.ntmps38
  go_wp2
  generalize hwn : ((w.alloc (.cells #[.int .i64 (p), .int .i64 (s)] 38)).alloc (.cells #[.int .i64 (0), .int .i64 (0)] 39)) = w1
  have hbn : Below w.heap.size w w1 := by rw [← hwn]; repeat' (first | exact Below.refl _ _ | refine below_drewN ?_ _ | refine Below.drew ?_ | refine Below.alloc ?_ (by first | omega | (simp; done) | (simp; omega) | (simp [World.setCell]; omega)) _ | refine Below.setCell ?_ (by first | omega | (simp; done) | (simp; omega)) _)
  have HB1 := Lib.hid (show Below w.heap.size w w1 from hbn)
  have K0_1 := Lib.hid (show Blk w1 (w.heap.size) 38 #[.int .i64 (p), .int .i64 (s)] by rw [← hwn]; repeat' (first | exact Blk.at_ _ (by first | rfl | (simp; done) | (simp; omega)) _ _ | refine Blk.drewN ?_ _ | refine Blk.drew ?_ | refine Blk.alloc ?_ _ | refine Blk.far ?_ (by first | omega | (simp; done) | (simp; omega)) _ | assumption))
  have K1_1 := Lib.hid (show Blk w1 (w.heap.size + 1) 39 #[.int .i64 (0), .int .i64 (0)] by rw [← hwn]; repeat' (first | exact Blk.at_ _ (by first | rfl | (simp; done) | (simp; omega)) _ _ | refine Blk.drewN ?_ _ | refine Blk.drew ?_ | refine Blk.alloc ?_ _ | refine Blk.far ?_ (by first | omega | (simp; done) | (simp; omega)) _ | assumption))
  have HN1 := Lib.hid hbn
  have hz1 := hbn.size
  clear hwn hbn
  have l0_1 : w.heap.size < w1.heap.size := K0_1.out.lt
  have z0_0_1 : w1.cell? ⟨w.heap.size, 0, none⟩ = some (.int .i64 (p)) := K0_1.out.cell 0
  have z0_1_1 : w1.cell? ⟨w.heap.size, 1, none⟩ = some (.int .i64 (s)) := K0_1.out.cell 1
  have l1_1 : w.heap.size + 1 < w1.heap.size := K1_1.out.lt
  have z1_0_1 : w1.cell? ⟨w.heap.size + 1, 0, none⟩ = some (.int .i64 (0)) := K1_1.out.cell 0
  have z1_1_1 : w1.cell? ⟨w.heap.size + 1, 1, none⟩ = some (.int .i64 (0)) := K1_1.out.cell 1
  have hs1 := HB1.out.size
  have KA := K0_1
  have KB := K1_1
  go_loopw [6] (fun v wr => ∃ i : Nat, i ≤ n ∧ v = .int .i64 i ∧ Below w1.heap.size w1 wr ∧ NoP (meetB l p s) (preP n i 0)) (fun v _ => n - (intOf v).toNat)
  case atStart => exact ⟨0, by omega, rfl, Below.refl _ _, NoP.nil _⟩
  case round =>
    obtain ⟨i, hi, rfl, hb, hno⟩ := hrel
    obtain ⟨w2, hnm⟩ : ∃ z : World, z = wr := ⟨_, rfl⟩
    subst hnm
    have HBI := Lib.hid hb
    have HNO := Lib.hid hno
    have HB2 := Lib.hid (show Below w.heap.size w w2 from step_below hb (by repeat' (first | exact Below.refl _ _ | exact HB1.out | refine below_drewN ?_ _ | refine Below.drew ?_ | refine Below.alloc ?_ (by first | omega | (simp; done) | (simp; omega) | (simp [World.setCell]; omega)) _ | refine Below.setCell ?_ (by first | omega | (simp; done) | (simp; omega)) _ | assumption)))
    have K0_2 := Lib.hid (step_blk hb (show Blk _ (w.heap.size) 38 #[.int .i64 (p), .int .i64 (s)] by repeat' (first | exact K0_1.out | exact K1_1.out | exact Blk.at_ _ (by first | rfl | (simp; done) | (simp; omega)) _ _ | refine Blk.drewN ?_ _ | refine Blk.drew ?_ | refine Blk.alloc ?_ _ | refine Blk.far ?_ (by first | omega | (simp; done) | (simp; omega)) _ | assumption)))
    have K1_2 := Lib.hid (step_blk hb (show Blk _ (w.heap.size + 1) 39 #[.int .i64 (0), .int .i64 (0)] by repeat' (first | exact K0_1.out | exact K1_1.out | exact Blk.at_ _ (by first | rfl | (simp; done) | (simp; omega)) _ _ | refine Blk.drewN ?_ _ | refine Blk.drew ?_ | refine Blk.alloc ?_ _ | refine Blk.far ?_ (by first | omega | (simp; done) | (simp; omega)) _ | assumption)))
    have hz2 := hb.size
    try simp only [World.size_alloc, World.drewN, World.drew] at hz2
    clear hb K0_1 K1_1 z0_0_1 z0_1_1 l0_1 z1_0_1 z1_1_1 l1_1
    have l0_2 : w.heap.size < w2.heap.size := K0_2.out.lt
    have z0_0_2 : w2.cell? ⟨w.heap.size, 0, none⟩ = some (.int .i64 (p)) := K0_2.out.cell 0
    have z0_1_2 : w2.cell? ⟨w.heap.size, 1, none⟩ = some (.int .i64 (s)) := K0_2.out.cell 1
    have l1_2 : w.heap.size + 1 < w2.heap.size := K1_2.out.lt
    have z1_0_2 : w2.cell? ⟨w.heap.size + 1, 0, none⟩ = some (.int .i64 (0)) := K1_2.out.cell 0
    have z1_1_2 : w2.cell? ⟨w.heap.size + 1, 1, none⟩ = some (.int .i64 (0)) := K1_2.out.cell 1
    clear hno
    by_cases hlt : i < n
    rotate_left
    · obtain rfl : i = n := by omega
      have hnone : firstP i (meetB l p s) = none := firstP_none (by rw [← preP_all]; exact HNO.out)
      have ht : t = false := by
        have h1 := HO.out
        rw [hnone] at h1
        cases t with
        | false => rfl
        | true => cases h1
      subst ht
      obtain ⟨rfl, rfl⟩ := H0.out rfl
      have zf1_0 := K1_2.out.frozen 0
      have zf1_1 := K1_2.out.frozen 1
      go_wp2
      exact bodyPost_ret (v := .tuple #[.agg #[.int .i64 0, .int .i64 0], .bool false]) (by simp [results, Try.results38, go_sem, z1_0_2, z1_1_2, l1_2]) rfl ⟨rfl, by repeat' (first | exact Below.refl _ _ | exact HB2.out | refine below_drewN ?_ _ | refine Below.drew ?_ | refine Below.alloc ?_ (by first | omega | (simp; done) | (simp; omega) | (simp [World.setCell]; omega)) _ | refine Below.setCell ?_ (by first | omega | (simp; done) | (simp; omega)) _ | assumption)⟩
    have hii : (i : Int) < (n : Int) := by omega
    obtain ⟨i1, hi1⟩ : ∃ i1 : Nat, i1 = i + 1 := ⟨_, rfl⟩
    have hw1 : IntKind.i64.wrap ((i : Int) + 1) = (i1 : Int) := by rw [hi1]; exact (IntWalk.i64_in _ ⟨by omega, by omega⟩).trans (by omega)
    have hns1 : NoP (meetB l p s) (preP n i i1) := by
      rw [hi1]
      refine noP_row HNO.out fun k hk => ?_
      unfold meetB
      rw [decide_eq_false (by omega : ¬ i < k), Bool.false_and]
    have HN1 := Lib.hid hns1
    have HI1 := Lib.hid hi1
    have hi1n : i1 ≤ n := by omega
    clear hns1 hi1
    go_wp2
    go_loopw [7] (fun v wr => ∃ k : Nat, i1 ≤ k ∧ k ≤ n ∧ v = .int .i64 k ∧ Below w1.heap.size w1 wr ∧ NoP (meetB l p s) (preP n i k)) (fun v _ => n - (intOf v).toNat)
    case atStart => exact ⟨i1, Nat.le_refl _, hi1n, rfl, HBI.out, HN1.out⟩
    case round =>
      obtain ⟨k, hik, hk, rfl, hb3, hno3⟩ := hrel
      obtain ⟨w3, hnm⟩ : ∃ z : World, z = wr := ⟨_, rfl⟩
      subst hnm
      have HBK := Lib.hid hb3
      have HNO3 := Lib.hid hno3
      have hb' := HB1.out.trans (hb3.mono HB1.out.size)
      have k0 := Blk.below KA.out hb3 KA.out.lt
      have k1 := Blk.below KB.out hb3 KB.out.lt
      have hrd := HX.out.below hb'
      clear hno3 hb3
      have HB3 := Lib.hid hb'
      have K0_3 := Lib.hid (show Blk w3 (w.heap.size) 38 #[.int .i64 (p), .int .i64 (s)] from k0)
      have K1_3 := Lib.hid (show Blk w3 (w.heap.size + 1) 39 #[.int .i64 (0), .int .i64 (0)] from k1)
      clear hb' k0 k1
      have l0_3 : w.heap.size < w3.heap.size := K0_3.out.lt
      have z0_0_3 : w3.cell? ⟨w.heap.size, 0, none⟩ = some (.int .i64 (p)) := K0_3.out.cell 0
      have z0_1_3 : w3.cell? ⟨w.heap.size, 1, none⟩ = some (.int .i64 (s)) := K0_3.out.cell 1
      have l1_3 : w.heap.size + 1 < w3.heap.size := K1_3.out.lt
      have z1_0_3 : w3.cell? ⟨w.heap.size + 1, 0, none⟩ = some (.int .i64 (0)) := K1_3.out.cell 0
      have z1_1_3 : w3.cell? ⟨w.heap.size + 1, 1, none⟩ = some (.int .i64 (0)) := K1_3.out.cell 1
      by_cases hkt : k < n
      rotate_left
      · obtain rfl : k = n := by omega
        go_wp2
        go_roundw
        case rel => exact ⟨i1, hi1n, rfl, HBK.out, by rw [HI1.out, preP_row]; exact HNO3.out⟩
        case measure => have := HI1.out; simp [intOf]; omega
      have hkk : (k : Int) < (n : Int) := by omega
      have hlik : i < k := by have := HI1.out; omega
      have hne : i ≠ k := by omega
      obtain ⟨xb, xo, y, rfl, hxb, hpi, ci⟩ := hrd.int_ hlt
      obtain ⟨yb, yo, z, hA2, hyb, hpk, ck⟩ := hrd.int_ hkt
      obtain ⟨rfl, rfl⟩ : xb = yb ∧ xo = yo := by simpa using hA2
      have r1 := HRG.out _ (List.mem_of_getElem? hpi)
      have r2 := HRG.out _ (List.mem_of_getElem? hpk)
      obtain ⟨bd, hbd⟩ : ∃ b, bndF p s i k = b := ⟨_, rfl⟩
      obtain ⟨d, hdd⟩ : ∃ d : Int, ((y - z).natAbs : Int) = d := ⟨_, rfl⟩
      have e1 := IntWalk.i64_in (y - z) ⟨by omega, by omega⟩
      have hrf : meetB l p s i k = decide (bd < d) := by unfold meetB; rw [getD_of hpi, getD_of hpk, hbd, hdd, decide_eq_true hlik, Bool.true_and]
      have habs : ∀ w', Calls Try.prog 45 #[.int .i64 (y - z)] w' fun e w'' => e = .returned (.int .i64 d) ∧ w' = w'' := fun w' => by
        have := abs_in (y - z) w' (by omega) (by omega)
        rw [hdd] at this
        exact this
      have HABS := Lib.hid habs
      have HBD := Lib.hid hbd
      have HRF := Lib.hid hrf
      have l3x : xb < w3.heap.size := by have := l0_3; omega
      clear hA2 hpi hpk hrf hbd hrd hdd habs
      have C0_3 := Lib.hid ci
      have C1_3 := Lib.hid ck
      clear ci ck
      go_wp2
      refine Fx.regionW (fun W f w' => Below W.heap.size W w') (by kernel_rfl) (by kernel_rfl) ?_ ?_
      · intro f hf0
        exact below_drewN (Below.refl _ _) 1
      repeat (first
        | (refine Fx.skip_ (by rfl) (fun f w h => h) ?_; simp only [Act.put, List.setIfInBounds_toArray, List.set_cons_zero, List.set_cons_succ])
        | (refine Fx.val_ ?_ (by rfl) ?_ (fun f w h => h) ?_
           rotate_left
           · intro f w' hD hk
             have hb := hD
             have kb0 := step_blk hb (show Blk _ (w.heap.size) 38 #[.int .i64 (p), .int .i64 (s)] by repeat' (first | exact K0_3.out | exact K1_3.out | exact Blk.at_ _ (by first | rfl | (simp; done) | (simp; omega)) _ _ | refine Blk.drewN ?_ _ | refine Blk.drew ?_ | refine Blk.alloc ?_ _ | refine Blk.far ?_ (by first | omega | (simp; done) | (simp; omega)) _ | assumption))
             have y0_0 : w'.cell? ⟨w.heap.size, 0, none⟩ = some (.int .i64 (p)) := kb0.cell 0
             have y0_1 : w'.cell? ⟨w.heap.size, 1, none⟩ = some (.int .i64 (s)) := kb0.cell 1
             have kb1 := step_blk hb (show Blk _ (w.heap.size + 1) 39 #[.int .i64 (0), .int .i64 (0)] by repeat' (first | exact K0_3.out | exact K1_3.out | exact Blk.at_ _ (by first | rfl | (simp; done) | (simp; omega)) _ _ | refine Blk.drewN ?_ _ | refine Blk.drew ?_ | refine Blk.alloc ?_ _ | refine Blk.far ?_ (by first | omega | (simp; done) | (simp; omega)) _ | assumption))
             have y1_0 : w'.cell? ⟨w.heap.size + 1, 0, none⟩ = some (.int .i64 (0)) := kb1.cell 0
             have y1_1 : w'.cell? ⟨w.heap.size + 1, 1, none⟩ = some (.int .i64 (0)) := kb1.cell 1
             have yc0 : w'.cell? ⟨xb, xo + i, none⟩ = some (.int .i64 (y)) := step_cell hb (show World.cell? _ ⟨xb, xo + i, none⟩ = some (.int .i64 (y)) by first | exact C0_3.out | go_simp) (by have := l3x; first | omega | (simp; omega))
             have yc1 : w'.cell? ⟨xb, xo + k, none⟩ = some (.int .i64 (z)) := step_cell hb (show World.cell? _ ⟨xb, xo + k, none⟩ = some (.int .i64 (z)) by first | exact C1_3.out | go_simp) (by have := l3x; first | omega | (simp; omega))
             clear kb0 kb1
             clear hk hD hb
             go_simp
             try rfl
           simp only [Act.put, List.setIfInBounds_toArray, List.set_cons_zero, List.set_cons_succ]))
      refine Fx.call_ (.int .i64 (d)) ?_ ?_ (by rfl) ?_ ?_ ?_
      rotate_left 2
      · intro w'
        go_simp
        refine ⟨?_, ?_⟩ <;> rfl
      · intro f w' hD hk
        exact (HABS.out w').mono fun e w'' ⟨he, hw⟩ => ⟨he, hw ▸ hD⟩
      simp only [Act.put, List.setIfInBounds_toArray, List.set_cons_zero, List.set_cons_succ]
      repeat (first
        | (refine Fx.skip_ (by rfl) (fun f w h => h) ?_; simp only [Act.put, List.setIfInBounds_toArray, List.set_cons_zero, List.set_cons_succ])
        | (refine Fx.val_ ?_ (by rfl) ?_ (fun f w h => h) ?_
           rotate_left
           · intro f w' hD hk
             have hb := hD
             have kb0 := step_blk hb (show Blk _ (w.heap.size) 38 #[.int .i64 (p), .int .i64 (s)] by repeat' (first | exact K0_3.out | exact K1_3.out | exact Blk.at_ _ (by first | rfl | (simp; done) | (simp; omega)) _ _ | refine Blk.drewN ?_ _ | refine Blk.drew ?_ | refine Blk.alloc ?_ _ | refine Blk.far ?_ (by first | omega | (simp; done) | (simp; omega)) _ | assumption))
             have y0_0 : w'.cell? ⟨w.heap.size, 0, none⟩ = some (.int .i64 (p)) := kb0.cell 0
             have y0_1 : w'.cell? ⟨w.heap.size, 1, none⟩ = some (.int .i64 (s)) := kb0.cell 1
             have kb1 := step_blk hb (show Blk _ (w.heap.size + 1) 39 #[.int .i64 (0), .int .i64 (0)] by repeat' (first | exact K0_3.out | exact K1_3.out | exact Blk.at_ _ (by first | rfl | (simp; done) | (simp; omega)) _ _ | refine Blk.drewN ?_ _ | refine Blk.drew ?_ | refine Blk.alloc ?_ _ | refine Blk.far ?_ (by first | omega | (simp; done) | (simp; omega)) _ | assumption))
             have y1_0 : w'.cell? ⟨w.heap.size + 1, 0, none⟩ = some (.int .i64 (0)) := kb1.cell 0
             have y1_1 : w'.cell? ⟨w.heap.size + 1, 1, none⟩ = some (.int .i64 (0)) := kb1.cell 1
             have yc0 : w'.cell? ⟨xb, xo + i, none⟩ = some (.int .i64 (y)) := step_cell hb (show World.cell? _ ⟨xb, xo + i, none⟩ = some (.int .i64 (y)) by first | exact C0_3.out | go_simp) (by have := l3x; first | omega | (simp; omega))
             have yc1 : w'.cell? ⟨xb, xo + k, none⟩ = some (.int .i64 (z)) := step_cell hb (show World.cell? _ ⟨xb, xo + k, none⟩ = some (.int .i64 (z)) by first | exact C1_3.out | go_simp) (by have := l3x; first | omega | (simp; omega))
             clear kb0 kb1
             clear hk hD hb
             go_simp
             try rfl
           simp only [Act.put, List.setIfInBounds_toArray, List.set_cons_zero, List.set_cons_succ]))
      refine Fx.call_ (.int .i64 (bd)) ?_ ?_ (by rfl) ?_ ?_ ?_
      rotate_left 2
      · intro w'
        go_simp
        refine ⟨?_, ?_⟩ <;> rfl
      · intro f w' hD hk
        exact (rbound_is p s i k bd HBD.out w' t1 t2 t3 t4 (by omega) (by omega)).mono fun e w'' ⟨he, hw⟩ => ⟨he, step_below hw hD⟩
      simp only [Act.put, List.setIfInBounds_toArray, List.set_cons_zero, List.set_cons_succ]
      repeat (first
        | (refine Fx.skip_ (by rfl) (fun f w h => h) ?_; simp only [Act.put, List.setIfInBounds_toArray, List.set_cons_zero, List.set_cons_succ])
        | (refine Fx.val_ ?_ (by rfl) ?_ (fun f w h => h) ?_
           rotate_left
           · intro f w' hD hk
             have hb := hD
             have kb0 := step_blk hb (show Blk _ (w.heap.size) 38 #[.int .i64 (p), .int .i64 (s)] by repeat' (first | exact K0_3.out | exact K1_3.out | exact Blk.at_ _ (by first | rfl | (simp; done) | (simp; omega)) _ _ | refine Blk.drewN ?_ _ | refine Blk.drew ?_ | refine Blk.alloc ?_ _ | refine Blk.far ?_ (by first | omega | (simp; done) | (simp; omega)) _ | assumption))
             have y0_0 : w'.cell? ⟨w.heap.size, 0, none⟩ = some (.int .i64 (p)) := kb0.cell 0
             have y0_1 : w'.cell? ⟨w.heap.size, 1, none⟩ = some (.int .i64 (s)) := kb0.cell 1
             have kb1 := step_blk hb (show Blk _ (w.heap.size + 1) 39 #[.int .i64 (0), .int .i64 (0)] by repeat' (first | exact K0_3.out | exact K1_3.out | exact Blk.at_ _ (by first | rfl | (simp; done) | (simp; omega)) _ _ | refine Blk.drewN ?_ _ | refine Blk.drew ?_ | refine Blk.alloc ?_ _ | refine Blk.far ?_ (by first | omega | (simp; done) | (simp; omega)) _ | assumption))
             have y1_0 : w'.cell? ⟨w.heap.size + 1, 0, none⟩ = some (.int .i64 (0)) := kb1.cell 0
             have y1_1 : w'.cell? ⟨w.heap.size + 1, 1, none⟩ = some (.int .i64 (0)) := kb1.cell 1
             have yc0 : w'.cell? ⟨xb, xo + i, none⟩ = some (.int .i64 (y)) := step_cell hb (show World.cell? _ ⟨xb, xo + i, none⟩ = some (.int .i64 (y)) by first | exact C0_3.out | go_simp) (by have := l3x; first | omega | (simp; omega))
             have yc1 : w'.cell? ⟨xb, xo + k, none⟩ = some (.int .i64 (z)) := step_cell hb (show World.cell? _ ⟨xb, xo + k, none⟩ = some (.int .i64 (z)) by first | exact C1_3.out | go_simp) (by have := l3x; first | omega | (simp; omega))
             clear kb0 kb1
             clear hk hD hb
             go_simp
             try rfl
           simp only [Act.put, List.setIfInBounds_toArray, List.set_cons_zero, List.set_cons_succ]))
      refine Fx.nil_ ?_
      intro f w4 hall hb
      try clear hall
      have HB34 := Lib.hid hb
      have HB4 := Lib.hid (show Below w.heap.size w w4 from step_below hb (by repeat' (first | exact Below.refl _ _ | exact HB3.out | refine below_drewN ?_ _ | refine Below.drew ?_ | refine Below.alloc ?_ (by first | omega | (simp; done) | (simp; omega) | (simp [World.setCell]; omega)) _ | refine Below.setCell ?_ (by first | omega | (simp; done) | (simp; omega)) _ | assumption)))
      have K0_4 := Lib.hid (step_blk hb (show Blk _ (w.heap.size) 38 #[.int .i64 (p), .int .i64 (s)] by repeat' (first | exact K0_3.out | exact K1_3.out | exact Blk.at_ _ (by first | rfl | (simp; done) | (simp; omega)) _ _ | refine Blk.drewN ?_ _ | refine Blk.drew ?_ | refine Blk.alloc ?_ _ | refine Blk.far ?_ (by first | omega | (simp; done) | (simp; omega)) _ | assumption)))
      have K1_4 := Lib.hid (step_blk hb (show Blk _ (w.heap.size + 1) 39 #[.int .i64 (0), .int .i64 (0)] by repeat' (first | exact K0_3.out | exact K1_3.out | exact Blk.at_ _ (by first | rfl | (simp; done) | (simp; omega)) _ _ | refine Blk.drewN ?_ _ | refine Blk.drew ?_ | refine Blk.alloc ?_ _ | refine Blk.far ?_ (by first | omega | (simp; done) | (simp; omega)) _ | assumption)))
      have C0_4 := Lib.hid (step_cell hb (show World.cell? _ ⟨xb, xo + i, none⟩ = some (.int .i64 (y)) by first | exact C0_3.out | go_simp) (by have := l3x; first | omega | (simp; omega)))
      have C1_4 := Lib.hid (step_cell hb (show World.cell? _ ⟨xb, xo + k, none⟩ = some (.int .i64 (z)) by first | exact C1_3.out | go_simp) (by have := l3x; first | omega | (simp; omega)))
      have hz4 := hb.size
      try simp only [World.size_alloc, World.drewN, World.drew] at hz4
      clear hb K0_3 K1_3 z0_0_3 z0_1_3 l0_3 z1_0_3 z1_1_3 l1_3
      have l0_4 : w.heap.size < w4.heap.size := K0_4.out.lt
      have z0_0_4 : w4.cell? ⟨w.heap.size, 0, none⟩ = some (.int .i64 (p)) := K0_4.out.cell 0
      have z0_1_4 : w4.cell? ⟨w.heap.size, 1, none⟩ = some (.int .i64 (s)) := K0_4.out.cell 1
      have l1_4 : w.heap.size + 1 < w4.heap.size := K1_4.out.lt
      have z1_0_4 : w4.cell? ⟨w.heap.size + 1, 0, none⟩ = some (.int .i64 (0)) := K1_4.out.cell 0
      have z1_1_4 : w4.cell? ⟨w.heap.size + 1, 1, none⟩ = some (.int .i64 (0)) := K1_4.out.cell 1
      by_cases hlt2 : bd < d
      · have hdt : decide (bd < d) = true := by simpa using hlt2
        have hfirst : firstP n (meetB l p s) = some (i, k) := firstP_at hlt hkt hne HNO3.out (by rw [HRF.out, hdt])
        have h1 := HO.out
        rw [hfirst] at h1
        have ht : t = true ∧ a = i ∧ b = k := by
          cases t with
          | false => cases h1
          | true =>
            simp only [if_true] at h1
            have h2 := Option.some.inj h1
            exact ⟨rfl, (congrArg Prod.fst h2).symm, (congrArg Prod.snd h2).symm⟩
        obtain ⟨rfl, rfl, rfl⟩ := ht
        have zf1_0 := K1_4.out.frozen 0
        have zf1_1 := K1_4.out.frozen 1
        clear h1 hfirst
        go_wp2
        exact bodyPost_ret (v := .tuple #[.agg #[.int .i64 (a : Int), .int .i64 (b : Int)], .bool true]) (by simp [results, Try.results38, go_sem, z1_0_4, z1_1_4, l1_4]) rfl ⟨rfl, by repeat' (first | exact Below.refl _ _ | exact HB4.out | refine below_drewN ?_ _ | refine Below.drew ?_ | refine Below.alloc ?_ (by first | omega | (simp; done) | (simp; omega) | (simp [World.setCell]; omega)) _ | refine Below.setCell ?_ (by first | omega | (simp; done) | (simp; omega)) _ | assumption)⟩
      · have hdt : decide (bd < d) = false := by simpa using hlt2
        have hns := HNO3.out.snoc (x := (i, k)) (by rw [HRF.out]; exact hdt)
        rw [← preP_succ hne] at hns
        have HNS := Lib.hid hns
        have HBF := Lib.hid (HBK.out.trans ((show Below w3.heap.size w3 w4 from HB34.out).mono HBK.out.size))
        clear hns
        go_wp2
        go_roundw
        case rel => exact ⟨k + 1, by omega, by omega, by go_num, HBF.out, HNS.out⟩
        case measure => simp [intOf]; omega
end Go.Proofs.Ytnepjgnnppfibaa

end
