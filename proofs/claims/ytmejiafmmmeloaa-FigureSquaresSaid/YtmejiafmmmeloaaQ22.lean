import Derived.Test.YtmejiafmmmeloaaQ21
import Derived.Test.YtmejiafmmmeloaaQ9
import Derived.Test.YtmejiafmmmeloaaQ19
import Derived.Test.YtmejiafmmmeloaaQ5
import Derived.Test.YtmejiafmmmeloaaQ20

section
/- The removals of a line; the line that is found; refusals of wrong maps. -/
namespace Go.Proofs.Ytmejiafmmmeloaa
open Go Go.RowKit

theorem info_frac6 : (Try.prog.info? 25).map (fun i => (i.zero, i.size, i.bytes)) = some (some (.agg #[.int .i64 0, .int .i64 0]), 2, 16) := by kernel_rfl
theorem snocfrac6_run (B : Nat) (v : Value) (k : Nat) (xs : List Value) (a b : Int) (w : World) (ho : w.ownsRow B 25 2 v k xs) (hB : B ≤ w.heap.size) (hk : k ≤ 100000) :
    ∃ v' W2, (Builtin.append_ #[55, 55] 55 #[v, .slice (some ⟨w.heap.size, 0, none⟩) 1 1]).run Try.prog (w.alloc (.cells #[.int .i64 a, .int .i64 b] 25)) = .ok v' W2 ∧ W2.ownsRow B 25 2 v' (k + 1) (xs ++ [.int .i64 a, .int .i64 b]) ∧ Below B w W2 := by
  obtain ⟨i0, hi0, hz0, hz1, hz2⟩ := info_parts info_frac6
  have hbW : Below B w (w.alloc (.cells #[.int .i64 a, .int .i64 b] 25)) := (Below.refl _ _).alloc hB _
  obtain ⟨v', W2, hrun, o2', hg2, -⟩ := run_append_any (P := Try.prog) (w.alloc (.cells #[.int .i64 a, .int .i64 b] 25)) B 55 55 25 i0 _ 2 16 Try.underlying55 hi0 hz0 hz1 hz2 rfl (by omega) v k _ (ho.alloc _) (w.alloc (.cells #[.int .i64 a, .int .i64 b] 25)).heap.size (some ⟨w.heap.size, 0, none⟩) 1 1 [.int .i64 a, .int .i64 b] (Blk.reads (Blk.new _ _ _) rfl) (by simp [Value.oneCell']) (by unfold maxLen; omega) (by first | omega | (simp; omega)) (by first | omega | (simp; omega))
  exact ⟨v', W2, hrun, o2', hbW.grown hg2 (Nat.le_trans hB hbW.size) (fun g hg => (own_lt ho hg).1)⟩

/-- The removals of the first zones. -/
def remL (m : Rm) (a b c d : Int) (k : Nat) : List (Int × Int) := (List.range k).map fun z => (redN (remN m a b c d z) (b * d), redD (remN m a b c d z) (b * d))
end Go.Proofs.Ytmejiafmmmeloaa

end

section
/- The walk of the statement on lines of least removal. -/
namespace Go.Proofs.Ytmejiafmmmeloaa
open Go Go.RowKit

theorem LikeM.rem {m x : Rm} (h : LikeM m x) (a b c d : Int) (z : Nat) : remN x a b c d z = remN m a b c d z := by unfold remN; rw [h.h, h.q]
theorem LikeM.remL {m x : Rm} (h : LikeM m x) (a b c d : Int) (k : Nat) : remL x a b c d k = Go.Proofs.Ytmejiafmmmeloaa.remL m a b c d k := by
  unfold Go.Proofs.Ytmejiafmmmeloaa.remL
  simp only [h.rem a b c d]
/-- What is known of copies of a map. -/
def PfM3 (n1 n2 n3 : Nat) (l1 l2 l3 : List Int) (i : Nat) (x : Pick3) (w : World) : Prop := i = 1 → Reads w w.heap.size 1 x.1.1 n1 (l1.map (.int .i64)) ∧ Reads w w.heap.size 1 x.2.1.1 n2 (l2.map (.int .i64)) ∧ Reads w w.heap.size 1 x.2.2.1 n3 (l3.map (.int .i64))
theorem PfM3.stb {n1 n2 n3 : Nat} {l1 l2 l3 : List Int} : StbT (PfM3 n1 n2 n3 l1 l2 l3) := fun _ _ _ _ hb h e => ⟨((h e).1.below hb).more hb.size, ((h e).2.1.below hb).more hb.size, ((h e).2.2.below hb).more hb.size⟩
/-- What is known of a copy of a right map, and of removals. -/
def PfMR (m : Rm) (n : Nat) (L : List (Int × Int)) (i : Nat) (x : Rm × Pick) (w : World) : Prop := (i = 1 → CopyM m x.1 w) ∧ (i = 3 → Reads w w.heap.size 2 x.2.1 n (cells2 L))
theorem PfMR.stb {m : Rm} {n : Nat} {L : List (Int × Int)} : StbT (PfMR m n L) := fun _ _ _ _ hb h => ⟨fun e => (h.1 e).lay hb, fun e => ((h.2 e).below hb).more hb.size⟩

end Go.Proofs.Ytmejiafmmmeloaa

end

section
/- Plain law of the least sum: whole parts first. -/
namespace Go.Proofs.Ytmejiafmmmeloaa
open Go.RowKit

end Go.Proofs.Ytmejiafmmmeloaa

end

section
/- The walk of the statement that no line removes less. -/
namespace Go.Proofs.Ytmejiafmmmeloaa
open Go Go.RowKit

theorem floor6_is (a b q : Int) (hq : a / b = q) (w : World) (h1 : -4000000000000000000 ≤ a) (h2 : a ≤ 4000000000000000000) (h3 : 1 ≤ b) (h4 : b ≤ 9223372036854775807) :
    Calls Try.prog 35 #[.int .i64 a, .int .i64 b] w fun e w' => e = .returned (.int .i64 q) ∧ w = w' := by
  subst hq; exact floorref_any a b w h1 h2 h3 h4
theorem LikeM.ref {m x : Rm} (h : LikeM m x) : refF x = refF m := by
  obtain ⟨h1, h2, h3, h4⟩ := h
  cases m; cases x
  simp only at h1 h2 h3 h4
  subst h1 h2 h3 h4
  rfl
theorem LikeM.lwhole {m x : Rm} (h : LikeM m x) : Go.Proofs.Ytmejiafmmmeloaa.lwhole x = Go.Proofs.Ytmejiafmmmeloaa.lwhole m := by
  unfold Go.Proofs.Ytmejiafmmmeloaa.lwhole
  rw [h.ref]

end Go.Proofs.Ytmejiafmmmeloaa

end

section
/- The reference's least sum. -/
namespace Go.Proofs.Ytmejiafmmmeloaa
open Go Go.RowKit

theorem less_floor {a b c d : Int} (hb : 0 < b) (hd : 0 < d) : (a * d < c * b) ↔ (if a / b ≠ c / d then a / b < c / d else (a - a / b * b) * d < (c - c / d * d) * b) := by
  have a1 := Int.mul_ediv_self_le (x := a) (k := b) (by omega)
  have a2 := Int.lt_mul_ediv_self_add (x := a) (k := b) (by omega)
  have b1 := Int.mul_ediv_self_le (x := c) (k := d) (by omega)
  have b2 := Int.lt_mul_ediv_self_add (x := c) (k := d) (by omega)
  generalize a / b = p at *
  generalize c / d = q at *
  have key : ∀ {x y p q u v : Int}, 0 < u → 0 < v → x < u * p + u → v * q ≤ y → p < q → x * v < y * u := by
    intro x y p q u v hu hv h1 h2 h3
    have c1 : (p + 1) * u ≤ q * u := Int.mul_le_mul_of_nonneg_right (by omega) (by omega)
    have c2 : x < q * u := by
      have : (p + 1) * u = u * p + u := by grind
      omega
    have c3 : x * v < q * u * v := Int.mul_lt_mul_of_pos_right c2 hv
    have c4 : v * q * u ≤ y * u := Int.mul_le_mul_of_nonneg_right h2 (by omega)
    have c5 : q * u * v = v * q * u := by grind
    omega
  by_cases h : p = q
  · subst h
    rw [if_neg (by simp)]
    have e1 : (a - p * b) * d = a * d - p * b * d := by grind
    have e2 : (c - p * d) * b = c * b - p * b * d := by grind
    rw [e1, e2]
    omega
  · rw [if_pos h]
    constructor
    · intro h1
      rcases Int.lt_or_le p q with h2 | h2
      · exact h2
      · have := key hd hb b2 a1 (by omega)
        omega
    · intro h1
      exact key hb hd a2 b1 h1

/-- What the least height is known to be within. -/
def BstIn (p : Int × Int) : Prop := 0 ≤ p.2 ∧ p.2 ≤ 40000000 ∧ -20000000000000 ≤ p.1 ∧ p.1 ≤ 20000000000000
section
variable {m : Rm} {mn md : Int}
end

set_option maxRecDepth 100000 in
set_option maxHeartbeats 4000000 in
theorem rless2_is (a b c d : Int) (t : Bool) (ht : lessB (a, b) (c, d) = t) (h1 : -20000000000000 ≤ a ∧ a ≤ 20000000000000) (h2 : 1 ≤ b ∧ b ≤ 40000000) (h3 : -20000000000000 ≤ c ∧ c ≤ 20000000000000) (h4 : 1 ≤ d ∧ d ≤ 40000000) (w : World) :
    Calls Try.prog 23 #[.agg #[.int .i64 a, .int .i64 b], .agg #[.int .i64 c, .int .i64 d]] w fun e w' => e = .returned (.bool t) ∧ Below w.heap.size w w' := by
  have hlf := less_floor (a := a) (b := b) (c := c) (d := d) (by omega) (by omega)
  have q1 := Int.mul_ediv_self_le (x := a) (k := b) (by omega)
  have q2 := Int.lt_mul_ediv_self_add (x := a) (k := b) (by omega)
  have q3 := Int.mul_ediv_self_le (x := c) (k := d) (by omega)
  have q4 := Int.lt_mul_ediv_self_add (x := c) (k := d) (by omega)
  obtain ⟨P, hP⟩ : ∃ p, a / b = p := ⟨_, rfl⟩
  obtain ⟨Q, hQ⟩ : ∃ p, c / d = p := ⟨_, rfl⟩
  rw [hP] at q1 q2 hlf
  rw [hQ] at q3 q4 hlf
  rw [Int.mul_comm] at q1 q2 q3 q4
  obtain ⟨pv, hpv⟩ : ∃ z, P * b = z := ⟨_, rfl⟩
  obtain ⟨qv, hqv⟩ : ∃ z, Q * d = z := ⟨_, rfl⟩
  rw [hpv] at q1 q2 hlf
  rw [hqv] at q3 q4 hlf
  have e10 : IntKind.i64.wrap (P * b) = pv := by rw [hpv]; exact IntWalk.i64_in _ ⟨by omega, by omega⟩
  have e11 : IntKind.i64.wrap (Q * d) = qv := by rw [hqv]; exact IntWalk.i64_in _ ⟨by omega, by omega⟩
  have e12 := IntWalk.i64_in (a - pv) ⟨by omega, by omega⟩
  have e13 := IntWalk.i64_in (c - qv) ⟨by omega, by omega⟩
  have p1 := prod_small (x := a - pv) (y := d) (X := 40000000) (Y := 40000000) (by omega) (by omega) (by omega) (by omega)
  have p2 := prod_small (x := c - qv) (y := b) (X := 40000000) (Y := 40000000) (by omega) (by omega) (by omega) (by omega)
  have e14 := IntWalk.i64_in ((a - pv) * d) ⟨by omega, by omega⟩
  have e15 := IntWalk.i64_in ((c - qv) * b) ⟨by omega, by omega⟩
  have htt : t = if P ≠ Q then decide (P < Q) else decide ((a - pv) * d < (c - qv) * b) := by
    rw [← ht]
    unfold lessB
    by_cases h : P = Q
    · rw [if_neg (by simpa using h)] at hlf ⊢
      exact decide_eq_decide.2 hlf
    · rw [if_pos h] at hlf ⊢
      exact decide_eq_decide.2 hlf
  have HP := Lib.hid hP
  have HQ := Lib.hid hQ
  have HTT := Lib.hid htt
  clear ht hlf hP hQ hpv hqv q1 q2 q3 q4 p1 p2 htt
  go_enter Try.func23, Try.ntmps23
  go_wp2_with fail
  generalize hwn : ((w.alloc (.cells #[.int .i64 (a), .int .i64 (b)] 25)).alloc (.cells #[.int .i64 (c), .int .i64 (d)] 25)) = w1
  have hbn : Below w.heap.size w w1 := by rw [← hwn]; repeat' (first | exact Below.refl _ _ | refine below_drewN ?_ _ | refine Below.drew ?_ | refine Below.alloc ?_ (by first | omega | (simp; done) | (simp; omega) | (simp [World.setCell]; omega)) _ | refine Below.setCell ?_ (by first | omega | (simp; done) | (simp; omega)) _)
  have HB1 := Lib.hid (show Below w.heap.size w w1 from hbn)
  have K0_1 := Lib.hid (show Blk w1 (w.heap.size) 25 #[.int .i64 (a), .int .i64 (b)] by rw [← hwn]; repeat' (first | exact Blk.at_ _ (by first | rfl | (simp; done) | (simp; omega)) _ _ | refine Blk.drewN ?_ _ | refine Blk.drew ?_ | refine Blk.alloc ?_ _ | refine Blk.far ?_ (by first | omega | (simp; done) | (simp; omega)) _ | assumption))
  have K1_1 := Lib.hid (show Blk w1 (w.heap.size + 1) 25 #[.int .i64 (c), .int .i64 (d)] by rw [← hwn]; repeat' (first | exact Blk.at_ _ (by first | rfl | (simp; done) | (simp; omega)) _ _ | refine Blk.drewN ?_ _ | refine Blk.drew ?_ | refine Blk.alloc ?_ _ | refine Blk.far ?_ (by first | omega | (simp; done) | (simp; omega)) _ | assumption))
  have HN1 := Lib.hid hbn
  have hz1 := hbn.size
  clear hwn hbn
  have l0_1 : w.heap.size < w1.heap.size := K0_1.out.lt
  have z0_0_1 : w1.cell? ⟨w.heap.size, 0, none⟩ = some (.int .i64 (a)) := K0_1.out.cell 0
  have z0_1_1 : w1.cell? ⟨w.heap.size, 1, none⟩ = some (.int .i64 (b)) := K0_1.out.cell 1
  have l1_1 : w.heap.size + 1 < w1.heap.size := K1_1.out.lt
  have z1_0_1 : w1.cell? ⟨w.heap.size + 1, 0, none⟩ = some (.int .i64 (c)) := K1_1.out.cell 0
  have z1_1_1 : w1.cell? ⟨w.heap.size + 1, 1, none⟩ = some (.int .i64 (d)) := K1_1.out.cell 1
  refine Fx.regionW (fun W f w' => Below W.heap.size W w') (by kernel_rfl) (by kernel_rfl) ?_ ?_
  · intro f hf0
    exact below_drewN (Below.refl _ _) 1
  repeat (first
    | (refine Fx.skip_ (by rfl) (fun f w h => h) ?_; simp only [Act.put, List.setIfInBounds_toArray, List.set_cons_zero, List.set_cons_succ])
    | (refine Fx.val_ ?_ (by rfl) ?_ (fun f w h => h) ?_
       rotate_left
       · intro f w' hD hk
         have hb := hD
         have kb0 := step_blk hb (show Blk _ (w.heap.size) 25 #[.int .i64 (a), .int .i64 (b)] by repeat' (first | exact K0_1.out | exact K1_1.out | exact Blk.at_ _ (by first | rfl | (simp; done) | (simp; omega)) _ _ | refine Blk.drewN ?_ _ | refine Blk.drew ?_ | refine Blk.alloc ?_ _ | refine Blk.far ?_ (by first | omega | (simp; done) | (simp; omega)) _ | assumption))
         have y0_0 : w'.cell? ⟨w.heap.size, 0, none⟩ = some (.int .i64 (a)) := kb0.cell 0
         have y0_1 : w'.cell? ⟨w.heap.size, 1, none⟩ = some (.int .i64 (b)) := kb0.cell 1
         have kb1 := step_blk hb (show Blk _ (w.heap.size + 1) 25 #[.int .i64 (c), .int .i64 (d)] by repeat' (first | exact K0_1.out | exact K1_1.out | exact Blk.at_ _ (by first | rfl | (simp; done) | (simp; omega)) _ _ | refine Blk.drewN ?_ _ | refine Blk.drew ?_ | refine Blk.alloc ?_ _ | refine Blk.far ?_ (by first | omega | (simp; done) | (simp; omega)) _ | assumption))
         have y1_0 : w'.cell? ⟨w.heap.size + 1, 0, none⟩ = some (.int .i64 (c)) := kb1.cell 0
         have y1_1 : w'.cell? ⟨w.heap.size + 1, 1, none⟩ = some (.int .i64 (d)) := kb1.cell 1
         clear kb0 kb1
         clear hk hD hb
         go_simp
         try rfl
       simp only [Act.put, List.setIfInBounds_toArray, List.set_cons_zero, List.set_cons_succ]))
  refine Fx.call_ (.int .i64 (P)) ?_ ?_ (by rfl) ?_ ?_ ?_
  rotate_left 2
  · intro w'
    go_simp
    refine ⟨?_, ?_⟩ <;> rfl
  · intro f w' hD hk
    exact (floor6_is a b P HP.out w' (by omega) (by omega) h2.1 (by omega)).mono fun e w'' ⟨he, hw⟩ => ⟨he, hw ▸ hD⟩
  simp only [Act.put, List.setIfInBounds_toArray, List.set_cons_zero, List.set_cons_succ]
  repeat (first
    | (refine Fx.skip_ (by rfl) (fun f w h => h) ?_; simp only [Act.put, List.setIfInBounds_toArray, List.set_cons_zero, List.set_cons_succ])
    | (refine Fx.val_ ?_ (by rfl) ?_ (fun f w h => h) ?_
       rotate_left
       · intro f w' hD hk
         have hb := hD
         have kb0 := step_blk hb (show Blk _ (w.heap.size) 25 #[.int .i64 (a), .int .i64 (b)] by repeat' (first | exact K0_1.out | exact K1_1.out | exact Blk.at_ _ (by first | rfl | (simp; done) | (simp; omega)) _ _ | refine Blk.drewN ?_ _ | refine Blk.drew ?_ | refine Blk.alloc ?_ _ | refine Blk.far ?_ (by first | omega | (simp; done) | (simp; omega)) _ | assumption))
         have y0_0 : w'.cell? ⟨w.heap.size, 0, none⟩ = some (.int .i64 (a)) := kb0.cell 0
         have y0_1 : w'.cell? ⟨w.heap.size, 1, none⟩ = some (.int .i64 (b)) := kb0.cell 1
         have kb1 := step_blk hb (show Blk _ (w.heap.size + 1) 25 #[.int .i64 (c), .int .i64 (d)] by repeat' (first | exact K0_1.out | exact K1_1.out | exact Blk.at_ _ (by first | rfl | (simp; done) | (simp; omega)) _ _ | refine Blk.drewN ?_ _ | refine Blk.drew ?_ | refine Blk.alloc ?_ _ | refine Blk.far ?_ (by first | omega | (simp; done) | (simp; omega)) _ | assumption))
         have y1_0 : w'.cell? ⟨w.heap.size + 1, 0, none⟩ = some (.int .i64 (c)) := kb1.cell 0
         have y1_1 : w'.cell? ⟨w.heap.size + 1, 1, none⟩ = some (.int .i64 (d)) := kb1.cell 1
         clear kb0 kb1
         clear hk hD hb
         go_simp
         try rfl
       simp only [Act.put, List.setIfInBounds_toArray, List.set_cons_zero, List.set_cons_succ]))
  refine Fx.call_ (.int .i64 (Q)) ?_ ?_ (by rfl) ?_ ?_ ?_
  rotate_left 2
  · intro w'
    go_simp
    refine ⟨?_, ?_⟩ <;> rfl
  · intro f w' hD hk
    exact (floor6_is c d Q HQ.out w' (by omega) (by omega) h4.1 (by omega)).mono fun e w'' ⟨he, hw⟩ => ⟨he, hw ▸ hD⟩
  simp only [Act.put, List.setIfInBounds_toArray, List.set_cons_zero, List.set_cons_succ]
  repeat (first
    | (refine Fx.skip_ (by rfl) (fun f w h => h) ?_; simp only [Act.put, List.setIfInBounds_toArray, List.set_cons_zero, List.set_cons_succ])
    | (refine Fx.val_ ?_ (by rfl) ?_ (fun f w h => h) ?_
       rotate_left
       · intro f w' hD hk
         have hb := hD
         have kb0 := step_blk hb (show Blk _ (w.heap.size) 25 #[.int .i64 (a), .int .i64 (b)] by repeat' (first | exact K0_1.out | exact K1_1.out | exact Blk.at_ _ (by first | rfl | (simp; done) | (simp; omega)) _ _ | refine Blk.drewN ?_ _ | refine Blk.drew ?_ | refine Blk.alloc ?_ _ | refine Blk.far ?_ (by first | omega | (simp; done) | (simp; omega)) _ | assumption))
         have y0_0 : w'.cell? ⟨w.heap.size, 0, none⟩ = some (.int .i64 (a)) := kb0.cell 0
         have y0_1 : w'.cell? ⟨w.heap.size, 1, none⟩ = some (.int .i64 (b)) := kb0.cell 1
         have kb1 := step_blk hb (show Blk _ (w.heap.size + 1) 25 #[.int .i64 (c), .int .i64 (d)] by repeat' (first | exact K0_1.out | exact K1_1.out | exact Blk.at_ _ (by first | rfl | (simp; done) | (simp; omega)) _ _ | refine Blk.drewN ?_ _ | refine Blk.drew ?_ | refine Blk.alloc ?_ _ | refine Blk.far ?_ (by first | omega | (simp; done) | (simp; omega)) _ | assumption))
         have y1_0 : w'.cell? ⟨w.heap.size + 1, 0, none⟩ = some (.int .i64 (c)) := kb1.cell 0
         have y1_1 : w'.cell? ⟨w.heap.size + 1, 1, none⟩ = some (.int .i64 (d)) := kb1.cell 1
         clear kb0 kb1
         clear hk hD hb
         go_simp
         try rfl
       simp only [Act.put, List.setIfInBounds_toArray, List.set_cons_zero, List.set_cons_succ]))
  refine Fx.nil_ ?_
  intro f w2 hall hb
  try clear hall
  have HB12 := Lib.hid hb
  have HB2 := Lib.hid (show Below w.heap.size w w2 from step_below hb (by repeat' (first | exact Below.refl _ _ | exact HB1.out | refine below_drewN ?_ _ | refine Below.drew ?_ | refine Below.alloc ?_ (by first | omega | (simp; done) | (simp; omega) | (simp [World.setCell]; omega)) _ | refine Below.setCell ?_ (by first | omega | (simp; done) | (simp; omega)) _ | assumption)))
  have K0_2 := Lib.hid (step_blk hb (show Blk _ (w.heap.size) 25 #[.int .i64 (a), .int .i64 (b)] by repeat' (first | exact K0_1.out | exact K1_1.out | exact Blk.at_ _ (by first | rfl | (simp; done) | (simp; omega)) _ _ | refine Blk.drewN ?_ _ | refine Blk.drew ?_ | refine Blk.alloc ?_ _ | refine Blk.far ?_ (by first | omega | (simp; done) | (simp; omega)) _ | assumption)))
  have K1_2 := Lib.hid (step_blk hb (show Blk _ (w.heap.size + 1) 25 #[.int .i64 (c), .int .i64 (d)] by repeat' (first | exact K0_1.out | exact K1_1.out | exact Blk.at_ _ (by first | rfl | (simp; done) | (simp; omega)) _ _ | refine Blk.drewN ?_ _ | refine Blk.drew ?_ | refine Blk.alloc ?_ _ | refine Blk.far ?_ (by first | omega | (simp; done) | (simp; omega)) _ | assumption)))
  have hz2 := hb.size
  try simp only [World.size_alloc, World.drewN, World.drew] at hz2
  clear hb K0_1 K1_1 z0_0_1 z0_1_1 l0_1 z1_0_1 z1_1_1 l1_1
  have l0_2 : w.heap.size < w2.heap.size := K0_2.out.lt
  have z0_0_2 : w2.cell? ⟨w.heap.size, 0, none⟩ = some (.int .i64 (a)) := K0_2.out.cell 0
  have z0_1_2 : w2.cell? ⟨w.heap.size, 1, none⟩ = some (.int .i64 (b)) := K0_2.out.cell 1
  have l1_2 : w.heap.size + 1 < w2.heap.size := K1_2.out.lt
  have z1_0_2 : w2.cell? ⟨w.heap.size + 1, 0, none⟩ = some (.int .i64 (c)) := K1_2.out.cell 0
  have z1_1_2 : w2.cell? ⟨w.heap.size + 1, 1, none⟩ = some (.int .i64 (d)) := K1_2.out.cell 1
  by_cases h : P = Q
  · subst h
    have dz : (P != P) = false := by simp
    have HT2 := Lib.hid (show decide ((a - pv) * d < (c - qv) * b) = t by rw [HTT.out]; simp)
    go_wp2
    go_ret
    exact ⟨ret_bool HT2.out, HB2.out⟩
  · have dz : (P != Q) = true := by simpa using h
    have HT2 := Lib.hid (show decide (P < Q) = t by rw [HTT.out]; simp [h])
    clear h
    go_wp2
    go_ret
    exact ⟨ret_bool HT2.out, HB2.out⟩
end Go.Proofs.Ytmejiafmmmeloaa

end

section
/- Plain: the reference's levels, one after the other. -/
namespace Go.Proofs.Ytmejiafmmmeloaa
open Go Go.RowKit

theorem endsL_snoc (l : List Rg) (r : Rg) : endsL (l ++ [r]) = endsL l ++ [(r.1, 1), (r.2, 1)] := by unfold endsL; simp
theorem endsL_len : ∀ l : List Rg, (endsL l).length = 2 * l.length
  | [] => rfl
  | x :: l => by
    have ih := endsL_len l
    unfold endsL at ih ⊢
    rw [List.flatMap_cons, List.length_append, ih]
    simp; omega
theorem endsL_in {l : List Rg} (h : RgIn l) : ∀ v ∈ endsL l, v.2 = 1 ∧ -100000 ≤ v.1 ∧ v.1 ≤ 100000 := by
  intro v hv
  unfold endsL at hv
  obtain ⟨r, hr, hv⟩ := List.mem_flatMap.1 hv
  have h1 := h r hr
  simp at hv
  rcases hv with rfl | rfl
  · exact ⟨rfl, h1.1⟩
  · exact ⟨rfl, h1.2.1⟩
/-- The levels when k ends are done, those of a side. -/
def levP (l : List Rg) (k : Nat) : List (Int × Int) := endsL l ++ ((endsL l).take k).flatMap fun v => levK l v.1
def sideL (l : List Rg) (x : Int) (s : Nat) : List (Int × Int) := if s = 0 then [] else if s = 1 then levS l (2 * x + 1) else levK l x
theorem levP_zero (l : List Rg) : levP l 0 = endsL l := by unfold levP; simp
theorem levP_all (l : List Rg) : levP l (2 * l.length) = levF l := by
  unfold levP levF
  rw [List.take_of_length_le (by rw [endsL_len]; omega)]
theorem levP_succ {l : List Rg} {k : Nat} {x y : Int} (h : (endsL l)[k]? = some (x, y)) : levP l (k + 1) = levP l k ++ sideL l x 2 := by
  unfold levP
  rw [List.take_add_one, h, List.flatMap_append, ← List.append_assoc]
  congr 1
  show List.flatMap _ [(x, y)] = _
  simp [sideL]
theorem side_succ (l : List Rg) (x : Int) {s : Nat} (hs : s < 2) : sideL l x (s + 1) = sideL l x s ++ levS l (2 * x + 1 - 2 * (s : Int)) := by
  rcases (by omega : s = 0 ∨ s = 1) with rfl | rfl
  · show levS l (2 * x + 1) = [] ++ levS l (2 * x + 1 - 2 * ((0 : Nat) : Int))
    rw [List.nil_append]; congr 1; omega
  · show levK l x = levS l (2 * x + 1) ++ levS l (2 * x + 1 - 2 * ((1 : Nat) : Int))
    unfold levK
    congr 2
    omega
theorem lev_at {l : List Rg} {k s : Nat} {x : Int} (hk : k < 2 * l.length) : (levP l k ++ sideL l x s)[k]? = (endsL l)[k]? := by
  unfold levP
  rw [List.append_assoc, List.getElem?_append_left (by rw [endsL_len]; exact hk)]
theorem cut_in {l : List Rg} (h : RgIn l) (hn : l.length ≤ 10) {a : Int} {k : Nat} (hk : k ≤ l.length) : (-1000000 ≤ sumL (cutS a) (l.take k) ∧ sumL (cutS a) (l.take k) ≤ 1000000) ∧ (0 ≤ sumL (cutC a) (l.take k) ∧ sumL (cutC a) (l.take k) ≤ k) := by
  have hl : (l.take k).length = k := by rw [List.length_take]; omega
  have h1 := sumL_in (f := cutS a) (l := l.take k) (lo := -100000) (hi := 100000) fun r hr => by
    have h2 := h r (List.mem_of_mem_take hr)
    unfold cutS
    split <;> split <;> omega
  have h3 := sumL_in (f := cutC a) (l := l.take k) (lo := 0) (hi := 1) fun r hr => by
    have h2 := h r (List.mem_of_mem_take hr)
    unfold cutC
    split <;> split <;> omega
  rw [hl] at h1 h3
  omega
theorem levS_in {l : List Rg} (h : RgIn l) (hn : l.length ≤ 10) {a : Int} : ∀ v ∈ levS l a, (-10000000 ≤ v.1 ∧ v.1 ≤ 10000000) ∧ 1 ≤ v.2 ∧ v.2 ≤ l.length := by
  intro v hv
  have h1 := cut_in h hn (a := a) (Nat.le_refl l.length)
  rw [List.take_length] at h1
  unfold levS at hv
  split at hv
  · rename_i hc
    obtain rfl := List.mem_singleton.1 hv
    have h2 := red_le (a := sumL (cutS a) l) (b := sumL (cutC a) l) (by omega)
    simp only
    omega
  · cases hv
theorem levF_in {l : List Rg} (h : RgIn l) (hn1 : 1 ≤ l.length) (hn : l.length ≤ 10) : ∀ v ∈ levF l, (-10000000 ≤ v.1 ∧ v.1 ≤ 10000000) ∧ 1 ≤ v.2 ∧ v.2 ≤ l.length := by
  intro v hv
  rcases List.mem_append.1 hv with h1 | h1
  · have := endsL_in h v h1; omega
  · obtain ⟨x, -, h2⟩ := List.mem_flatMap.1 h1
    unfold levK at h2
    rcases List.mem_append.1 h2 with h3 | h3 <;> exact levS_in h hn v h3
theorem levS_get {l : List Rg} {a S C : Int} (hS : sumL (cutS a) l = S) (hC : sumL (cutC a) l = C) : levS l a = if 0 < C then [(redN S C, redD S C)] else [] := by unfold levS; rw [hS, hC]
theorem pow63 {n N : Nat} (h : 2 ^ n = N) (hN : N ≤ 1048576) : IntKind.i64.wrap ((2 : Int) ^ n) = (N : Int) := by
  rw [show (2 : Int) ^ n = ((2 ^ n : Nat) : Int) from (Int.natCast_pow 2 n).symm, h]
  exact IntWalk.i64_in _ ⟨by omega, by omega⟩
theorem bits_one64 {b i : Nat} (hb : b < 1048576) : (b.testBit i = true → bits .and .i64 ((b : Int) / 2 ^ i) 1 = 1) ∧ (b.testBit i = false → bits .and .i64 ((b : Int) / 2 ^ i) 1 = 0) := by
  have e : (b : Int) / 2 ^ i = ((b / 2 ^ i : Nat) : Int) := by
    rw [show (2 : Int) ^ i = ((2 ^ i : Nat) : Int) from (Int.natCast_pow 2 i).symm]
    exact (Int.natCast_ediv b (2 ^ i)).symm
  have hlt : b / 2 ^ i < 1048576 := by have := Nat.div_le_self b (2 ^ i); omega
  have h1 : bits .and .i64 ((b / 2 ^ i : Nat) : Int) ((1 : Nat) : Int) = ((b / 2 ^ i &&& 1 : Nat) : Int) := by
    obtain ⟨m, hm⟩ : ∃ m, b / 2 ^ i = m := ⟨_, rfl⟩
    rw [hm] at hlt ⊢
    have e1 : (BitVec.ofInt 64 (m : Int)).toNat = m := by rw [BitVec.toNat_ofInt]; omega
    have hle : m &&& 1 ≤ 1 := Nat.and_le_right
    show IntKind.i64.wrap (BitVec.ofInt 64 (m : Int) &&& BitVec.ofInt 64 ((1 : Nat) : Int)).toNat = _
    rw [BitVec.toNat_and, e1]
    show IntKind.i64.wrap ((m &&& 1 : Nat) : Int) = _
    exact IntWalk.i64_in _ ⟨by omega, by omega⟩
  rw [e]
  rw [show ((1 : Nat) : Int) = 1 from rfl, Nat.and_one_is_mod] at h1
  rw [h1, bit_mod]
  have : b / 2 ^ i % 2 < 2 := Nat.mod_lt _ (by omega)
  constructor
  · intro h; have := of_decide_eq_true h; omega
  · intro h; have := of_decide_eq_false h; omega
end Go.Proofs.Ytmejiafmmmeloaa

end

section
/- The calls of the reference's square and nearest, at a level and at a corner. -/
namespace Go.Proofs.Ytmejiafmmmeloaa
open Go Go.RowKit

def PfN (xs : List Int) (n ci : Nat) (i : Nat) (x : Pick2) (w : World) : Prop := i = ci → Reads w w.heap.size 1 x.1.1 n (xs.map (.int .i64))
theorem PfN.stb {xs : List Int} {n ci : Nat} : Stb (PfN xs n ci) := fun _ _ _ _ hb h e => ((h e).below hb).more hb.size
def LevB (x : Int × Int) : Prop := (-20000000000000 ≤ x.1 ∧ x.1 ≤ 20000000000000) ∧ 1 ≤ x.2 ∧ x.2 ≤ 40000000
theorem minK_bd {P : Int × Int → Prop} {vs : Nat → Int × Int} {m : Nat} (h : ∀ i, i < m → P (vs i)) (hm : 0 < m) : ∀ {k : Nat}, k ≤ m → P (minK vs k)
  | 0, _ => h 0 hm
  | k + 1, hk => by
    show P (if lessB (vs k) (minK vs k) then vs k else minK vs k)
    split
    · exact h k (by omega)
    · exact minK_bd h hm (by omega)
theorem maxK_bd {P : Int × Int → Prop} {g : Int × Int} {vs : Nat → Int × Int} {m : Nat} (h : ∀ i, i < m → P (vs i)) (hg : P g) : ∀ {k : Nat}, k ≤ m → P (maxK g vs k)
  | 0, _ => hg
  | k + 1, hk => by
    show P (if lessB (maxK g vs k) (vs k) then vs k else maxK g vs k)
    split
    · exact h k (by omega)
    · exact maxK_bd h hg (by omega)
theorem clamp_bd {l : List Rg} (h : RgIn l) {N D : Int} (hD : 1 ≤ D ∧ D ≤ 6) : ∀ r ∈ l, -600000 ≤ clampF N D r ∧ clampF N D r ≤ 600000 := by
  intro r hr
  have h1 := h r hr
  have h2 := clamp_in (N := N) (D := D) h1.2.2 (by omega)
  have p1 := prod_small (x := r.1) (y := D) (X := 100000) (Y := 6) (by omega) (by omega) (by omega) (by omega)
  have p2 := prod_small (x := r.2) (y := D) (X := 100000) (Y := 6) (by omega) (by omega) (by omega) (by omega)
  omega
theorem nn_bd {n : Nat} (hn : 1 ≤ n ∧ n ≤ 6) : 1 ≤ (n : Int) * n ∧ (n : Int) * n ≤ 36 := by
  have h1 := Int.mul_le_mul (show (1 : Int) ≤ n by omega) (show (1 : Int) ≤ n by omega) (by omega) (by omega)
  have h2 := Int.mul_le_mul (show (n : Int) ≤ 6 by omega) (show (n : Int) ≤ 6 by omega) (by omega) (by omega)
  omega
theorem red_levB {A B : Int} (hA : 0 ≤ A ∧ A ≤ 20000000000000) (hB : 1 ≤ B ∧ B ≤ 40000000) : LevB (redN A B, redD A B) := by
  have h2 := red_le (a := A) (b := B) hB.1
  unfold LevB
  simp only
  omega
theorem var_bd {α : Type} {f : α → Int} {l : List α} {m : Int} (h : ∀ a ∈ l, -m ≤ f a ∧ f a ≤ m) (hm : m * m ≤ 360000000000) (hn : l.length ≤ 6) : 0 ≤ varL f l ∧ varL f l ≤ 20000000000000 := by
  refine ⟨var_nonneg f l, ?_⟩
  have h1 := sumL_in (f := fun a => f a * f a) (l := l) (lo := 0) (hi := 360000000000) fun a ha => by
    have h4 := sq_in (h a ha)
    exact ⟨h4.1, by omega⟩
  have h2 : 0 ≤ sumL f l * sumL f l := by
    rcases Int.le_total 0 (sumL f l) with h | h
    · exact Int.mul_nonneg h h
    · exact Int.mul_nonneg_of_nonpos_of_nonpos h h
  have h3 := Int.mul_le_mul (show (l.length : Int) ≤ 6 by omega) (show sumL (fun a => f a * f a) l ≤ 2160000000000 by omega) (by omega) (by omega)
  unfold varL
  omega
theorem levV_in {l : List Rg} (h : RgIn l) (hn : 1 ≤ l.length ∧ l.length ≤ 6) {k : Nat} (hk : k < (levF l).length) : LevB (levV l k) := by
  have hm : (levF l).getD k (0, 1) ∈ levF l := by rw [List.getD_eq_getElem?_getD, List.getElem?_eq_getElem hk]; exact List.getElem_mem hk
  have h1 := levF_in h hn.1 (by omega) _ hm
  unfold levV valV
  generalize (levF l).getD k (0, 1) = v at h1
  obtain ⟨N, D⟩ := v
  simp only at h1 ⊢
  have h2 := var_bd (f := clampF N D) (l := l) (m := 600000) (clamp_bd h ⟨by omega, by omega⟩) (by omega) hn.2
  have h3 := nn_bd hn
  generalize (l.length : Int) * l.length = L at h3 ⊢
  have p4 := prod_small (x := L) (y := D) (X := 36) (Y := 6) (by omega) (by omega) (by omega) (by omega)
  have q4 := Int.mul_pos (show 0 < L by omega) (show 0 < D by omega)
  generalize L * D = L2 at p4 q4 ⊢
  have p5 := prod_small (x := L2) (y := D) (X := 216) (Y := 6) (by omega) (by omega) (by omega) (by omega)
  have q5 := Int.mul_pos q4 (show 0 < D by omega)
  exact red_levB h2 ⟨by omega, by omega⟩
theorem cornF_in {l : List Rg} (h : RgIn l) (hn : 1 ≤ l.length ∧ l.length ≤ 6) (b : Nat) : LevB (cornF l b) := by
  have h2 := corn_in h (by omega) b
  have h3 := nn_bd hn
  exact red_levB ⟨by omega, by omega⟩ ⟨by omega, by omega⟩
theorem levnear_is {l : List Rg} (hl : RgIn l) {n : Nat} (hln : l.length = n) (hn : 1 ≤ n ∧ n ≤ 6) {k : Nat} {N D : Int} (hg : (levF l)[k]? = some (N, D)) (A : Option Addr) (c : Nat) (w : World) (hx : Reads w w.heap.size 2 A n (cells2 l)) :
    Calls Try.prog 22 #[.slice A n c, .agg #[.int .i64 N, .int .i64 D]] w fun e w' => ∃ A' c', e = .returned (.slice A' n c') ∧ Below w.heap.size w w' ∧ Reads w' w'.heap.size 1 A' n ((l.map (clampF N D)).map (.int .i64)) := by
  have h1 := levF_in hl (by omega) (by omega) _ (List.mem_of_getElem? hg)
  simp only at h1
  exact nearest_is A n c l N D hl (by omega) h1.1 ⟨by omega, by omega⟩ w hx
theorem levsq_is {l : List Rg} (hl : RgIn l) {n : Nat} (hln : l.length = n) (hn : 1 ≤ n ∧ n ≤ 6) {k : Nat} {N D s v : Int} (hg : (levF l)[k]? = some (N, D)) (hsv : levV l k = (s, v)) (A : Option Addr) (c : Nat) (w : World) (hx : Reads w w.heap.size 1 A n ((l.map (clampF N D)).map (.int .i64))) :
    Calls Try.prog 21 #[.slice A n c, .int .i64 D] w fun e w' => e = .returned (.agg #[.int .i64 s, .int .i64 v]) ∧ Below w.heap.size w w' := by
  have h1 := levF_in hl (by omega) (by omega) _ (List.mem_of_getElem? hg)
  simp only at h1
  have h2 : levV l k = (redN (varL (clampF N D) l) (l.length * l.length * D * D), redD (varL (clampF N D) l) (l.length * l.length * D * D)) := by
    unfold levV valV
    rw [List.getD_eq_getElem?_getD, hg]
    rfl
  rw [hsv] at h2
  have e1 := congrArg Prod.fst h2
  have e2 := congrArg Prod.snd h2
  simp only [hln] at e1 e2
  refine square_is A n c (l.map (clampF N D)) D (fun x hx => ?_) ⟨by omega, by omega⟩ ⟨by omega, by omega⟩ s v (by rw [varX_map]; exact e1.symm) (by rw [varX_map]; exact e2.symm) w hx
  obtain ⟨r, hr, rfl⟩ := List.mem_map.1 hx
  have := clamp_bd hl (N := N) (D := D) ⟨by omega, by omega⟩ r hr
  omega
/-- The ends of a corner. -/
def cornL (l : List Rg) (b k : Nat) : List Int := (List.range k).map fun i => hBit b i (l.getD i (0, 0))
theorem cornL_succ (l : List Rg) (b k : Nat) : cornL l b (k + 1) = cornL l b k ++ [hBit b k (l.getD k (0, 0))] := by unfold cornL; rw [List.range_succ, List.map_append]; rfl
theorem cornsq_is {l : List Rg} (hl : RgIn l) {n : Nat} (hln : l.length = n) (hn : 1 ≤ n ∧ n ≤ 6) {b : Nat} {s v : Int} (hsv : cornF l b = (s, v)) (A : Option Addr) (c : Nat) (w : World) (hx : Reads w w.heap.size 1 A n ((cornL l b n).map (.int .i64))) :
    Calls Try.prog 21 #[.slice A n c, .int .i64 1] w fun e w' => e = .returned (.agg #[.int .i64 s, .int .i64 v]) ∧ Below w.heap.size w w' := by
  have h2 : cornF l b = (redN (cornV l b) (l.length * l.length), redD (cornV l b) (l.length * l.length)) := rfl
  rw [hsv] at h2
  have e1 := congrArg Prod.fst h2
  have e2 := congrArg Prod.snd h2
  simp only [hln] at e1 e2
  have e3 : varX (cornL l b n) = cornV l b := by unfold cornL cornV; rw [varX_map, hln]
  refine square_is A n c (cornL l b n) 1 (fun x hx => ?_) ⟨by omega, by omega⟩ ⟨by omega, by omega⟩ s v (by rw [e3, Int.mul_one, Int.mul_one]; exact e1.symm) (by rw [e3, Int.mul_one, Int.mul_one]; exact e2.symm) w hx
  unfold cornL at hx
  obtain ⟨i, hi, rfl⟩ := List.mem_map.1 hx
  have := hBit_in hl (b := b) (i := i) (by have := List.mem_range.1 hi; omega)
  omega
end Go.Proofs.Ytmejiafmmmeloaa

end
