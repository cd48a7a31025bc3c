import Derived.Test.YtnepjgnnppfibaaQ18
import Derived.Test.YtnepjgnnppfibaaQ17
import Derived.Test.YtnepjgnnppfibaaQ2

section
/- The law's copy of a map, and whether a map is small. -/
namespace Go.Proofs.Ytnepjgnnppfibaa
open Go Go.RowKit

/-- At most ten zones, or a few more than the limit. -/
def fewB6 (n : Nat) : Bool := !((decide (10 < n) && decide (n ≤ 40)) || decide (42 < n))
theorem few6_cases (n : Nat) : (fewB6 n = false ∧ 10 < n ∧ n ≤ 40) ∨ (fewB6 n = false ∧ 42 < n) ∨ (fewB6 n = true ∧ n ≤ 10) ∨ (fewB6 n = true ∧ 40 < n ∧ n ≤ 42) := by
  unfold fewB6
  by_cases h1 : n ≤ 10
  · exact .inr (.inr (.inl ⟨by simp; omega, h1⟩))
  by_cases h2 : n ≤ 40
  · exact .inl ⟨by simp; omega, by omega, h2⟩
  by_cases h3 : n ≤ 42
  · exact .inr (.inr (.inr ⟨by simp; omega, by omega, h3⟩))
  · exact .inr (.inl ⟨by simp; omega, by omega⟩)
theorem few6_true {n : Nat} (h : fewB6 n = true) : n ≤ 42 := by
  rcases few6_cases n with ⟨h1, _⟩ | ⟨h1, _⟩ | ⟨_, h1⟩ | ⟨_, _, h1⟩
  · rw [h] at h1; cases h1
  · rw [h] at h1; cases h1
  · omega
  · exact h1

set_option maxRecDepth 100000 in
set_option maxHeartbeats 4000000 in
theorem few6_is (A1 A2 A3 : Option Addr) (n1 c1 n2 c2 n3 c3 : Nat) (t : Bool) (ht : (fewB6 n1 && (fewB6 n2 && fewB6 n3)) = t) (w : World) :
    Calls Try.prog 19 #[.agg #[.slice A1 n1 c1, .slice A2 n2 c2, .slice A3 n3 c3]] w fun e w' => e = .returned (.bool t) ∧ Below w.heap.size w w' := by
  have i0 : ∀ w, (Instr.index 118 (.agg #[.int .i64 (n1 : Int), .int .i64 (n2 : Int), .int .i64 (n3 : Int)]) (.int .i64 0)).run Try.prog w = .ok (.int .i64 (n1 : Int)) w := fun _ => by kernel_rfl
  have i1 : ∀ w, (Instr.index 118 (.agg #[.int .i64 (n1 : Int), .int .i64 (n2 : Int), .int .i64 (n3 : Int)]) (.int .i64 1)).run Try.prog w = .ok (.int .i64 (n2 : Int)) w := fun _ => by kernel_rfl
  have i2 : ∀ w, (Instr.index 118 (.agg #[.int .i64 (n1 : Int), .int .i64 (n2 : Int), .int .i64 (n3 : Int)]) (.int .i64 2)).run Try.prog w = .ok (.int .i64 (n3 : Int)) w := fun _ => by kernel_rfl
  subst ht
  go_enter Try.func19, Try.ntmps19
  go_wp2
  generalize hwn : (w.alloc (.cells #[.slice A1 n1 c1, .slice A2 n2 c2, .slice A3 n3 c3] 24)) = w1
  have hbn : Below w.heap.size w w1 := by rw [← hwn]; repeat' (first | exact Below.refl _ _ | refine below_drewN ?_ _ | refine Below.drew ?_ | refine Below.alloc ?_ (by first | omega | (simp; done) | (simp; omega) | (simp [World.setCell]; omega)) _ | refine Below.setCell ?_ (by first | omega | (simp; done) | (simp; omega)) _)
  have HB1 := Lib.hid (show Below w.heap.size w w1 from hbn)
  have K0_1 := Lib.hid (show Blk w1 (w.heap.size) 24 #[.slice A1 n1 c1, .slice A2 n2 c2, .slice A3 n3 c3] by rw [← hwn]; repeat' (first | exact Blk.at_ _ (by first | rfl | (simp; done) | (simp; omega)) _ _ | refine Blk.drewN ?_ _ | refine Blk.drew ?_ | refine Blk.alloc ?_ _ | refine Blk.far ?_ (by first | omega | (simp; done) | (simp; omega)) _ | assumption))
  have HN1 := Lib.hid hbn
  have hz1 := hbn.size
  clear hwn hbn
  have l0_1 : w.heap.size < w1.heap.size := K0_1.out.lt
  have z0_0_1 : w1.cell? ⟨w.heap.size, 0, none⟩ = some (.slice A1 n1 c1) := K0_1.out.cell 0
  have z0_1_1 : w1.cell? ⟨w.heap.size, 1, none⟩ = some (.slice A2 n2 c2) := K0_1.out.cell 1
  have z0_2_1 : w1.cell? ⟨w.heap.size, 2, none⟩ = some (.slice A3 n3 c3) := K0_1.out.cell 2
  refine wp_loop_rounds 4 ?_
  rw [rounds_succ]
  rcases few6_cases n1 with ⟨q1, a1, b1⟩ | ⟨q1, a1⟩ | ⟨q1, a1⟩ | ⟨q1, a1, b1⟩
  · have x1 : decide ((10 : Int) < (n1 : Int)) = true := by simp; omega
    have y1 : decide ((n1 : Int) ≤ 40) = true := by simp; omega
    have z1 : decide ((42 : Int) < (n1 : Int)) = false := by simp; omega
    go_wp2
    go_ret
    exact ⟨by simp only [q1, Bool.true_and, Bool.false_and, Bool.and_false]; try rfl, HB1.out⟩
  · have x1 : decide ((10 : Int) < (n1 : Int)) = true := by simp; omega
    have y1 : decide ((n1 : Int) ≤ 40) = false := by simp; omega
    have z1 : decide ((42 : Int) < (n1 : Int)) = true := by simp; omega
    go_wp2
    go_ret
    exact ⟨by simp only [q1, Bool.true_and, Bool.false_and, Bool.and_false]; try rfl, HB1.out⟩
  · have x1 : decide ((10 : Int) < (n1 : Int)) = false := by simp; omega
    have y1 : decide ((n1 : Int) ≤ 40) = true := by simp; omega
    have z1 : decide ((42 : Int) < (n1 : Int)) = false := by simp; omega
    go_wp2
    rw [rounds_succ]
    rcases few6_cases n2 with ⟨q2, a2, b2⟩ | ⟨q2, a2⟩ | ⟨q2, a2⟩ | ⟨q2, a2, b2⟩
    · have x2 : decide ((10 : Int) < (n2 : Int)) = true := by simp; omega
      have y2 : decide ((n2 : Int) ≤ 40) = true := by simp; omega
      have z2 : decide ((42 : Int) < (n2 : Int)) = false := by simp; omega
      go_wp2
      go_ret
      exact ⟨by simp only [q1, q2, Bool.true_and, Bool.false_and, Bool.and_false]; try rfl, HB1.out⟩
    · have x2 : decide ((10 : Int) < (n2 : Int)) = true := by simp; omega
      have y2 : decide ((n2 : Int) ≤ 40) = false := by simp; omega
      have z2 : decide ((42 : Int) < (n2 : Int)) = true := by simp; omega
      go_wp2
      go_ret
      exact ⟨by simp only [q1, q2, Bool.true_and, Bool.false_and, Bool.and_false]; try rfl, HB1.out⟩
    · have x2 : decide ((10 : Int) < (n2 : Int)) = false := by simp; omega
      have y2 : decide ((n2 : Int) ≤ 40) = true := by simp; omega
      have z2 : decide ((42 : Int) < (n2 : Int)) = false := by simp; omega
      go_wp2
      rw [rounds_succ]
      rcases few6_cases n3 with ⟨q3, a3, b3⟩ | ⟨q3, a3⟩ | ⟨q3, a3⟩ | ⟨q3, a3, b3⟩
      · have x3 : decide ((10 : Int) < (n3 : Int)) = true := by simp; omega
        have y3 : decide ((n3 : Int) ≤ 40) = true := by simp; omega
        have z3 : decide ((42 : Int) < (n3 : Int)) = false := by simp; omega
        go_wp2
        go_ret
        exact ⟨by simp only [q1, q2, q3, Bool.true_and, Bool.false_and, Bool.and_false]; try rfl, HB1.out⟩
      · have x3 : decide ((10 : Int) < (n3 : Int)) = true := by simp; omega
        have y3 : decide ((n3 : Int) ≤ 40) = false := by simp; omega
        have z3 : decide ((42 : Int) < (n3 : Int)) = true := by simp; omega
        go_wp2
        go_ret
        exact ⟨by simp only [q1, q2, q3, Bool.true_and, Bool.false_and, Bool.and_false]; try rfl, HB1.out⟩
      · have x3 : decide ((10 : Int) < (n3 : Int)) = false := by simp; omega
        have y3 : decide ((n3 : Int) ≤ 40) = true := by simp; omega
        have z3 : decide ((42 : Int) < (n3 : Int)) = false := by simp; omega
        go_wp2
        rw [rounds_succ]
        go_wp2
        go_ret
        exact ⟨by simp only [q1, q2, q3, Bool.true_and, Bool.and_true]; try rfl, HB1.out⟩
      · have x3 : decide ((10 : Int) < (n3 : Int)) = true := by simp; omega
        have y3 : decide ((n3 : Int) ≤ 40) = false := by simp; omega
        have z3 : decide ((42 : Int) < (n3 : Int)) = false := by simp; omega
        go_wp2
        rw [rounds_succ]
        go_wp2
        go_ret
        exact ⟨by simp only [q1, q2, q3, Bool.true_and, Bool.and_true]; try rfl, HB1.out⟩
    · have x2 : decide ((10 : Int) < (n2 : Int)) = true := by simp; omega
      have y2 : decide ((n2 : Int) ≤ 40) = false := by simp; omega
      have z2 : decide ((42 : Int) < (n2 : Int)) = false := by simp; omega
      go_wp2
      rw [rounds_succ]
      rcases few6_cases n3 with ⟨q3, a3, b3⟩ | ⟨q3, a3⟩ | ⟨q3, a3⟩ | ⟨q3, a3, b3⟩
      · have x3 : decide ((10 : Int) < (n3 : Int)) = true := by simp; omega
        have y3 : decide ((n3 : Int) ≤ 40) = true := by simp; omega
        have z3 : decide ((42 : Int) < (n3 : Int)) = false := by simp; omega
        go_wp2
        go_ret
        exact ⟨by simp only [q1, q2, q3, Bool.true_and, Bool.false_and, Bool.and_false]; try rfl, HB1.out⟩
      · have x3 : decide ((10 : Int) < (n3 : Int)) = true := by simp; omega
        have y3 : decide ((n3 : Int) ≤ 40) = false := by simp; omega
        have z3 : decide ((42 : Int) < (n3 : Int)) = true := by simp; omega
        go_wp2
        go_ret
        exact ⟨by simp only [q1, q2, q3, Bool.true_and, Bool.false_and, Bool.and_false]; try rfl, HB1.out⟩
      · have x3 : decide ((10 : Int) < (n3 : Int)) = false := by simp; omega
        have y3 : decide ((n3 : Int) ≤ 40) = true := by simp; omega
        have z3 : decide ((42 : Int) < (n3 : Int)) = false := by simp; omega
        go_wp2
        rw [rounds_succ]
        go_wp2
        go_ret
        exact ⟨by simp only [q1, q2, q3, Bool.true_and, Bool.and_true]; try rfl, HB1.out⟩
      · have x3 : decide ((10 : Int) < (n3 : Int)) = true := by simp; omega
        have y3 : decide ((n3 : Int) ≤ 40) = false := by simp; omega
        have z3 : decide ((42 : Int) < (n3 : Int)) = false := by simp; omega
        go_wp2
        rw [rounds_succ]
        go_wp2
        go_ret
        exact ⟨by simp only [q1, q2, q3, Bool.true_and, Bool.and_true]; try rfl, HB1.out⟩
  · have x1 : decide ((10 : Int) < (n1 : Int)) = true := by simp; omega
    have y1 : decide ((n1 : Int) ≤ 40) = false := by simp; omega
    have z1 : decide ((42 : Int) < (n1 : Int)) = false := by simp; omega
    go_wp2
    rw [rounds_succ]
    rcases few6_cases n2 with ⟨q2, a2, b2⟩ | ⟨q2, a2⟩ | ⟨q2, a2⟩ | ⟨q2, a2, b2⟩
    · have x2 : decide ((10 : Int) < (n2 : Int)) = true := by simp; omega
      have y2 : decide ((n2 : Int) ≤ 40) = true := by simp; omega
      have z2 : decide ((42 : Int) < (n2 : Int)) = false := by simp; omega
      go_wp2
      go_ret
      exact ⟨by simp only [q1, q2, Bool.true_and, Bool.false_and, Bool.and_false]; try rfl, HB1.out⟩
    · have x2 : decide ((10 : Int) < (n2 : Int)) = true := by simp; omega
      have y2 : decide ((n2 : Int) ≤ 40) = false := by simp; omega
      have z2 : decide ((42 : Int) < (n2 : Int)) = true := by simp; omega
      go_wp2
      go_ret
      exact ⟨by simp only [q1, q2, Bool.true_and, Bool.false_and, Bool.and_false]; try rfl, HB1.out⟩
    · have x2 : decide ((10 : Int) < (n2 : Int)) = false := by simp; omega
      have y2 : decide ((n2 : Int) ≤ 40) = true := by simp; omega
      have z2 : decide ((42 : Int) < (n2 : Int)) = false := by simp; omega
      go_wp2
      rw [rounds_succ]
      rcases few6_cases n3 with ⟨q3, a3, b3⟩ | ⟨q3, a3⟩ | ⟨q3, a3⟩ | ⟨q3, a3, b3⟩
      · have x3 : decide ((10 : Int) < (n3 : Int)) = true := by simp; omega
        have y3 : decide ((n3 : Int) ≤ 40) = true := by simp; omega
        have z3 : decide ((42 : Int) < (n3 : Int)) = false := by simp; omega
        go_wp2
        go_ret
        exact ⟨by simp only [q1, q2, q3, Bool.true_and, Bool.false_and, Bool.and_false]; try rfl, HB1.out⟩
      · have x3 : decide ((10 : Int) < (n3 : Int)) = true := by simp; omega
        have y3 : decide ((n3 : Int) ≤ 40) = false := by simp; omega
        have z3 : decide ((42 : Int) < (n3 : Int)) = true := by simp; omega
        go_wp2
        go_ret
        exact ⟨by simp only [q1, q2, q3, Bool.true_and, Bool.false_and, Bool.and_false]; try rfl, HB1.out⟩
      · have x3 : decide ((10 : Int) < (n3 : Int)) = false := by simp; omega
        have y3 : decide ((n3 : Int) ≤ 40) = true := by simp; omega
        have z3 : decide ((42 : Int) < (n3 : Int)) = false := by simp; omega
        go_wp2
        rw [rounds_succ]
        go_wp2
        go_ret
        exact ⟨by simp only [q1, q2, q3, Bool.true_and, Bool.and_true]; try rfl, HB1.out⟩
      · have x3 : decide ((10 : Int) < (n3 : Int)) = true := by simp; omega
        have y3 : decide ((n3 : Int) ≤ 40) = false := by simp; omega
        have z3 : decide ((42 : Int) < (n3 : Int)) = false := by simp; omega
        go_wp2
        rw [rounds_succ]
        go_wp2
        go_ret
        exact ⟨by simp only [q1, q2, q3, Bool.true_and, Bool.and_true]; try rfl, HB1.out⟩
    · have x2 : decide ((10 : Int) < (n2 : Int)) = true := by simp; omega
      have y2 : decide ((n2 : Int) ≤ 40) = false := by simp; omega
      have z2 : decide ((42 : Int) < (n2 : Int)) = false := by simp; omega
      go_wp2
      rw [rounds_succ]
      rcases few6_cases n3 with ⟨q3, a3, b3⟩ | ⟨q3, a3⟩ | ⟨q3, a3⟩ | ⟨q3, a3, b3⟩
      · have x3 : decide ((10 : Int) < (n3 : Int)) = true := by simp; omega
        have y3 : decide ((n3 : Int) ≤ 40) = true := by simp; omega
        have z3 : decide ((42 : Int) < (n3 : Int)) = false := by simp; omega
        go_wp2
        go_ret
        exact ⟨by simp only [q1, q2, q3, Bool.true_and, Bool.false_and, Bool.and_false]; try rfl, HB1.out⟩
      · have x3 : decide ((10 : Int) < (n3 : Int)) = true := by simp; omega
        have y3 : decide ((n3 : Int) ≤ 40) = false := by simp; omega
        have z3 : decide ((42 : Int) < (n3 : Int)) = true := by simp; omega
        go_wp2
        go_ret
        exact ⟨by simp only [q1, q2, q3, Bool.true_and, Bool.false_and, Bool.and_false]; try rfl, HB1.out⟩
      · have x3 : decide ((10 : Int) < (n3 : Int)) = false := by simp; omega
        have y3 : decide ((n3 : Int) ≤ 40) = true := by simp; omega
        have z3 : decide ((42 : Int) < (n3 : Int)) = false := by simp; omega
        go_wp2
        rw [rounds_succ]
        go_wp2
        go_ret
        exact ⟨by simp only [q1, q2, q3, Bool.true_and, Bool.and_true]; try rfl, HB1.out⟩
      · have x3 : decide ((10 : Int) < (n3 : Int)) = true := by simp; omega
        have y3 : decide ((n3 : Int) ≤ 40) = false := by simp; omega
        have z3 : decide ((42 : Int) < (n3 : Int)) = false := by simp; omega
        go_wp2
        rw [rounds_succ]
        go_wp2
        go_ret
        exact ⟨by simp only [q1, q2, q3, Bool.true_and, Bool.and_true]; try rfl, HB1.out⟩

/-- The region that copies the lists of a map and stores the copies into the block of the result. -/
structure MpD (B n1 n2 n3 : Nat) (l1 l2 l3 : List Value) (W : World) (g : Nat → Option Pick2) (f : Nat → Bool) (w' : World) : Prop where
  bel : Below B W w'
  o1 : ∀ x, g 2 = some x → w'.ownsRow W.heap.size 3 1 (.slice x.1.1 n1 x.1.2) n1 l1
  o2 : ∀ x, g 5 = some x → w'.ownsRow W.heap.size 3 1 (.slice x.1.1 n2 x.1.2) n2 l2
  o3 : ∀ x, g 8 = some x → w'.ownsRow W.heap.size 3 1 (.slice x.1.1 n3 x.1.2) n3 l3
  blk0 : f 10 = false → Blk w' B 24 #[.slice none 0 0, .slice none 0 0, .slice none 0 0]
  blk1 : f 10 = true → ∀ x y z, g 2 = some x → g 5 = some y → g 8 = some z → Blk w' B 24 #[.slice x.1.1 n1 x.1.2, .slice y.1.1 n2 y.1.2, .slice z.1.1 n3 z.1.2]
section
variable {B n1 n2 n3 i : Nat} {l1 l2 l3 : List Value} {W w' w'' : World} {g : Nat → Option Pick2} {f : Nat → Bool}
theorem MpD.start (hB : Blk W B 24 #[.slice none 0 0, .slice none 0 0, .slice none 0 0]) (h6 : f 10 = false) : MpD B n1 n2 n3 l1 l2 l3 W (fun _ => none) f (W.drewN 1) :=
  ⟨below_drewN (Below.refl _ _) 1, fun _ h => (nomatch h), fun _ h => (nomatch h), fun _ h => (nomatch h), fun _ => Blk.drewN hB 1, fun e => (by rw [h6] at e; cases e)⟩
theorem MpD.same (h : MpD B n1 n2 n3 l1 l2 l3 W g f w') (hi : i ≠ 10) : MpD B n1 n2 n3 l1 l2 l3 W g (Fx.add f i) w' :=
  ⟨h.bel, h.o1, h.o2, h.o3, fun hf => h.blk0 (by rwa [add_ne' hi] at hf), fun hf => h.blk1 (by rwa [add_ne' hi] at hf)⟩
theorem MpD.copy1 (h : MpD B n1 n2 n3 l1 l2 l3 W g f w') (hB : B < W.heap.size) (h6 : f 10 = false) (hb : Below w'.heap.size w' w'') (x : Pick2) (ho : w''.ownsRow w'.heap.size 3 1 (.slice x.1.1 n1 x.1.2) n1 l1) : MpD B n1 n2 n3 l1 l2 l3 W (Fx.upd g 2 x) (Fx.add f 2) w'' := by
  have hz := h.bel.size
  exact ⟨h.bel.trans (hb.mono (by omega)), fun y hy => by rw [Fx.upd_same] at hy; cases hy; exact own_mono ho hz, fun y hy => by rw [upd_ne (by decide)] at hy; exact own_below (h.o2 y hy) hb (Nat.le_refl _), fun y hy => by rw [upd_ne (by decide)] at hy; exact own_below (h.o3 y hy) hb (Nat.le_refl _), fun _ => Blk.below (h.blk0 h6) hb (by omega), fun e => by rw [add_ne' (by decide), h6] at e; cases e⟩
theorem MpD.copy2 (h : MpD B n1 n2 n3 l1 l2 l3 W g f w') (hB : B < W.heap.size) (h6 : f 10 = false) (hb : Below w'.heap.size w' w'') (x : Pick2) (ho : w''.ownsRow w'.heap.size 3 1 (.slice x.1.1 n2 x.1.2) n2 l2) : MpD B n1 n2 n3 l1 l2 l3 W (Fx.upd g 5 x) (Fx.add f 5) w'' := by
  have hz := h.bel.size
  exact ⟨h.bel.trans (hb.mono (by omega)), fun y hy => by rw [upd_ne (by decide)] at hy; exact own_below (h.o1 y hy) hb (Nat.le_refl _), fun y hy => by rw [Fx.upd_same] at hy; cases hy; exact own_mono ho hz, fun y hy => by rw [upd_ne (by decide)] at hy; exact own_below (h.o3 y hy) hb (Nat.le_refl _), fun _ => Blk.below (h.blk0 h6) hb (by omega), fun e => by rw [add_ne' (by decide), h6] at e; cases e⟩
theorem MpD.copy3 (h : MpD B n1 n2 n3 l1 l2 l3 W g f w') (hB : B < W.heap.size) (h6 : f 10 = false) (hb : Below w'.heap.size w' w'') (x : Pick2) (ho : w''.ownsRow w'.heap.size 3 1 (.slice x.1.1 n3 x.1.2) n3 l3) : MpD B n1 n2 n3 l1 l2 l3 W (Fx.upd g 8 x) (Fx.add f 8) w'' := by
  have hz := h.bel.size
  exact ⟨h.bel.trans (hb.mono (by omega)), fun y hy => by rw [upd_ne (by decide)] at hy; exact own_below (h.o1 y hy) hb (Nat.le_refl _), fun y hy => by rw [upd_ne (by decide)] at hy; exact own_below (h.o2 y hy) hb (Nat.le_refl _), fun y hy => by rw [Fx.upd_same] at hy; cases hy; exact own_mono ho hz, fun _ => Blk.below (h.blk0 h6) hb (by omega), fun e => by rw [add_ne' (by decide), h6] at e; cases e⟩
theorem MpD.store (h : MpD B n1 n2 n3 l1 l2 l3 W g f w') (hB : B < W.heap.size) (h6 : f 10 = false) {x y z : Pick2} (hx : g 2 = some x) (hy : g 5 = some y) (hz : g 8 = some z) :
    MpD B n1 n2 n3 l1 l2 l3 W g (Fx.add f 10) (((w'.setCell ⟨B, 0, none⟩ (.slice x.1.1 n1 x.1.2)).setCell ⟨B, 1, none⟩ (.slice y.1.1 n2 y.1.2)).setCell ⟨B, 2, none⟩ (.slice z.1.1 n3 z.1.2)) := by
  have key : ∀ {A : Option Addr} {n c : Nat} {l : List Value}, w'.ownsRow W.heap.size 3 1 (.slice A n c) n l → (((w'.setCell ⟨B, 0, none⟩ (.slice x.1.1 n1 x.1.2)).setCell ⟨B, 1, none⟩ (.slice y.1.1 n2 y.1.2)).setCell ⟨B, 2, none⟩ (.slice z.1.1 n3 z.1.2)).ownsRow W.heap.size 3 1 (.slice A n c) n l := by
    intro A n c l ho
    have hne : (Value.slice A n c).ownBlock ≠ some B := fun e => by have := (own_lt ho e).1; omega
    exact own_set (own_set (own_set ho hne _) hne _) hne _
  refine ⟨((h.bel.setCell (p := ⟨B, 0, none⟩) (Nat.le_refl _) _).setCell (p := ⟨B, 1, none⟩) (Nat.le_refl _) _).setCell (p := ⟨B, 2, none⟩) (Nat.le_refl _) _, fun a ha => key (h.o1 a ha), fun a ha => key (h.o2 a ha), fun a ha => key (h.o3 a ha), fun e => ?_, fun _ a b c ha hb hc => ?_⟩
  · rw [add_same] at e; cases e
  · rw [hx] at ha; rw [hy] at hb; rw [hz] at hc
    cases ha; cases hb; cases hc
    have := (((h.blk0 h6).set_ 0 (.slice x.1.1 n1 x.1.2)).set_ 1 (.slice y.1.1 n2 y.1.2)).set_ 2 (.slice z.1.1 n3 z.1.2)
    simpa only [List.setIfInBounds_toArray, List.set_cons_zero, List.set_cons_succ] using this
end

set_option maxRecDepth 100000 in
set_option maxHeartbeats 2000000 in
theorem mapped_any (A1 A2 A3 : Option Addr) (n1 c1 n2 c2 n3 c3 : Nat) (hs qs us : List Int) (w : World) (h1 : Reads w w.heap.size 1 A1 n1 (hs.map (.int .i64))) (h2 : Reads w w.heap.size 1 A2 n2 (qs.map (.int .i64))) (h3 : Reads w w.heap.size 1 A3 n3 (us.map (.int .i64))) (k1 : n1 ≤ 1000) (k2 : n2 ≤ 1000) (k3 : n3 ≤ 1000) :
    Calls Try.prog 21 #[.agg #[.slice A1 n1 c1, .slice A2 n2 c2, .slice A3 n3 c3]] w fun e w' => ∃ B1 d1 B2 d2 B3 d3, e = .returned (.agg #[.slice B1 n1 d1, .slice B2 n2 d2, .slice B3 n3 d3]) ∧ Below w.heap.size w w' ∧ Reads w' w'.heap.size 1 B1 n1 (hs.map (.int .i64)) ∧ Reads w' w'.heap.size 1 B2 n2 (qs.map (.int .i64)) ∧ Reads w' w'.heap.size 1 B3 n3 (us.map (.int .i64)) := by
  have H1 := Lib.hid h1
  have H2 := Lib.hid h2
  have H3 := Lib.hid h3
  clear h1 h2 h3
  go_enter Try.func21, Try.ntmps21
  go_wp2
  generalize hwn : ((w.alloc (.cells #[.slice A1 n1 c1, .slice A2 n2 c2, .slice A3 n3 c3] 24)).alloc (.cells #[.slice none 0 0, .slice none 0 0, .slice none 0 0] 24)) = w1
  have hbn : Below w.heap.size w w1 := by rw [← hwn]; repeat' (first | exact Below.refl _ _ | refine below_drewN ?_ _ | refine Below.drew ?_ | refine Below.alloc ?_ (by first | omega | (simp; done) | (simp; omega) | (simp [World.setCell]; omega)) _ | refine Below.setCell ?_ (by first | omega | (simp; done) | (simp; omega)) _)
  have HB1 := Lib.hid (show Below w.heap.size w w1 from hbn)
  have K0_1 := Lib.hid (show Blk w1 (w.heap.size) 24 #[.slice A1 n1 c1, .slice A2 n2 c2, .slice A3 n3 c3] by rw [← hwn]; repeat' (first | exact Blk.at_ _ (by first | rfl | (simp; done) | (simp; omega)) _ _ | refine Blk.drewN ?_ _ | refine Blk.drew ?_ | refine Blk.alloc ?_ _ | refine Blk.far ?_ (by first | omega | (simp; done) | (simp; omega)) _ | assumption))
  have K1_1 := Lib.hid (show Blk w1 (w.heap.size + 1) 24 #[.slice none 0 0, .slice none 0 0, .slice none 0 0] by rw [← hwn]; repeat' (first | exact Blk.at_ _ (by first | rfl | (simp; done) | (simp; omega)) _ _ | refine Blk.drewN ?_ _ | refine Blk.drew ?_ | refine Blk.alloc ?_ _ | refine Blk.far ?_ (by first | omega | (simp; done) | (simp; omega)) _ | assumption))
  have HN1 := Lib.hid hbn
  have hz1 := hbn.size
  clear hwn hbn
  have l0_1 : w.heap.size < w1.heap.size := K0_1.out.lt
  have z0_0_1 : w1.cell? ⟨w.heap.size, 0, none⟩ = some (.slice A1 n1 c1) := K0_1.out.cell 0
  have z0_1_1 : w1.cell? ⟨w.heap.size, 1, none⟩ = some (.slice A2 n2 c2) := K0_1.out.cell 1
  have z0_2_1 : w1.cell? ⟨w.heap.size, 2, none⟩ = some (.slice A3 n3 c3) := K0_1.out.cell 2
  have l1_1 : w.heap.size + 1 < w1.heap.size := K1_1.out.lt
  have z1_0_1 : w1.cell? ⟨w.heap.size + 1, 0, none⟩ = some (.slice none 0 0) := K1_1.out.cell 0
  have z1_1_1 : w1.cell? ⟨w.heap.size + 1, 1, none⟩ = some (.slice none 0 0) := K1_1.out.cell 1
  have z1_2_1 : w1.cell? ⟨w.heap.size + 1, 2, none⟩ = some (.slice none 0 0) := K1_1.out.cell 2
  have hB := K1_1.out.lt
  refine Fx.regionM (fun W (g : Nat → Option Pick2) f w' => MpD (w.heap.size + 1) n1 n2 n3 (hs.map (.int .i64)) (qs.map (.int .i64)) (us.map (.int .i64)) W g f w') (fun i (x : Pick2) => if i = 2 then .slice x.1.1 n1 x.1.2 else if i = 5 then .slice x.1.1 n2 x.1.2 else .slice x.1.1 n3 x.1.2) (by kernel_rfl) ?_ ?_
  · intro f hf0
    exact MpD.start K1_1.out (hf0 10)
  first
  | (refine Fx.WM.skip 0 (by rfl) (by kernel_rfl) (by kernel_rfl) (by kernel_rfl) (by rfl) (fun g f w h => h.same (by decide)) ?_; simp only [Act.put, List.setIfInBounds_toArray, List.set_cons_zero, List.set_cons_succ])
  | (refine Fx.WM.val_ 0 ?_ (by rfl) (by kernel_rfl) (by kernel_rfl) (by kernel_rfl) (by rfl) ?_ (fun g f w h => h.same (by decide)) ?_
     rotate_left
     · intro g f w' hx hD hk
       obtain hmd := id hD
       have kk := Blk.below K0_1.out hmd.bel (by omega)
       have y0 := kk.cell 0
       have y1 := kk.cell 1
       have y2 := kk.cell 2
       clear hx hk hD hmd kk
       go_simp
       try rfl
     simp only [Act.put, List.setIfInBounds_toArray, List.set_cons_zero, List.set_cons_succ])
  first
  | (refine Fx.WM.skip 1 (by rfl) (by kernel_rfl) (by kernel_rfl) (by kernel_rfl) (by rfl) (fun g f w h => h.same (by decide)) ?_; simp only [Act.put, List.setIfInBounds_toArray, List.set_cons_zero, List.set_cons_succ])
  | (refine Fx.WM.val_ 1 ?_ (by rfl) (by kernel_rfl) (by kernel_rfl) (by kernel_rfl) (by rfl) ?_ (fun g f w h => h.same (by decide)) ?_
     rotate_left
     · intro g f w' hx hD hk
       obtain hmd := id hD
       have kk := Blk.below K0_1.out hmd.bel (by omega)
       have y0 := kk.cell 0
       have y1 := kk.cell 1
       have y2 := kk.cell 2
       clear hx hk hD hmd kk
       go_simp
       try rfl
     simp only [Act.put, List.setIfInBounds_toArray, List.set_cons_zero, List.set_cons_succ])
  first
  | (refine Fx.WM.skip 3 (by rfl) (by kernel_rfl) (by kernel_rfl) (by kernel_rfl) (by rfl) (fun g f w h => h.same (by decide)) ?_; simp only [Act.put, List.setIfInBounds_toArray, List.set_cons_zero, List.set_cons_succ])
  | (refine Fx.WM.val_ 3 ?_ (by rfl) (by kernel_rfl) (by kernel_rfl) (by kernel_rfl) (by rfl) ?_ (fun g f w h => h.same (by decide)) ?_
     rotate_left
     · intro g f w' hx hD hk
       obtain hmd := id hD
       have kk := Blk.below K0_1.out hmd.bel (by omega)
       have y0 := kk.cell 0
       have y1 := kk.cell 1
       have y2 := kk.cell 2
       clear hx hk hD hmd kk
       go_simp
       try rfl
     simp only [Act.put, List.setIfInBounds_toArray, List.set_cons_zero, List.set_cons_succ])
  first
  | (refine Fx.WM.skip 4 (by rfl) (by kernel_rfl) (by kernel_rfl) (by kernel_rfl) (by rfl) (fun g f w h => h.same (by decide)) ?_; simp only [Act.put, List.setIfInBounds_toArray, List.set_cons_zero, List.set_cons_succ])
  | (refine Fx.WM.val_ 4 ?_ (by rfl) (by kernel_rfl) (by kernel_rfl) (by kernel_rfl) (by rfl) ?_ (fun g f w h => h.same (by decide)) ?_
     rotate_left
     · intro g f w' hx hD hk
       obtain hmd := id hD
       have kk := Blk.below K0_1.out hmd.bel (by omega)
       have y0 := kk.cell 0
       have y1 := kk.cell 1
       have y2 := kk.cell 2
       clear hx hk hD hmd kk
       go_simp
       try rfl
     simp only [Act.put, List.setIfInBounds_toArray, List.set_cons_zero, List.set_cons_succ])
  first
  | (refine Fx.WM.skip 6 (by rfl) (by kernel_rfl) (by kernel_rfl) (by kernel_rfl) (by rfl) (fun g f w h => h.same (by decide)) ?_; simp only [Act.put, List.setIfInBounds_toArray, List.set_cons_zero, List.set_cons_succ])
  | (refine Fx.WM.val_ 6 ?_ (by rfl) (by kernel_rfl) (by kernel_rfl) (by kernel_rfl) (by rfl) ?_ (fun g f w h => h.same (by decide)) ?_
     rotate_left
     · intro g f w' hx hD hk
       obtain hmd := id hD
       have kk := Blk.below K0_1.out hmd.bel (by omega)
       have y0 := kk.cell 0
       have y1 := kk.cell 1
       have y2 := kk.cell 2
       clear hx hk hD hmd kk
       go_simp
       try rfl
     simp only [Act.put, List.setIfInBounds_toArray, List.set_cons_zero, List.set_cons_succ])
  first
  | (refine Fx.WM.skip 7 (by rfl) (by kernel_rfl) (by kernel_rfl) (by kernel_rfl) (by rfl) (fun g f w h => h.same (by decide)) ?_; simp only [Act.put, List.setIfInBounds_toArray, List.set_cons_zero, List.set_cons_succ])
  | (refine Fx.WM.val_ 7 ?_ (by rfl) (by kernel_rfl) (by kernel_rfl) (by kernel_rfl) (by rfl) ?_ (fun g f w h => h.same (by decide)) ?_
     rotate_left
     · intro g f w' hx hD hk
       obtain hmd := id hD
       have kk := Blk.below K0_1.out hmd.bel (by omega)
       have y0 := kk.cell 0
       have y1 := kk.cell 1
       have y2 := kk.cell 2
       clear hx hk hD hmd kk
       go_simp
       try rfl
     simp only [Act.put, List.setIfInBounds_toArray, List.set_cons_zero, List.set_cons_succ])
  refine Fx.WM.choose 2 (by rfl) (by kernel_rfl) (by rfl) ?_ ?_
  · skip
    refine Fx.Chooses.call ?_ ?_ (by rfl) ?_ ?_
    rotate_left 2
    · intro w'
      go_simp
      refine ⟨?_, ?_⟩ <;> rfl
    · intro f w' hD hk
      exact (copyints_any A1 n1 c1 w'.heap.size hs w' ((H1.out.below (HB1.out.trans (hD.bel.mono (by omega)))).more (HB1.out.trans (hD.bel.mono (by omega))).size) (Nat.le_refl _) (by omega)).mono fun e w'' ⟨A', c', he, hb, hr, ho⟩ => ⟨((A', c'), (none, 0)), he, hD.copy1 hB (hk.2.1 10 (by kernel_rfl)) hb _ ho⟩
  intro x
  simp only [Act.put, List.setIfInBounds_toArray, List.set_cons_zero, List.set_cons_succ]
  refine Fx.WM.choose 5 (by rfl) (by kernel_rfl) (by rfl) ?_ ?_
  · skip
    refine Fx.Chooses.call ?_ ?_ (by rfl) ?_ ?_
    rotate_left 2
    · intro w'
      go_simp
      refine ⟨?_, ?_⟩ <;> rfl
    · intro f w' hD hk
      exact (copyints_any A2 n2 c2 w'.heap.size qs w' ((H2.out.below (HB1.out.trans (hD.bel.mono (by omega)))).more (HB1.out.trans (hD.bel.mono (by omega))).size) (Nat.le_refl _) (by omega)).mono fun e w'' ⟨A', c', he, hb, hr, ho⟩ => ⟨((A', c'), (none, 0)), he, hD.copy2 hB (hk.2.1 10 (by kernel_rfl)) hb _ ho⟩
  intro y
  simp only [Act.put, List.setIfInBounds_toArray, List.set_cons_zero, List.set_cons_succ]
  refine Fx.WM.choose 8 (by rfl) (by kernel_rfl) (by rfl) ?_ ?_
  · skip
    refine Fx.Chooses.call ?_ ?_ (by rfl) ?_ ?_
    rotate_left 2
    · intro w'
      go_simp
      refine ⟨?_, ?_⟩ <;> rfl
    · intro f w' hD hk
      exact (copyints_any A3 n3 c3 w'.heap.size us w' ((H3.out.below (HB1.out.trans (hD.bel.mono (by omega)))).more (HB1.out.trans (hD.bel.mono (by omega))).size) (Nat.le_refl _) (by omega)).mono fun e w'' ⟨A', c', he, hb, hr, ho⟩ => ⟨((A', c'), (none, 0)), he, hD.copy3 hB (hk.2.1 10 (by kernel_rfl)) hb _ ho⟩
  intro z
  simp only [Act.put, List.setIfInBounds_toArray, List.set_cons_zero, List.set_cons_succ]
  simp only [if_true, show ((5 : Nat) = 2) = False from by simp, show ((8 : Nat) = 2) = False from by simp, show ((8 : Nat) = 5) = False from by simp, if_false]
  first
  | (refine Fx.WM.skip 9 (by rfl) (by kernel_rfl) (by kernel_rfl) (by kernel_rfl) (by rfl) (fun g f w h => h.same (by decide)) ?_; simp only [Act.put, List.setIfInBounds_toArray, List.set_cons_zero, List.set_cons_succ])
  | (refine Fx.WM.val_ 9 ?_ (by rfl) (by kernel_rfl) (by kernel_rfl) (by kernel_rfl) (by rfl) ?_ (fun g f w h => h.same (by decide)) ?_
     rotate_left
     · intro g f w' hx hD hk
       obtain hmd := id hD
       have kk := Blk.below K0_1.out hmd.bel (by omega)
       have y0 := kk.cell 0
       clear hx hk hD hmd kk
       go_simp
       try rfl
     simp only [Act.put, List.setIfInBounds_toArray, List.set_cons_zero, List.set_cons_succ])
  refine Fx.WM.eff 10 undef (by rfl) (by kernel_rfl) (by kernel_rfl) (by kernel_rfl) (by rfl) ?_ ?_
  · intro g f w' hx hD hk
    have kb := hD.blk0 hk.1
    have e0 := kb.cell 0
    have e1 := kb.cell 1
    have e2 := kb.cell 2
    have r4 := kb.frozen 0
    have r5 := kb.frozen 1
    have r6 := kb.frozen 2
    refine Fx.gives_skip (w' := (((w'.setCell ⟨w.heap.size + 1, 0, none⟩ (.slice x.1.1 n1 x.1.2)).setCell ⟨w.heap.size + 1, 1, none⟩ (.slice y.1.1 n2 y.1.2)).setCell ⟨w.heap.size + 1, 2, none⟩ (.slice z.1.1 n3 z.1.2))) ?_ ?_
    · clear hx hk hD kb
      go_simp
      try rfl
    · exact hD.store hB hk.1 (hx 2 _ (by rfl)) (hx 5 _ (by rfl)) (hx 8 _ (by rfl))
  simp only [Act.put, List.setIfInBounds_toArray, List.set_cons_zero, List.set_cons_succ]
  refine Fx.WM.nil (by kernel_rfl) ?_
  intro wz hmd
  have hq := hmd.blk1 (by rfl) x y z (by rfl) (by rfl) (by rfl)
  have ho1 := own_reads2 (hmd.o1 x (by rfl))
  have ho2 := own_reads2 (hmd.o2 y (by rfl))
  have ho3 := own_reads2 (hmd.o3 z (by rfl))
  have hbz := HB1.out.trans (hmd.bel.mono (show w.heap.size ≤ w.heap.size + 1 by omega))
  have HO1 := Lib.hid ho1
  have HO2 := Lib.hid ho2
  have HO3 := Lib.hid ho3
  clear hmd ho1 ho2 ho3
  obtain ⟨w2, hnm⟩ : ∃ z : World, z = wz := ⟨_, rfl⟩
  subst hnm
  have HB2 := Lib.hid hbz
  have K0_2 := Lib.hid (show Blk w2 (w.heap.size + 1) 24 #[.slice x.1.1 n1 x.1.2, .slice y.1.1 n2 y.1.2, .slice z.1.1 n3 z.1.2] from hq)
  clear hbz hq
  have l0_2 : w.heap.size + 1 < w2.heap.size := K0_2.out.lt
  have z0_0_2 : w2.cell? ⟨w.heap.size + 1, 0, none⟩ = some (.slice x.1.1 n1 x.1.2) := K0_2.out.cell 0
  have z0_1_2 : w2.cell? ⟨w.heap.size + 1, 1, none⟩ = some (.slice y.1.1 n2 y.1.2) := K0_2.out.cell 1
  have z0_2_2 : w2.cell? ⟨w.heap.size + 1, 2, none⟩ = some (.slice z.1.1 n3 z.1.2) := K0_2.out.cell 2
  go_wp2
  exact bodyPost_ret (v := .agg #[.slice x.1.1 n1 x.1.2, .slice y.1.1 n2 y.1.2, .slice z.1.1 n3 z.1.2]) (by simp [results, Try.results21, go_sem, z0_0_2, z0_1_2, z0_2_2, l0_2]) rfl ⟨_, _, _, _, _, _, rfl, HB2.out, HO1.out, HO2.out, HO3.out⟩
end Go.Proofs.Ytnepjgnnppfibaa

end

section
/- Contracts of the reference of chapter 6: enclosures, tolerances, bounds, the pair that refuses. -/
namespace Go.Proofs.Ytnepjgnnppfibaa
open Go Go.RowKit

theorem figheight_is (n : Int) (t : Bool) (ht : hgtB n = t) (w : World) : Calls Try.prog 77 #[.int .i64 n] w fun e w' => e = .returned (.bool t) ∧ w = w' := by
  have HT := Lib.hid ht
  clear ht
  go_enter Try.func77, Try.ntmps77
  go_wp2_with fail
  refine (withinref_is _ _ _ t HT.out _).mono ?_
  rintro e w' ⟨rfl, rfl⟩
  go_wp2
  go_ret
  exact ⟨rfl, rfl⟩
end Go.Proofs.Ytnepjgnnppfibaa

end
