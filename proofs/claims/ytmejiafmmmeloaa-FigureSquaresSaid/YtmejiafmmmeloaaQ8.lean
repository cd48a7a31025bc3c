import Derived.Test.YtmejiafmmmeloaaQ7
import Derived.Test.YtmejiafmmmeloaaQ2
import Derived.Test.YtmejiafmmmeloaaQ5
import Derived.BigQuiet
import Derived.Test.YtmejiafmmmeloaaQ1
import Derived.RangeFuncNested
import Derived.RangeFuncBound
import Derived.RangeFuncCalls
import Derived.RangeFuncLeaves
import Derived.OrdersIn

section
/- Right maps in memory; contracts of the comparison of zones and of the question whether a zone lies below a line. -/
namespace Go.Proofs.Ytmejiafmmmeloaa
open Go Go.RowKit

/-- A right map: its lists begin at these places. -/
structure Rm where
  n : Nat
  b1 : Nat
  o1 : Nat
  c1 : Nat
  b2 : Nat
  o2 : Nat
  c2 : Nat
  b3 : Nat
  o3 : Nat
  c3 : Nat
  h : Nat → Int
  q : Nat → Int
  u : Nat → Int
def Rm.val (m : Rm) : Value := .agg #[.slice (some ⟨m.b1, m.o1, none⟩) m.n m.c1, .slice (some ⟨m.b2, m.o2, none⟩) m.n m.c2, .slice (some ⟨m.b3, m.o3, none⟩) m.n m.c3]
structure RmAt (m : Rm) (w : World) : Prop where
  l1 : m.b1 < w.heap.size
  l2 : m.b2 < w.heap.size
  l3 : m.b3 < w.heap.size
  r1 : ∀ i, i < m.n → w.cell? ⟨m.b1, m.o1 + i, none⟩ = some (.int .i64 (m.h i))
  r2 : ∀ i, i < m.n → w.cell? ⟨m.b2, m.o2 + i, none⟩ = some (.int .i64 (m.q i))
  r3 : ∀ i, i < m.n → w.cell? ⟨m.b3, m.o3 + i, none⟩ = some (.int .i64 (m.u i))
theorem RmAt.lay {m : Rm} {w w' : World} (h : RmAt m w) (hb : Below w.heap.size w w') : RmAt m w' :=
  ⟨Nat.lt_of_lt_of_le h.l1 hb.size, Nat.lt_of_lt_of_le h.l2 hb.size, Nat.lt_of_lt_of_le h.l3 hb.size,
    fun i hi => (hb.cell (p := ⟨m.b1, m.o1 + i, none⟩) h.l1).trans (h.r1 i hi), fun i hi => (hb.cell (p := ⟨m.b2, m.o2 + i, none⟩) h.l2).trans (h.r2 i hi), fun i hi => (hb.cell (p := ⟨m.b3, m.o3 + i, none⟩) h.l3).trans (h.r3 i hi)⟩
/-- The numbers are in range. -/
structure Rm.Ok (m : Rm) : Prop where
  n1 : 1 ≤ m.n
  n2 : m.n ≤ 40
  h : ∀ i, i < m.n → -100000 ≤ m.h i ∧ m.h i ≤ 100000
  q : ∀ i, i < m.n → 0 ≤ m.q i ∧ m.q i ≤ 1000
  u : ∀ i, i < m.n → 0 ≤ m.u i ∧ m.u i ≤ 1000

/-- The zone b lies below the line through a and c. -/
def underB (h q : Nat → Int) (a b c : Nat) : Bool := decide ((h b - h a) * (q c - q a) < (h c - h a) * (q b - q a))
theorem prod_small {x y X Y : Int} (h1 : -X ≤ x) (h2 : x ≤ X) (h3 : -Y ≤ y) (h4 : y ≤ Y) : -(X * Y) ≤ x * y ∧ x * y ≤ X * Y := by
  have hX : 0 ≤ X := by omega
  have hY : 0 ≤ Y := by omega
  have k := Int.natAbs_mul x y
  have k1 : (x.natAbs : Int) ≤ X := by omega
  have k2 : (y.natAbs : Int) ≤ Y := by omega
  have := Int.mul_le_mul k1 k2 (by omega) hX
  have k3 : ((x * y).natAbs : Int) = (x.natAbs : Int) * (y.natAbs : Int) := by rw [k]; push_cast; rfl
  omega

set_option maxRecDepth 100000 in
set_option maxHeartbeats 4000000 in
theorem under_is (m : Rm) (hm : m.Ok) (a b c : Nat) (ha : a < m.n) (hb : b < m.n) (hc : c < m.n) (t : Bool) (ht : underB m.h m.q a b c = t) (w : World) (hx : RmAt m w) :
    Calls Try.prog 54 #[m.val, .int .i64 (a : Int), .int .i64 (b : Int), .int .i64 (c : Int)] w fun e w' => e = .returned (.bool t) ∧ Below w.heap.size w w' := by
  have hn2 := hm.n2
  have ra := hm.h a ha
  have rb := hm.h b hb
  have rc := hm.h c hc
  have sa := hm.q a ha
  have sb := hm.q b hb
  have sc := hm.q c hc
  have p1 := prod_small (x := m.h b - m.h a) (y := m.q c - m.q a) (X := 200000) (Y := 1000) (by omega) (by omega) (by omega) (by omega)
  have p2 := prod_small (x := m.h c - m.h a) (y := m.q b - m.q a) (X := 200000) (Y := 1000) (by omega) (by omega) (by omega) (by omega)
  have d1 := hx.r1 a ha
  have d2 := hx.r1 b hb
  have d3 := hx.r1 c hc
  have d4 := hx.r2 a ha
  have d5 := hx.r2 b hb
  have d6 := hx.r2 c hc
  have l1 := hx.l1
  have l2 := hx.l2
  have j1 : (a : Int) < (m.n : Int) := by omega
  have j2 : (b : Int) < (m.n : Int) := by omega
  have j3 : (c : Int) < (m.n : Int) := by omega
  have e1 := IntWalk.i64_in (m.h b - m.h a) ⟨by omega, by omega⟩
  have e2 := IntWalk.i64_in (m.q c - m.q a) ⟨by omega, by omega⟩
  have e3 := IntWalk.i64_in (m.h c - m.h a) ⟨by omega, by omega⟩
  have e4 := IntWalk.i64_in (m.q b - m.q a) ⟨by omega, by omega⟩
  have e5 := IntWalk.i64_in ((m.h b - m.h a) * (m.q c - m.q a)) ⟨by omega, by omega⟩
  have e6 := IntWalk.i64_in ((m.h c - m.h a) * (m.q b - m.q a)) ⟨by omega, by omega⟩
  have HT := Lib.hid ht
  clear hm ht hx ra rb rc sa sb sc p1 p2
  unfold Rm.val
  go_enter Try.func54, Try.ntmps54
  go_wp2
  refine Fx.regionW (fun W f w' => Below W.heap.size W w') (by kernel_rfl) (by kernel_rfl) ?_ ?_
  · intro f hf0
    exact below_drewN (Below.refl _ _) 1
  repeat (first
    | (refine Fx.skip_ (by rfl) (fun f w h => h) ?_; simp only [Act.put, List.setIfInBounds_toArray, List.set_cons_zero, List.set_cons_succ])
    | (refine Fx.val_ ?_ (by rfl) ?_ (fun f w h => h) ?_
       rotate_left
       · intro f w' hD hk
         have hb := hD
         have kb0 := step_blk hb (show Blk _ (w.heap.size) 38 #[.slice (some ⟨m.b1, m.o1, none⟩) m.n m.c1, .slice (some ⟨m.b2, m.o2, none⟩) m.n m.c2, .slice (some ⟨m.b3, m.o3, none⟩) m.n m.c3] by repeat' (first | exact Blk.at_ _ (by first | rfl | (simp; done) | (simp; omega)) _ _ | refine Blk.drewN ?_ _ | refine Blk.drew ?_ | refine Blk.alloc ?_ _ | refine Blk.far ?_ (by first | omega | (simp; done) | (simp; omega)) _ | assumption))
         have y0_0 : w'.cell? ⟨w.heap.size, 0, none⟩ = some (.slice (some ⟨m.b1, m.o1, none⟩) m.n m.c1) := kb0.cell 0
         have y0_1 : w'.cell? ⟨w.heap.size, 1, none⟩ = some (.slice (some ⟨m.b2, m.o2, none⟩) m.n m.c2) := kb0.cell 1
         have y0_2 : w'.cell? ⟨w.heap.size, 2, none⟩ = some (.slice (some ⟨m.b3, m.o3, none⟩) m.n m.c3) := kb0.cell 2
         have y1 : w'.cell? ⟨m.b1, m.o1 + a, none⟩ = some (.int .i64 (m.h a)) := step_cell hb (by go_simp) (by simp; omega)
         have y2 : w'.cell? ⟨m.b1, m.o1 + b, none⟩ = some (.int .i64 (m.h b)) := step_cell hb (by go_simp) (by simp; omega)
         have y3 : w'.cell? ⟨m.b1, m.o1 + c, none⟩ = some (.int .i64 (m.h c)) := step_cell hb (by go_simp) (by simp; omega)
         have y4 : w'.cell? ⟨m.b2, m.o2 + a, none⟩ = some (.int .i64 (m.q a)) := step_cell hb (by go_simp) (by simp; omega)
         have y5 : w'.cell? ⟨m.b2, m.o2 + b, none⟩ = some (.int .i64 (m.q b)) := step_cell hb (by go_simp) (by simp; omega)
         have y6 : w'.cell? ⟨m.b2, m.o2 + c, none⟩ = some (.int .i64 (m.q c)) := step_cell hb (by go_simp) (by simp; omega)
         clear kb0
         clear hk hD hb
         go_simp
         try rfl
       simp only [Act.put, List.setIfInBounds_toArray, List.set_cons_zero, List.set_cons_succ]))
  refine Fx.nil_ ?_
  intro f w1 hall hb
  try clear hall
  have HB01 := Lib.hid hb
  have HB1 := Lib.hid (show Below w.heap.size w w1 from step_below hb (by repeat' (first | exact Below.refl _ _ | exact HB0.out | refine below_drewN ?_ _ | refine Below.drew ?_ | refine Below.alloc ?_ (by first | omega | (simp; done) | (simp; omega) | (simp [World.setCell]; omega)) _ | refine Below.setCell ?_ (by first | omega | (simp; done) | (simp; omega)) _ | assumption)))
  have K0_1 := Lib.hid (step_blk hb (show Blk _ (w.heap.size) 38 #[.slice (some ⟨m.b1, m.o1, none⟩) m.n m.c1, .slice (some ⟨m.b2, m.o2, none⟩) m.n m.c2, .slice (some ⟨m.b3, m.o3, none⟩) m.n m.c3] by repeat' (first | exact Blk.at_ _ (by first | rfl | (simp; done) | (simp; omega)) _ _ | refine Blk.drewN ?_ _ | refine Blk.drew ?_ | refine Blk.alloc ?_ _ | refine Blk.far ?_ (by first | omega | (simp; done) | (simp; omega)) _ | assumption)))
  have hz1 := hb.size
  try simp only [World.size_alloc, World.drewN, World.drew] at hz1
  clear hb
  have l0_1 : w.heap.size < w1.heap.size := K0_1.out.lt
  have z0_0_1 : w1.cell? ⟨w.heap.size, 0, none⟩ = some (.slice (some ⟨m.b1, m.o1, none⟩) m.n m.c1) := K0_1.out.cell 0
  have z0_1_1 : w1.cell? ⟨w.heap.size, 1, none⟩ = some (.slice (some ⟨m.b2, m.o2, none⟩) m.n m.c2) := K0_1.out.cell 1
  have z0_2_1 : w1.cell? ⟨w.heap.size, 2, none⟩ = some (.slice (some ⟨m.b3, m.o3, none⟩) m.n m.c3) := K0_1.out.cell 2
  go_wp2
  go_ret
  exact ⟨ret_bool (by rw [← HT.out]; rfl), HB1.out⟩

def or2F (x y : Int) : Int := if x ≠ 0 then x else y
theorem or2_is (x y : Int) (A : Option Addr) (c N : Nat) (E : Int) (hE : or2F x y = E) (w : World) (h : Reads w N 1 A 2 (([x, y] : List Int).map (.int .i64))) :
    Calls Try.prog 52 #[.slice A 2 c] w fun e w' => e = .returned (.int .i64 E) ∧ w = w' := by
  subst hE
  obtain ⟨b, o, u, rfl, _, hu, c0⟩ := h.at_ (k := 0) (by omega)
  obtain ⟨b', o', u1, e1, _, hu1, c1⟩ := h.at_ (k := 1) (by omega)
  simp only [Option.some.injEq, Addr.mk.injEq, and_true] at e1
  obtain ⟨rfl, rfl⟩ := e1
  simp at hu hu1
  subst hu hu1
  simp only [Nat.add_zero] at c0
  clear h
  go_enter Try.func52, Try.ntmps52
  go_wp2
  refine wp_loop_rounds 3 ?_
  repeat any_goals (rw [rounds_succ]; go_wp2)
  all_goals go_ret
  · have h : (x != 0) = true := by assumption
    exact ⟨ret_int (show x = _ by unfold or2F; rw [if_pos (by simpa using h)]), rfl⟩
  · have h : (x != 0) = false := by assumption
    have h2 : (y != 0) = true := by assumption
    exact ⟨ret_int (show y = _ by unfold or2F; rw [if_neg (by simpa using h)]), rfl⟩
  · have h : (x != 0) = false := by assumption
    have h2 : (y != 0) = false := by assumption
    exact ⟨ret_int (show 0 = _ by unfold or2F; rw [if_neg (by simpa using h)]; have := h2; simp at this; omega), rfl⟩

/-- The order of zones: by q, then by height. -/
def cmpZ (h q : Nat → Int) (a b : Nat) : Int := or2F (cmpI (q a) (q b)) (cmpI (h a) (h b))
theorem cmp_is (a b t : Int) (ht : cmpI a b = t) (w : World) : Calls Try.prog 53 #[.int .i64 a, .int .i64 b] w fun e w' => e = .returned (.int .i64 t) ∧ w = w' := ht ▸ cmp_any a b w

set_option maxRecDepth 100000 in
set_option maxHeartbeats 4000000 in
theorem hull1_is (m : Rm) (mb a b : Nat) (ha : a < m.n) (hb : b < m.n) (t : Int) (ht : cmpZ m.h m.q a b = t) (w : World) (hx : RmAt m w) (T : TypeId) (hk : Blk w mb T #[.slice (some ⟨m.b1, m.o1, none⟩) m.n m.c1, .slice (some ⟨m.b2, m.o2, none⟩) m.n m.c2, .slice (some ⟨m.b3, m.o3, none⟩) m.n m.c3]) :
    Calls Try.prog 51 #[.int .i64 (a : Int), .int .i64 (b : Int), .pointer (some ⟨mb, 0, none⟩)] w fun e w' => e = .returned (.int .i64 t) ∧ Below w.heap.size w w' := by
  obtain ⟨cq, hx1⟩ : ∃ x, cmpI (m.q a) (m.q b) = x := ⟨_, rfl⟩
  obtain ⟨ch, hy1⟩ : ∃ y, cmpI (m.h a) (m.h b) = y := ⟨_, rfl⟩
  unfold cmpZ at ht
  rw [hx1, hy1] at ht
  have HX1 := Lib.hid hx1
  have HY1 := Lib.hid hy1
  have HT := Lib.hid ht
  have j1 : (a : Int) < (m.n : Int) := by omega
  have j2 : (b : Int) < (m.n : Int) := by omega
  have l0 := hk.lt
  have l1 := hx.l1
  have l2 := hx.l2
  have C0_0 := Lib.hid (show World.cell? w ⟨mb, 0, none⟩ = some (.slice (some ⟨m.b1, m.o1, none⟩) m.n m.c1) from hk.cell 0)
  have C1_0 := Lib.hid (show World.cell? w ⟨mb, 1, none⟩ = some (.slice (some ⟨m.b2, m.o2, none⟩) m.n m.c2) from hk.cell 1)
  have C2_0 := Lib.hid (hx.r1 a ha)
  have C3_0 := Lib.hid (hx.r1 b hb)
  have C4_0 := Lib.hid (hx.r2 a ha)
  have C5_0 := Lib.hid (hx.r2 b hb)
  clear hx1 hy1 ht hx hk
  go_enter Try.func51, Try.ntmps51
  go_wp2_with fail
  have HB0 := Lib.hid (Below.refl w.heap.size w)
  refine Fx.regionG (fun W g f w' => Below W.heap.size W w' ∧ ∀ x, g = some x → Reads w' w'.heap.size 1 (some ⟨x, 0, none⟩) 2 (([cq, ch] : List Int).map (.int .i64))) (fun x : Nat => .slice (some ⟨x, 0, none⟩) 2 2) 22 (by kernel_rfl) (by kernel_rfl) (by kernel_rfl) ?_ ?_
  · intro f hf0
    exact ⟨below_drewN (Below.refl _ _) 1, fun x h => by cases h⟩
  repeat (first
    | (refine Fx.skipE_ (by rfl) (fun g f w h => h) ?_; simp only [Act.put, List.setIfInBounds_toArray, List.set_cons_zero, List.set_cons_succ])
    | (refine Fx.valE_ ?_ (by rfl) ?_ (fun g f w h => h) ?_
       rotate_left
       · intro g f w' hD hk
         obtain ⟨hb, hg⟩ := id hD
         have yc0 : w'.cell? ⟨mb, 0, none⟩ = some (.slice (some ⟨m.b1, m.o1, none⟩) m.n m.c1) := step_cell hb (show World.cell? _ ⟨mb, 0, none⟩ = some (.slice (some ⟨m.b1, m.o1, none⟩) m.n m.c1) by first | exact C0_0.out | go_simp) (by have := l0; first | omega | (simp; omega))
         have yc1 : w'.cell? ⟨mb, 1, none⟩ = some (.slice (some ⟨m.b2, m.o2, none⟩) m.n m.c2) := step_cell hb (show World.cell? _ ⟨mb, 1, none⟩ = some (.slice (some ⟨m.b2, m.o2, none⟩) m.n m.c2) by first | exact C1_0.out | go_simp) (by have := l0; first | omega | (simp; omega))
         have yc2 : w'.cell? ⟨m.b1, m.o1 + a, none⟩ = some (.int .i64 (m.h a)) := step_cell hb (show World.cell? _ ⟨m.b1, m.o1 + a, none⟩ = some (.int .i64 (m.h a)) by first | exact C2_0.out | go_simp) (by have := l1; first | omega | (simp; omega))
         have yc3 : w'.cell? ⟨m.b1, m.o1 + b, none⟩ = some (.int .i64 (m.h b)) := step_cell hb (show World.cell? _ ⟨m.b1, m.o1 + b, none⟩ = some (.int .i64 (m.h b)) by first | exact C3_0.out | go_simp) (by have := l1; first | omega | (simp; omega))
         have yc4 : w'.cell? ⟨m.b2, m.o2 + a, none⟩ = some (.int .i64 (m.q a)) := step_cell hb (show World.cell? _ ⟨m.b2, m.o2 + a, none⟩ = some (.int .i64 (m.q a)) by first | exact C4_0.out | go_simp) (by have := l2; first | omega | (simp; omega))
         have yc5 : w'.cell? ⟨m.b2, m.o2 + b, none⟩ = some (.int .i64 (m.q b)) := step_cell hb (show World.cell? _ ⟨m.b2, m.o2 + b, none⟩ = some (.int .i64 (m.q b)) by first | exact C5_0.out | go_simp) (by have := l2; first | omega | (simp; omega))
         clear hk hD hb hg
         go_simp
         try rfl
       simp only [Act.put, List.setIfInBounds_toArray, List.set_cons_zero, List.set_cons_succ]))
  refine Fx.callvE_ ((.int .i64 (cq))) ?_ ?_ (by rfl) ?_ ?_ ?_
  rotate_left 2
  · intro w'
    go_simp
    refine ⟨?_, ?_⟩ <;> rfl
  · intro g f w' hD hk
    exact (cmp_is _ _ cq HX1.out w').mono fun e w'' ⟨he, hw⟩ => ⟨he, hw ▸ hD⟩
  simp only [Act.put, List.setIfInBounds_toArray, List.set_cons_zero, List.set_cons_succ]
  repeat (first
    | (refine Fx.skipE_ (by rfl) (fun g f w h => h) ?_; simp only [Act.put, List.setIfInBounds_toArray, List.set_cons_zero, List.set_cons_succ])
    | (refine Fx.valE_ ?_ (by rfl) ?_ (fun g f w h => h) ?_
       rotate_left
       · intro g f w' hD hk
         obtain ⟨hb, hg⟩ := id hD
         have yc0 : w'.cell? ⟨mb, 0, none⟩ = some (.slice (some ⟨m.b1, m.o1, none⟩) m.n m.c1) := step_cell hb (show World.cell? _ ⟨mb, 0, none⟩ = some (.slice (some ⟨m.b1, m.o1, none⟩) m.n m.c1) by first | exact C0_0.out | go_simp) (by have := l0; first | omega | (simp; omega))
         have yc1 : w'.cell? ⟨mb, 1, none⟩ = some (.slice (some ⟨m.b2, m.o2, none⟩) m.n m.c2) := step_cell hb (show World.cell? _ ⟨mb, 1, none⟩ = some (.slice (some ⟨m.b2, m.o2, none⟩) m.n m.c2) by first | exact C1_0.out | go_simp) (by have := l0; first | omega | (simp; omega))
         have yc2 : w'.cell? ⟨m.b1, m.o1 + a, none⟩ = some (.int .i64 (m.h a)) := step_cell hb (show World.cell? _ ⟨m.b1, m.o1 + a, none⟩ = some (.int .i64 (m.h a)) by first | exact C2_0.out | go_simp) (by have := l1; first | omega | (simp; omega))
         have yc3 : w'.cell? ⟨m.b1, m.o1 + b, none⟩ = some (.int .i64 (m.h b)) := step_cell hb (show World.cell? _ ⟨m.b1, m.o1 + b, none⟩ = some (.int .i64 (m.h b)) by first | exact C3_0.out | go_simp) (by have := l1; first | omega | (simp; omega))
         have yc4 : w'.cell? ⟨m.b2, m.o2 + a, none⟩ = some (.int .i64 (m.q a)) := step_cell hb (show World.cell? _ ⟨m.b2, m.o2 + a, none⟩ = some (.int .i64 (m.q a)) by first | exact C4_0.out | go_simp) (by have := l2; first | omega | (simp; omega))
         have yc5 : w'.cell? ⟨m.b2, m.o2 + b, none⟩ = some (.int .i64 (m.q b)) := step_cell hb (show World.cell? _ ⟨m.b2, m.o2 + b, none⟩ = some (.int .i64 (m.q b)) by first | exact C5_0.out | go_simp) (by have := l2; first | omega | (simp; omega))
         clear hk hD hb hg
         go_simp
         try rfl
       simp only [Act.put, List.setIfInBounds_toArray, List.set_cons_zero, List.set_cons_succ]))
  refine Fx.callvE_ ((.int .i64 (ch))) ?_ ?_ (by rfl) ?_ ?_ ?_
  rotate_left 2
  · intro w'
    go_simp
    refine ⟨?_, ?_⟩ <;> rfl
  · intro g f w' hD hk
    exact (cmp_is _ _ ch HY1.out w').mono fun e w'' ⟨he, hw⟩ => ⟨he, hw ▸ hD⟩
  simp only [Act.put, List.setIfInBounds_toArray, List.set_cons_zero, List.set_cons_succ]
  repeat (first
    | (refine Fx.skipE_ (by rfl) (fun g f w h => h) ?_; simp only [Act.put, List.setIfInBounds_toArray, List.set_cons_zero, List.set_cons_succ])
    | (refine Fx.valE_ ?_ (by rfl) ?_ (fun g f w h => h) ?_
       rotate_left
       · intro g f w' hD hk
         obtain ⟨hb, hg⟩ := id hD
         have yc0 : w'.cell? ⟨mb, 0, none⟩ = some (.slice (some ⟨m.b1, m.o1, none⟩) m.n m.c1) := step_cell hb (show World.cell? _ ⟨mb, 0, none⟩ = some (.slice (some ⟨m.b1, m.o1, none⟩) m.n m.c1) by first | exact C0_0.out | go_simp) (by have := l0; first | omega | (simp; omega))
         have yc1 : w'.cell? ⟨mb, 1, none⟩ = some (.slice (some ⟨m.b2, m.o2, none⟩) m.n m.c2) := step_cell hb (show World.cell? _ ⟨mb, 1, none⟩ = some (.slice (some ⟨m.b2, m.o2, none⟩) m.n m.c2) by first | exact C1_0.out | go_simp) (by have := l0; first | omega | (simp; omega))
         have yc2 : w'.cell? ⟨m.b1, m.o1 + a, none⟩ = some (.int .i64 (m.h a)) := step_cell hb (show World.cell? _ ⟨m.b1, m.o1 + a, none⟩ = some (.int .i64 (m.h a)) by first | exact C2_0.out | go_simp) (by have := l1; first | omega | (simp; omega))
         have yc3 : w'.cell? ⟨m.b1, m.o1 + b, none⟩ = some (.int .i64 (m.h b)) := step_cell hb (show World.cell? _ ⟨m.b1, m.o1 + b, none⟩ = some (.int .i64 (m.h b)) by first | exact C3_0.out | go_simp) (by have := l1; first | omega | (simp; omega))
         have yc4 : w'.cell? ⟨m.b2, m.o2 + a, none⟩ = some (.int .i64 (m.q a)) := step_cell hb (show World.cell? _ ⟨m.b2, m.o2 + a, none⟩ = some (.int .i64 (m.q a)) by first | exact C4_0.out | go_simp) (by have := l2; first | omega | (simp; omega))
         have yc5 : w'.cell? ⟨m.b2, m.o2 + b, none⟩ = some (.int .i64 (m.q b)) := step_cell hb (show World.cell? _ ⟨m.b2, m.o2 + b, none⟩ = some (.int .i64 (m.q b)) by first | exact C5_0.out | go_simp) (by have := l2; first | omega | (simp; omega))
         clear hk hD hb hg
         go_simp
         try rfl
       simp only [Act.put, List.setIfInBounds_toArray, List.set_cons_zero, List.set_cons_succ]))
  refine Fx.makeE_ (by rfl) (by rfl) ?_ ?_
  · intro f w' hD hk
    refine ⟨w'.heap.size, w'.alloc (.cells #[.int .i64 (cq), .int .i64 (ch)] 3), ?_, ?_⟩
    · clear hD hk
      go_simp
      try rfl
    · exact ⟨hD.1.alloc hD.1.size _, fun y hy => by cases hy; exact Blk.reads (Blk.new _ _ _) rfl⟩
  intro x
  simp only [Act.put, List.setIfInBounds_toArray, List.set_cons_zero, List.set_cons_succ]
  repeat (first
    | (refine Fx.skip_ (by rfl) (fun f w h => h) ?_; simp only [Act.put, List.setIfInBounds_toArray, List.set_cons_zero, List.set_cons_succ])
    | (refine Fx.val_ ?_ (by rfl) ?_ (fun f w h => h) ?_
       rotate_left
       · intro f w' hD hk
         obtain ⟨hb, hg⟩ := id hD
         have yc0 : w'.cell? ⟨mb, 0, none⟩ = some (.slice (some ⟨m.b1, m.o1, none⟩) m.n m.c1) := step_cell hb (show World.cell? _ ⟨mb, 0, none⟩ = some (.slice (some ⟨m.b1, m.o1, none⟩) m.n m.c1) by first | exact C0_0.out | go_simp) (by have := l0; first | omega | (simp; omega))
         have yc1 : w'.cell? ⟨mb, 1, none⟩ = some (.slice (some ⟨m.b2, m.o2, none⟩) m.n m.c2) := step_cell hb (show World.cell? _ ⟨mb, 1, none⟩ = some (.slice (some ⟨m.b2, m.o2, none⟩) m.n m.c2) by first | exact C1_0.out | go_simp) (by have := l0; first | omega | (simp; omega))
         have yc2 : w'.cell? ⟨m.b1, m.o1 + a, none⟩ = some (.int .i64 (m.h a)) := step_cell hb (show World.cell? _ ⟨m.b1, m.o1 + a, none⟩ = some (.int .i64 (m.h a)) by first | exact C2_0.out | go_simp) (by have := l1; first | omega | (simp; omega))
         have yc3 : w'.cell? ⟨m.b1, m.o1 + b, none⟩ = some (.int .i64 (m.h b)) := step_cell hb (show World.cell? _ ⟨m.b1, m.o1 + b, none⟩ = some (.int .i64 (m.h b)) by first | exact C3_0.out | go_simp) (by have := l1; first | omega | (simp; omega))
         have yc4 : w'.cell? ⟨m.b2, m.o2 + a, none⟩ = some (.int .i64 (m.q a)) := step_cell hb (show World.cell? _ ⟨m.b2, m.o2 + a, none⟩ = some (.int .i64 (m.q a)) by first | exact C4_0.out | go_simp) (by have := l2; first | omega | (simp; omega))
         have yc5 : w'.cell? ⟨m.b2, m.o2 + b, none⟩ = some (.int .i64 (m.q b)) := step_cell hb (show World.cell? _ ⟨m.b2, m.o2 + b, none⟩ = some (.int .i64 (m.q b)) by first | exact C5_0.out | go_simp) (by have := l2; first | omega | (simp; omega))
         clear hk hD hb hg
         go_simp
         try rfl
       simp only [Act.put, List.setIfInBounds_toArray, List.set_cons_zero, List.set_cons_succ]))
  refine Fx.call_ (.int .i64 (t)) ?_ ?_ (by rfl) ?_ ?_ ?_
  rotate_left 2
  · intro w'
    go_simp
    refine ⟨?_, ?_⟩ <;> rfl
  · intro f w' hD hk
    exact (or2_is cq ch _ _ _ t HT.out w' (hD.2 _ rfl)).mono fun e w'' ⟨he, hw⟩ => ⟨he, hw ▸ hD⟩
  simp only [Act.put, List.setIfInBounds_toArray, List.set_cons_zero, List.set_cons_succ]
  repeat (first
    | (refine Fx.skip_ (by rfl) (fun f w h => h) ?_; simp only [Act.put, List.setIfInBounds_toArray, List.set_cons_zero, List.set_cons_succ])
    | (refine Fx.val_ ?_ (by rfl) ?_ (fun f w h => h) ?_
       rotate_left
       · intro f w' hD hk
         obtain ⟨hb, hg⟩ := id hD
         have yc0 : w'.cell? ⟨mb, 0, none⟩ = some (.slice (some ⟨m.b1, m.o1, none⟩) m.n m.c1) := step_cell hb (show World.cell? _ ⟨mb, 0, none⟩ = some (.slice (some ⟨m.b1, m.o1, none⟩) m.n m.c1) by first | exact C0_0.out | go_simp) (by have := l0; first | omega | (simp; omega))
         have yc1 : w'.cell? ⟨mb, 1, none⟩ = some (.slice (some ⟨m.b2, m.o2, none⟩) m.n m.c2) := step_cell hb (show World.cell? _ ⟨mb, 1, none⟩ = some (.slice (some ⟨m.b2, m.o2, none⟩) m.n m.c2) by first | exact C1_0.out | go_simp) (by have := l0; first | omega | (simp; omega))
         have yc2 : w'.cell? ⟨m.b1, m.o1 + a, none⟩ = some (.int .i64 (m.h a)) := step_cell hb (show World.cell? _ ⟨m.b1, m.o1 + a, none⟩ = some (.int .i64 (m.h a)) by first | exact C2_0.out | go_simp) (by have := l1; first | omega | (simp; omega))
         have yc3 : w'.cell? ⟨m.b1, m.o1 + b, none⟩ = some (.int .i64 (m.h b)) := step_cell hb (show World.cell? _ ⟨m.b1, m.o1 + b, none⟩ = some (.int .i64 (m.h b)) by first | exact C3_0.out | go_simp) (by have := l1; first | omega | (simp; omega))
         have yc4 : w'.cell? ⟨m.b2, m.o2 + a, none⟩ = some (.int .i64 (m.q a)) := step_cell hb (show World.cell? _ ⟨m.b2, m.o2 + a, none⟩ = some (.int .i64 (m.q a)) by first | exact C4_0.out | go_simp) (by have := l2; first | omega | (simp; omega))
         have yc5 : w'.cell? ⟨m.b2, m.o2 + b, none⟩ = some (.int .i64 (m.q b)) := step_cell hb (show World.cell? _ ⟨m.b2, m.o2 + b, none⟩ = some (.int .i64 (m.q b)) by first | exact C5_0.out | go_simp) (by have := l2; first | omega | (simp; omega))
         clear hk hD hb hg
         go_simp
         try rfl
       simp only [Act.put, List.setIfInBounds_toArray, List.set_cons_zero, List.set_cons_succ]))
  refine Fx.nil_ ?_
  intro f w1 hall hD
  have hb := hD.1
  clear hall hD
  have HB1 := Lib.hid (show Below w.heap.size w w1 from step_below hb (by repeat' (first | exact Below.refl _ _ | exact HB0.out | refine below_drewN ?_ _ | refine Below.drew ?_ | refine Below.alloc ?_ (by first | omega | (simp; done) | (simp; omega) | (simp [World.setCell]; omega)) _ | refine Below.setCell ?_ (by first | omega | (simp; done) | (simp; omega)) _ | assumption)))
  have C0_1 := Lib.hid (step_cell hb (show World.cell? _ ⟨mb, 0, none⟩ = some (.slice (some ⟨m.b1, m.o1, none⟩) m.n m.c1) by first | exact C0_0.out | go_simp) (by have := l0; first | omega | (simp; omega)))
  have C1_1 := Lib.hid (step_cell hb (show World.cell? _ ⟨mb, 1, none⟩ = some (.slice (some ⟨m.b2, m.o2, none⟩) m.n m.c2) by first | exact C1_0.out | go_simp) (by have := l0; first | omega | (simp; omega)))
  have C2_1 := Lib.hid (step_cell hb (show World.cell? _ ⟨m.b1, m.o1 + a, none⟩ = some (.int .i64 (m.h a)) by first | exact C2_0.out | go_simp) (by have := l1; first | omega | (simp; omega)))
  have C3_1 := Lib.hid (step_cell hb (show World.cell? _ ⟨m.b1, m.o1 + b, none⟩ = some (.int .i64 (m.h b)) by first | exact C3_0.out | go_simp) (by have := l1; first | omega | (simp; omega)))
  have C4_1 := Lib.hid (step_cell hb (show World.cell? _ ⟨m.b2, m.o2 + a, none⟩ = some (.int .i64 (m.q a)) by first | exact C4_0.out | go_simp) (by have := l2; first | omega | (simp; omega)))
  have C5_1 := Lib.hid (step_cell hb (show World.cell? _ ⟨m.b2, m.o2 + b, none⟩ = some (.int .i64 (m.q b)) by first | exact C5_0.out | go_simp) (by have := l2; first | omega | (simp; omega)))
  have hz1 := hb.size
  try simp only [World.size_alloc, World.drewN, World.drew] at hz1
  clear hb
  go_wp2
  go_ret
  exact ⟨rfl, HB1.out⟩
end Go.Proofs.Ytmejiafmmmeloaa

end

section
/- Plain model of the lower hull of a map, of its line, and of the least sum. -/
namespace Go.Proofs.Ytmejiafmmmeloaa
open Go.RowKit

/-- What does not stay below the line to k is taken off (the last one first). -/
def popR (h q : Nat → Int) : List Nat → Nat → List Nat
  | b :: a :: r, k => if underB h q a b k then b :: a :: r else popR h q (a :: r) k
  | s, _ => s
def pushR (h q : Nat → Int) (st : List Nat) (k : Nat) : List Nat := match st with
  | [] => [k]
  | b :: r => if q b = q k then b :: r else k :: popR h q (b :: r) k
/-- The hull, the last zone first. -/
def hullR (h q : Nat → Int) (order : List Nat) : List Nat := order.foldl (pushR h q) []
def ltZ (h q : Nat → Int) : Nat → Nat → Bool := fun a b => decide (cmpZ h q a b < 0)
def orderF (h q : Nat → Int) (n : Nat) : List Nat := sortF (ltZ h q) (List.range n)
def hullF (h q : Nat → Int) (n : Nat) : List Nat := (hullR h q (orderF h q n)).reverse

theorem hullR_snoc (h q : Nat → Int) (l : List Nat) (k : Nat) : hullR h q (l ++ [k]) = pushR h q (hullR h q l) k := by unfold hullR; rw [List.foldl_append]; rfl
theorem popR_len (h q : Nat → Int) (k : Nat) : ∀ st, (popR h q st k).length ≤ st.length
  | [] => by unfold popR; exact Nat.le_refl _
  | [b] => by unfold popR; exact Nat.le_refl _
  | b :: a :: r => by
    unfold popR
    by_cases hu : underB h q a b k = true
    · rw [if_pos hu]; exact Nat.le_refl _
    · rw [if_neg hu]
      have := popR_len h q k (a :: r)
      simp only [List.length_cons] at this ⊢
      omega
theorem popR_mem (h q : Nat → Int) (k : Nat) : ∀ st x, x ∈ popR h q st k → x ∈ st
  | [], x, hx => by unfold popR at hx; exact hx
  | [b], x, hx => by unfold popR at hx; exact hx
  | b :: a :: r, x, hx => by
    unfold popR at hx
    by_cases hu : underB h q a b k = true
    · rw [if_pos hu] at hx; exact hx
    · rw [if_neg hu] at hx
      exact List.mem_cons_of_mem _ (popR_mem h q k (a :: r) x hx)
theorem pushR_len (h q : Nat → Int) (st : List Nat) (k : Nat) : (pushR h q st k).length ≤ st.length + 1 := by
  unfold pushR
  cases st with
  | nil => simp
  | cons b r =>
    simp only
    split
    · omega
    · have := popR_len h q k (b :: r); simp only [List.length_cons] at this ⊢; omega
theorem pushR_mem (h q : Nat → Int) (st : List Nat) (k x : Nat) (hx : x ∈ pushR h q st k) : x ∈ st ∨ x = k := by
  unfold pushR at hx
  cases st with
  | nil => exact .inr (by simpa using hx)
  | cons b r =>
    simp only at hx
    split at hx
    · exact .inl hx
    · rcases List.mem_cons.1 hx with hx | hx
      · exact .inr hx
      · exact .inl (popR_mem h q k _ x hx)
theorem hullR_len (h q : Nat → Int) : ∀ (l : List Nat), (hullR h q l).length ≤ l.length := by
  have key : ∀ (l st : List Nat), (l.foldl (pushR h q) st).length ≤ st.length + l.length := by
    intro l
    induction l with
    | nil => intro st; simp
    | cons x l ih => intro st; rw [List.foldl_cons, List.length_cons]; have := ih (pushR h q st x); have := pushR_len h q st x; omega
  intro l
  have := key l []
  unfold hullR
  simpa using this
theorem hullR_mem (h q : Nat → Int) : ∀ (l : List Nat) x, x ∈ hullR h q l → x ∈ l := by
  have key : ∀ (l st : List Nat) x, x ∈ l.foldl (pushR h q) st → x ∈ st ∨ x ∈ l := by
    intro l
    induction l with
    | nil => intro st x hx; exact .inl hx
    | cons y l ih =>
      intro st x hx
      rw [List.foldl_cons] at hx
      rcases ih _ x hx with h1 | h1
      · rcases pushR_mem h q st y x h1 with h2 | h2
        · exact .inl h2
        · exact .inr (by simp [h2])
      · exact .inr (by simp [h1])
  intro l x hx
  rcases key l [] x hx with h1 | h1
  · cases h1
  · exact h1
theorem orderF_len (h q : Nat → Int) (n : Nat) : (orderF h q n).length = n := by unfold orderF; rw [sortF_len]; simp
theorem orderF_mem {h q : Nat → Int} {n x : Nat} : x ∈ orderF h q n ↔ x < n := by unfold orderF; rw [sortF_mem]; simp
end Go.Proofs.Ytmejiafmmmeloaa

end

section
/- The rule for a region whose order is left open, in a round of a range over a function; the marks that such ranges leave among the deferred calls. -/
namespace Go.Proofs.Ytmejiafmmmeloaa.Fx
open Go Go.RowKit

section
variable {P : Program} {ops : Array Oper} {md : Region.Mode}

def noDefer (l : List Oper) : Bool := l.all fun o => match o.op with | .defer _ => false | _ => true
theorem noDefer_spec {l : List Oper} (h : noDefer l = true) {i : Nat} {o : Oper} (ho : l[i]? = some o) (c : Call) : o.op ≠ .defer c := by
  intro e
  have := List.all_eq_true.1 h o (List.mem_of_getElem? ho)
  rw [e] at this
  cases this

theorem Gives.wpIn {r n : Nat} {o : Oper} {a : Act} {w : World} {v : Value} {R : World → Prop} {K : Act → World → Prop} {Q : Exit → Act → World → Prop} (hd : ∀ c, o.op ≠ .defer c) (h : Gives P o a w v R) (hk : ∀ w', R w' → K (a.put o.dst v) w') : o.wpIn (Fence.wide.inRound r) n P a w K Q := by
  unfold Oper.wpIn
  refine ⟨fun f _ => trivial, ?_⟩
  rw [Oper.semAt_eq _ _ _ hd]
  unfold Gives at h
  generalize (execOp a.eval o).run P w = q at *
  cases q with
  | halt x w' => exact h.elim
  | ok m w' =>
    cases m
    case value u => obtain ⟨rfl, hr⟩ := h; exact hk _ hr
    case skip => obtain ⟨rfl, hr⟩ := h; exact hk _ hr
    case enter f args =>
      refine ⟨(fun h => by cases h), CallsIn.inRound r (callsIn_wide.2 (Calls.mono h fun e w'' ⟨he, hr⟩ => ?_))⟩
      subst he
      exact hk _ hr
    all_goals exact h.elim

theorem wpAnyIn_of_anyF {r m : Nat} {C : Array Bool → World → Prop} {Q : Array Bool → Act → Prop} {Q' : Exit → Act → World → Prop} (hd : ∀ (i : Nat) (o : Oper), ops[i]? = some o → ∀ c, o.op ≠ .defer c) (hQ : ∀ L a w, C L w → Q L a → Q' .normal a w) :
    ∀ (n : Nat) (L : Array Bool) (a : Act) (w : World), C L w → anyF P md ops C Q n L a → wpAnyIn (Fence.wide.inRound r) m P md ops Q' n L a w
  | 0, _, _, _, hc, h => ⟨h.1, hQ _ _ _ hc h.2⟩
  | n + 1, L, a, w, hc, h => ⟨fun h0 => hQ _ _ _ hc (h.1 h0), fun i hi => by
      obtain ⟨o, v, ho, hs, hn⟩ := h.2 i hi
      unfold wpOpIn
      simp only [ho]
      rcases hs with ⟨h1, h2⟩ | ⟨h1, h2, h3⟩
      · rw [if_pos h1]
        exact (h2 L w hc hi).wpIn (hd i o ho) fun w' hw' => wpAnyIn_of_anyF hd hQ n _ _ w' hw' hn
      · rw [if_neg (by rw [h1]; exact Bool.false_ne_true)]
        subst h2
        exact ⟨fun f _ => trivial, wpAnyIn_of_anyF hd hQ n _ _ w (h3 L w hc hi) hn⟩⟩

/-- THE RULE, in a round. -/
theorem regionIn {r m id : Nat} {Q : Exit → Act → World → Prop} {a : Act} {w : World} {l : List Oper} (D : (Nat → Bool) → World → Prop) (hm : P.follows .mixedOrders = true) (hB : Region.lexB .any l.toArray = true) (hnd : noDefer l = true)
    (h0 : ∀ f, (∀ j, f j = false) → D f (w.drewN 1)) (h : lexD P .any l.toArray D (fun a' => ∀ f w', (∀ j, j < l.length → f j = true) → D f w' → Q .normal a' w') l 0 a) :
    (Code.region id l.toArray true).wpIn (Fence.wide.inRound r) m P Q a w := by
  simp only [Region.lexB, Bool.and_eq_true] at hB
  refine wpIn_region_any hm (wpAnyIn_of_anyF (C := fun L w => Closed .any l.toArray L ∧ D (fun j => L.getD j false) w)
    (Q := fun L a' => ∀ w', D (fun j => L.getD j false) w' → Q .normal a' w') (fun i o ho => noDefer_spec hnd (by simpa using ho)) (fun L a w hc hq => hq w hc.2) _ _ _ _ ⟨Closed.start _ _, h0 _ (fun j => ?_)⟩ ?_)
  · simp only [Array.getD_eq_getD_getElem?, Array.getElem?_replicate]; split <;> rfl
  · have := anyF_lex (C := fun L w => Closed .any l.toArray L ∧ D (fun j => L.getD j false) w) (Q := fun L a' => ∀ w', D (fun j => L.getD j false) w' → Q .normal a' w')
      (P := P) hB.1 l 0 (Array.replicate l.toArray.size false) a (by simp) (by simpa using hB.2)
      (lexF_of_lexD l.length (by simp) (fun L a hL hq w' hd => hq _ w' hL hd) l 0 _ a (by simp) (by simp) (by omega) h)
    simpa using this
end

theorem grown_trans_ {a w w' : World} {row : Option Nat} (h : a.grownBy w row) (k : w.grownBy w' row) : a.grownBy w' row :=
  ⟨k.os.trans h.os, k.tape.trans h.tape, k.output.trans h.output, Nat.le_trans h.size k.size, fun i hi hne => (k.block i (Nat.lt_of_lt_of_le hi h.size) hne).trans (h.block i hi hne)⟩
theorem ownFrom_grown {β : Type} {B : Nat} {w₀ : World} {r₀ : Option Nat} (hB : w₀.heap.size ≤ B) : OwnFrom B (fun (_ : β) W => w₀.grownBy W r₀) :=
  fun _ X Y row hs hg hr => ⟨hg.os.trans hs.os, hg.tape.trans hs.tape, hg.output.trans hs.output, Nat.le_trans hs.size hg.size, fun i hi hne =>
    (hg.block i (Nat.lt_of_lt_of_le hi hs.size) (fun e => by have := (hr i e.symm).1; omega)).trans (hs.block i hi hne)⟩
theorem ownFrom_cells {β : Type} {B g : Nat} {T : TypeId} {f : β → Array Value} : OwnFrom B (fun (s : β) W => W.heap[g]? = some (.cells (f s) T (0, 0))) :=
  fun s X Y row hs hg hr => (hg.block g (Array.getElem?_eq_some_iff.1 hs).1 (fun e => by
    obtain ⟨-, o, ho, hc⟩ := hr g e.symm
    rw [hs] at ho
    cases ho
    cases hc)).trans hs

/-! Marks. -/
/-- The deferred calls that ranges over functions have left: blocks Ds. -/
def marks (Ds : List Nat) : List Deferred := Ds.map fun D => { target := .collected D, args := #[] }
/-- The blocks of the marks are there, each for itself, from B on. -/
def MarksAt (B : Nat) (Ds : List Nat) (w : World) : Prop := Ds.Nodup ∧ ∀ D ∈ Ds, B ≤ D ∧ w.heap[D]? = some (.deferred (some []))

theorem MarksAt.nil (B : Nat) (w : World) : MarksAt B [] w := ⟨by simp, fun D h => by cases h⟩
theorem MarksAt.keep {B : Nat} {Ds : List Nat} {w w' : World} (h : MarksAt B Ds w) (hk : ∀ D, B ≤ D → D < w.heap.size → w'.heap[D]? = w.heap[D]?) : MarksAt B Ds w' :=
  ⟨h.1, fun D hD => ⟨(h.2 D hD).1, (hk D (h.2 D hD).1 (Array.getElem?_eq_some_iff.1 (h.2 D hD).2).1).trans (h.2 D hD).2⟩⟩
theorem MarksAt.cons {B D : Nat} {Ds : List Nat} {w : World} (h : MarksAt B Ds w) (hB : B ≤ D) (hD : w.heap[D]? = some (.deferred (some []))) (hn : D ∉ Ds) : MarksAt B (D :: Ds) w :=
  ⟨List.nodup_cons.2 ⟨hn, h.1⟩, fun E hE => by
    rcases List.mem_cons.1 hE with rfl | hE
    · exact ⟨hB, hD⟩
    · exact h.2 E hE⟩

/-- A function that leaves with marks alone. -/
theorem leaves_marks {P : Program} {fn : Func} {n : Nat} {tmps : Array Value} {R : Ending → World → Prop} {B : Nat} : ∀ (Ds : List Nat) (w : World), MarksAt B Ds w →
    (∀ w', (∀ k, k < w.heap.size → (∀ D ∈ Ds, k ≠ D) → w'.heap[k]? = w.heap[k]?) → w'.os = w.os → w'.tape = w.tape → w'.output = w.output → w'.heap.size = w.heap.size → LeavesIn Fence.wide n P fn tmps R [] .returning w') →
    LeavesInM Fence.wide n P fn tmps R (marks Ds) .returning w
  | [], w, _, h => h w (fun _ _ _ => rfl) rfl rfl rfl rfl
  | D :: Ds, w, hm, h => by
    have hD := (hm.2 D (by simp)).2
    have hlt := (Array.getElem?_eq_some_iff.1 hD).1
    have hnd := List.nodup_cons.1 hm.1
    refine ⟨by simp, .inl ⟨D, _, rfl, run_takeDeferred hD, ?_⟩⟩
    have hput : ∀ k, k ≠ D → (w.putObj D (.deferred none)).heap[k]? = w.heap[k]? := fun k hk => World.putObj_heap_other hk
    have hsz : (w.putObj D (.deferred none)).heap.size = w.heap.size := by simp [World.putObj]
    refine leaves_marks Ds _ ⟨hnd.2, fun E hE => ⟨(hm.2 E (by simp [hE])).1, ?_⟩⟩ fun w' h1 h2 h3 h4 h5 => h w' (fun k hk hne => ?_) h2 h3 h4 (h5.trans hsz)
    · rw [hput E (fun e => hnd.1 (e ▸ hE))]
      exact (hm.2 E (by simp [hE])).2
    · rw [h1 k (by omega) (fun E hE => hne E (by simp [hE])), hput k (hne D (by simp))]
end Go.Proofs.Ytmejiafmmmeloaa.Fx

end
