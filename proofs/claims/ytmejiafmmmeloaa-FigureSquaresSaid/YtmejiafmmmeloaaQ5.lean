import Derived.Test.YtmejiafmmmeloaaQ4
import Derived.Test.YtmejiafmmmeloaaQ1
import Derived.Test.YtmejiafmmmeloaaQ2
import Derived.Test.YtmejiafmmmeloaaQ3
import Derived.RangeFuncNested
import Derived.RangeFuncBound
import Derived.RangeFuncCalls
import Derived.RangeFuncLeaves
import Derived.RangeFuncBox
import Derived.Shelf.Abstract
import Derived.Shelf.RegionOpen
import Derived.WalkKit
import Derived.OwnWalkIn
import Derived.TacticsInMore
import Derived.LoopNIn
import Derived.LoopIn
import Derived.Maps.OwnIn
import Derived.Maps.AppendAt
import Derived.Test.YtmejiafmmmeloaaRows
import Derived.ProofKit
import Derived.OpenShut
import Derived.ReadAgain
import Derived.Lib.SmallJoins
import Derived.Deep.Slices
import Derived.Deep.Fields

section
/- Classes of worlds for the region rule in which several operations choose: memory of two cells that is made and stored into, and a copied list. -/
namespace Go.Proofs.Ytmejiafmmmeloaa
open Go.RowKit

/-- What is chosen: a slice's address and capacity, or the place of new memory. -/
abbrev Pick := Option Addr × Nat

/-- The new block that operation c makes holds two cells: v0 and v1 when operation s (the store) has come. -/
def MkM (T : TypeId) (v0 v1 : Value) (c s : Nat) (W : World) (g : Nat → Option Pick) (f : Nat → Bool) (w' : World) : Prop :=
  ∀ x, g c = some x → ∃ b, x.1 = some ⟨b, 0, none⟩ ∧ W.heap.size ≤ b ∧ ∃ e0 e1, Blk w' b T #[e0, e1] ∧ (f s = true → e0 = v0 ∧ e1 = v1)
/-- The list that operation c yields reads so, until operation s (a store) comes. -/
def RdM (size n : Nat) (xs : List Value) (c s : Nat) (g : Nat → Option Pick) (f : Nat → Bool) (w' : World) : Prop := ∀ x, g c = some x → f s = false → Reads w' w'.heap.size size x.1 n xs

theorem add_ne' {f : Nat → Bool} {k s : Nat} (hk : k ≠ s) : Fx.add f k s = f s := by
  unfold Fx.add
  cases h : s.beq k with
  | false => simp
  | true => exact absurd (Nat.eq_of_beq_eq_true h).symm hk
theorem add_same {f : Nat → Bool} {k : Nat} : Fx.add f k k = true := by
  unfold Fx.add
  rw [show Nat.beq k k = true from Nat.beq_refl k]
  rfl
theorem upd_ne {X : Type} {g : Nat → Option X} {i c : Nat} {x : X} (h : c ≠ i) : Fx.upd g i x c = g c := by
  unfold Fx.upd
  cases e : Nat.beq c i with
  | false => rfl
  | true => exact absurd (Nat.eq_of_beq_eq_true e) h

section
variable {T : TypeId} {v0 v1 : Value} {c s k i size n : Nat} {xs : List Value} {W w' w'' : World} {g g' : Nat → Option Pick} {f : Nat → Bool} {x : Pick}
theorem MkM.start : MkM T v0 v1 c s W (fun _ => none) f w' := fun x h => by cases h
theorem RdM.start : RdM size n xs c s (fun _ => none) f w' := fun x h => by cases h
theorem MkM.step (h : MkM T v0 v1 c s W g f w') (hb : Below w'.heap.size w' w'') (hk : k ≠ s) : MkM T v0 v1 c s W g (Fx.add f k) w'' := fun x hx => by
  obtain ⟨b, h0, h1, e0, e1, h2, h3⟩ := h x hx
  exact ⟨b, h0, h1, e0, e1, h2.below hb h2.lt, fun h => h3 (by rwa [add_ne' hk] at h)⟩
theorem RdM.step (h : RdM size n xs c s g f w') (hb : Below w'.heap.size w' w'') (hk : k ≠ s) : RdM size n xs c s g (Fx.add f k) w'' := fun x hx hf => by
  rw [add_ne' hk] at hf
  exact ((h x hx hf).below hb).more hb.size
theorem RdM.stored : RdM size n xs c s g (Fx.add f s) w'' := fun x _ hf => by rw [add_same] at hf; cases hf
theorem MkM.other (h : MkM T v0 v1 c s W g f w') (hc : c ≠ i) : MkM T v0 v1 c s W (Fx.upd g i x) f w' := fun y hy => h y (by rwa [upd_ne hc] at hy)
theorem RdM.other (h : RdM size n xs c s g f w') (hc : c ≠ i) : RdM size n xs c s (Fx.upd g i x) f w' := fun y hy => h y (by rwa [upd_ne hc] at hy)
theorem RdM.new (h : Reads w' w'.heap.size size x.1 n xs) : RdM size n xs c s (Fx.upd g c x) f w' := fun y hy _ => by rw [Fx.upd_same] at hy; cases hy; exact h
theorem MkM.make {a b : Value} (hW : W.heap.size ≤ w'.heap.size) (hs : f s = false) (hk : c ≠ s) : MkM T v0 v1 c s W (Fx.upd g c (some ⟨w'.heap.size, 0, none⟩, 0)) (Fx.add f c) (w'.alloc (.cells #[a, b] T)) := fun y hy => by
  rw [Fx.upd_same] at hy
  cases hy
  refine ⟨w'.heap.size, rfl, hW, a, b, Blk.new _ _ _, fun h => ?_⟩
  rw [add_ne' hk, hs] at h
  cases h
theorem MkM.cells (h : MkM T v0 v1 c s W g f w') (hx : g c = some x) : ∃ b e0 e1, x.1 = some ⟨b, 0, none⟩ ∧ W.heap.size ≤ b ∧ w'.cell? ⟨b, 0, none⟩ = some e0 ∧ w'.cell? ⟨b, 1, none⟩ = some e1 ∧ w'.frozen? ⟨b, 0, none⟩ = false ∧ w'.frozen? ⟨b, 1, none⟩ = false := by
  obtain ⟨b, h0, h1, e0, e1, h2, -⟩ := h x hx
  exact ⟨b, e0, e1, h0, h1, h2.cell 0, h2.cell 1, h2.frozen 0, h2.frozen 1⟩
/-- The store, seen by the block that it stores into. -/
theorem MkM.store {b : Nat} (h : MkM T v0 v1 c s W g f w') (hx : g c = some x) (hb : x.1 = some ⟨b, 0, none⟩) : MkM T v0 v1 c s W g (Fx.add f s) ((w'.setCell ⟨b, 0, none⟩ v0).setCell ⟨b, 1, none⟩ v1) := fun y hy => by
  rw [hx] at hy
  cases hy
  obtain ⟨b', h0, h1, e0, e1, h2, -⟩ := h x hx
  rw [hb] at h0
  cases h0
  refine ⟨b, hb, h1, v0, v1, ?_, fun _ => ⟨rfl, rfl⟩⟩
  have := (h2.set_ 0 v0).set_ 1 v1
  simpa using this
/-- A store, seen by another block. -/
theorem MkM.far {b : Nat} {u0 u1 : Value} (h : MkM T v0 v1 c s W g f w') (hk : k ≠ s) (hne : ∀ x b', g c = some x → x.1 = some ⟨b', 0, none⟩ → b' ≠ b) : MkM T v0 v1 c s W g (Fx.add f k) ((w'.setCell ⟨b, 0, none⟩ u0).setCell ⟨b, 1, none⟩ u1) := fun y hy => by
  obtain ⟨b', h0, h1, e0, e1, h2, h3⟩ := h y hy
  have hn := hne y b' hy h0
  exact ⟨b', h0, h1, e0, e1, (h2.far (p := ⟨b, 0, none⟩) hn u0).far (p := ⟨b, 1, none⟩) hn u1, fun h => h3 (by rwa [add_ne' hk] at h)⟩
theorem MkM.lt {b : Nat} (h : MkM T v0 v1 c s W g f w') (hx : g c = some x) (hb : x.1 = some ⟨b, 0, none⟩) : b < w'.heap.size := by
  obtain ⟨b', h0, -, e0, e1, h2, -⟩ := h x hx
  rw [hb] at h0
  cases h0
  exact h2.lt
/-- New memory is another block. -/
theorem MkM.fresh (h : MkM T v0 v1 c s W g f w') (hc : c ≠ i) (x y : Pick) (bx by_ : Nat) (h1 : Fx.upd g i (some ⟨w'.heap.size, 0, none⟩, 0) c = some x) (h2 : Fx.upd g i (some ⟨w'.heap.size, 0, none⟩, 0) i = some y) (e1 : x.1 = some ⟨bx, 0, none⟩) (e2 : y.1 = some ⟨by_, 0, none⟩) : bx ≠ by_ := by
  rw [upd_ne hc] at h1
  rw [Fx.upd_same] at h2
  cases h2
  cases e2
  have := h.lt h1 e1
  omega
theorem below_store {b : Nat} {u0 u1 : Value} (h : Below W.heap.size W w') (hb : W.heap.size ≤ b) : Below W.heap.size W ((w'.setCell ⟨b, 0, none⟩ u0).setCell ⟨b, 1, none⟩ u1) :=
  (h.setCell (p := ⟨b, 0, none⟩) hb u0).setCell (p := ⟨b, 1, none⟩) hb u1
theorem MkM.end_ (h : MkM T v0 v1 c s W g f w') (hx : g c = some x) (hf : f s = true) : ∃ b, x.1 = some ⟨b, 0, none⟩ ∧ W.heap.size ≤ b ∧ Blk w' b T #[v0, v1] := by
  obtain ⟨b, h0, h1, e0, e1, h2, h3⟩ := h x hx
  obtain ⟨rfl, rfl⟩ := h3 hf
  exact ⟨b, h0, h1, h2⟩
end

/-- Two orders end alike: what comes behind is walked once. -/
theorem share {α β γ : Type} {Fact : α → β → γ → Prop} {G : Prop} {F : α → β → γ → Prop} (main : (∀ x z w, Fact x z w → F x z w) → G) (rest : ∀ x z w, Fact x z w → F x z w) : G := main rest

end Go.Proofs.Ytmejiafmmmeloaa

end

section
/- Contracts of the rounded divisions, and of the product of two fractions that may have great parts. -/
namespace Go.Proofs.Ytmejiafmmmeloaa
open Go.RowKit

theorem floor_eq {a b : Int} (hb : 1 ≤ b) : (if a.tmod b < 0 then a.tdiv b - 1 else a.tdiv b) = a / b := by
  have h1 := Int.emod_nonneg a (show b ≠ 0 by omega)
  have h2 := Int.emod_lt_of_pos a (show 0 < b by omega)
  have e1 := Int.mul_ediv_add_emod a b
  have e2 := Int.mul_tdiv_add_tmod a b
  have h3 : (a.tmod b).natAbs < b.natAbs := tmod_lt a b (by omega)
  obtain ⟨q, hq⟩ : ∃ q, a / b = q := ⟨_, rfl⟩
  obtain ⟨r, hr⟩ : ∃ r, a % b = r := ⟨_, rfl⟩
  obtain ⟨p, hp⟩ : ∃ p, a.tdiv b = p := ⟨_, rfl⟩
  obtain ⟨s, hs⟩ : ∃ s, a.tmod b = s := ⟨_, rfl⟩
  rw [hq, hr] at e1
  rw [hp, hs] at e2
  rw [hs] at h3 ⊢
  rw [hp, hq]
  have key : ∀ k : Int, b * k < b → -b < b * k → k = 0 := by
    intro k k1 k2
    rcases Int.lt_trichotomy k 0 with h | h | h
    · have := Int.mul_le_mul_of_nonneg_left (show k ≤ -1 by omega) (show 0 ≤ b by omega)
      omega
    · exact h
    · have := Int.mul_le_mul_of_nonneg_left (show 1 ≤ k by omega) (show 0 ≤ b by omega)
      omega
  split
  · have := key (p - 1 - q) (by rw [Int.mul_sub, Int.mul_sub]; omega) (by rw [Int.mul_sub, Int.mul_sub]; omega)
    omega
  · rename_i h
    by_cases ha : a.tmod b < 0
    · omega
    · have := key (p - q) (by rw [Int.mul_sub]; omega) (by rw [Int.mul_sub]; omega)
      omega

theorem floor_in {a b : Int} (hb : 1 ≤ b) (h1 : -4000000000000000000 ≤ a) (h2 : a ≤ 4000000000000000000) : -4000000000000000001 ≤ a / b ∧ a / b ≤ 4000000000000000001 ∧ -4000000000000000001 ≤ a.tdiv b ∧ a.tdiv b ≤ 4000000000000000001 := by
  have hq : (a.tdiv b).natAbs ≤ a.natAbs := by rw [Int.natAbs_tdiv]; exact Nat.div_le_self _ _
  have e := floor_eq (a := a) hb
  split at e <;> omega


theorem floorref_any (a b : Int) (w : World) (h1 : -4000000000000000000 ≤ a) (h2 : a ≤ 4000000000000000000) (h3 : 1 ≤ b) (h4 : b ≤ 9223372036854775807) :
    Calls Try.prog 35 #[.int .i64 a, .int .i64 b] w fun e w' => e = .returned (.int .i64 (a / b)) ∧ w = w' := by
  have b0 : ¬ b = 0 := by omega
  have he := floor_eq (a := a) h3
  obtain ⟨f1, f2, f3, f4⟩ := floor_in (a := a) h3 h1 h2
  have hm := tmod_in a b (by omega) h4 b0
  obtain ⟨q, hq⟩ : ∃ q, a.tdiv b = q := ⟨_, rfl⟩
  obtain ⟨r, hr⟩ : ∃ r, a.tmod b = r := ⟨_, rfl⟩
  rw [hq] at f3 f4 he
  rw [hr] at he hm
  have v1 := IntWalk.i64_in q ⟨by omega, by omega⟩
  have v2 := IntWalk.i64_in (q - 1) ⟨by omega, by omega⟩
  have v3 := IntWalk.i64_in r hm
  have HE := Lib.hid he
  clear he
  by_cases hneg : r < 0
  · have hv : a / b = q - 1 := by rw [← HE.out, if_pos hneg]
    have HV := Lib.hid hv
    clear hv
    go_enter Try.func35, Try.ntmps35
    go_wp2
    go_ret
    exact ⟨ret_int HV.out.symm, rfl⟩
  · have hv : a / b = q := by rw [← HE.out, if_neg hneg]
    have HV := Lib.hid hv
    clear hv
    go_enter Try.func35, Try.ntmps35
    go_wp2
    go_ret
    exact ⟨ret_int HV.out.symm, rfl⟩



/-- The product of two fractions whose parts are above 0, each taken against the other. -/
def timesF (a b c d : Int) : (Int × Int) × Bool :=
  if 1000000000 < a / (Int.gcd a d : Int) * (c / (Int.gcd c b : Int)) ∨ 1000000000 < b / (Int.gcd c b : Int) * (d / (Int.gcd a d : Int)) then ((0, 0), false)
  else ((a / (Int.gcd a d : Int) * (c / (Int.gcd c b : Int)), b / (Int.gcd c b : Int) * (d / (Int.gcd a d : Int))), true)

end Go.Proofs.Ytmejiafmmmeloaa

end

section
/- Lists that are known to read so, from one named world to the next. -/
namespace Go.Proofs.Ytmejiafmmmeloaa
open Go.RowKit

section
variable {w W W1 : World}
theorem reads_mid (_ : Below W.heap.size W W1) {wa : World} (h : Below wa.heap.size wa W) : Below wa.heap.size wa W := h
theorem reads_lay (hb : Below W.heap.size W W1) {wa : World} (ha : Below wa.heap.size wa W) {s n : Nat} {A : Option Addr} {xs : List Value} (h : Reads wa wa.heap.size s A n xs) : Reads W1 W1.heap.size s A n xs :=
  ((h.below ha).below (hb.mono ha.size)).more (Nat.le_trans ha.size hb.size)
end
end Go.Proofs.Ytmejiafmmmeloaa

end

section
/- The plain law of tables: what a search by halves finds is what a search row by row finds. -/
namespace Go.Proofs.Ytmejiafmmmeloaa
open Go.RowKit

def mil (z : Int) : Bool := withinB z (-1000000) 1000000
/-- The error of a row behind another one. -/
def rowErr (prev : Option Int) (p : Int × Int) : Int :=
  if mil p.1 = false ∨ mil p.2 = false then 2 else match prev with
    | some q => if p.1 ≤ q then 9 else 0
    | none => 0
def rowsErr : Option Int → List (Int × Int) → Int
  | _, [] => 0
  | prev, p :: l => if rowErr prev p ≠ 0 then rowErr prev p else rowsErr (some p.1) l
/-- The error of a table. -/
def tabErr (l : List (Int × Int)) : Int := if l.length < 1 ∨ 40 < l.length then 10 else rowsErr none l

def prevOf (l : List (Int × Int)) (k : Nat) : Option Int := if k = 0 then none else (l[k - 1]?).map (·.1)

theorem rowsErr_at : ∀ (l : List (Int × Int)) (k : Nat) (prev : Option Int), (∀ j, j < k → ∀ p, l[j]? = some p → rowErr (if j = 0 then prev else (l[j - 1]?).map (·.1)) p = 0) →
    rowsErr prev l = rowsErr (if k = 0 then prev else if k ≤ l.length then (l[k - 1]?).map (·.1) else (l[l.length - 1]?).map (·.1)) (l.drop k) ∨ l = []
  | [], k, prev, _ => .inr rfl
  | p :: l, 0, prev, _ => .inl (by simp)
  | p :: l, k + 1, prev, h => by
    left
    have h0 := h 0 (by omega) p rfl
    simp only [if_true] at h0
    rw [rowsErr, if_neg (by rw [h0]; simp)]
    cases l with
    | nil => simp [rowsErr]
    | cons q l =>
      have := rowsErr_at (q :: l) k (some p.1) (fun j hj x hx => by
        have := h (j + 1) (by omega) x (by simpa using hx)
        rw [if_neg (by omega), Nat.add_sub_cancel] at this
        cases j with
        | zero => simpa using this
        | succ j => simpa using this)
      rcases this with e | e
      · rw [e]
        congr 1
        cases k with
        | zero => simp
        | succ k =>
          simp only [Nat.add_eq_zero_iff, Nat.succ_ne_zero, and_false, if_false]
          simp
      · cases e

/-- The value of a table behind a row. -/
def tabGo (p : Int × Int) : List (Int × Int) → Int → Int
  | [], _ => p.2
  | q :: t, x => if x < q.1 then p.2 + (q.2 - p.2) * (x - p.1) / (q.1 - p.1) else tabGo q t x
/-- The value of a table at a place. -/
def tabAt (l : List (Int × Int)) (x : Int) : Int := match l with
  | [] => 0
  | p :: t => if x ≤ p.1 then p.2 else tabGo p t x

end Go.Proofs.Ytmejiafmmmeloaa

end

section
/- Contracts of the small functions of the package of pointing: bounds of lists, the greatest common divisor, rounding, the first error. -/
namespace Go.Proofs.Ytmejiafmmmeloaa
open Go Go.RowKit



/-- A function value that has captured a pointer and asks something of a number, and changes nothing. -/
structure AsksP (k : FuncId) (vb : Nat) (pr : Int → Bool) (P : World → Prop) : Prop where
  ent : ∀ (args : Array Value) (w : World), (callFunc k args).run Try.prog w = .ok (.enter k args) w
  call : ∀ (z : Int) (t : Bool) (w : World), pr z = t → P w → Calls Try.prog k #[.int .i64 z, .pointer (some ⟨vb, 0, none⟩)] w fun e w' => e = .returned (.bool t) ∧ w = w'

/-- Whether no number is greater in size than a limit. -/
def smallL (m : Int) (l : List Int) : Bool := l.all fun z => withinB z (-m) m


/-- The first error of some. -/
def orE : List Int → Int
  | [] => 0
  | a :: l => if a ≠ 0 then a else orE l
/-- The way from one place to another, and its cost. -/
def wayF (a b : Int) : Int := ((a - b).natAbs : Int)
def costF (a b : Int) : Int := if 648000 < wayF a b then wayF a b + 10000000000 else wayF a b
def PosR (a : Int) : Prop := -100000000000 ≤ a ∧ a ≤ 100000000000




end Go.Proofs.Ytmejiafmmmeloaa

end

section
/- Contracts of the tables of the package of pointing: the check, the search by halves, the value. -/
namespace Go.Proofs.Ytmejiafmmmeloaa
open Go Go.RowKit

/-- The first rows are right. -/
def TabUp (l : List (Int × Int)) (k : Nat) : Prop := ∀ j, j < k → ∀ p, l[j]? = some p → rowErr (prevOf l j) p = 0
theorem TabUp.step {l : List (Int × Int)} {k : Nat} {p : Int × Int} (h : TabUp l k) (hp : l[k]? = some p) (h0 : rowErr (prevOf l k) p = 0) : TabUp l (k + 1) := fun j hj q hq => by
  rcases Nat.lt_or_ge j k with hlt | hge
  · exact h j hlt q hq
  · obtain rfl : j = k := by omega
    rw [hp] at hq
    cases hq
    exact h0
theorem TabUp.stop {l : List (Int × Int)} {k : Nat} {p : Int × Int} {E : Int} (h : TabUp l k) (hp : l[k]? = some p) (hl : ¬ (l.length < 1 ∨ 40 < l.length)) (h0 : rowErr (prevOf l k) p = E) (hE : E ≠ 0) : tabErr l = E := by
  obtain ⟨hk, he⟩ := List.getElem?_eq_some_iff.1 hp
  unfold tabErr
  rw [if_neg hl]
  rcases rowsErr_at l k none (fun j hj q hq => h j hj q hq) with e | e
  · rw [e, if_pos (show k ≤ l.length by omega), List.drop_eq_getElem_cons hk, he]
    have : (if k = 0 then none else (l[k - 1]?).map (·.1)) = prevOf l k := rfl
    rw [this, rowsErr, h0, if_pos hE]
  · subst e; simp at hl
theorem TabUp.all {l : List (Int × Int)} (h : TabUp l l.length) (hl : ¬ (l.length < 1 ∨ 40 < l.length)) : tabErr l = 0 := by
  unfold tabErr
  rw [if_neg hl]
  rcases rowsErr_at l l.length none (fun j hj q hq => h j hj q hq) with e | e
  · rw [e, List.drop_length]; rfl
  · subst e; simp at hl
/-- Where a search by halves ends: all before i lie before x, all from i on at or behind it. -/
def Cut (l : List (Int × Int)) (x : Int) (i j : Nat) : Prop := (∀ q p, q < i → l[q]? = some p → p.1 < x) ∧ (∀ q p, j ≤ q → l[q]? = some p → x ≤ p.1)
theorem pairwise_lt {l : List (Int × Int)} (hs : l.Pairwise (fun a b => a.1 < b.1)) {i j : Nat} {p q : Int × Int} (hp : l[i]? = some p) (hq : l[j]? = some q) (h : i < j) : p.1 < q.1 := by
  obtain ⟨h1, e1⟩ := List.getElem?_eq_some_iff.1 hp
  obtain ⟨h2, e2⟩ := List.getElem?_eq_some_iff.1 hq
  have := (List.pairwise_iff_getElem.1 hs) i j h1 h2 h
  rw [e1, e2] at this
  exact this
theorem Cut.left {l : List (Int × Int)} {x : Int} {i j h : Nat} {p : Int × Int} (hc : Cut l x i j) (hs : l.Pairwise (fun a b => a.1 < b.1)) (hp : l[h]? = some p) (hlt : p.1 < x) : Cut l x (h + 1) j :=
  ⟨fun q r hq hr => by
    rcases Nat.lt_or_ge q h with hh | hh
    · have := pairwise_lt hs hr hp hh; omega
    · obtain rfl : q = h := by omega
      rw [hp] at hr; cases hr; exact hlt, hc.2⟩
theorem Cut.right {l : List (Int × Int)} {x : Int} {i j h : Nat} {p : Int × Int} (hc : Cut l x i j) (hs : l.Pairwise (fun a b => a.1 < b.1)) (hp : l[h]? = some p) (hge : x ≤ p.1) : Cut l x i h :=
  ⟨hc.1, fun q r hq hr => by
    rcases Nat.lt_or_ge h q with hh | hh
    · have := pairwise_lt hs hp hr hh; omega
    · obtain rfl : q = h := by omega
      rw [hp] at hr; cases hr; exact hge⟩

end Go.Proofs.Ytmejiafmmmeloaa

end

section
/- The value of a right table, as the package of pointing finds it. -/
namespace Go.Proofs.Ytmejiafmmmeloaa
open Go Go.RowKit

end Go.Proofs.Ytmejiafmmmeloaa

end

section
/- Contracts of the tables: TableAt of the package of pointing, and the reference's check and value. -/
namespace Go.Proofs.Ytmejiafmmmeloaa
open Go Go.RowKit

end Go.Proofs.Ytmejiafmmmeloaa

end

section
/- Contracts of the reference's searches of names: what a name is, the number of a rocker, whether a text is in a list. -/
namespace Go.Proofs.Ytmejiafmmmeloaa
open Go.RowKit

def digitB (c : Nat) : Bool := decide (48 ≤ c ∧ c ≤ 57)
/-- The number of a rocker, or -1. -/
def findI (l : List Rk) (s : ByteArray) : Int := match idxOf l s with | some i => (i : Int) | none => -1
theorem toList_inj {a b : ByteArray} (h : a.toList = b.toList) : a = b := by
  rw [ByteArray.toList_eq, ByteArray.toList_eq] at h
  cases a; cases b
  congr
  exact Array.toList_inj.1 h
/-- Texts as cells. -/
def strs (ps : List ByteArray) : List Value := ps.map .string
/-- Whether a text is in a list. -/
def hasB (xs : List ByteArray) (s : ByteArray) : Bool := xs.any fun x => decide (x = s)
end Go.Proofs.Ytmejiafmmmeloaa

end

section
/- Contracts of the checks of mountings, targets and days, the package's and the reference's. -/
namespace Go.Proofs.Ytmejiafmmmeloaa
open Go Go.RowKit

/-- A mounting in memory. -/
structure Mnt where
  ls : Int
  ms : Int
  lo : Int
  hi : Int
  sp : Int
  A1 : Option Addr
  n1 : Nat
  c1 : Nat
  l1 : List (Int × Int)
  A2 : Option Addr
  n2 : Nat
  c2 : Nat
  l2 : List (Int × Int)
def Mnt.val (m : Mnt) : Value := .agg #[.int .i64 m.ls, .int .i64 m.ms, .int .i64 m.lo, .int .i64 m.hi, .int .i64 m.sp, .slice m.A1 m.n1 m.c1, .slice m.A2 m.n2 m.c2]
structure MntAt (m : Mnt) (w : World) : Prop where
  r1 : Reads w w.heap.size 2 m.A1 m.n1 (cells2 m.l1)
  r2 : Reads w w.heap.size 2 m.A2 m.n2 (cells2 m.l2)
  b1 : m.n1 ≤ 9223372036854775807
  b2 : m.n2 ≤ 9223372036854775807
theorem MntAt.lay {m : Mnt} {w w' : World} (h : MntAt m w) (hb : Below w.heap.size w w') : MntAt m w' := ⟨(h.r1.below hb).more hb.size, (h.r2.below hb).more hb.size, h.b1, h.b2⟩
theorem MntAt.len2 {m : Mnt} {w : World} (h : MntAt m w) : m.l2.length = m.n2 := by have := h.r2.1; rw [cells2_length] at this; omega
def Mnt.rng (m : Mnt) : Bool := smallL 25920000 [m.ls, m.ms] && withinB m.lo 0 324000 && withinB m.hi 0 324000 && withinB m.sp 1 1000000
/-- The error of a mounting. -/
def mntErr (m : Mnt) : Int := if m.rng = false then 2 else if m.ms < m.ls ∨ m.hi < m.lo then 9 else orE [tabErr m.l1, tabErr m.l2]

end Go.Proofs.Ytmejiafmmmeloaa

end

section
/- Contracts of the checks of targets and days, and of the reference's checks of mountings and targets. -/
namespace Go.Proofs.Ytmejiafmmmeloaa
open Go Go.RowKit

/-- A target. -/
structure Tgt where
  name : ByteArray
  az : Int
  ht : Int
  fr : Int
  to : Int
  dw : Int
def Tgt.val (t : Tgt) : Value := .agg #[.string t.name, .int .i64 t.az, .int .i64 t.ht, .int .i64 t.fr, .int .i64 t.to, .int .i64 t.dw]
def Tgt.rng (t : Tgt) : Bool := withinB t.az 0 1295999 && withinB t.ht 0 324000 && withinB t.fr 0 10000000 && withinB t.to 0 10000000 && withinB t.dw 1 10000
/-- The error of a target. -/
def tgtErr (t : Tgt) : Int := if nameB t.name = false then 4 else if t.rng = false then 2 else if t.to ≤ t.fr then 9 else 0

def dayErr (n : Int) : Int := if withinB n 0 100000 then 0 else 2
end Go.Proofs.Ytmejiafmmmeloaa

end

section
/- Contracts of the apparent place of a target, the package's and the reference's. -/
namespace Go.Proofs.Ytmejiafmmmeloaa
open Go Go.RowKit

/-- The apparent place. -/
def appF (m : Mnt) (t : Tgt) (day : Int) : Int × Int := ((t.az + tabAt m.l2 day) % 1296000, t.ht + tabAt m.l1 t.ht)
end Go.Proofs.Ytmejiafmmmeloaa

end

section
/- The contracts of all shares of a tree, and of Shares. -/
namespace Go.Proofs.Ytmejiafmmmeloaa
open Go.RowKit

/-- The name of the top. -/
def topName (l : List Rk) : ByteArray := ((l[topOf l]?).map (·.name)).getD ByteArray.empty
def sharesOf (l : List Rk) : Option (List (Int × Int)) := sh l l.length (topName l) 1 1

def AllPost (l : List Rk) (base : Nat) (w : World) (e : Ending) (w' : World) : Prop :=
  Below w.heap.size w w' ∧ ∃ v', e = .returned (.tuple #[v', .bool (sharesOf l).isSome]) ∧ ∀ ys, sharesOf l = some ys → w'.ownsRow base 25 2 v' ys.length (cells2 ys)

/-- What lies below the top, as the tree of a list has it. -/
def ptsOf (l : List Rk) : Option (List ByteArray) := pts l l.length (topName l)

def SharesPost (l : List Rk) (base : Nat) (w : World) (e : Ending) (w' : World) : Prop :=
  Below w.heap.size w w' ∧ (openErr l ≠ 0 → e = .returned (.tuple #[.slice none 0 0, .int .i64 (openErr l)])) ∧
  (openErr l = 0 → sharesOf l = none → e = .returned (.tuple #[.slice none 0 0, .int .i64 8])) ∧
  (openErr l = 0 → ∀ ys, sharesOf l = some ys → ∃ v, e = .returned (.tuple #[v, .int .i64 0]) ∧ w'.ownsRow base 25 2 v ys.length (cells2 ys))






end Go.Proofs.Ytmejiafmmmeloaa

end

section
/- A tree without a cycle has no deep branch: what lies below its top is found. -/
namespace Go.Proofs.Ytmejiafmmmeloaa
open Go.RowKit

/-- The rocker that bears a thing, by its name. -/
def upOf (l : List Rk) (s : ByteArray) : Option ByteArray := (bearerOf l s).bind fun i => (l[i]?).map (·.name)

theorem bearer_get {l : List Rk} {s : ByteArray} {i : Nat} (h : bearerOf l s = some i) : ∃ r, l[i]? = some r ∧ (r.left = s ∨ r.right = s) := by
  unfold bearerOf at h
  obtain ⟨hi, hp, -⟩ := List.findIdx?_eq_some_iff_getElem.1 h
  exact ⟨l[i], List.getElem?_eq_getElem hi, by simpa using hp⟩

theorem bear_one {s : ByteArray} : ∀ {l : List Rk} {i j : Nat} {r r' : Rk}, (borneAll l).Nodup → l[i]? = some r → l[j]? = some r' → (r.left = s ∨ r.right = s) → (r'.left = s ∨ r'.right = s) → i = j
  | x :: l, i, j, r, r', hn, hi, hj, h1, h2 => by
    have e : borneAll (x :: l) = [x.left, x.right] ++ borneAll l := rfl
    rw [e, List.nodup_append] at hn
    have mem : ∀ {k : Nat} {q : Rk}, l[k]? = some q → (q.left = s ∨ q.right = s) → s ∈ borneAll l := fun hk hq => by
      unfold borneAll
      rw [List.mem_flatMap]
      refine ⟨_, List.mem_of_getElem? hk, ?_⟩
      rcases hq with rfl | rfl <;> simp
    cases i with
    | zero =>
      cases j with
      | zero => rfl
      | succ j =>
        simp at hi
        subst hi
        exact absurd rfl (hn.2.2 s (by rcases h1 with rfl | rfl <;> simp) s (mem (by simpa using hj) h2))
    | succ i =>
      cases j with
      | zero =>
        simp at hj
        subst hj
        exact absurd rfl (hn.2.2 s (by rcases h2 with rfl | rfl <;> simp) s (mem (by simpa using hi) h1))
      | succ j =>
        have hi' : l[i]? = some r := by simpa using hi
        have hj' : l[j]? = some r' := by simpa using hj
        have := bear_one hn.2.1 hi' hj' h1 h2
        omega
  | [], i, j, r, r', _, hi, _, _, _ => by simp at hi

theorem up_of_child {l : List Rk} (hn : (borneAll l).Nodup) {i : Nat} {r : Rk} {s : ByteArray} (hi : l[i]? = some r) (hs : r.left = s ∨ r.right = s) : upOf l s = some r.name := by
  cases hb : bearerOf l s with
  | none =>
    unfold bearerOf at hb
    have := List.findIdx?_eq_none_iff.1 hb r (List.mem_of_getElem? hi)
    simp at this
    rcases hs with h | h
    · exact absurd h this.1
    · exact absurd h this.2
  | some j =>
    obtain ⟨r', hj, hs'⟩ := bearer_get hb
    have e := bear_one hn hi hj hs hs'
    subst e
    unfold upOf
    rw [hb]
    simp [hi]

/-- A way down that is too long, from its end up. -/
structure WayUp (l : List Rk) (p : List ByteArray) (s : ByteArray) : Prop where
  last : p.getLast? = some s
  up : ∀ k a b, p[k]? = some a → p[k + 1]? = some b → upOf l a = some b
  rk : ∀ x ∈ p, ∃ r ∈ l, r.name = x

theorem WayUp.snoc {l : List Rk} {p : List ByteArray} {s t : ByteArray} (h : WayUp l p s) (hu : upOf l s = some t) (ht : ∃ r ∈ l, r.name = t) : WayUp l (p ++ [t]) t := by
  refine ⟨by simp, fun k a b ha hb => ?_, fun x hx => ?_⟩
  · rcases Nat.lt_trichotomy (k + 1) p.length with hk | hk | hk
    · rw [List.getElem?_append_left (by omega)] at ha
      rw [List.getElem?_append_left hk] at hb
      exact h.up k a b ha hb
    · rw [List.getElem?_append_left (by omega)] at ha
      rw [List.getElem?_append_right (by omega)] at hb
      have e1 : b = t := by rw [hk, Nat.sub_self] at hb; simpa using hb.symm
      have e2 : a = s := by
        have := h.last
        rw [List.getLast?_eq_getElem?, show p.length - 1 = k by omega, ha] at this
        exact Option.some.inj this
      rw [e1, e2]
      exact hu
    · rw [List.getElem?_eq_none (by simp; omega)] at hb
      cases hb
  · rcases List.mem_append.1 hx with hx | hx
    · exact h.rk x hx
    · simp at hx; exact hx ▸ ht

end Go.Proofs.Ytmejiafmmmeloaa

end

section
/- The plain law of trees: a tree whose ways up all end has just one top; a way up that does not end comes back. -/
namespace Go.Proofs.Ytmejiafmmmeloaa
open Go.RowKit

/-- So many steps up. -/
def upN (l : List Rk) : Nat → ByteArray → Option ByteArray
  | 0, s => some s
  | k + 1, s => (upN l k s).bind (upOf l)

/-- A thing comes back to itself within so many steps up. -/
def Circ (l : List Rk) (s : ByteArray) (k : Nat) : Prop := ∃ j, 1 ≤ j ∧ j ≤ k ∧ upN l j s = some s

theorem Circ.more {l : List Rk} {s : ByteArray} {k : Nat} (hn : ¬ Circ l s k) {t : ByteArray} (hu : upN l (k + 1) s = some t) (ht : t ≠ s) : ¬ Circ l s (k + 1) := by
  rintro ⟨j, h1, h2, h3⟩
  rcases Nat.lt_or_ge k j with h | h
  · obtain rfl : j = k + 1 := by omega
    rw [hu] at h3
    exact ht (Option.some.inj h3)
  · exact hn ⟨j, h1, h, h3⟩
end Go.Proofs.Ytmejiafmmmeloaa

end

section
/- Contracts of the reference's list of borne names, of its check of a tree, of its top. -/
namespace Go.Proofs.Ytmejiafmmmeloaa
open Go.RowKit

end Go.Proofs.Ytmejiafmmmeloaa

end

section
/- The contract of the reference's check of a tree. -/
namespace Go.Proofs.Ytmejiafmmmeloaa
open Go.RowKit

/-- What bears a thing, as the search up to a place knows it. -/
def AbvAt (l : List Rk) (nm : ByteArray) (q : Nat) (ab : ByteArray) : Prop :=
  (∃ j r, j < q ∧ l[j]? = some r ∧ (r.left = nm ∨ r.right = nm) ∧ ab = r.name) ∨ ((∀ j, j < q → ∀ r, l[j]? = some r → ¬ (r.left = nm ∨ r.right = nm)) ∧ ab = ByteArray.empty)
theorem AbvAt.zero (l : List Rk) (nm : ByteArray) : AbvAt l nm 0 ByteArray.empty := .inr ⟨fun j hj => by omega, rfl⟩
theorem AbvAt.hit {l : List Rk} {nm : ByteArray} {q : Nat} {r : Rk} (hr : l[q]? = some r) (h : r.left = nm ∨ r.right = nm) : AbvAt l nm (q + 1) r.name := .inl ⟨q, r, by omega, hr, h, rfl⟩
theorem AbvAt.done {l : List Rk} {nm : ByteArray} {ab : ByteArray} (ha : AbvAt l nm l.length ab) (hn : (borneAll l).Nodup) : (upOf l nm = some ab ∧ ∃ r ∈ l, r.name = ab) ∨ (upOf l nm = none ∧ ab = ByteArray.empty) := by
  rcases ha with ⟨j, r', hj, h1, h2, rfl⟩ | ⟨h1, h2⟩
  · exact .inl ⟨up_of_child hn h1 h2, r', List.mem_of_getElem? h1, rfl⟩
  · refine .inr ⟨?_, h2⟩
    unfold upOf
    cases hb : bearerOf l nm with
    | none => rfl
    | some i =>
      obtain ⟨r, hr, hs⟩ := bearer_get hb
      exact absurd hs (h1 i (List.getElem?_eq_some_iff.1 hr).1 r hr)

end Go.Proofs.Ytmejiafmmmeloaa

end

section
/- Contracts of the reference's top, of the points below a name, of all points. -/
namespace Go.Proofs.Ytmejiafmmmeloaa
open Go.RowKit

/-- What operation c yields is owned, until operation s (an append, a store) comes. -/
def OwnM (base : Nat) (e : TypeId) (size n : Nat) (xs : List Value) (c s : Nat) (g : Nat → Option Pick) (f : Nat → Bool) (w' : World) : Prop := ∀ x, g c = some x → f s = false → w'.ownsRow base e size (.slice x.1 n x.2) n xs
section
variable {base size n c s i k : Nat} {e : TypeId} {xs : List Value} {g : Nat → Option Pick} {f : Nat → Bool} {w' w'' : World} {x : Pick}
theorem OwnM.start : OwnM base e size n xs c s (fun _ => none) f w' := fun x h => by cases h
theorem OwnM.step (h : OwnM base e size n xs c s g f w') (hb : Below w'.heap.size w' w'') (hk : k ≠ s) : OwnM base e size n xs c s g (Fx.add f k) w'' := fun x hx hf => by
  rw [add_ne' hk] at hf
  exact own_below (h x hx hf) hb (Nat.le_refl _)
theorem OwnM.other (h : OwnM base e size n xs c s g f w') (hc : c ≠ i) : OwnM base e size n xs c s (Fx.upd g i x) f w' := fun y hy => h y (by rwa [upd_ne hc] at hy)
theorem OwnM.new (h : w'.ownsRow base e size (.slice x.1 n x.2) n xs) : OwnM base e size n xs c s (Fx.upd g c x) f w' := fun y hy _ => by rw [Fx.upd_same] at hy; cases hy; exact h
theorem OwnM.stored : OwnM base e size n xs c s g (Fx.add f s) w'' := fun x _ hf => by rw [add_same] at hf; cases hf
end

def BelowPost (ps : List ByteArray) (w : World) (e : Ending) (w' : World) : Prop :=
  Below w.heap.size w w' ∧ ∃ A' c', e = .returned (.slice A' ps.length c') ∧ w'.ownsRow w.heap.size 9 1 (.slice A' ps.length c') ps.length (strs ps)



end Go.Proofs.Ytmejiafmmmeloaa

end

section
/- The contracts of the iterator over the points below a thing. -/
namespace Go.Proofs.Ytmejiafmmmeloaa
open Go.RowKit Go.Shelf Go.Maps

attribute [local go_sem] Oper.semAt_some

section
variable {F : Fence} {nF : Nat} {P : Program} {k t e : TypeId} {b n : Nat} {M : ByteArray → Option Value} {ops : Array Oper} {rest : List Oper} {o : Oper} {a : Act} {Q : Exit → Act → World → Prop}
end

/-- A text that is not too long. -/
abbrev Txt := { s : ByteArray // s.size ≤ maxLen }
def txts (xs : List Txt) : List ByteArray := xs.map (·.1)


def encT (x : Txt) : Value := .string x.1





end Go.Proofs.Ytmejiafmmmeloaa

end

section
/- The contracts of the collection of what an iterator gives, and of the points of a tree. -/
namespace Go.Proofs.Ytmejiafmmmeloaa
open Go.RowKit Go.Shelf Go.Maps

attribute [local go_sem] Oper.semAt_some

/-- An iterator over texts. -/
def Gives (gf : Nat) (lb : Array Value) (n₀ : Nat) (xs : List Txt) (w : World) : Prop :=
  ∀ m, SeqStopsK Fence.wide m Try.prog gf lb (fun x : Txt => #[Value.string x.1]) (Below n₀) (fun ys => ys = xs) (fun pre => pre <+: xs) xs.length w



end Go.Proofs.Ytmejiafmmmeloaa

end

section
/- The contracts of the points of a tree, and of what asks for a number for each point. -/
namespace Go.Proofs.Ytmejiafmmmeloaa
open Go.RowKit

def PointsPost (l : List Rk) (base : Nat) (w : World) (e : Ending) (w' : World) : Prop :=
  Below w.heap.size w w' ∧ (openErr l ≠ 0 → e = .returned (.tuple #[.slice none 0 0, .int .i64 (openErr l)])) ∧
  (openErr l = 0 → ∀ ps, ptsOf l = some ps → ∃ A c, e = .returned (.tuple #[.slice A ps.length c, .int .i64 0]) ∧ w'.ownsRow base 9 1 (.slice A ps.length c) ps.length (strs ps))




end Go.Proofs.Ytmejiafmmmeloaa

end

section
/- Contracts of all points of a tree as the reference has them, of the comparison of texts, of the guard on short names, of a copy of rockers. -/
namespace Go.Proofs.Ytmejiafmmmeloaa
open Go.RowKit

theorem own_reads2 {w : World} {base n size c : Nat} {A : Option Addr} {e : TypeId} {xs : List Value} (h : w.ownsRow base e size (.slice A n c) n xs) : Reads w w.heap.size size A n xs := by
  obtain ⟨A2, c2, e2, hr⟩ := own_reads h
  injection e2 with e2a e2b e2c
  subst e2a e2c
  exact hr

def TextsPost (ps : List ByteArray) (w : World) (e : Ending) (w' : World) : Prop :=
  Below w.heap.size w w' ∧ ∃ A' c', e = .returned (.slice A' ps.length c') ∧ w'.ownsRow w.heap.size 9 1 (.slice A' ps.length c') ps.length (strs ps)



/-- The guard on trees: at most 8 rockers, or too many, with short names. -/
def fewB (l : List Rk) : Bool := decide ((l.length ≤ 8 ∨ 40 < l.length) ∧ l.length ≤ 43) && l.all fun r => decide (r.name.size ≤ 20 ∧ r.left.size ≤ 20 ∧ r.right.size ≤ 20)
end Go.Proofs.Ytmejiafmmmeloaa

end

section
/- What every row of a statement needs: the arguments of a call that only makes memory read behind it as they did before. -/
namespace Go.Proofs.Ytmejiafmmmeloaa
open Go.RowKit Go.ChangeShapes Go.WideShapes Go.ChangeAt

theorem own_knob : ownKnob Try.prog.godebug = none := by kernel_rfl
theorem laid_rows : laidOutB Try.prog = true := by kernel_rfl
theorem maps_rowed : mapsRowed Try.prog = true := by kernel_rfl
theorem slices_full : ∀ t e, t < Try.prog.types.size → Try.prog.underlying t = some (.slice e) → 0 < Try.prog.cellsOf e := slices_full_of _ (by kernel_rfl)

section
variable {H : Type} {enc : TypeId × Value → H} {P : Program} {W W' : World}

theorem sameAt_of_below {B : Nat} (hb : Below B W W') {p : MemPlace} (hp : p.block < B) : W.sameAt W' p := by
  cases p with
  | cell b o => exact hb.cell (p := ⟨b, o, none⟩) hp
  | map b => exact hb.block b hp

theorem trodAll_carry {base : Nat} {sp : Nat → Bool} {hd : Bool} : ∀ {ts : List TypeId} {vs : List Value} {ds : List (DataW H)} {ps : List MemPlace},
    DataW.TrodAll enc P W base sp hd ts vs ds ps → (∀ p ∈ ps, W.sameAt W' p) → DataW.TrodAll enc P W' base sp hd ts vs ds ps
  | [], [], [], _, h, _ => h
  | _ :: _, _ :: _, _ :: _, _, ⟨p, q, ⟨n, h1⟩, h2, e⟩, hs => ⟨p, q, ⟨n, DataW.trod_carry n _ _ _ h1 fun x hx => hs x (by rw [e]; exact List.mem_append_left _ hx)⟩,
      trodAll_carry h2 (fun x hx => hs x (by rw [e]; exact List.mem_append_right _ hx)), e⟩

set_option maxRecDepth 100000 in
/-- THE POST OF A LAW: it returned true, and made memory alone. -/
theorem post_law {f : Func} {s : ChangeSpec} {t : TypeId} {W W' : World} {args : Array Value} {ds gs : List (DataW H)} {before : List MemPlace}
    (hW : DataW.Whole enc Try.prog f.params.toList s.vars false W args.toList ds gs before) (hv : s.vars = []) (hr : f.resultTypes = #[t]) (ht : Try.prog.underlying t = some .bool)
    (hp : f.params.toList.all (fun t => decide (t < Try.prog.types.size)) = true) (hs : (s.fn H (ds ++ gs)).results = [.lit (.bool true)]) (ha : (s.fn H (ds ++ gs)).args = ds) (hg : (s.fn H (ds ++ gs)).vars = [])
    (hb : Below W.heap.size W W') : s.post enc Try.prog f false true false false W args (.bool true) W' := by
  have hW' := hW
  obtain ⟨p, q, hA, hV, rfl, hfz, hnd⟩ := hW'
  rw [hv] at hV
  have hV' : gs = [] ∧ q = [] := by
    cases gs with
    | nil => exact ⟨rfl, hV⟩
    | cons x l => exact hV.elim
  obtain ⟨rfl, rfl⟩ := hV'
  rw [List.append_nil] at hW
  have hT : ∀ t ∈ f.params.toList, t < Try.prog.types.size := fun t ht => by simpa using List.all_eq_true.1 hp t ht
  refine post_of_below (pa := p) (pv := []) hW (fun b sp hd => ?_) (fun sp hsp => ?_) (fun sp hsp => ?_) (by simp) hb ?_
  · rw [hr, hs]
    exact ⟨[], [], ⟨1, by simp [DataW.trod, ht, Value.cells]⟩, rfl, rfl⟩
  · rw [ha]
    exact trodAll_carry (DataW.TrodAll.respare (kids_rows laid_rows maps_rowed) slices_full hT hA hsp) fun x hx => sameAt_of_below hb (hW.lt x hx)
  · rw [hv, hg]
    rfl
  · exact ok_one hr rfl (okWide_bool_mk ht _)
end

end Go.Proofs.Ytmejiafmmmeloaa

end
