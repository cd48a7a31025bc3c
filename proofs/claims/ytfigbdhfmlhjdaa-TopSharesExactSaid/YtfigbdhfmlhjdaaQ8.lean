import Derived.Test.YtfigbdhfmlhjdaaQ2
import Derived.Test.YtfigbdhfmlhjdaaQ7
import Derived.Test.YtfigbdhfmlhjdaaQ5
import Derived.Test.YtfigbdhfmlhjdaaQ4

section
/- A rule for a region whose order is left open and which holds one call whose result is only known to exist: the class of worlds bears a ghost, which that call chooses. -/
namespace Go.Proofs.Ytfigbdhfmlhjdaa.Fx
open Go Go.RowKit

section
variable {P : Program} {ops : Array Oper} {md : Region.Mode} {X : Type}

/-- From the world w the operation yields a value and leaves a world of R. -/
def GivesX (P : Program) (o : Oper) (a : Act) (w : World) (R : Value → World → Prop) : Prop :=
  match (execOp a.eval o).run P w with
  | .ok (.value u) w' => R u w'
  | .ok (.enter f args) w' => Calls P f args w' fun e w'' => ∃ v, e = .returned v ∧ R v w''
  | _ => False

theorem GivesX.congr {o : Oper} {a a' : Act} {w : World} {R : Value → World → Prop} (h : GivesX P o a w R) (he : execOp a'.eval o = execOp a.eval o) : GivesX P o a' w R := by
  unfold GivesX; rw [he]; exact h

theorem GivesX.wp {o : Oper} {a : Act} {w : World} {R : Value → World → Prop} {K : Act → World → Prop} {Q : Exit → Act → World → Prop} (h : GivesX P o a w R) (hk : ∀ v w', R v w' → K (a.put o.dst v) w') : o.wp P a w K Q := by
  unfold Oper.wp
  unfold GivesX at h
  generalize (execOp a.eval o).run P w = r at *
  cases r with
  | halt x w' => exact h.elim
  | ok n w' =>
    cases n
    case value u => exact hk _ _ h
    case enter f args => exact Calls.mono h fun e w'' ⟨v, he, hr⟩ => by subst he; exact hk _ _ hr
    all_goals exact h.elim

/-- Where number i comes up before the ghost is chosen: it chooses it. -/
def SureX (P : Program) (md : Region.Mode) (ops : Array Oper) (C : Option X → Array Bool → World → Prop) (val : X → Value) (i : Nat) (o : Oper) (a : Act) : Prop :=
  Region.wanted o (yielded ops a.tmps) = true ∧ ∀ L w, C none L w → i ∈ Region.ready md ops L → GivesX P o a w fun v w' => ∃ x, v = val x ∧ C (some x) (L.setIfInBounds i true) w'

theorem SureX.same {C : Option X → Array Bool → World → Prop} {val : X → Value} {i : Nat} {o : Oper} {a a' : Act} (h : SureX P md ops C val i o a) (he : execOp a'.eval o = execOp a.eval o)
    (hw : Region.wanted o (yielded ops a'.tmps) = Region.wanted o (yielded ops a.tmps)) : SureX P md ops C val i o a' :=
  ⟨hw.trans h.1, fun L w hc hr => (h.2 L w hc hr).congr he⟩

def anyG (P : Program) (md : Region.Mode) (ops : Array Oper) (C : Option X → Array Bool → World → Prop) (val : X → Value) (s : Nat) (Q : Option X → Array Bool → Act → Prop) : Nat → Option X → Array Bool → Act → Prop
  | 0, g, L, a => Region.ready md ops L = [] ∧ Q g L a
  | n + 1, g, L, a => (Region.ready md ops L = [] → Q g L a) ∧
      ∀ i ∈ Region.ready md ops L, ∃ o, ops[i]? = some o ∧ ((∃ v, Sure P md ops (C g) i o v a ∧ anyG P md ops C val s Q n g (L.setIfInBounds i true) (a.put o.dst v)) ∨
        (g = none ∧ i = s ∧ SureX P md ops C val i o a ∧ ∀ x, anyG P md ops C val s Q n (some x) (L.setIfInBounds i true) (a.put o.dst (val x))))

theorem wpAny_of_anyG {C : Option X → Array Bool → World → Prop} {val : X → Value} {s : Nat} {Q : Option X → Array Bool → Act → Prop} {Q' : Exit → Act → World → Prop} (hQ : ∀ g L a w, C g L w → Q g L a → Q' .normal a w) :
    ∀ (n : Nat) (g : Option X) (L : Array Bool) (a : Act) (w : World), C g L w → anyG P md ops C val s Q n g L a → wpAny P md ops Q' n L a w
  | 0, _, _, _, _, hc, h => ⟨h.1, hQ _ _ _ _ hc h.2⟩
  | n + 1, g, L, a, w, hc, h => ⟨fun h0 => hQ _ _ _ _ hc (h.1 h0), fun i hi => by
      obtain ⟨o, ho, hcs⟩ := h.2 i hi
      unfold wpOp
      simp only [ho]
      rcases hcs with ⟨v, hs, hn⟩ | ⟨rfl, rfl, hs, hn⟩
      · rcases hs with ⟨h1, h2⟩ | ⟨h1, h2, h3⟩
        · rw [if_pos h1]
          exact .inl ((h2 L w hc hi).wp fun w' hw' => wpAny_of_anyG hQ n _ _ _ w' hw' hn)
        · rw [if_neg (by rw [h1]; exact Bool.false_ne_true)]
          subst h2
          exact wpAny_of_anyG hQ n _ _ _ w (h3 L w hc hi) hn
      · rw [if_pos hs.1]
        exact .inl ((hs.2 L w hc hi).wp fun v w' ⟨x, hv, hw'⟩ => by subst hv; exact wpAny_of_anyG hQ n _ _ _ w' hw' (hn x))⟩

theorem anyG_of_anyF {C : Option X → Array Bool → World → Prop} {val : X → Value} {s : Nat} {Q : Option X → Array Bool → Act → Prop} {x : X} :
    ∀ (n : Nat) (L : Array Bool) (a : Act), anyF P md ops (C (some x)) (Q (some x)) n L a → anyG P md ops C val s Q n (some x) L a
  | 0, _, _, h => h
  | n + 1, L, a, h => ⟨h.1, fun i hi => by
      obtain ⟨o, v, ho, hs, hn⟩ := h.2 i hi
      exact ⟨o, ho, .inl ⟨v, hs, anyG_of_anyF n _ _ hn⟩⟩⟩

/-- What may come up may be taken first, if all that could come before it is apart from it. -/
theorem anyG_first {C : Option X → Array Bool → World → Prop} {val : X → Value} {s : Nat} {Q : Option X → Array Bool → Act → Prop} {i : Nat} {oi : Oper} {v : Value} (hi : ops[i]? = some oi) (hsel : ∀ (j : Nat) (o : Oper) cs b, ops[j]? = some o → o.op ≠ .select cs b) :
    ∀ (n : Nat) (g : Option X) (L : Array Bool) (a : Act),
      (∀ j oj, ops[j]? = some oj → j ≠ i → L.getD j true = false → (∀ e ∈ oj.after, Region.binds md e = true → e.on ≠ i) → oi.apart ops oj = true) →
      i ∈ Region.ready md ops L → (∀ g, Sure P md ops (C g) i oi v a) →
      anyG P md ops C val s Q n g (L.setIfInBounds i true) (a.put oi.dst v) → anyG P md ops C val s Q (n + 1) g L a := by
  intro n
  induction n with
  | zero =>
    intro g L a _ hr hs H
    refine ⟨fun h => (by rw [h] at hr; cases hr), fun j hj => ?_⟩
    by_cases hji : j = i
    · subst hji; exact ⟨oi, hi, .inl ⟨v, hs g, H⟩⟩
    · have := ready_mono hj hji
      rw [H.1] at this
      cases this
  | succ n ih =>
    intro g L a hfree hr hs H
    refine ⟨fun h => (by rw [h] at hr; cases hr), fun j hj => ?_⟩
    by_cases hji : j = i
    · subst hji; exact ⟨oi, hi, .inl ⟨v, hs g, H⟩⟩
    · obtain ⟨oj, hoj, hcs⟩ := H.2 j (ready_mono hj hji)
      obtain ⟨hjun, oj', hoj', hall⟩ := mem_ready.1 hj
      obtain rfl : oj' = oj := Option.some.inj (hoj'.symm.trans hoj)
      have hnot : ∀ e ∈ oj'.after, Region.binds md e = true → e.on ≠ i := fun e he hb heq => by
        have h1 := hall e he hb
        have h0 := (mem_ready.1 hr).1
        rw [heq] at h1
        rcases Nat.lt_or_ge i L.size with h' | h'
        · simp [h'] at h0 h1; rw [h0] at h1; cases h1
        · simp [Array.getElem?_eq_none h'] at h1
      obtain ⟨a1, a2, a3⟩ := Oper.apart_spec (hfree j oj' hoj hji hjun hnot)
      have key : ∀ (g' : Option X) (u : Value), anyG P md ops C val s Q n g' ((L.setIfInBounds i true).setIfInBounds j true) ((a.put oi.dst v).put oj'.dst u) → anyG P md ops C val s Q (n + 1) g' (L.setIfInBounds j true) (a.put oj'.dst u) := fun g' u hn => by
        refine ih g' _ _ (fun k ok hk hki hun hno => hfree k ok hk hki ?_ hno) (ready_mono hr (Ne.symm hji))
          (fun g => (hs g).same (execOp_put oi (fun cs b => hsel i oi cs b hi) a oj'.dst u a3) (wanted_put oi a oj'.dst u a3)) ?_
        · by_cases hjk : j = k
          · subst hjk; exact hjun
          · rw [getD_set_ne true hjk] at hun; exact hun
        · rw [Array.setIfInBounds_comm _ _ hji, ← Act.put_comm a v u a2]
          exact hn
      refine ⟨oj', hoj, ?_⟩
      rcases hcs with ⟨u, hsj, hn⟩ | ⟨hg, hjs, hsj, hn⟩
      · exact .inl ⟨u, hsj.same (execOp_put oj' (fun cs b => hsel j oj' cs b hoj) a oi.dst v a1).symm (wanted_put oj' a oi.dst v a1).symm, key g u hn⟩
      · exact .inr ⟨hg, hjs, hsj.same (execOp_put oj' (fun cs b => hsel j oj' cs b hoj) a oi.dst v a1).symm (wanted_put oj' a oi.dst v a1).symm, fun x => key (some x) (val x) (hn x)⟩

/-- The first k have come up. -/
def firstTrue (k n : Nat) : Array Bool := (List.replicate k true ++ List.replicate (n - k) false).toArray

theorem firstTrue_size {k n : Nat} (h : k ≤ n) : (firstTrue k n).size = n := by simp [firstTrue]; omega
theorem firstTrue_getD (k n j : Nat) : (firstTrue k n).getD j false = decide (j < k) := by
  simp only [firstTrue, Array.getD_eq_getD_getElem?, List.getElem?_toArray, List.getElem?_append, List.length_replicate, List.getElem?_replicate]
  split
  · simp_all
  · split <;> simp_all
theorem firstTrue_set {k n : Nat} (h : k < n) : (firstTrue k n).setIfInBounds k true = firstTrue (k + 1) n := by
  unfold firstTrue
  rw [List.setIfInBounds_toArray, List.set_append_right _ _ (by simp), List.length_replicate, Nat.sub_self, show n - k = (n - (k + 1)) + 1 by omega, List.replicate_succ, List.set_cons_zero, List.replicate_succ', List.append_assoc]
  rfl
theorem firstTrue_zero (n : Nat) : firstTrue 0 n = Array.replicate n false := by simp [firstTrue]

theorem GivesX.mono {o : Oper} {a : Act} {w : World} {R R' : Value → World → Prop} (h : GivesX P o a w R) (hr : ∀ v w', R v w' → R' v w') : GivesX P o a w R' := by
  unfold GivesX at *
  generalize (execOp a.eval o).run P w = r at *
  cases r with
  | halt x w' => exact h
  | ok n w' =>
    cases n
    case value u => exact hr _ _ h
    case enter f args => exact Calls.mono h fun e w'' ⟨v, he, hx⟩ => ⟨v, he, hr _ _ hx⟩
    all_goals exact h

/-- The walk in the order of the text up to the call that chooses; behind it the plain walk. -/
def lexE (P : Program) (md : Region.Mode) (ops : Array Oper) (D : Option X → (Nat → Bool) → World → Prop) (val : X → Value) (s : Nat) (Q : X → Act → Prop) : List Oper → Nat → Act → Prop
  | [], _, _ => False
  | o :: l, k, a => (∃ v, ((Region.wanted o (yielded ops a.tmps) = true ∧ ∀ g f w, D g f w → When md ops k f → Gives P o a w v (D g (add f k))) ∨
      (Region.wanted o (yielded ops a.tmps) = false ∧ v = undef ∧ ∀ g f w, D g f w → When md ops k f → D g (add f k) w)) ∧ lexE P md ops D val s Q l (k + 1) (a.put o.dst v)) ∨
    (k = s ∧ (Region.wanted o (yielded ops a.tmps) = true ∧ ∀ f w, D none f w → When md ops k f → GivesX P o a w fun v w' => ∃ x, v = val x ∧ D (some x) (add f k) w') ∧
      ∀ x, lexD P md ops (D (some x)) (Q x) l (k + 1) (a.put o.dst (val x)))

theorem anyG_lex {D : Option X → (Nat → Bool) → World → Prop} {val : X → Value} {s n : Nat} {Q : X → Act → Prop} {Q' : Option X → Array Bool → Act → Prop} (hs : Region.noSelect ops = true) (hn : ops.size = n)
    (hS : Region.ready md ops (firstTrue s n) = [s]) (hQ : ∀ x L a, (∀ j, j < n → L.getD j false = true) → Q x a → Q' (some x) L a) :
    ∀ (l : List Oper) (k : Nat) (a : Act), k + l.length = n → (∀ j, l[j]? = ops[k + j]?) → Region.lexFrom md ops l.length k (firstTrue k n) = true → lexE P md ops D val s Q l k a →
      anyG P md ops (fun g L w => Closed md ops L ∧ D g (fun j => L.getD j false) w) val s Q' l.length none (firstTrue k n) a
  | [], _, _, _, _, _, h => h.elim
  | o :: l, k, a, hk, hl, hB, h => by
    have h0 : ops[k]? = some o := by simpa using (hl 0).symm
    have hkn : k < n := by rw [List.length_cons] at hk; omega
    have hl' : ∀ j, l[j]? = ops[k + 1 + j]? := fun j => by have := hl (j + 1); simpa [Nat.add_assoc, Nat.add_comm 1 j] using this
    simp only [List.length_cons, Region.lexFrom, Bool.and_eq_true] at hB
    obtain ⟨⟨hr, hf⟩, hB'⟩ := hB
    rw [firstTrue_set hkn] at hB'
    have hr' : k ∈ Region.ready md ops (firstTrue k n) := by simpa using hr
    rcases h with ⟨v, hv, hrest⟩ | ⟨hks, ⟨hw, hg⟩, hrest⟩
    · refine anyG_first h0 (Region.noSelect_spec hs) l.length none (firstTrue k n) a (Region.free_spec h0 hf) hr' (v := v) (fun g => ?_) ?_
      · rcases hv with ⟨h1, h2⟩ | ⟨h1, h2, h3⟩
        · refine .inl ⟨h1, fun L' w hc hrd => (h2 g _ w hc.2 (when_of_ready hc.1 hrd)).mono fun w' hw' => ⟨hc.1.set_ hrd, ?_⟩⟩
          rw [add_set (by rw [hc.1.1, hn]; exact hkn)]; exact hw'
        · refine .inr ⟨h1, h2, fun L' w hc hrd => ⟨hc.1.set_ hrd, ?_⟩⟩
          rw [add_set (by rw [hc.1.1, hn]; exact hkn)]; exact h3 g _ w hc.2 (when_of_ready hc.1 hrd)
      · rw [firstTrue_set hkn]
        exact anyG_lex hs hn hS hQ l (k + 1) _ (by rw [List.length_cons] at hk; omega) hl' hB' hrest
    · subst hks
      refine ⟨fun h => (by rw [hS] at h; cases h), fun i hi => ?_⟩
      rw [hS] at hi
      obtain rfl : i = k := by simpa using hi
      refine ⟨o, h0, .inr ⟨rfl, rfl, ⟨hw, fun L' w hc hrd => (hg _ w hc.2 (when_of_ready hc.1 hrd)).mono fun v w' ⟨x, hx, hw'⟩ => ⟨x, hx, hc.1.set_ hrd, ?_⟩⟩, fun x => anyG_of_anyF _ _ _ ?_⟩⟩
      · rw [add_set (by rw [hc.1.1, hn]; exact hkn)]; exact hw'
      · rw [firstTrue_set hkn]
        refine anyF_lex hs l (i + 1) _ _ hl' hB' (lexF_of_lexD n hn (hQ x) l (i + 1) _ _ (by rw [List.length_cons] at hk; omega) (firstTrue_size (by omega)) (fun j hj => ?_) (hrest x))
        rw [firstTrue_getD]; exact decide_eq_true hj

/-- THE RULE with a ghost. -/
theorem regionG {id : Nat} {Q : Exit → Act → World → Prop} {a : Act} {w : World} {l : List Oper} (D : World → Option X → (Nat → Bool) → World → Prop) (val : X → Value) (s : Nat) (hm : P.follows .mixedOrders = true) (hB : Region.lexB .any l.toArray = true)
    (hS : Region.ready .any l.toArray (firstTrue s l.length) = [s]) (h0 : ∀ f, (∀ j, f j = false) → D w none f (w.drewN 1))
    (h : lexE P .any l.toArray (D w) val s (fun x a' => ∀ f w', (∀ j, j < l.length → f j = true) → D w (some x) f w' → Q .normal a' w') l 0 a) : (Code.region id l.toArray true).wp P Q a w := by
  simp only [Region.lexB, Bool.and_eq_true] at hB
  have hz : firstTrue 0 l.length = Array.replicate l.toArray.size false := by rw [firstTrue_zero]; simp
  have := anyG_lex (P := P) (md := .any) (ops := l.toArray) (D := D w) (val := val) (s := s) (n := l.length) (Q := fun x a' => ∀ f w', (∀ j, j < l.length → f j = true) → D w (some x) f w' → Q .normal a' w')
    (Q' := fun g L a' => match g with | none => False | some x => ∀ w', D w (some x) (fun j => L.getD j false) w' → Q .normal a' w') hB.1 (by simp) hS (fun x L a hL hq w' hd => hq _ w' hL hd) l 0 a (by simp) (by simp) (by rw [hz]; simpa using hB.2) h
  rw [hz] at this
  refine wp_region_any hm (wpAny_of_anyG (C := fun g L w' => Closed .any l.toArray L ∧ D w g (fun j => L.getD j false) w') (val := val) (s := s)
    (Q := fun g L a' => match g with | none => False | some x => ∀ w', D w (some x) (fun j => L.getD j false) w' → Q .normal a' w') (fun g L a w hc hq => ?_) _ none _ _ _ ⟨Closed.start _ _, h0 _ (fun j => ?_)⟩ (by simpa using this))
  · cases g with
    | none => exact hq.elim
    | some x => exact hq w hc.2
  · simp only [Array.getD_eq_getD_getElem?, Array.getElem?_replicate]; split <;> rfl

/-! The steps of the walk ahead of the call. -/
variable {D : Option X → (Nat → Bool) → World → Prop} {val : X → Value} {s : Nat} {Q : X → Act → Prop} {l : List Oper} {o : Oper} {a : Act} {k : Nat}

theorem skipE_ (hw : Region.wanted o (yielded ops a.tmps) = false) (hD : ∀ g f w, D g f w → D g (add f k) w) (h : lexE P md ops D val s Q l (k + 1) (a.put o.dst undef)) : lexE P md ops D val s Q (o :: l) k a :=
  .inl ⟨undef, .inr ⟨hw, rfl, fun g f w hd _ => hD g f w hd⟩, h⟩

theorem valE_ (v : Value) (hw : Region.wanted o (yielded ops a.tmps) = true) (hr : ∀ g f w, D g f w → When md ops k f → (execOp a.eval o).run P w = .ok (.value v) w) (hD : ∀ g f w, D g f w → D g (add f k) w)
    (h : lexE P md ops D val s Q l (k + 1) (a.put o.dst v)) : lexE P md ops D val s Q (o :: l) k a :=
  .inl ⟨v, .inl ⟨hw, fun g f w hd hq => by unfold Gives; rw [hr g f w hd hq]; exact ⟨rfl, hD g f w hd⟩⟩, h⟩

/-- A call ahead of it whose result is fixed. -/
theorem callvE_ (v : Value) (n : FuncId) (args : Array Value) (hw : Region.wanted o (yielded ops a.tmps) = true) (hr : ∀ w, (execOp a.eval o).run P w = .ok (.enter n args) w)
    (hc : ∀ g f w, D g f w → When md ops k f → Calls P n args w fun e w'' => e = .returned v ∧ D g (add f k) w'')
    (h : lexE P md ops D val s Q l (k + 1) (a.put o.dst v)) : lexE P md ops D val s Q (o :: l) k a :=
  .inl ⟨v, .inl ⟨hw, fun g f w hd hq => by unfold Gives; rw [hr w]; exact hc g f w hd hq⟩, h⟩

/-- Memory that is made where it is not known ahead: the ghost is its place. -/
theorem makeE_ (hk : k = s) (hw : Region.wanted o (yielded ops a.tmps) = true)
    (hr : ∀ f w, D none f w → When md ops k f → ∃ x w', (execOp a.eval o).run P w = .ok (.value (val x)) w' ∧ D (some x) (add f k) w')
    (h : ∀ x, lexD P md ops (D (some x)) (Q x) l (k + 1) (a.put o.dst (val x))) : lexE P md ops D val s Q (o :: l) k a :=
  .inr ⟨hk, ⟨hw, fun f w hd hq => by
    obtain ⟨x, w', e, hx⟩ := hr f w hd hq
    unfold GivesX
    rw [e]
    exact ⟨x, rfl, hx⟩⟩, h⟩

/-- The call that chooses. -/
theorem callE_ (n : FuncId) (args : Array Value) (hk : k = s) (hw : Region.wanted o (yielded ops a.tmps) = true) (hr : ∀ w, (execOp a.eval o).run P w = .ok (.enter n args) w)
    (hc : ∀ f w, D none f w → When md ops k f → Calls P n args w fun e w'' => ∃ x, e = .returned (val x) ∧ D (some x) (add f k) w'')
    (h : ∀ x, lexD P md ops (D (some x)) (Q x) l (k + 1) (a.put o.dst (val x))) : lexE P md ops D val s Q (o :: l) k a :=
  .inr ⟨hk, ⟨hw, fun f w hd hq => by unfold GivesX; rw [hr w]; exact (hc f w hd hq).mono fun e w'' ⟨x, he, hx⟩ => ⟨_, he, x, rfl, hx⟩⟩, h⟩

end
end Go.Proofs.Ytfigbdhfmlhjdaa.Fx

end

section
/- A rule for a region whose order is left open and in which several operations choose: a call whose result is only known to exist, memory that is made at a place that is not known ahead. The walk goes in an order of one's own. -/
namespace Go.Proofs.Ytfigbdhfmlhjdaa.Fx
open Go Go.RowKit

section
variable {P : Program} {ops : Array Oper} {md : Region.Mode} {X : Type}

/-- What has been chosen, by the number of the operation. -/
def upd (g : Nat → Option X) (i : Nat) (x : X) : Nat → Option X := fun j => if Nat.beq j i then some x else g j
def Ext (g g' : Nat → Option X) : Prop := ∀ c x, g c = some x → g' c = some x
theorem Ext.refl (g : Nat → Option X) : Ext g g := fun _ _ h => h
theorem Ext.trans {g g' g'' : Nat → Option X} (h : Ext g g') (k : Ext g' g'') : Ext g g'' := fun c x e => k c x (h c x e)
theorem Ext.upd {g : Nat → Option X} {i : Nat} (hi : g i = none) (x : X) : Ext g (upd g i x) := fun c y e => by
  unfold Fx.upd
  cases h : Nat.beq c i with
  | false => simpa using e
  | true => rw [Nat.eq_of_beq_eq_true h] at e; rw [hi] at e; cases e
theorem upd_same {g : Nat → Option X} {i : Nat} {x : X} : upd g i x i = some x := by
  unfold upd
  rw [show Nat.beq i i = true from Nat.beq_refl i]
  rfl

def SureM (P : Program) (md : Region.Mode) (ops : Array Oper) (C : (Nat → Option X) → Array Bool → World → Prop) (val : Nat → X → Value) (g : Nat → Option X) (i : Nat) (o : Oper) (a : Act) : Prop :=
  Region.wanted o (yielded ops a.tmps) = true ∧ ∀ L w, C g L w → i ∈ Region.ready md ops L → GivesX P o a w fun v w' => ∃ x, v = val i x ∧ C (upd g i x) (L.setIfInBounds i true) w'

theorem SureM.same {C : (Nat → Option X) → Array Bool → World → Prop} {val : Nat → X → Value} {g : Nat → Option X} {i : Nat} {o : Oper} {a a' : Act} (h : SureM P md ops C val g i o a) (he : execOp a'.eval o = execOp a.eval o)
    (hw : Region.wanted o (yielded ops a'.tmps) = Region.wanted o (yielded ops a.tmps)) : SureM P md ops C val g i o a' :=
  ⟨hw.trans h.1, fun L w hc hr => (h.2 L w hc hr).congr he⟩

def anyM (P : Program) (md : Region.Mode) (ops : Array Oper) (C : (Nat → Option X) → Array Bool → World → Prop) (val : Nat → X → Value) (Q : (Nat → Option X) → Array Bool → Act → Prop) : Nat → (Nat → Option X) → Array Bool → Act → Prop
  | 0, g, L, a => Region.ready md ops L = [] ∧ Q g L a
  | n + 1, g, L, a => (Region.ready md ops L = [] → Q g L a) ∧
      ∀ i ∈ Region.ready md ops L, ∃ o, ops[i]? = some o ∧ ((∃ v, Sure P md ops (C g) i o v a ∧ anyM P md ops C val Q n g (L.setIfInBounds i true) (a.put o.dst v)) ∨
        (g i = none ∧ SureM P md ops C val g i o a ∧ ∀ x, anyM P md ops C val Q n (upd g i x) (L.setIfInBounds i true) (a.put o.dst (val i x))))

theorem wpAny_of_anyM {C : (Nat → Option X) → Array Bool → World → Prop} {val : Nat → X → Value} {Q : (Nat → Option X) → Array Bool → Act → Prop} {Q' : Exit → Act → World → Prop} (hQ : ∀ g L a w, C g L w → Q g L a → Q' .normal a w) :
    ∀ (n : Nat) (g : Nat → Option X) (L : Array Bool) (a : Act) (w : World), C g L w → anyM P md ops C val Q n g L a → wpAny P md ops Q' n L a w
  | 0, _, _, _, _, hc, h => ⟨h.1, hQ _ _ _ _ hc h.2⟩
  | n + 1, g, L, a, w, hc, h => ⟨fun h0 => hQ _ _ _ _ hc (h.1 h0), fun i hi => by
      obtain ⟨o, ho, hcs⟩ := h.2 i hi
      unfold wpOp
      simp only [ho]
      rcases hcs with ⟨v, hs, hn⟩ | ⟨-, hs, hn⟩
      · rcases hs with ⟨h1, h2⟩ | ⟨h1, h2, h3⟩
        · rw [if_pos h1]
          exact .inl ((h2 L w hc hi).wp fun w' hw' => wpAny_of_anyM hQ n _ _ _ w' hw' hn)
        · rw [if_neg (by rw [h1]; exact Bool.false_ne_true)]
          subst h2
          exact wpAny_of_anyM hQ n _ _ _ w (h3 L w hc hi) hn
      · rw [if_pos hs.1]
        exact .inl ((hs.2 L w hc hi).wp fun v w' ⟨x, hv, hw'⟩ => by subst hv; exact wpAny_of_anyM hQ n _ _ _ w' hw' (hn x))⟩

/-- What may come up may be taken first, if all that could come before it is apart from it. -/
theorem anyM_first {C : (Nat → Option X) → Array Bool → World → Prop} {val : Nat → X → Value} {Q : (Nat → Option X) → Array Bool → Act → Prop} {i : Nat} {oi : Oper} {v : Value} (hi : ops[i]? = some oi) (hsel : ∀ (j : Nat) (o : Oper) cs b, ops[j]? = some o → o.op ≠ .select cs b) :
    ∀ (n : Nat) (g : Nat → Option X) (L : Array Bool) (a : Act),
      (∀ j oj, ops[j]? = some oj → j ≠ i → L.getD j true = false → (∀ e ∈ oj.after, Region.binds md e = true → e.on ≠ i) → oi.apart ops oj = true) →
      i ∈ Region.ready md ops L → (∀ g', Ext g g' → Sure P md ops (C g') i oi v a) →
      anyM P md ops C val Q n g (L.setIfInBounds i true) (a.put oi.dst v) → anyM P md ops C val Q (n + 1) g L a := by
  intro n
  induction n with
  | zero =>
    intro g L a _ hr hs H
    refine ⟨fun h => (by rw [h] at hr; cases hr), fun j hj => ?_⟩
    by_cases hji : j = i
    · subst hji; exact ⟨oi, hi, .inl ⟨v, hs g (Ext.refl g), H⟩⟩
    · have := ready_mono hj hji
      rw [H.1] at this
      cases this
  | succ n ih =>
    intro g L a hfree hr hs H
    refine ⟨fun h => (by rw [h] at hr; cases hr), fun j hj => ?_⟩
    by_cases hji : j = i
    · subst hji; exact ⟨oi, hi, .inl ⟨v, hs g (Ext.refl g), H⟩⟩
    · obtain ⟨oj, hoj, hcs⟩ := H.2 j (ready_mono hj hji)
      obtain ⟨hjun, oj', hoj', hall⟩ := mem_ready.1 hj
      obtain rfl : oj' = oj := Option.some.inj (hoj'.symm.trans hoj)
      have hnot : ∀ e ∈ oj'.after, Region.binds md e = true → e.on ≠ i := fun e he hb heq => by
        have h1 := hall e he hb
        have h0 := (mem_ready.1 hr).1
        rw [heq] at h1
        rcases Nat.lt_or_ge i L.size with h' | h'
        · simp [h'] at h0 h1; rw [h0] at h1; cases h1
        · simp [Array.getElem?_eq_none h'] at h1
      obtain ⟨a1, a2, a3⟩ := Oper.apart_spec (hfree j oj' hoj hji hjun hnot)
      have key : ∀ (g' : Nat → Option X) (u : Value), Ext g g' → anyM P md ops C val Q n g' ((L.setIfInBounds i true).setIfInBounds j true) ((a.put oi.dst v).put oj'.dst u) → anyM P md ops C val Q (n + 1) g' (L.setIfInBounds j true) (a.put oj'.dst u) := fun g' u hx hn => by
        refine ih g' _ _ (fun k ok hk hki hun hno => hfree k ok hk hki ?_ hno) (ready_mono hr (Ne.symm hji))
          (fun g'' hg'' => (hs g'' (hx.trans hg'')).same (execOp_put oi (fun cs b => hsel i oi cs b hi) a oj'.dst u a3) (wanted_put oi a oj'.dst u a3)) ?_
        · by_cases hjk : j = k
          · subst hjk; exact hjun
          · rw [getD_set_ne true hjk] at hun; exact hun
        · rw [Array.setIfInBounds_comm _ _ hji, ← Act.put_comm a v u a2]
          exact hn
      refine ⟨oj', hoj, ?_⟩
      rcases hcs with ⟨u, hsj, hn⟩ | ⟨hg, hsj, hn⟩
      · exact .inl ⟨u, hsj.same (execOp_put oj' (fun cs b => hsel j oj' cs b hoj) a oi.dst v a1).symm (wanted_put oj' a oi.dst v a1).symm, key g u (Ext.refl g) hn⟩
      · exact .inr ⟨hg, hsj.same (execOp_put oj' (fun cs b => hsel j oj' cs b hoj) a oi.dst v a1).symm (wanted_put oj' a oi.dst v a1).symm, fun x => key (upd g j x) (val j x) (Ext.upd hg x) (hn x)⟩

/-- The walk: n operations are left, g has been chosen, L has come. -/
def WM (P : Program) (md : Region.Mode) (ops : Array Oper) (D : (Nat → Option X) → (Nat → Bool) → World → Prop) (val : Nat → X → Value) (Q : Act → World → Prop) (n : Nat) (g : Nat → Option X) (L : Array Bool) (a : Act) : Prop :=
  anyM P md ops (fun g L w => Closed md ops L ∧ D g (fun j => L.getD j false) w) val (fun g L a' => ∀ w', D g (fun j => L.getD j false) w' → Q a' w') n g L a

variable {D : (Nat → Option X) → (Nat → Bool) → World → Prop} {val : Nat → X → Value} {Q : Act → World → Prop} {n : Nat} {g : Nat → Option X} {L : Array Bool} {a : Act}

theorem WM.nil (hr : Region.ready md ops L = []) (h : ∀ w', D g (fun j => L.getD j false) w' → Q a w') : WM P md ops D val Q 0 g L a := ⟨hr, h⟩

theorem WM.plain (i : Nat) {o : Oper} (v : Value) (ho : ops[i]? = some o) (hs : Region.noSelect ops = true) (hr : (Region.ready md ops L).contains i = true) (hf : Region.free md ops L i = true)
    (h1 : (Region.wanted o (yielded ops a.tmps) = true ∧ ∀ g' f w, Ext g g' → D g' f w → When md ops i f → Gives P o a w v (D g' (add f i))) ∨ (Region.wanted o (yielded ops a.tmps) = false ∧ v = undef ∧ ∀ g' f w, Ext g g' → D g' f w → When md ops i f → D g' (add f i) w))
    (h : WM P md ops D val Q n g (L.setIfInBounds i true) (a.put o.dst v)) : WM P md ops D val Q (n + 1) g L a := by
  have hi : i < ops.size := (Array.getElem?_eq_some_iff.1 ho).1
  refine anyM_first ho (Region.noSelect_spec hs) n g L a (Region.free_spec ho hf) (by simpa using hr) (fun g' hg' => ?_) h
  rcases h1 with ⟨h1, h2⟩ | ⟨h1, h2, h3⟩
  · refine .inl ⟨h1, fun L' w hc hrd => (h2 g' _ w hg' hc.2 (when_of_ready hc.1 hrd)).mono fun w' hw' => ⟨hc.1.set_ hrd, ?_⟩⟩
    rw [add_set (by rw [hc.1.1]; exact hi)]; exact hw'
  · refine .inr ⟨h1, h2, fun L' w hc hrd => ⟨hc.1.set_ hrd, ?_⟩⟩
    rw [add_set (by rw [hc.1.1]; exact hi)]; exact h3 g' _ w hg' hc.2 (when_of_ready hc.1 hrd)

variable {l : List Oper}
theorem WM.skip (i : Nat) {o : Oper} (ho : l[i]? = some o) (hs : Region.noSelect l.toArray = true) (hr : (Region.ready md l.toArray L).contains i = true) (hf : Region.free md l.toArray L i = true) (hw : Region.wanted o (yielded l.toArray a.tmps) = false) (hD : ∀ g' f w, D g' f w → D g' (add f i) w)
    (h : WM P md l.toArray D val Q n g (L.setIfInBounds i true) (a.put o.dst undef)) : WM P md l.toArray D val Q (n + 1) g L a :=
  WM.plain i undef (by simpa using ho) hs hr hf (.inr ⟨hw, rfl, fun g' f w _ hd _ => hD g' f w hd⟩) h

theorem WM.val_ (i : Nat) {o : Oper} (v : Value) (ho : l[i]? = some o) (hs : Region.noSelect l.toArray = true) (hr : (Region.ready md l.toArray L).contains i = true) (hf : Region.free md l.toArray L i = true) (hw : Region.wanted o (yielded l.toArray a.tmps) = true)
    (hrun : ∀ g' f w, Ext g g' → D g' f w → When md l.toArray i f → (execOp a.eval o).run P w = .ok (.value v) w) (hD : ∀ g' f w, D g' f w → D g' (add f i) w)
    (h : WM P md l.toArray D val Q n g (L.setIfInBounds i true) (a.put o.dst v)) : WM P md l.toArray D val Q (n + 1) g L a :=
  WM.plain i v (by simpa using ho) hs hr hf (.inl ⟨hw, fun g' f w hx hd hk => by unfold Gives; rw [hrun g' f w hx hd hk]; exact ⟨rfl, hD g' f w hd⟩⟩) h

theorem WM.call (i : Nat) {o : Oper} (v : Value) (m : FuncId) (args : Array Value) (ho : l[i]? = some o) (hs : Region.noSelect l.toArray = true) (hr : (Region.ready md l.toArray L).contains i = true) (hf : Region.free md l.toArray L i = true) (hw : Region.wanted o (yielded l.toArray a.tmps) = true)
    (hrun : ∀ w, (execOp a.eval o).run P w = .ok (.enter m args) w) (hc : ∀ g' f w, Ext g g' → D g' f w → When md l.toArray i f → Calls P m args w fun e w'' => e = .returned v ∧ D g' (add f i) w'')
    (h : WM P md l.toArray D val Q n g (L.setIfInBounds i true) (a.put o.dst v)) : WM P md l.toArray D val Q (n + 1) g L a :=
  WM.plain i v (by simpa using ho) hs hr hf (.inl ⟨hw, fun g' f w hx hd hk => by unfold Gives; rw [hrun w]; exact hc g' f w hx hd hk⟩) h

/-- A value of fixed form behind which the world is another one. -/
theorem WM.eff (i : Nat) {o : Oper} (v : Value) (ho : l[i]? = some o) (hs : Region.noSelect l.toArray = true) (hr : (Region.ready md l.toArray L).contains i = true) (hf : Region.free md l.toArray L i = true) (hw : Region.wanted o (yielded l.toArray a.tmps) = true)
    (hrun : ∀ g' f w, Ext g g' → D g' f w → When md l.toArray i f → Gives P o a w v (D g' (add f i)))
    (h : WM P md l.toArray D val Q n g (L.setIfInBounds i true) (a.put o.dst v)) : WM P md l.toArray D val Q (n + 1) g L a :=
  WM.plain i v (by simpa using ho) hs hr hf (.inl ⟨hw, hrun⟩) h

theorem gives_skip {o : Oper} {w w' : World} {R : World → Prop} (h : (execOp a.eval o).run P w = .ok .skip w') (hr : R w') : Gives P o a w undef R := by unfold Gives; rw [h]; exact ⟨rfl, hr⟩

/-- One that chooses. -/
def Chooses (P : Program) (md : Region.Mode) (ops : Array Oper) (D : (Nat → Option X) → (Nat → Bool) → World → Prop) (val : Nat → X → Value) (g : Nat → Option X) (a : Act) (i : Nat) (o : Oper) : Prop :=
  Region.wanted o (yielded ops a.tmps) = true ∧ ∀ f w, D g f w → When md ops i f → GivesX P o a w fun v w' => ∃ x, v = val i x ∧ D (upd g i x) (add f i) w'

theorem Chooses.call {i : Nat} {o : Oper} (m : FuncId) (args : Array Value) (hw : Region.wanted o (yielded ops a.tmps) = true) (hrun : ∀ w, (execOp a.eval o).run P w = .ok (.enter m args) w)
    (hc : ∀ f w, D g f w → When md ops i f → Calls P m args w fun e w'' => ∃ x, e = .returned (val i x) ∧ D (upd g i x) (add f i) w'') : Chooses P md ops D val g a i o :=
  ⟨hw, fun f w hd hk => by unfold GivesX; rw [hrun w]; exact (hc f w hd hk).mono fun e w'' ⟨x, he, hx⟩ => ⟨_, he, x, rfl, hx⟩⟩
theorem Chooses.make {i : Nat} {o : Oper} (hw : Region.wanted o (yielded ops a.tmps) = true) (hrun : ∀ f w, D g f w → When md ops i f → ∃ x w', (execOp a.eval o).run P w = .ok (.value (val i x)) w' ∧ D (upd g i x) (add f i) w') : Chooses P md ops D val g a i o :=
  ⟨hw, fun f w hd hk => by
    obtain ⟨x, w', e, hx⟩ := hrun f w hd hk
    unfold GivesX
    rw [e]
    exact ⟨x, rfl, hx⟩⟩

theorem Chooses.sure {i : Nat} {o : Oper} (ho : ops[i]? = some o) (h : Chooses P md ops D val g a i o) : SureM P md ops (fun g L w => Closed md ops L ∧ D g (fun j => L.getD j false) w) val g i o a := by
  have hi : i < ops.size := (Array.getElem?_eq_some_iff.1 ho).1
  refine ⟨h.1, fun L w hc hrd => (h.2 _ w hc.2 (when_of_ready hc.1 hrd)).mono fun v w' ⟨x, hx, hw'⟩ => ⟨x, hx, hc.1.set_ hrd, ?_⟩⟩
  rw [add_set (by rw [hc.1.1]; exact hi)]; exact hw'

/-- Only i may come up, and it chooses. -/
theorem WM.choose (i : Nat) {o : Oper} (ho : l[i]? = some o) (hr : Region.ready md l.toArray L = [i]) (hg : g i = none) (hc : Chooses P md l.toArray D val g a i o)
    (h : ∀ x, WM P md l.toArray D val Q n (upd g i x) (L.setIfInBounds i true) (a.put o.dst (val i x))) : WM P md l.toArray D val Q (n + 1) g L a := by
  refine ⟨fun e => (by rw [hr] at e; cases e), fun k hk => ?_⟩
  rw [hr] at hk
  obtain rfl : k = i := by simpa using hk
  exact ⟨o, by simpa using ho, .inr ⟨hg, hc.sure (by simpa using ho), h⟩⟩

/-- Two may come up, and both choose. -/
theorem WM.choose2 (i j : Nat) {oi oj : Oper} (hoi : l[i]? = some oi) (hoj : l[j]? = some oj) (hr : Region.ready md l.toArray L = [i, j]) (hgi : g i = none) (hgj : g j = none) (hci : Chooses P md l.toArray D val g a i oi) (hcj : Chooses P md l.toArray D val g a j oj)
    (h : ∀ x, WM P md l.toArray D val Q n (upd g i x) (L.setIfInBounds i true) (a.put oi.dst (val i x))) (k : ∀ x, WM P md l.toArray D val Q n (upd g j x) (L.setIfInBounds j true) (a.put oj.dst (val j x))) : WM P md l.toArray D val Q (n + 1) g L a := by
  refine ⟨fun e => (by rw [hr] at e; cases e), fun m hm => ?_⟩
  rw [hr] at hm
  rcases (show m = i ∨ m = j by simpa using hm) with rfl | rfl
  · exact ⟨oi, by simpa using hoi, .inr ⟨hgi, hci.sure (by simpa using hoi), h⟩⟩
  · exact ⟨oj, by simpa using hoj, .inr ⟨hgj, hcj.sure (by simpa using hoj), k⟩⟩

/-- THE RULE. -/
theorem regionM {id : Nat} {Q : Exit → Act → World → Prop} {a : Act} {w : World} {l : List Oper} (D : World → (Nat → Option X) → (Nat → Bool) → World → Prop) (val : Nat → X → Value) (hm : P.follows .mixedOrders = true)
    (h0 : ∀ f, (∀ j, f j = false) → D w (fun _ => none) f (w.drewN 1))
    (h : WM P .any l.toArray (D w) val (Q .normal) l.length (fun _ => none) (Array.replicate l.length false) a) : (Code.region id l.toArray true).wp P Q a w := by
  have hz : Array.replicate l.length false = Array.replicate l.toArray.size false := by simp
  unfold WM at h
  rw [hz] at h
  refine wp_region_any hm (wpAny_of_anyM (C := fun g L w' => Closed .any l.toArray L ∧ D w g (fun j => L.getD j false) w') (val := val)
    (Q := fun g L a' => ∀ w', D w g (fun j => L.getD j false) w' → Q .normal a' w') (fun g L a w hc hq => hq w hc.2) _ (fun _ => none) _ _ _ ⟨Closed.start _ _, h0 _ (fun j => ?_)⟩ (by simpa using h))
  simp only [Array.getD_eq_getD_getElem?, Array.getElem?_replicate]; split <;> rfl
end
end Go.Proofs.Ytfigbdhfmlhjdaa.Fx

end

section
/- The contracts of the collection of what an iterator gives, and of the points of a tree. -/
namespace Go.Proofs.Ytfigbdhfmlhjdaa
open Go.RowKit Go.Shelf Go.Maps

attribute [local go_sem] Oper.semAt_some

theorem info_str : (Try.prog.info? 9).map (fun i => (i.zero, i.size, i.bytes)) = some (some (.string ByteArray.empty), 1, 16) := by kernel_rfl

/-- An iterator over texts. -/
def Gives (gf : Nat) (lb : Array Value) (n₀ : Nat) (xs : List Txt) (w : World) : Prop :=
  ∀ m, SeqStopsK Fence.wide m Try.prog gf lb (fun x : Txt => #[Value.string x.1]) (Below n₀) (fun ys => ys = xs) (fun pre => pre <+: xs) xs.length w

set_option maxRecDepth 100000 in
set_option maxHeartbeats 4000000 in
theorem appendSeq_any (gf : Nat) (lb : Array Value) (eg : ∀ args w, (callFunc gf args).run Try.prog w = .ok (.enter gf args) w) (xs : List Txt) (hlen : xs.length ≤ 1000000) (w : World) (hseq : Gives gf lb w.heap.size xs w) :
    CallsIn Fence.wide 10 Try.prog 71 #[.slice none 0 0, .func (.func gf) #[] lb] w fun e W' => ∃ v, e = .returned v ∧ W'.ownsRow w.heap.size 9 1 v xs.length (xs.map encT) ∧ Below w.heap.size w W' := by
  obtain ⟨i0, hi, hz0, hz1, hz2⟩ := info_parts info_str
  refine callsIn_of_wp_marks Try.func71 rfl trivial ?_ rfl
  simp only [Try.ntmps71, List.size_toArray, List.length_cons, List.length_nil, Nat.reduceAdd, Nat.reduceSub, Array.replicate_succ, Array.replicate_zero, List.push_toArray, List.append_toArray, List.nil_append, List.cons_append]
  gi_wp2
  have bO := Boxed.new w 38 (.slice none 0 0)
  have hB0 : Below w.heap.size w (w.alloc (.cells #[.slice none 0 0] 38)) := (Below.refl _ w).alloc (Nat.le_refl _) _
  refine wpIn_rangeFunc_ownG rfl (by decide) (gf := gf) (lb := lb) rfl trivial eg
    (hseq 9) belowK_t (belowK_b (by simp)) hB0 (fun _ => rfl)
    (fun (pre : List Txt) W => (∃ v, Boxed W w.heap.size 38 v ∧ W.ownsRow w.heap.size 9 1 v pre.length (pre.map encT) ∧ True) ∧ Below w.heap.size w W)
    (fun _ _ _ => False)
    (OwnFrom.and (Own.from (holdsRow_own w.heap.size w.heap.size 38 9 1 (fun (pre : List Txt) => pre.length) (fun (pre : List Txt) => pre.map encT) (fun _ _ => True)) _) (ownFrom_below (Nat.le_refl _) (by simp)))
    (fun _ _ _ _ _ hs _ _ => hs)
    ⟨⟨_, bO, World.ownsRow_nil _ _ _ _, trivial⟩, hB0⟩
    (fun x => { tmps := #[.slice none 0 0, .func (.func gf) #[] lb, .pointer (some ⟨w.heap.size, 0, none⟩), undef, .slice none 0 0, .string x.1, .func (.func gf) #[] lb, .string x.1, undef, undef, undef, undef, undef], defers := [] }) ?assign ?body ?done ?stop
  case assign =>
    intro l x W K hK
    gi_wp2
    exact hK
  case body =>
    rintro l pre x W ⟨⟨v, hv, hrow, -⟩, hB⟩ hlt
    have hc := hv.cell
    gi_wp2_with (gi_at_builtin; refine wpListIn_append_own _ rfl _ _ 38 rfl w.heap.size 9 i0 (.string ByteArray.empty) 1 16 Try.underlying38 hi hz0 hz1 hz2 rfl (by decide) _ _ _ rfl (hrow.alloc _) ⟨W.heap.size, 0, none⟩ 1 1 [encT x] rfl rfl (cell_one_new _ _ _) (by simp [encT, Value.oneCell']) (by unfold maxLen; omega) (by omega) (by have := hB.size; simp; omega) ?_; intro v' w1 hown' hgrow _; obtain ⟨g', cap', rfl⟩ := ownsRow_succ hown'; obtain ⟨hv1, hv2, hr2, hk2, hb2⟩ := hv.appended (by decide) hrow hB.size (Nat.le_refl _) hown' hgrow; have hc1 := hv1.cell; have hf1 := hv1.frozen)
    exact ⟨hk2.from _, hb2, ⟨_, hv2, by simpa using hr2, trivial⟩, hB.trans hb2⟩
  case done =>
    rintro D ys W hD rfl ⟨⟨v, hv, hrow, -⟩, hB⟩ hK
    have hc := hv.cell
    gi_wp2
    refine ⟨by simp, .inl ⟨_, _, rfl, run_takeDeferred hK, ?_⟩⟩
    exact ⟨_, results_tmp rfl _ _ _, v, rfl, ownsRow_putObj hrow _ hK rfl, hB.trans (belowK_b (w := w) (Nat.le_refl _) W D _ _ (by simp at hD; omega) hK rfl rfl)⟩
  case stop =>
    rintro D c pre W _ _ h _
    exact h.elim

theorem collect_any (gf : Nat) (lb : Array Value) (eg : ∀ args w, (callFunc gf args).run Try.prog w = .ok (.enter gf args) w) (xs : List Txt) (hlen : xs.length ≤ 1000000) (w : World) (hseq : Gives gf lb w.heap.size xs w) :
    Calls Try.prog 51 #[.func (.func gf) #[] lb] w fun e W' => ∃ v, e = .returned v ∧ W'.ownsRow w.heap.size 9 1 v xs.length (xs.map encT) ∧ Below w.heap.size w W' := by
  have ha := callsIn_wide.1 (appendSeq_any gf lb eg xs hlen w hseq)
  clear hseq
  go_enter Try.func51, Try.ntmps51
  go_wp2_with fail
  refine ha.mono ?_
  rintro e w1 ⟨v, rfl, h1, h2⟩
  go_wp2
  go_ret
  exact ⟨_, rfl, h1, h2⟩

end Go.Proofs.Ytfigbdhfmlhjdaa

end

section
/- Copies of lists: what append to an empty list of its own makes, and the contracts of the functions that copy. -/
namespace Go.Proofs.Ytfigbdhfmlhjdaa
open Go.RowKit

theorem info_int : (Try.prog.info? 3).map (fun i => (i.zero, i.size, i.bytes)) = some (some (.int .i64 0), 1, 8) := by kernel_rfl

/-- A copy: the elements, in memory of its own. -/
def CopyPost (w : World) (e : TypeId) (size n : Nat) (xs : List Value) (en : Ending) (w' : World) : Prop :=
  ∃ A c, en = .returned (.slice A n c) ∧ Below w.heap.size w w' ∧ Reads w' w'.heap.size size A n xs ∧ w'.ownsRow w.heap.size e size (.slice A n c) n xs
theorem CopyPost.of {w w' : World} {e : TypeId} {size n : Nat} {xs : List Value} {v : Value} (ho : w'.ownsRow w.heap.size e size v n xs) (hb : Below w.heap.size w w') : CopyPost w e size n xs (.returned v) w' := by
  obtain ⟨A, c, rfl, hr⟩ := own_reads ho
  exact ⟨A, c, rfl, hb, hr, ho⟩





end Go.Proofs.Ytfigbdhfmlhjdaa

end
