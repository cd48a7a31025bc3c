import Derived.Test.YtclnffpfbngjoaaQ1
import Derived.Test.YtclnffpfbngjoaaQ2

section
/- A rule for a region whose order is left open and which holds one call whose result is only known to exist: the class of worlds bears a ghost, which that call chooses. -/
namespace Go.Proofs.Ytclnffpfbngjoaa.Fx
open Go Go.RowKit

section
variable {P : Program} {ops : Array Oper} {md : Region.Mode} {X : Type}

/-- From the world w the operation yields a value and leaves a world of R. -/
def GivesX (P : Program) (o : Oper) (a : Act) (w : World) (R : Value → World → Prop) : Prop :=
  match (execOp a.eval o).run P w with
  | .ok (.value u) w' => R u w'
  | .ok (.enter f args) w' => Calls P f args w' fun e w'' => ∃ v, e = .returned v ∧ R v w''
  | _ => False

theorem GivesX.congr {o : Oper} {a a' : Act} {w : World} {R : Value → World → Prop} (h : GivesX P o a w R) (he : execOp a'.eval o = execOp a.eval o) : GivesX P o a' w R := by
  unfold GivesX; rw [he]; exact h

theorem GivesX.wp {o : Oper} {a : Act} {w : World} {R : Value → World → Prop} {K : Act → World → Prop} {Q : Exit → Act → World → Prop} (h : GivesX P o a w R) (hk : ∀ v w', R v w' → K (a.put o.dst v) w') : o.wp P a w K Q := by
  unfold Oper.wp
  unfold GivesX at h
  generalize (execOp a.eval o).run P w = r at *
  cases r with
  | halt x w' => exact h.elim
  | ok n w' =>
    cases n
    case value u => exact hk _ _ h
    case enter f args => exact Calls.mono h fun e w'' ⟨v, he, hr⟩ => by subst he; exact hk _ _ hr
    all_goals exact h.elim

/-- Where number i comes up before the ghost is chosen: it chooses it. -/
def SureX (P : Program) (md : Region.Mode) (ops : Array Oper) (C : Option X → Array Bool → World → Prop) (val : X → Value) (i : Nat) (o : Oper) (a : Act) : Prop :=
  Region.wanted o (yielded ops a.tmps) = true ∧ ∀ L w, C none L w → i ∈ Region.ready md ops L → GivesX P o a w fun v w' => ∃ x, v = val x ∧ C (some x) (L.setIfInBounds i true) w'

theorem SureX.same {C : Option X → Array Bool → World → Prop} {val : X → Value} {i : Nat} {o : Oper} {a a' : Act} (h : SureX P md ops C val i o a) (he : execOp a'.eval o = execOp a.eval o)
    (hw : Region.wanted o (yielded ops a'.tmps) = Region.wanted o (yielded ops a.tmps)) : SureX P md ops C val i o a' :=
  ⟨hw.trans h.1, fun L w hc hr => (h.2 L w hc hr).congr he⟩

def anyG (P : Program) (md : Region.Mode) (ops : Array Oper) (C : Option X → Array Bool → World → Prop) (val : X → Value) (s : Nat) (Q : Option X → Array Bool → Act → Prop) : Nat → Option X → Array Bool → Act → Prop
  | 0, g, L, a => Region.ready md ops L = [] ∧ Q g L a
  | n + 1, g, L, a => (Region.ready md ops L = [] → Q g L a) ∧
      ∀ i ∈ Region.ready md ops L, ∃ o, ops[i]? = some o ∧ ((∃ v, Sure P md ops (C g) i o v a ∧ anyG P md ops C val s Q n g (L.setIfInBounds i true) (a.put o.dst v)) ∨
        (g = none ∧ i = s ∧ SureX P md ops C val i o a ∧ ∀ x, anyG P md ops C val s Q n (some x) (L.setIfInBounds i true) (a.put o.dst (val x))))

theorem wpAny_of_anyG {C : Option X → Array Bool → World → Prop} {val : X → Value} {s : Nat} {Q : Option X → Array Bool → Act → Prop} {Q' : Exit → Act → World → Prop} (hQ : ∀ g L a w, C g L w → Q g L a → Q' .normal a w) :
    ∀ (n : Nat) (g : Option X) (L : Array Bool) (a : Act) (w : World), C g L w → anyG P md ops C val s Q n g L a → wpAny P md ops Q' n L a w
  | 0, _, _, _, _, hc, h => ⟨h.1, hQ _ _ _ _ hc h.2⟩
  | n + 1, g, L, a, w, hc, h => ⟨fun h0 => hQ _ _ _ _ hc (h.1 h0), fun i hi => by
      obtain ⟨o, ho, hcs⟩ := h.2 i hi
      unfold wpOp
      simp only [ho]
      rcases hcs with ⟨v, hs, hn⟩ | ⟨rfl, rfl, hs, hn⟩
      · rcases hs with ⟨h1, h2⟩ | ⟨h1, h2, h3⟩
        · rw [if_pos h1]
          exact .inl ((h2 L w hc hi).wp fun w' hw' => wpAny_of_anyG hQ n _ _ _ w' hw' hn)
        · rw [if_neg (by rw [h1]; exact Bool.false_ne_true)]
          subst h2
          exact wpAny_of_anyG hQ n _ _ _ w (h3 L w hc hi) hn
      · rw [if_pos hs.1]
        exact .inl ((hs.2 L w hc hi).wp fun v w' ⟨x, hv, hw'⟩ => by subst hv; exact wpAny_of_anyG hQ n _ _ _ w' hw' (hn x))⟩

theorem anyG_of_anyF {C : Option X → Array Bool → World → Prop} {val : X → Value} {s : Nat} {Q : Option X → Array Bool → Act → Prop} {x : X} :
    ∀ (n : Nat) (L : Array Bool) (a : Act), anyF P md ops (C (some x)) (Q (some x)) n L a → anyG P md ops C val s Q n (some x) L a
  | 0, _, _, h => h
  | n + 1, L, a, h => ⟨h.1, fun i hi => by
      obtain ⟨o, v, ho, hs, hn⟩ := h.2 i hi
      exact ⟨o, ho, .inl ⟨v, hs, anyG_of_anyF n _ _ hn⟩⟩⟩

/-- What may come up may be taken first, if all that could come before it is apart from it. -/
theorem anyG_first {C : Option X → Array Bool → World → Prop} {val : X → Value} {s : Nat} {Q : Option X → Array Bool → Act → Prop} {i : Nat} {oi : Oper} {v : Value} (hi : ops[i]? = some oi) (hsel : ∀ (j : Nat) (o : Oper) cs b, ops[j]? = some o → o.op ≠ .select cs b) :
    ∀ (n : Nat) (g : Option X) (L : Array Bool) (a : Act),
      (∀ j oj, ops[j]? = some oj → j ≠ i → L.getD j true = false → (∀ e ∈ oj.after, Region.binds md e = true → e.on ≠ i) → oi.apart ops oj = true) →
      i ∈ Region.ready md ops L → (∀ g, Sure P md ops (C g) i oi v a) →
      anyG P md ops C val s Q n g (L.setIfInBounds i true) (a.put oi.dst v) → anyG P md ops C val s Q (n + 1) g L a := by
  intro n
  induction n with
  | zero =>
    intro g L a _ hr hs H
    refine ⟨fun h => (by rw [h] at hr; cases hr), fun j hj => ?_⟩
    by_cases hji : j = i
    · subst hji; exact ⟨oi, hi, .inl ⟨v, hs g, H⟩⟩
    · have := ready_mono hj hji
      rw [H.1] at this
      cases this
  | succ n ih =>
    intro g L a hfree hr hs H
    refine ⟨fun h => (by rw [h] at hr; cases hr), fun j hj => ?_⟩
    by_cases hji : j = i
    · subst hji; exact ⟨oi, hi, .inl ⟨v, hs g, H⟩⟩
    · obtain ⟨oj, hoj, hcs⟩ := H.2 j (ready_mono hj hji)
      obtain ⟨hjun, oj', hoj', hall⟩ := mem_ready.1 hj
      obtain rfl : oj' = oj := Option.some.inj (hoj'.symm.trans hoj)
      have hnot : ∀ e ∈ oj'.after, Region.binds md e = true → e.on ≠ i := fun e he hb heq => by
        have h1 := hall e he hb
        have h0 := (mem_ready.1 hr).1
        rw [heq] at h1
        rcases Nat.lt_or_ge i L.size with h' | h'
        · simp [h'] at h0 h1; rw [h0] at h1; cases h1
        · simp [Array.getElem?_eq_none h'] at h1
      obtain ⟨a1, a2, a3⟩ := Oper.apart_spec (hfree j oj' hoj hji hjun hnot)
      have key : ∀ (g' : Option X) (u : Value), anyG P md ops C val s Q n g' ((L.setIfInBounds i true).setIfInBounds j true) ((a.put oi.dst v).put oj'.dst u) → anyG P md ops C val s Q (n + 1) g' (L.setIfInBounds j true) (a.put oj'.dst u) := fun g' u hn => by
        refine ih g' _ _ (fun k ok hk hki hun hno => hfree k ok hk hki ?_ hno) (ready_mono hr (Ne.symm hji))
          (fun g => (hs g).same (execOp_put oi (fun cs b => hsel i oi cs b hi) a oj'.dst u a3) (wanted_put oi a oj'.dst u a3)) ?_
        · by_cases hjk : j = k
          · subst hjk; exact hjun
          · rw [getD_set_ne true hjk] at hun; exact hun
        · rw [Array.setIfInBounds_comm _ _ hji, ← Act.put_comm a v u a2]
          exact hn
      refine ⟨oj', hoj, ?_⟩
      rcases hcs with ⟨u, hsj, hn⟩ | ⟨hg, hjs, hsj, hn⟩
      · exact .inl ⟨u, hsj.same (execOp_put oj' (fun cs b => hsel j oj' cs b hoj) a oi.dst v a1).symm (wanted_put oj' a oi.dst v a1).symm, key g u hn⟩
      · exact .inr ⟨hg, hjs, hsj.same (execOp_put oj' (fun cs b => hsel j oj' cs b hoj) a oi.dst v a1).symm (wanted_put oj' a oi.dst v a1).symm, fun x => key (some x) (val x) (hn x)⟩

/-- The first k have come up. -/
def firstTrue (k n : Nat) : Array Bool := (List.replicate k true ++ List.replicate (n - k) false).toArray

theorem firstTrue_size {k n : Nat} (h : k ≤ n) : (firstTrue k n).size = n := by simp [firstTrue]; omega
theorem firstTrue_getD (k n j : Nat) : (firstTrue k n).getD j false = decide (j < k) := by
  simp only [firstTrue, Array.getD_eq_getD_getElem?, List.getElem?_toArray, List.getElem?_append, List.length_replicate, List.getElem?_replicate]
  split
  · simp_all
  · split <;> simp_all
theorem firstTrue_set {k n : Nat} (h : k < n) : (firstTrue k n).setIfInBounds k true = firstTrue (k + 1) n := by
  unfold firstTrue
  rw [List.setIfInBounds_toArray, List.set_append_right _ _ (by simp), List.length_replicate, Nat.sub_self, show n - k = (n - (k + 1)) + 1 by omega, List.replicate_succ, List.set_cons_zero, List.replicate_succ', List.append_assoc]
  rfl
theorem firstTrue_zero (n : Nat) : firstTrue 0 n = Array.replicate n false := by simp [firstTrue]

theorem GivesX.mono {o : Oper} {a : Act} {w : World} {R R' : Value → World → Prop} (h : GivesX P o a w R) (hr : ∀ v w', R v w' → R' v w') : GivesX P o a w R' := by
  unfold GivesX at *
  generalize (execOp a.eval o).run P w = r at *
  cases r with
  | halt x w' => exact h
  | ok n w' =>
    cases n
    case value u => exact hr _ _ h
    case enter f args => exact Calls.mono h fun e w'' ⟨v, he, hx⟩ => ⟨v, he, hr _ _ hx⟩
    all_goals exact h

/-- The walk in the order of the text up to the call that chooses; behind it the plain walk. -/
def lexE (P : Program) (md : Region.Mode) (ops : Array Oper) (D : Option X → (Nat → Bool) → World → Prop) (val : X → Value) (s : Nat) (Q : X → Act → Prop) : List Oper → Nat → Act → Prop
  | [], _, _ => False
  | o :: l, k, a => (∃ v, ((Region.wanted o (yielded ops a.tmps) = true ∧ ∀ g f w, D g f w → When md ops k f → Gives P o a w v (D g (add f k))) ∨
      (Region.wanted o (yielded ops a.tmps) = false ∧ v = undef ∧ ∀ g f w, D g f w → When md ops k f → D g (add f k) w)) ∧ lexE P md ops D val s Q l (k + 1) (a.put o.dst v)) ∨
    (k = s ∧ (Region.wanted o (yielded ops a.tmps) = true ∧ ∀ f w, D none f w → When md ops k f → GivesX P o a w fun v w' => ∃ x, v = val x ∧ D (some x) (add f k) w') ∧
      ∀ x, lexD P md ops (D (some x)) (Q x) l (k + 1) (a.put o.dst (val x)))

theorem anyG_lex {D : Option X → (Nat → Bool) → World → Prop} {val : X → Value} {s n : Nat} {Q : X → Act → Prop} {Q' : Option X → Array Bool → Act → Prop} (hs : Region.noSelect ops = true) (hn : ops.size = n)
    (hS : Region.ready md ops (firstTrue s n) = [s]) (hQ : ∀ x L a, (∀ j, j < n → L.getD j false = true) → Q x a → Q' (some x) L a) :
    ∀ (l : List Oper) (k : Nat) (a : Act), k + l.length = n → (∀ j, l[j]? = ops[k + j]?) → Region.lexFrom md ops l.length k (firstTrue k n) = true → lexE P md ops D val s Q l k a →
      anyG P md ops (fun g L w => Closed md ops L ∧ D g (fun j => L.getD j false) w) val s Q' l.length none (firstTrue k n) a
  | [], _, _, _, _, _, h => h.elim
  | o :: l, k, a, hk, hl, hB, h => by
    have h0 : ops[k]? = some o := by simpa using (hl 0).symm
    have hkn : k < n := by rw [List.length_cons] at hk; omega
    have hl' : ∀ j, l[j]? = ops[k + 1 + j]? := fun j => by have := hl (j + 1); simpa [Nat.add_assoc, Nat.add_comm 1 j] using this
    simp only [List.length_cons, Region.lexFrom, Bool.and_eq_true] at hB
    obtain ⟨⟨hr, hf⟩, hB'⟩ := hB
    rw [firstTrue_set hkn] at hB'
    have hr' : k ∈ Region.ready md ops (firstTrue k n) := by simpa using hr
    rcases h with ⟨v, hv, hrest⟩ | ⟨hks, ⟨hw, hg⟩, hrest⟩
    · refine anyG_first h0 (Region.noSelect_spec hs) l.length none (firstTrue k n) a (Region.free_spec h0 hf) hr' (v := v) (fun g => ?_) ?_
      · rcases hv with ⟨h1, h2⟩ | ⟨h1, h2, h3⟩
        · refine .inl ⟨h1, fun L' w hc hrd => (h2 g _ w hc.2 (when_of_ready hc.1 hrd)).mono fun w' hw' => ⟨hc.1.set_ hrd, ?_⟩⟩
          rw [add_set (by rw [hc.1.1, hn]; exact hkn)]; exact hw'
        · refine .inr ⟨h1, h2, fun L' w hc hrd => ⟨hc.1.set_ hrd, ?_⟩⟩
          rw [add_set (by rw [hc.1.1, hn]; exact hkn)]; exact h3 g _ w hc.2 (when_of_ready hc.1 hrd)
      · rw [firstTrue_set hkn]
        exact anyG_lex hs hn hS hQ l (k + 1) _ (by rw [List.length_cons] at hk; omega) hl' hB' hrest
    · subst hks
      refine ⟨fun h => (by rw [hS] at h; cases h), fun i hi => ?_⟩
      rw [hS] at hi
      obtain rfl : i = k := by simpa using hi
      refine ⟨o, h0, .inr ⟨rfl, rfl, ⟨hw, fun L' w hc hrd => (hg _ w hc.2 (when_of_ready hc.1 hrd)).mono fun v w' ⟨x, hx, hw'⟩ => ⟨x, hx, hc.1.set_ hrd, ?_⟩⟩, fun x => anyG_of_anyF _ _ _ ?_⟩⟩
      · rw [add_set (by rw [hc.1.1, hn]; exact hkn)]; exact hw'
      · rw [firstTrue_set hkn]
        refine anyF_lex hs l (i + 1) _ _ hl' hB' (lexF_of_lexD n hn (hQ x) l (i + 1) _ _ (by rw [List.length_cons] at hk; omega) (firstTrue_size (by omega)) (fun j hj => ?_) (hrest x))
        rw [firstTrue_getD]; exact decide_eq_true hj

/-- THE RULE with a ghost. -/
theorem regionG {id : Nat} {Q : Exit → Act → World → Prop} {a : Act} {w : World} {l : List Oper} (D : World → Option X → (Nat → Bool) → World → Prop) (val : X → Value) (s : Nat) (hm : P.follows .mixedOrders = true) (hB : Region.lexB .any l.toArray = true)
    (hS : Region.ready .any l.toArray (firstTrue s l.length) = [s]) (h0 : ∀ f, (∀ j, f j = false) → D w none f (w.drewN 1))
    (h : lexE P .any l.toArray (D w) val s (fun x a' => ∀ f w', (∀ j, j < l.length → f j = true) → D w (some x) f w' → Q .normal a' w') l 0 a) : (Code.region id l.toArray true).wp P Q a w := by
  simp only [Region.lexB, Bool.and_eq_true] at hB
  have hz : firstTrue 0 l.length = Array.replicate l.toArray.size false := by rw [firstTrue_zero]; simp
  have := anyG_lex (P := P) (md := .any) (ops := l.toArray) (D := D w) (val := val) (s := s) (n := l.length) (Q := fun x a' => ∀ f w', (∀ j, j < l.length → f j = true) → D w (some x) f w' → Q .normal a' w')
    (Q' := fun g L a' => match g with | none => False | some x => ∀ w', D w (some x) (fun j => L.getD j false) w' → Q .normal a' w') hB.1 (by simp) hS (fun x L a hL hq w' hd => hq _ w' hL hd) l 0 a (by simp) (by simp) (by rw [hz]; simpa using hB.2) h
  rw [hz] at this
  refine wp_region_any hm (wpAny_of_anyG (C := fun g L w' => Closed .any l.toArray L ∧ D w g (fun j => L.getD j false) w') (val := val) (s := s)
    (Q := fun g L a' => match g with | none => False | some x => ∀ w', D w (some x) (fun j => L.getD j false) w' → Q .normal a' w') (fun g L a w hc hq => ?_) _ none _ _ _ ⟨Closed.start _ _, h0 _ (fun j => ?_)⟩ (by simpa using this))
  · cases g with
    | none => exact hq.elim
    | some x => exact hq w hc.2
  · simp only [Array.getD_eq_getD_getElem?, Array.getElem?_replicate]; split <;> rfl

/-! The steps of the walk ahead of the call. -/
variable {D : Option X → (Nat → Bool) → World → Prop} {val : X → Value} {s : Nat} {Q : X → Act → Prop} {l : List Oper} {o : Oper} {a : Act} {k : Nat}

theorem skipE_ (hw : Region.wanted o (yielded ops a.tmps) = false) (hD : ∀ g f w, D g f w → D g (add f k) w) (h : lexE P md ops D val s Q l (k + 1) (a.put o.dst undef)) : lexE P md ops D val s Q (o :: l) k a :=
  .inl ⟨undef, .inr ⟨hw, rfl, fun g f w hd _ => hD g f w hd⟩, h⟩

theorem valE_ (v : Value) (hw : Region.wanted o (yielded ops a.tmps) = true) (hr : ∀ g f w, D g f w → When md ops k f → (execOp a.eval o).run P w = .ok (.value v) w) (hD : ∀ g f w, D g f w → D g (add f k) w)
    (h : lexE P md ops D val s Q l (k + 1) (a.put o.dst v)) : lexE P md ops D val s Q (o :: l) k a :=
  .inl ⟨v, .inl ⟨hw, fun g f w hd hq => by unfold Gives; rw [hr g f w hd hq]; exact ⟨rfl, hD g f w hd⟩⟩, h⟩

/-- A call ahead of it whose result is fixed. -/
theorem callvE_ (v : Value) (n : FuncId) (args : Array Value) (hw : Region.wanted o (yielded ops a.tmps) = true) (hr : ∀ w, (execOp a.eval o).run P w = .ok (.enter n args) w)
    (hc : ∀ g f w, D g f w → When md ops k f → Calls P n args w fun e w'' => e = .returned v ∧ D g (add f k) w'')
    (h : lexE P md ops D val s Q l (k + 1) (a.put o.dst v)) : lexE P md ops D val s Q (o :: l) k a :=
  .inl ⟨v, .inl ⟨hw, fun g f w hd hq => by unfold Gives; rw [hr w]; exact hc g f w hd hq⟩, h⟩

/-- Memory that is made where it is not known ahead: the ghost is its place. -/
theorem makeE_ (hk : k = s) (hw : Region.wanted o (yielded ops a.tmps) = true)
    (hr : ∀ f w, D none f w → When md ops k f → ∃ x w', (execOp a.eval o).run P w = .ok (.value (val x)) w' ∧ D (some x) (add f k) w')
    (h : ∀ x, lexD P md ops (D (some x)) (Q x) l (k + 1) (a.put o.dst (val x))) : lexE P md ops D val s Q (o :: l) k a :=
  .inr ⟨hk, ⟨hw, fun f w hd hq => by
    obtain ⟨x, w', e, hx⟩ := hr f w hd hq
    unfold GivesX
    rw [e]
    exact ⟨x, rfl, hx⟩⟩, h⟩

end
end Go.Proofs.Ytclnffpfbngjoaa.Fx

end

section
/- The class of worlds of a region whose order is left open and which makes a struct of two cells and stores into it. -/
namespace Go.Proofs.Ytclnffpfbngjoaa
open Go.RowKit

/-- All that was there is as it was; the new block x, once it is made, holds two cells: v0 and v1 when operation s (the store) has come. -/
def MkD (T : TypeId) (v0 v1 : Value) (s : Nat) (W : World) (g : Option Nat) (f : Nat → Bool) (w' : World) : Prop :=
  Below W.heap.size W w' ∧ ∀ x, g = some x → W.heap.size ≤ x ∧ ∃ e0 e1, Blk w' x T #[e0, e1] ∧ (f s = true → e0 = v0 ∧ e1 = v1)

section
variable {T : TypeId} {v0 v1 : Value} {s : Nat} {W w' w'' : World} {g : Option Nat} {f : Nat → Bool} {x k : Nat}
theorem add_ne (hk : k ≠ s) : Fx.add f k s = f s := by
  unfold Fx.add
  cases h : s.beq k with
  | false => simp
  | true => exact absurd (Nat.eq_of_beq_eq_true h).symm hk
theorem MkD.start (h : Below W.heap.size W w') : MkD T v0 v1 s W none f w' := ⟨h, fun x h => by cases h⟩
theorem MkD.step (h : MkD T v0 v1 s W g f w') (hb : Below w'.heap.size w' w'') (hk : k ≠ s) : MkD T v0 v1 s W g (Fx.add f k) w'' := by
  refine ⟨h.1.trans (hb.mono h.1.size), fun x hx => ?_⟩
  obtain ⟨h1, e0, e1, h2, h3⟩ := h.2 x hx
  exact ⟨h1, e0, e1, h2.below hb h2.lt, fun h => h3 (by rwa [add_ne hk] at h)⟩
theorem MkD.make {a b : Value} (h : MkD T v0 v1 s W none f w') (hs : f s = false) (hk : k ≠ s) : MkD T v0 v1 s W (some w'.heap.size) (Fx.add f k) (w'.alloc (.cells #[a, b] T)) := by
  refine ⟨h.1.alloc h.1.size _, fun x hx => ?_⟩
  cases hx
  refine ⟨h.1.size, a, b, Blk.new _ _ _, fun h => ?_⟩
  rw [add_ne hk, hs] at h
  cases h
theorem MkD.store (h : MkD T v0 v1 s W (some x) f w') : MkD T v0 v1 s W (some x) (Fx.add f s) ((w'.setCell ⟨x, 0, none⟩ v0).setCell ⟨x, 1, none⟩ v1) := by
  obtain ⟨h1, e0, e1, h2, -⟩ := h.2 x rfl
  refine ⟨(h.1.setCell (p := ⟨x, 0, none⟩) h1 _).setCell (p := ⟨x, 1, none⟩) h1 _, fun y hy => ?_⟩
  cases hy
  refine ⟨h1, v0, v1, ?_, fun _ => ⟨rfl, rfl⟩⟩
  have := (h2.set_ 0 v0).set_ 1 v1
  simpa using this
theorem MkD.cells (h : MkD T v0 v1 s W (some x) f w') : ∃ e0 e1, w'.cell? ⟨x, 0, none⟩ = some e0 ∧ w'.cell? ⟨x, 1, none⟩ = some e1 ∧ w'.frozen? ⟨x, 0, none⟩ = false ∧ w'.frozen? ⟨x, 1, none⟩ = false := by
  obtain ⟨h1, e0, e1, h2, -⟩ := h.2 x rfl
  exact ⟨e0, e1, h2.cell 0, h2.cell 1, h2.frozen 0, h2.frozen 1⟩
end

/-- A block g of two cells is stored into, each cell once (operations s0, s1); all below g is as it was. -/
def UpD (T : TypeId) (g : Nat) (r0 r1 m0 m1 : Value) (s0 s1 : Nat) (W : World) (f : Nat → Bool) (w' : World) : Prop :=
  Below g W w' ∧ ∃ e0 e1, Blk w' g T #[e0, e1] ∧ (f s0 = false → e0 = r0) ∧ (f s0 = true → e0 = m0) ∧ (f s1 = false → e1 = r1) ∧ (f s1 = true → e1 = m1)
section
variable {T : TypeId} {g : Nat} {r0 r1 m0 m1 : Value} {s0 s1 k : Nat} {W w' w'' : World} {f : Nat → Bool}
theorem add_eq : Fx.add f k k = true := by
  unfold Fx.add
  rw [show Nat.beq k k = true from Nat.beq_refl k]
  rfl
theorem UpD.start (h : Below g W w') (hg : Blk w' g T #[r0, r1]) (h0 : f s0 = false) (h1 : f s1 = false) : UpD T g r0 r1 m0 m1 s0 s1 W f w' :=
  ⟨h, r0, r1, hg, fun _ => rfl, fun e => (by rw [h0] at e; cases e), fun _ => rfl, fun e => (by rw [h1] at e; cases e)⟩
theorem UpD.same (h : UpD T g r0 r1 m0 m1 s0 s1 W f w') (k0 : k ≠ s0) (k1 : k ≠ s1) : UpD T g r0 r1 m0 m1 s0 s1 W (Fx.add f k) w' := by
  obtain ⟨h1, e0, e1, h2, a, b, c, d⟩ := h
  refine ⟨h1, e0, e1, h2, ?_, ?_, ?_, ?_⟩
  · rw [add_ne k0]; exact a
  · rw [add_ne k0]; exact b
  · rw [add_ne k1]; exact c
  · rw [add_ne k1]; exact d
theorem UpD.store1 (h : UpD T g r0 r1 m0 m1 s0 s1 W f w') (hne : s0 ≠ s1) : UpD T g r0 r1 m0 m1 s0 s1 W (Fx.add f s1) (w'.setCell ⟨g, 1, none⟩ m1) := by
  obtain ⟨h1, e0, e1, h2, a, b, c, d⟩ := h
  refine ⟨h1.setCell (p := ⟨g, 1, none⟩) (Nat.le_refl _) _, e0, m1, by simpa using h2.set_ 1 m1, ?_, ?_, fun e => ?_, fun _ => rfl⟩
  · rw [add_ne (Ne.symm hne)]; exact a
  · rw [add_ne (Ne.symm hne)]; exact b
  · rw [add_eq] at e; cases e
theorem UpD.end_ (h : UpD T g r0 r1 m0 m1 s0 s1 W f w') (h0 : f s0 = true) (h1 : f s1 = true) : Below g W w' ∧ Blk w' g T #[m0, m1] := by
  obtain ⟨h1', e0, e1, h2, a, b, c, d⟩ := h
  exact ⟨h1', b h0 ▸ d h1 ▸ h2⟩
end

end Go.Proofs.Ytclnffpfbngjoaa

end

section
/- The reference's functions on trains of gears: the check, the products, the ratio and the turns. -/
namespace Go.Proofs.Ytclnffpfbngjoaa
open Go.RowKit



/-- All products from one on, and whether all are small. -/
def begF : Int × Int → List (Int × Int) → List (Int × Int) × Bool
  | f, [] => ([f], true)
  | f, g :: l => if smallB (f.1 * g.1) (f.2 * g.2) then (f :: (begF (redN (f.1 * g.1) (f.2 * g.2), redD (f.1 * g.1) (f.2 * g.2)) l).1, (begF (redN (f.1 * g.1) (f.2 * g.2), redD (f.1 * g.1) (f.2 * g.2)) l).2) else ([f], false)

def BegPost (l : List (Int × Int)) (w : World) (e : Ending) (w' : World) : Prop :=
  Below w.heap.size w w' ∧ ((begF (1, 1) l).2 = true → ∃ A c, e = .returned (.tuple #[.slice A (l.length + 1) c, .bool true]) ∧ Reads w' w'.heap.size 2 A (l.length + 1) (cells2 (begF (1, 1) l).1)) ∧
    ((begF (1, 1) l).2 = false → e = .returned (.tuple #[.slice none 0 0, .bool false]))

end Go.Proofs.Ytclnffpfbngjoaa

end

section
/- The contracts of Ratio and MeetAgain, of the program and of the reference, and of the reference's Returns. -/
namespace Go.Proofs.Ytclnffpfbngjoaa
open Go.RowKit

def lastF (L : List (Int × Int)) (s : Int × Int) : Int × Int := L.foldl (fun _ f => f) s
/-- What Ratio answers. -/
def ratioF (l : List (Int × Int)) : (Int × Int) × Int :=
  if trainErr l ≠ 0 then ((0, 0), trainErr l) else if (begF (1, 1) l).2 = false then ((0, 0), 8) else (lastF (begF (1, 1) l).1 (0, 0), 0)







end Go.Proofs.Ytclnffpfbngjoaa

end

section
/- The contracts of MeetAgain, of the program and of the reference, and of the reference's Returns. -/
namespace Go.Proofs.Ytclnffpfbngjoaa
open Go.RowKit

def meetF (d v : Int) : Int := v / (Int.gcd d v : Int)
/-- The turns by the reference. -/
def retF : Int → List (Int × Int) → Int × Int
  | n, [] => (n, 0)
  | n, f :: l => if 1000000000 < n / (Int.gcd n f.2 : Int) * f.2 then (0, 8) else retF (n / (Int.gcd n f.2 : Int) * f.2) l
end Go.Proofs.Ytclnffpfbngjoaa

end
