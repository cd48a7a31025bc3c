import Derived.Test.YtcggceincmljdaaProg
import Derived.WalkKit
import Derived.Still
import Derived.Deep.Draws
import Derived.KernelRfl
import Derived.Test.YtcggceincmljdaaQ1
import Derived.Maps.OwnOps
import Derived.Maps.Own
import Derived.Maps.OwnSet
import Derived.StringKeys

section
/- A rule for a region whose order is left open and which also writes: one walk in the order of the text serves every order, if each operation yields the same value wherever it may come up. The class of worlds is indexed by what has come up. -/
namespace Go.Proofs.Ytcggceincmljdaa.Fx
open Go Go.RowKit

section
variable {P : Program} {ops : Array Oper} {md : Region.Mode}

/-- From the world w the operation yields v and leaves a world of R. -/
def Gives (P : Program) (o : Oper) (a : Act) (w : World) (v : Value) (R : World → Prop) : Prop :=
  match (execOp a.eval o).run P w with
  | .ok (.value u) w' => u = v ∧ R w'
  | .ok .skip w' => v = undef ∧ R w'
  | .ok (.enter f args) w' => Calls P f args w' fun e w'' => e = .returned v ∧ R w''
  | _ => False

theorem Gives.congr {o : Oper} {a a' : Act} {w : World} {v : Value} {R : World → Prop} (h : Gives P o a w v R) (he : execOp a'.eval o = execOp a.eval o) : Gives P o a' w v R := by
  unfold Gives; rw [he]; exact h

theorem Gives.wp {o : Oper} {a : Act} {w : World} {v : Value} {R : World → Prop} {K : Act → World → Prop} {Q : Exit → Act → World → Prop} (h : Gives P o a w v R) (hk : ∀ w', R w' → K (a.put o.dst v) w') : o.wp P a w K Q := by
  unfold Oper.wp
  unfold Gives at h
  generalize (execOp a.eval o).run P w = r at *
  cases r with
  | halt x w' => exact h.elim
  | ok n w' =>
    cases n
    case value u => obtain ⟨rfl, hr⟩ := h; exact hk _ hr
    case skip => obtain ⟨rfl, hr⟩ := h; exact hk _ hr
    case enter f args => exact Calls.mono h fun e w'' ⟨he, hr⟩ => by subst he; exact hk _ hr
    all_goals exact h.elim

/-- Wherever number i may come up: it yields v, or (its guard says no) nothing. -/
def Sure (P : Program) (md : Region.Mode) (ops : Array Oper) (C : Array Bool → World → Prop) (i : Nat) (o : Oper) (v : Value) (a : Act) : Prop :=
  (Region.wanted o (yielded ops a.tmps) = true ∧ ∀ L w, C L w → i ∈ Region.ready md ops L → Gives P o a w v (C (L.setIfInBounds i true))) ∨
  (Region.wanted o (yielded ops a.tmps) = false ∧ v = undef ∧ ∀ L w, C L w → i ∈ Region.ready md ops L → C (L.setIfInBounds i true) w)

theorem Sure.same {C : Array Bool → World → Prop} {i : Nat} {o : Oper} {v : Value} {a a' : Act} (h : Sure P md ops C i o v a) (he : execOp a'.eval o = execOp a.eval o)
    (hw : Region.wanted o (yielded ops a'.tmps) = Region.wanted o (yielded ops a.tmps)) : Sure P md ops C i o v a' := by
  rcases h with ⟨h1, h2⟩ | h1
  · exact .inl ⟨hw.trans h1, fun L w hc hr => (h2 L w hc hr).congr he⟩
  · exact .inr ⟨hw.trans h1.1, h1.2⟩

def anyF (P : Program) (md : Region.Mode) (ops : Array Oper) (C : Array Bool → World → Prop) (Q : Array Bool → Act → Prop) : Nat → Array Bool → Act → Prop
  | 0, L, a => Region.ready md ops L = [] ∧ Q L a
  | n + 1, L, a => (Region.ready md ops L = [] → Q L a) ∧
      ∀ i ∈ Region.ready md ops L, ∃ o v, ops[i]? = some o ∧ Sure P md ops C i o v a ∧ anyF P md ops C Q n (L.setIfInBounds i true) (a.put o.dst v)

theorem wpAny_of_anyF {C : Array Bool → World → Prop} {Q : Array Bool → Act → Prop} {Q' : Exit → Act → World → Prop} (hQ : ∀ L a w, C L w → Q L a → Q' .normal a w) :
    ∀ (n : Nat) (L : Array Bool) (a : Act) (w : World), C L w → anyF P md ops C Q n L a → wpAny P md ops Q' n L a w
  | 0, _, _, _, hc, h => ⟨h.1, hQ _ _ _ hc h.2⟩
  | n + 1, L, a, w, hc, h => ⟨fun h0 => hQ _ _ _ hc (h.1 h0), fun i hi => by
      obtain ⟨o, v, ho, hs, hn⟩ := h.2 i hi
      unfold wpOp
      simp only [ho]
      rcases hs with ⟨h1, h2⟩ | ⟨h1, h2, h3⟩
      · rw [if_pos h1]
        exact .inl ((h2 L w hc hi).wp fun w' hw' => wpAny_of_anyF hQ n _ _ w' hw' hn)
      · rw [if_neg (by rw [h1]; exact Bool.false_ne_true)]
        subst h2
        exact wpAny_of_anyF hQ n _ _ w (h3 L w hc hi) hn⟩

/-- What may come up may be taken first, if all that could come before it is apart from it. -/
theorem anyF_first {C : Array Bool → World → Prop} {Q : Array Bool → Act → Prop} {i : Nat} {oi : Oper} {v : Value} (hi : ops[i]? = some oi) (hsel : ∀ (j : Nat) (o : Oper) cs b, ops[j]? = some o → o.op ≠ .select cs b) :
    ∀ (n : Nat) (L : Array Bool) (a : Act),
      (∀ j oj, ops[j]? = some oj → j ≠ i → L.getD j true = false → (∀ e ∈ oj.after, Region.binds md e = true → e.on ≠ i) → oi.apart ops oj = true) →
      i ∈ Region.ready md ops L → Sure P md ops C i oi v a →
      anyF P md ops C Q n (L.setIfInBounds i true) (a.put oi.dst v) → anyF P md ops C Q (n + 1) L a := by
  intro n
  induction n with
  | zero =>
    intro L a _ hr hs H
    refine ⟨fun h => (by rw [h] at hr; cases hr), fun j hj => ?_⟩
    by_cases hji : j = i
    · subst hji; exact ⟨oi, v, hi, hs, H⟩
    · have := ready_mono hj hji
      rw [H.1] at this
      cases this
  | succ n ih =>
    intro L a hfree hr hs H
    refine ⟨fun h => (by rw [h] at hr; cases hr), fun j hj => ?_⟩
    by_cases hji : j = i
    · subst hji; exact ⟨oi, v, hi, hs, H⟩
    · obtain ⟨oj, u, hoj, hsj, hn⟩ := H.2 j (ready_mono hj hji)
      obtain ⟨hjun, oj', hoj', hall⟩ := mem_ready.1 hj
      obtain rfl : oj' = oj := Option.some.inj (hoj'.symm.trans hoj)
      have hnot : ∀ e ∈ oj'.after, Region.binds md e = true → e.on ≠ i := fun e he hb heq => by
        have h1 := hall e he hb
        have h0 := (mem_ready.1 hr).1
        rw [heq] at h1
        rcases Nat.lt_or_ge i L.size with h' | h'
        · simp [h'] at h0 h1; rw [h0] at h1; cases h1
        · simp [Array.getElem?_eq_none h'] at h1
      obtain ⟨a1, a2, a3⟩ := Oper.apart_spec (hfree j oj' hoj hji hjun hnot)
      refine ⟨oj', u, hoj, hsj.same (execOp_put oj' (fun cs b => hsel j oj' cs b hoj) a oi.dst v a1).symm (wanted_put oj' a oi.dst v a1).symm, ?_⟩
      refine ih _ _ (fun k ok hk hki hun hno => hfree k ok hk hki ?_ hno) (ready_mono hr (Ne.symm hji))
        (hs.same (execOp_put oi (fun cs b => hsel i oi cs b hi) a oj'.dst u a3) (wanted_put oi a oj'.dst u a3)) ?_
      · by_cases hjk : j = k
        · subst hjk; exact hjun
        · rw [getD_set_ne true hjk] at hun; exact hun
      · rw [Array.setIfInBounds_comm _ _ hji, ← Act.put_comm a v u a2]
        exact hn

/-- The walk in the order of the text. -/
def lexF (P : Program) (md : Region.Mode) (ops : Array Oper) (C : Array Bool → World → Prop) (Q : Array Bool → Act → Prop) : List Oper → Nat → Array Bool → Act → Prop
  | [], _, L, a => Q L a
  | o :: l, k, L, a => ∃ v, Sure P md ops C k o v a ∧ lexF P md ops C Q l (k + 1) (L.setIfInBounds k true) (a.put o.dst v)

theorem anyF_lex {C : Array Bool → World → Prop} {Q : Array Bool → Act → Prop} (hs : Region.noSelect ops = true) : ∀ (l : List Oper) (k : Nat) (L : Array Bool) (a : Act), (∀ j, l[j]? = ops[k + j]?) →
    Region.lexFrom md ops l.length k L = true → lexF P md ops C Q l k L a → anyF P md ops C Q l.length L a
  | [], _, _, _, _, hB, h => ⟨by simpa [Region.lexFrom] using hB, h⟩
  | o :: l, k, L, a, hl, hB, h => by
    have h0 : ops[k]? = some o := by simpa using (hl 0).symm
    simp only [List.length_cons, Region.lexFrom, Bool.and_eq_true] at hB
    obtain ⟨⟨hr, hf⟩, hB'⟩ := hB
    obtain ⟨v, hy, hK⟩ := h
    exact anyF_first h0 (Region.noSelect_spec hs) l.length L a (Region.free_spec h0 hf) (by simpa using hr) hy
      (anyF_lex hs l (k + 1) _ _ (fun j => by have := hl (j + 1); simpa [Nat.add_assoc, Nat.add_comm 1 j] using this) hB' hK)

/-- What has come up is closed under what it waits for. -/
def Closed (md : Region.Mode) (ops : Array Oper) (L : Array Bool) : Prop :=
  L.size = ops.size ∧ ∀ j oj, ops[j]? = some oj → L.getD j false = true → ∀ e ∈ oj.after, Region.binds md e = true → L.getD e.on false = true

theorem Closed.start (md : Region.Mode) (ops : Array Oper) : Closed md ops (Array.replicate ops.size false) := by
  refine ⟨by simp, fun j oj _ h => ?_⟩
  simp only [Array.getD_eq_getD_getElem?, Array.getElem?_replicate] at h
  split at h <;> simp at h

theorem getD_false_of_true {L : Array Bool} {i : Nat} (h : L.getD i true = false) : L.getD i false = false ∧ i < L.size := by
  rcases Nat.lt_or_ge i L.size with h' | h'
  · simp [h'] at h ⊢; exact h
  · simp [Array.getElem?_eq_none h'] at h

theorem getD_set_same {L : Array Bool} {i : Nat} (h : i < L.size) : (L.setIfInBounds i true).getD i false = true := by
  simp [h]

theorem getD_set_ne' {L : Array Bool} {i j : Nat} (h : i ≠ j) : (L.setIfInBounds i true).getD j false = L.getD j false := by
  simp [Array.getElem?_setIfInBounds_ne h]

theorem Closed.set_ {L : Array Bool} {i : Nat} (h : Closed md ops L) (hr : i ∈ Region.ready md ops L) : Closed md ops (L.setIfInBounds i true) := by
  obtain ⟨h0, o, ho, hall⟩ := mem_ready.1 hr
  refine ⟨by simpa using h.1, fun j oj hoj hj e he hb => ?_⟩
  have hmono : L.getD e.on false = true → (L.setIfInBounds i true).getD e.on false = true := fun hx => getD_set_true hx
  by_cases hij : i = j
  · subst hij
    obtain rfl : oj = o := Option.some.inj (hoj.symm.trans ho)
    exact hmono (hall e he hb)
  · rw [getD_set_ne' hij] at hj
    exact hmono (h.2 j oj hoj hj e he hb)

/-- Does number j wait for number k? -/
def waits (md : Region.Mode) (ops : Array Oper) (j k : Nat) : Bool := ((ops[j]?).map fun o => o.after.any fun e => Region.binds md e && Nat.beq e.on k).getD false

/-- What is known of what has come up (f) where number k comes up. -/
def When (md : Region.Mode) (ops : Array Oper) (k : Nat) (f : Nat → Bool) : Prop :=
  f k = false ∧ (∀ j, waits md ops j k = true → f j = false) ∧ (∀ j, waits md ops k j = true → f j = true) ∧ (∀ i j, waits md ops i j = true → f i = true → f j = true)

theorem waits_spec {j k : Nat} (h : waits md ops j k = true) : ∃ oj, ops[j]? = some oj ∧ ∃ e ∈ oj.after, Region.binds md e = true ∧ e.on = k := by
  unfold waits at h
  cases ho : ops[j]? with
  | none => simp [ho] at h
  | some o =>
    simp only [ho, Option.map_some, Option.getD_some, Array.any_eq_true, Bool.and_eq_true] at h
    obtain ⟨x, hx, hb, he⟩ := h
    exact ⟨o, rfl, o.after[x], Array.getElem_mem hx, hb, Nat.eq_of_beq_eq_true he⟩

theorem when_of_ready {L : Array Bool} {k : Nat} (hc : Closed md ops L) (hr : k ∈ Region.ready md ops L) : When md ops k (fun j => L.getD j false) := by
  obtain ⟨h0, o, ho, hall⟩ := mem_ready.1 hr
  refine ⟨(getD_false_of_true h0).1, fun j hj => ?_, fun j hj => ?_, fun i j hw hi => ?_⟩
  · obtain ⟨oj, hoj, e, he, hb, rfl⟩ := waits_spec hj
    cases hx : L.getD j false with
    | false => exact hx
    | true =>
      have := hc.2 j oj hoj hx e he hb
      rw [(getD_false_of_true h0).1] at this
      cases this
  · obtain ⟨o', ho', e, he, hb, rfl⟩ := waits_spec hj
    obtain rfl : o' = o := Option.some.inj (ho'.symm.trans ho)
    exact hall e he hb
  · obtain ⟨oi, hoi, e, he, hb, rfl⟩ := waits_spec hw
    exact hc.2 i oi hoi hi e he hb

/-- What waits for what has not come up has not come up. -/
theorem When.un {k : Nat} {f : Nat → Bool} (h : When md ops k f) (i j : Nat) (hw : waits md ops i j = true) (hj : f j = false) : f i = false := by
  cases hi : f i with
  | false => rfl
  | true => rw [h.2.2.2 i j hw hi] at hj; cases hj

/-- f, and number k besides. -/
def add (f : Nat → Bool) (k : Nat) : Nat → Bool := fun j => Nat.beq j k || f j

theorem add_set {L : Array Bool} {k : Nat} (h : k < L.size) : (fun j => (L.setIfInBounds k true).getD j false) = add (fun j => L.getD j false) k := by
  funext j
  unfold add
  by_cases hkj : k = j
  · subst hkj; rw [getD_set_same h]; simp
  · rw [getD_set_ne' hkj]
    have : Nat.beq j k = false := by
      cases hb : Nat.beq j k with
      | false => rfl
      | true => exact absurd (Nat.eq_of_beq_eq_true hb).symm hkj
    rw [this]; rfl

/-- The walk in the order of the text, for the user: D is the class, f what has come up. -/
def lexD (P : Program) (md : Region.Mode) (ops : Array Oper) (D : (Nat → Bool) → World → Prop) (Q : Act → Prop) : List Oper → Nat → Act → Prop
  | [], _, a => Q a
  | o :: l, k, a => ∃ v, ((Region.wanted o (yielded ops a.tmps) = true ∧ ∀ f w, D f w → When md ops k f → Gives P o a w v (D (add f k))) ∨
      (Region.wanted o (yielded ops a.tmps) = false ∧ v = undef ∧ ∀ f w, D f w → When md ops k f → D (add f k) w)) ∧ lexD P md ops D Q l (k + 1) (a.put o.dst v)

theorem Gives.mono {o : Oper} {a : Act} {w : World} {v : Value} {R R' : World → Prop} (h : Gives P o a w v R) (hr : ∀ w', R w' → R' w') : Gives P o a w v R' := by
  unfold Gives at *
  generalize (execOp a.eval o).run P w = r at *
  cases r with
  | halt x w' => exact h
  | ok n w' =>
    cases n
    case value u => exact ⟨h.1, hr _ h.2⟩
    case skip => exact ⟨h.1, hr _ h.2⟩
    case enter f args => exact Calls.mono h fun e w'' ⟨he, hx⟩ => ⟨he, hr _ hx⟩
    all_goals exact h

theorem lexF_of_lexD {D : (Nat → Bool) → World → Prop} {Q : Act → Prop} {Q' : Array Bool → Act → Prop} (n : Nat) (hn : ops.size = n) (hQ : ∀ L a, (∀ j, j < n → L.getD j false = true) → Q a → Q' L a) :
    ∀ (l : List Oper) (k : Nat) (L : Array Bool) (a : Act), k + l.length = n → L.size = n → (∀ j, j < k → L.getD j false = true) → lexD P md ops D Q l k a →
      lexF P md ops (fun L w => Closed md ops L ∧ D (fun j => L.getD j false) w) Q' l k L a
  | [], k, L, a, hk, hs, hL, h => hQ L a (by intro j hj; exact hL j (by simp only [List.length_nil, Nat.add_zero] at hk; omega)) h
  | o :: l, k, L, a, hk, hs, hL, h => by
    obtain ⟨v, hv, hr⟩ := h
    have hkn : k < n := by rw [List.length_cons] at hk; omega
    refine ⟨v, ?_, lexF_of_lexD n hn hQ l (k + 1) _ _ (by rw [List.length_cons] at hk; omega) (by simpa using hs) (fun j hj => ?_) hr⟩
    · rcases hv with ⟨h1, h2⟩ | ⟨h1, h2, h3⟩
      · refine .inl ⟨h1, fun L' w hc hrd => (h2 _ w hc.2 (when_of_ready hc.1 hrd)).mono fun w' hw' => ⟨hc.1.set_ hrd, ?_⟩⟩
        rw [add_set (by rw [hc.1.1, hn]; exact hkn)]; exact hw'
      · refine .inr ⟨h1, h2, fun L' w hc hrd => ⟨hc.1.set_ hrd, ?_⟩⟩
        rw [add_set (by rw [hc.1.1, hn]; exact hkn)]; exact h3 _ w hc.2 (when_of_ready hc.1 hrd)
    · by_cases hjk : j = k
      · subst hjk; exact getD_set_same (by omega)
      · rw [getD_set_ne' (Ne.symm hjk)]; exact hL j (by omega)

/-- THE RULE. -/
theorem region {id : Nat} {Q : Exit → Act → World → Prop} {a : Act} {w : World} {l : List Oper} (D : (Nat → Bool) → World → Prop) (hm : P.follows .mixedOrders = true) (hB : Region.lexB .any l.toArray = true)
    (h0 : ∀ f, (∀ j, f j = false) → D f (w.drewN 1)) (h : lexD P .any l.toArray D (fun a' => ∀ f w', (∀ j, j < l.length → f j = true) → D f w' → Q .normal a' w') l 0 a) :
    (Code.region id l.toArray true).wp P Q a w := by
  simp only [Region.lexB, Bool.and_eq_true] at hB
  refine wp_region_any hm (wpAny_of_anyF (C := fun L w => Closed .any l.toArray L ∧ D (fun j => L.getD j false) w)
    (Q := fun L a' => ∀ w', D (fun j => L.getD j false) w' → Q .normal a' w') (fun L a w hc hq => hq w hc.2) _ _ _ _ ⟨Closed.start _ _, h0 _ (fun j => ?_)⟩ ?_)
  · simp only [Array.getD_eq_getD_getElem?, Array.getElem?_replicate]; split <;> rfl
  · have := anyF_lex (C := fun L w => Closed .any l.toArray L ∧ D (fun j => L.getD j false) w) (Q := fun L a' => ∀ w', D (fun j => L.getD j false) w' → Q .normal a' w')
      (P := P) hB.1 l 0 (Array.replicate l.toArray.size false) a (by simp) (by simpa using hB.2)
      (lexF_of_lexD l.length (by simp) (fun L a hL hq w' hd => hq _ w' hL hd) l 0 _ a (by simp) (by simp) (by omega) h)
    simpa using this

/-- The same, where the class names the world in which the region begins. -/
theorem regionW {id : Nat} {Q : Exit → Act → World → Prop} {a : Act} {w : World} {l : List Oper} (D : World → (Nat → Bool) → World → Prop) (hm : P.follows .mixedOrders = true) (hB : Region.lexB .any l.toArray = true)
    (h0 : ∀ f, (∀ j, f j = false) → D w f (w.drewN 1)) (h : lexD P .any l.toArray (D w) (fun a' => ∀ f w', (∀ j, j < l.length → f j = true) → D w f w' → Q .normal a' w') l 0 a) :
    (Code.region id l.toArray true).wp P Q a w := region (D w) hm hB h0 h

/-! The steps of the walk. -/
variable {D : (Nat → Bool) → World → Prop} {Q : Act → Prop} {l : List Oper} {o : Oper} {a : Act} {k : Nat}

/-- The guard says no. -/
theorem skip_ (hw : Region.wanted o (yielded ops a.tmps) = false) (hD : ∀ f w, D f w → D (add f k) w) (h : lexD P md ops D Q l (k + 1) (a.put o.dst undef)) : lexD P md ops D Q (o :: l) k a :=
  ⟨undef, .inr ⟨hw, rfl, fun f w hd _ => hD f w hd⟩, h⟩

/-- The operation yields v and leaves the world. -/
theorem val_ (v : Value) (hw : Region.wanted o (yielded ops a.tmps) = true) (hr : ∀ f w, D f w → When md ops k f → (execOp a.eval o).run P w = .ok (.value v) w) (hD : ∀ f w, D f w → D (add f k) w)
    (h : lexD P md ops D Q l (k + 1) (a.put o.dst v)) : lexD P md ops D Q (o :: l) k a :=
  ⟨v, .inl ⟨hw, fun f w hd hq => by unfold Gives; rw [hr f w hd hq]; exact ⟨rfl, hD f w hd⟩⟩, h⟩

/-- The operation yields v and changes the world. -/
theorem eff_ (v : Value) (g : World → World) (hw : Region.wanted o (yielded ops a.tmps) = true) (hr : ∀ f w, D f w → When md ops k f → (execOp a.eval o).run P w = .ok (.value v) (g w)) (hD : ∀ f w, D f w → When md ops k f → D (add f k) (g w))
    (h : lexD P md ops D Q l (k + 1) (a.put o.dst v)) : lexD P md ops D Q (o :: l) k a :=
  ⟨v, .inl ⟨hw, fun f w hd hq => by unfold Gives; rw [hr f w hd hq]; exact ⟨rfl, hD f w hd hq⟩⟩, h⟩

/-- A call of a Go function. -/
theorem call_ (v : Value) (n : FuncId) (args : Array Value) (hw : Region.wanted o (yielded ops a.tmps) = true) (hr : ∀ w, (execOp a.eval o).run P w = .ok (.enter n args) w)
    (hc : ∀ f w, D f w → When md ops k f → Calls P n args w fun e w'' => e = .returned v ∧ D (add f k) w'')
    (h : lexD P md ops D Q l (k + 1) (a.put o.dst v)) : lexD P md ops D Q (o :: l) k a :=
  ⟨v, .inl ⟨hw, fun f w hd hq => by unfold Gives; rw [hr w]; exact hc f w hd hq⟩, h⟩

theorem nil_ (h : Q a) : lexD P md ops D Q [] k a := h
end
end Go.Proofs.Ytcggceincmljdaa.Fx

end

section
/- Contracts of the checks of fractions and of functions that return fractions in lowest terms. -/
namespace Go.Proofs.Ytcggceincmljdaa
open Go.RowKit

/-- The error of a fraction. -/
def fracErr (n d : Int) : Int := if d < 1 ∨ Int.gcd n d ≠ 1 then 3 else if n < -1000000000 ∨ 1000000000 < n ∨ 1000000000 < d then 2 else 0

/-- Whether a fraction in lowest terms is small. -/
def smallB (a b : Int) : Bool := withinB (a / (Int.gcd a b : Int)) (-1000000000) 1000000000 && decide (b / (Int.gcd a b : Int) ≤ 1000000000)


end Go.Proofs.Ytcggceincmljdaa

end

section
/- Contracts of the comparisons of lists. -/
namespace Go.Proofs.Ytcggceincmljdaa
open Go.RowKit

/-- The cells of pairs of numbers. -/
def cells2 (l : List (Int × Int)) : List Value := l.flatMap fun p => [.int .i64 p.1, .int .i64 p.2]
theorem cells2_length (l : List (Int × Int)) : (cells2 l).length = l.length * 2 := by
  induction l with
  | nil => rfl
  | cons p l ih => simp only [cells2, List.flatMap_cons, List.length_append, List.length_cons, List.length_nil] at *; omega
theorem cells2_get (l : List (Int × Int)) : ∀ (i : Nat) (h : i < l.length), (cells2 l)[i * 2]? = some (.int .i64 (l[i]).1) ∧ (cells2 l)[i * 2 + 1]? = some (.int .i64 (l[i]).2) := by
  induction l with
  | nil => intro i h; simp at h
  | cons p l ih =>
    intro i h
    cases i with
    | zero => simp [cells2]
    | succ i =>
      have := ih i (by simpa using h)
      have e : cells2 (p :: l) = .int .i64 p.1 :: .int .i64 p.2 :: cells2 l := rfl
      rw [e, show (i + 1) * 2 = i * 2 + 1 + 1 from by omega]
      simpa using this

theorem Reads.pair {w : World} {B n : Nat} {A : Option Addr} {l : List (Int × Int)} (h : Reads w B 2 A n (cells2 l)) {i : Nat} (hi : i < n) :
    ∃ b o p, A = some ⟨b, o, none⟩ ∧ b < B ∧ l[i]? = some p ∧ w.cell? ⟨b, o + i * 2, none⟩ = some (.int .i64 p.1) ∧ w.cell? ⟨b, o + i * 2 + 1, none⟩ = some (.int .i64 p.2) := by
  obtain ⟨b, o, e, hb, hc⟩ := h.2 (by omega)
  have hl : l.length = n := by have := h.1; rw [cells2_length] at this; omega
  have hg := cells2_get l i (by omega)
  exact ⟨b, o, l[i]'(by omega), e, hb, List.getElem?_eq_getElem (by omega), hc _ _ hg.1, hc _ _ hg.2⟩

theorem Reads.len2 {w : World} {B n : Nat} {A : Option Addr} {l : List (Int × Int)} (h : Reads w B 2 A n (cells2 l)) : l.length = n := by
  have := h.1; rw [cells2_length] at this; omega

@[go_sem] theorem held_frac : Try.prog.stoodInHeld 53 = false := by kernel_rfl

@[go_sem] theorem guard_frac : Try.prog.eqGuardType Try.prog.depth 53 = false := by kernel_rfl

theorem eq_frac (a b c d : Int) (w : World) : (Op.equalIn 10000 53 (.agg #[.int .i64 a, .int .i64 b]) (.agg #[.int .i64 c, .int .i64 d])).run Try.prog w = .ok (decide ((a, b) = (c, d))) w := by
  simp [go_sem]
  by_cases h1 : a = c <;> by_cases h2 : b = d <;> simp [h1, h2]

@[go_sem ↓ high] theorem eql_frac (a b c d : Int) (w : World) : (binOp .eql 53 (.agg #[.int .i64 a, .int .i64 b]) (.agg #[.int .i64 c, .int .i64 d])).run Try.prog w = .ok (.bool (decide ((a, b) = (c, d)))) w := by
  rw [run_eql_struct, eq_frac]; rfl

@[go_sem ↓ high] theorem neq_frac (a b c d : Int) (w : World) : (binOp .neq 53 (.agg #[.int .i64 a, .int .i64 b]) (.agg #[.int .i64 c, .int .i64 d])).run Try.prog w = .ok (.bool (!decide ((a, b) = (c, d)))) w := by
  rw [run_neq_struct, eq_frac]; rfl

end Go.Proofs.Ytcggceincmljdaa

end

section
/- Lists of four numbers each, as they lie. -/
namespace Go.Proofs.Ytcggceincmljdaa
open Go Go.RowKit

abbrev Quad := Int × Int × Int × Int
def cells4 (l : List Quad) : List Value := l.flatMap fun p => [.int .i64 p.1, .int .i64 p.2.1, .int .i64 p.2.2.1, .int .i64 p.2.2.2]
theorem cells4_len : ∀ l : List Quad, (cells4 l).length = l.length * 4
  | [] => rfl
  | p :: l => by
    have ih := cells4_len l
    unfold cells4 at ih ⊢
    rw [List.flatMap_cons, List.length_append, ih]
    simp
    omega
theorem cells4_cons (p : Quad) (l : List Quad) : cells4 (p :: l) = .int .i64 p.1 :: .int .i64 p.2.1 :: .int .i64 p.2.2.1 :: .int .i64 p.2.2.2 :: cells4 l := by
  unfold cells4
  rw [List.flatMap_cons]
  rfl
theorem cells4_append (a b : List Quad) : cells4 (a ++ b) = cells4 a ++ cells4 b := by unfold cells4; rw [List.flatMap_append]
theorem cells4_get : ∀ (l : List Quad) (k : Nat) (p : Quad), l[k]? = some p → (cells4 l)[k * 4]? = some (.int .i64 p.1) ∧ (cells4 l)[k * 4 + 1]? = some (.int .i64 p.2.1) ∧ (cells4 l)[k * 4 + 2]? = some (.int .i64 p.2.2.1) ∧ (cells4 l)[k * 4 + 3]? = some (.int .i64 p.2.2.2)
  | [], k, p, h => by simp at h
  | q :: l, 0, p, h => by
    obtain rfl : q = p := by simpa using h
    rw [cells4_cons]
    simp
  | q :: l, k + 1, p, h => by
    have ih := cells4_get l k p (by simpa using h)
    rw [cells4_cons, show (k + 1) * 4 = k * 4 + 1 + 1 + 1 + 1 by omega]
    simpa using ih
theorem one_cells4 (l : List Quad) : ∀ u ∈ cells4 l, u.oneCell' = true := by
  intro u hu
  unfold cells4 at hu
  obtain ⟨p, -, hp⟩ := List.mem_flatMap.1 hu
  simp at hp
  rcases hp with rfl | rfl | rfl | rfl <;> rfl
theorem Reads.len4 {w : World} {B n : Nat} {A : Option Addr} {l : List Quad} (h : Reads w B 4 A n (cells4 l)) : l.length = n := by
  have := h.1; rw [cells4_len] at this; omega
theorem Reads.quad {w : World} {B n : Nat} {A : Option Addr} {l : List Quad} (h : Reads w B 4 A n (cells4 l)) {k : Nat} (hk : k < n) : ∃ b o p, A = some ⟨b, o, none⟩ ∧ b < B ∧ l[k]? = some p ∧ w.cell? ⟨b, o + k * 4, none⟩ = some (.int .i64 p.1) ∧ w.cell? ⟨b, o + k * 4 + 1, none⟩ = some (.int .i64 p.2.1) ∧ w.cell? ⟨b, o + k * 4 + 2, none⟩ = some (.int .i64 p.2.2.1) ∧ w.cell? ⟨b, o + k * 4 + 3, none⟩ = some (.int .i64 p.2.2.2) := by
  obtain ⟨b, o, e, hb, hc⟩ := h.2 (by omega)
  have hl := h.len4
  have hr := List.getElem?_eq_getElem (show k < l.length by omega)
  obtain ⟨c0, c1, c2, c3⟩ := cells4_get l k _ hr
  exact ⟨b, o, _, e, hb, hr, hc _ _ c0, hc _ _ c1, hc _ _ c2, hc _ _ c3⟩
theorem cells4_set : ∀ (l : List Quad) (k : Nat) (p : Quad), k < l.length → ((((cells4 l).set (k * 4) (.int .i64 p.1)).set (k * 4 + 1) (.int .i64 p.2.1)).set (k * 4 + 2) (.int .i64 p.2.2.1)).set (k * 4 + 3) (.int .i64 p.2.2.2) = cells4 (l.set k p)
  | [], k, p, h => by simp at h
  | q :: l, 0, p, _ => by
    rw [cells4_cons, show (q :: l).set 0 p = p :: l from rfl, cells4_cons]
    rfl
  | q :: l, k + 1, p, h => by
    have ih := cells4_set l k p (by simpa using h)
    rw [cells4_cons, show (q :: l).set (k + 1) p = q :: l.set k p from rfl, cells4_cons, ← ih]
    rw [show (k + 1) * 4 = k * 4 + 1 + 1 + 1 + 1 by omega]
    simp only [List.set_cons_succ]
/-- The arcs of the first k readings. -/
def arcsK (l : List Quad) : Nat → List Quad
  | 0 => []
  | k + 1 => arcsK l k ++ match l[k]? with
    | some r => [(r.1, r.2.1, r.2.2.2, (k : Int) + 1), (r.2.1, r.1, -r.2.2.1, -(k : Int) - 1)]
    | none => []
theorem arcsK_succ {l : List Quad} {k : Nat} {r : Quad} (h : l[k]? = some r) : arcsK l (k + 1) = arcsK l k ++ [(r.1, r.2.1, r.2.2.2, (k : Int) + 1), (r.2.1, r.1, -r.2.2.1, -(k : Int) - 1)] := by
  show arcsK l k ++ (match l[k]? with | some r => _ | none => []) = _
  rw [h]
theorem arcsK_len {l : List Quad} : ∀ {k : Nat}, k ≤ l.length → (arcsK l k).length = 2 * k
  | 0, _ => rfl
  | k + 1, h => by
    rw [arcsK_succ (List.getElem?_eq_getElem (show k < l.length by omega)), List.length_append, arcsK_len (by omega)]
    simp
    omega
theorem arcsK_mem {l : List Quad} : ∀ {k : Nat} {a : Quad}, a ∈ arcsK l k → ∃ r ∈ l, (a.1 = r.1 ∧ a.2.1 = r.2.1 ∧ a.2.2.1 = r.2.2.2) ∨ (a.1 = r.2.1 ∧ a.2.1 = r.1 ∧ a.2.2.1 = -r.2.2.1)
  | 0, _, h => by simp [arcsK] at h
  | k + 1, a, h => by
    cases hk : l[k]? with
    | none =>
      have e : arcsK l (k + 1) = arcsK l k := by
        show arcsK l k ++ (match l[k]? with | some r => _ | none => []) = _
        rw [hk]; simp
      rw [e] at h
      exact arcsK_mem h
    | some r =>
      rw [arcsK_succ hk] at h
      rcases List.mem_append.1 h with h | h
      · exact arcsK_mem h
      · have hr := List.mem_of_getElem? hk
        rcases List.mem_cons.1 h with rfl | h
        · exact ⟨r, hr, .inl ⟨rfl, rfl, rfl⟩⟩
        · obtain rfl := List.mem_singleton.1 h
          exact ⟨r, hr, .inr ⟨rfl, rfl, rfl⟩⟩
end Go.Proofs.Ytcggceincmljdaa

end

section
/- Plain law of readings: what readings mean, as arcs; how low a height of the search goes. -/
namespace Go.Proofs.Ytcggceincmljdaa

def arcQ (q : Quad) : Arc := (q.1.toNat, q.2.1.toNat, q.2.2.1)
def arsOf (l : List Quad) : List Arc := (arcsK l l.length).map arcQ
/-- Readings of n zones that are right. -/
def RdOk (n : Nat) (l : List Quad) : Prop := ∀ r ∈ l, (0 ≤ r.1 ∧ r.1 < (n : Int)) ∧ (0 ≤ r.2.1 ∧ r.2.1 < (n : Int)) ∧ r.1 ≠ r.2.1 ∧ -1000000 ≤ r.2.2.1 ∧ r.2.2.1 ≤ r.2.2.2 ∧ r.2.2.2 ≤ 1000000
/-- A profile keeps readings. -/
def KeepQ (p : Nat → Int) (l : List Quad) : Prop := ∀ r ∈ l, r.2.2.1 ≤ p r.2.1.toNat - p r.1.toNat ∧ p r.2.1.toNat - p r.1.toNat ≤ r.2.2.2
section
variable {n : Nat} {p : Nat → Int} {l : List Quad} {H : Nat → Int}
theorem ars_keep (h : KeepQ p l) : KeepsA p (arsOf l) := by
  intro a ha
  obtain ⟨q, hq, rfl⟩ := List.mem_map.1 ha
  obtain ⟨r, hr, ⟨e1, e2, e3⟩ | ⟨e1, e2, e3⟩⟩ := arcsK_mem hq
  · obtain ⟨h1, h2⟩ := h r hr
    show p q.2.1.toNat - p q.1.toNat ≤ q.2.2.1
    rw [e1, e2, e3]; omega
  · obtain ⟨h1, h2⟩ := h r hr
    show p q.2.1.toNat - p q.1.toNat ≤ q.2.2.1
    rw [e1, e2, e3]; omega
/-- What an arc of right readings is. -/
theorem arc_in (h : RdOk n l) {k : Nat} {q : Quad} (hq : q ∈ arcsK l k) : (0 ≤ q.1 ∧ q.1 < (n : Int)) ∧ (0 ≤ q.2.1 ∧ q.2.1 < (n : Int)) ∧ q.1 ≠ q.2.1 ∧ -1000000 ≤ q.2.2.1 ∧ q.2.2.1 ≤ 1000000 := by
  obtain ⟨r, hr, ⟨e1, e2, e3⟩ | ⟨e1, e2, e3⟩⟩ := arcsK_mem hq
  · obtain ⟨h1, h2, h3, h4, h5, h6⟩ := h r hr
    rw [e1, e2, e3]
    exact ⟨h1, h2, h3, by omega, by omega⟩
  · obtain ⟨h1, h2, h3, h4, h5, h6⟩ := h r hr
    rw [e1, e2, e3]
    exact ⟨h2, h1, fun e => h3 e.symm, by omega, by omega⟩
def LowB (n : Nat) (p : Nat → Int) (H : Nat → Int) : Prop := ∀ v, v < n → H v ≤ 0 ∧ ∃ x, x < n ∧ p v - p x ≤ H v
theorem low_start : LowB n p (fun _ => 0) := fun v hv => ⟨Int.le_refl _, v, hv, by show p v - p v ≤ (0 : Int); omega⟩
theorem low_relax {ars : List Arc} (hk : KeepsA p ars) (h : LowB n p H) {a : Arc} (ha : a ∈ ars) (h1 : a.1 < n) (h2 : a.2.1 < n) (hl : H a.1 + a.2.2 < H a.2.1) : LowB n p (relax H a) := fun v hv => by
  unfold relax
  by_cases e : v = a.2.1
  · rw [if_pos e]
    obtain ⟨q1, x, hx, q2⟩ := h a.1 h1
    have := (h a.2.1 h2).1
    have hka := hk a ha
    exact ⟨by omega, x, hx, by rw [e]; omega⟩
  · rw [if_neg e]; exact h v hv
theorem low_in {P : Int} (h : LowB n p H) (hp : ∀ v, v < n → -P ≤ p v ∧ p v ≤ P) {v : Nat} (hv : v < n) : -(P + P) ≤ H v ∧ H v ≤ 0 := by
  obtain ⟨q1, x, hx, q2⟩ := h v hv
  have := hp v hv
  have := hp x hx
  omega
end
end Go.Proofs.Ytcggceincmljdaa

end

section
/- What is owned, or a block of its own, reads as a list. -/
namespace Go.Proofs.Ytcggceincmljdaa
open Go.RowKit

theorem Blk.reads {w : World} {g n size : Nat} {t : TypeId} {xs : List Value} (h : Blk w g t xs.toArray) (hl : xs.length = n * size) : Reads w w.heap.size size (some ⟨g, 0, none⟩) n xs :=
  ⟨hl, fun _ => ⟨g, 0, rfl, h.lt, fun j u hu => by rw [Nat.zero_add, h.cell j]; simpa using hu⟩⟩

theorem Reads.of_adds' {w : World} {B n size : Nat} {g : Nat} {xs : List Value} (hl : xs.length = n * size) (hb : g < B) (hc : ∀ j u, xs[j]? = some u → w.cell? ((⟨g, 0, none⟩ : Addr).add j) = some u) : Reads w B size (some ⟨g, 0, none⟩) n xs :=
  ⟨hl, fun _ => ⟨g, 0, rfl, hb, fun j u hu => by have := hc j u hu; rwa [add_lit] at this⟩⟩

theorem own_reads {w : World} {base n size : Nat} {e : TypeId} {v : Value} {xs : List Value} (h : w.ownsRow base e size v n xs) : ∃ A c, v = .slice A n c ∧ Reads w w.heap.size size A n xs := by
  have hc := @World.ownsRow.cells _ _ _ _ _ _ _ h
  obtain ⟨h1, h2⟩ := h
  rcases h2 with ⟨rfl, rfl⟩ | ⟨g, cap, cur, rfl, hg, hh, _⟩
  · exact ⟨none, 0, rfl, h1, fun hn => absurd hn (by simp)⟩
  · refine ⟨some ⟨g, 0, none⟩, cap, rfl, Reads.of_adds' h1 (Array.getElem?_eq_some_iff.1 hh).1 (hc rfl)⟩

section
variable {P : Program} {ops : Array Oper} {Q : Exit → Act → World → Prop} {o : Oper} {rest : List Oper} {a : Act}
/-- A call of append whose run is known. -/
theorem wpList_app (w w' : World) (v' : Value) (hg : o.guard = none) (s x : Operand) (t : TypeId) (hop : o.op = .call { callee := .builtin .append, args := #[s, x], argTypes := #[t, t] }) (sv xv : Value) (hs : a.eval s = sv) (hx : a.eval x = xv)
    (hrun : (Builtin.append_ #[t, t] o.type #[sv, xv]).run P w = .ok v' w') (hK : wpList P ops Q rest (a.put o.dst v') w') : wpList P ops Q (o :: rest) a w := by
  refine wpList_plain hg fun K' hK' => ?_
  subst hs hx
  unfold Oper.wp
  rw [exec_append s x t hop hrun]
  exact hK' _ _ hK
end

end Go.Proofs.Ytcggceincmljdaa

end

section
/- Contracts of the functions that tell which texts are names. -/
namespace Go.Proofs.Ytcggceincmljdaa
open Go.RowKit

def letterB (c : Nat) : Bool := decide (97 ≤ c ∧ c ≤ 122 ∨ 65 ≤ c ∧ c ≤ 90)
def restB (c : Nat) : Bool := letterB c || decide (c = 45 ∨ 48 ≤ c ∧ c ≤ 57)
def byteAt (s : ByteArray) (j : Nat) : Nat := (s.data.toList.getD j 0).toNat
def okAt (s : ByteArray) (j : Nat) : Bool := if j = 0 then letterB (byteAt s j) else restB (byteAt s j)
/-- Whether a text is a name. -/
def nameB (s : ByteArray) : Bool := (List.range s.size).all (okAt s) && decide (s.size ≠ 0) && decide (s.size ≤ 12)

end Go.Proofs.Ytcggceincmljdaa

end

section
/- A map with strings as keys that the program has made, said as a function from strings to values. -/
namespace Go.Proofs.Ytcggceincmljdaa
open Go.RowKit Go.Maps Go.WideShapes Go.MapKept

/-- A value read as itself. -/
def heldR (v : Value) : Option (DataW Value × List MemPlace) := some (.held v, [])
def keyS (s : ByteArray) : Lit := .string s.data.toList

theorem keyS_inj {s t : ByteArray} (h : keyS s = keyS t) : s = t := by
  unfold keyS at h
  injection h with h
  cases s; cases t; congr; exact Array.toList_inj.1 h

/-- Block b is a map of at most n entries, with M's values at M's keys. -/
def MapIs (P : Program) (k : TypeId) (w : World) (b n : Nat) (M : ByteArray → Option Value) : Prop :=
  ∃ D : DataW Value, w.ownsMap P k heldR b n D ∧ ∀ s, match M s with
    | none => Maps.has D (keyS s) = false
    | some v => Maps.has D (keyS s) = true ∧ ∀ z, D.atKey (keyS s) z = .held v

section
variable {P : Program} {k t e : TypeId} {w w' : World} {b n : Nat} {M : ByteArray → Option Value}

theorem MapIs.made (w : World) (P : Program) (k : TypeId) : MapIs P k (w.alloc (.map #[] 0)) w.heap.size 0 (fun _ => none) :=
  ⟨.map [], World.ownsMap_made w P k heldR, fun s => rfl⟩
theorem MapIs.lt (h : MapIs P k w b n M) : b < w.heap.size := by obtain ⟨D, h, _⟩ := h; exact h.lt
theorem MapIs.mono (h : MapIs P k w b n M) {n' : Nat} (hn : n ≤ n') : MapIs P k w b n' M := by obtain ⟨D, h, hm⟩ := h; exact ⟨D, h.mono hn, hm⟩
theorem MapIs.alloc (h : MapIs P k w b n M) (o : Obj) : MapIs P k (w.alloc o) b n M := by obtain ⟨D, h, hm⟩ := h; exact ⟨D, h.alloc o, hm⟩
theorem MapIs.drew (h : MapIs P k w b n M) : MapIs P k w.drew b n M := h
theorem MapIs.drewN (h : MapIs P k w b n M) (m : Nat) : MapIs P k (w.drewN m) b n M := h
theorem MapIs.below {B : Nat} (h : MapIs P k w b n M) (hb : Below B w w') (hB : b < B) : MapIs P k w' b n M := by
  obtain ⟨D, ⟨es, clock, h1, h2⟩, hm⟩ := h
  exact ⟨D, ⟨es, clock, (hb.block b hB).trans h1, h2⟩, hm⟩
theorem MapIs.set_ (h : MapIs P k w b n M) {a : Addr} (ha : b ≠ a.block) (u : Value) : MapIs P k (w.setCell a u) b n M := by
  obtain ⟨D, h, hm⟩ := h; exact ⟨D, h.setCell ha u, hm⟩
/-- 'm[s] = v'. -/
theorem MapIs.put (h : MapIs P k w b n M) (hk : P.underlying k = some .string) (ht : P.underlying t = some (.map k e)) (s : ByteArray) (hs : s.size ≤ maxLen) (hn : n < maxLen) (v : Value) :
    ∃ w', (Instr.mapUpdate t (.map (some b)) (.string s) v).run P w = .ok () w' ∧ MapIs P k w' b (n + 1) (fun u => if u = s then some v else M u) ∧ w.grownBy w' (some b) := by
  obtain ⟨D, h, hm⟩ := h
  have hkey : keyOf P k (.string s) = some (keyS s) := WideMaps.keyOf_string_mk hk hs
  obtain ⟨w', hrun, hown, hg⟩ := h.update (string_keyed hk) ht hn (val := v) (d := .held v) (ps := []) hkey rfl
  refine ⟨w', hrun, ⟨_, hown, fun u => ?_⟩, hg⟩
  have hmap : IsMap D := h.isMap
  have hlit : WideAt.IsKeyLit (keyS s) := by unfold keyS; trivial
  by_cases hu : u = s
  · subst hu
    simp only [if_true]
    exact ⟨has_put_same hmap hlit _, fun z => atKey_put_same hmap hlit _ z⟩
  · simp only [if_neg hu]
    have hne : keyS u ≠ keyS s := fun e => hu (keyS_inj e)
    have := hm u
    rw [has_put_other hne]
    cases hM : M u with
    | none => rw [hM] at this; exact this
    | some x => rw [hM] at this; exact ⟨this.1, fun z => by rw [atKey_put_other hne]; exact this.2 z⟩
end

section
variable {P : Program} {k t e : TypeId} {b n : Nat} {M : ByteArray → Option Value} {ops : Array Oper} {rest : List Oper} {o : Oper} {a : Act} {Q : Exit → Act → World → Prop}
end
end Go.Proofs.Ytcggceincmljdaa

end

section
/- Rockers: their values, and the contract of the check of one rocker behind others. -/
namespace Go.Proofs.Ytcggceincmljdaa
open Go.RowKit

structure Rk where
  name : ByteArray
  left : ByteArray
  right : ByteArray
  al : Int
  ar : Int

def Rk.cells (r : Rk) : List Value := [.string r.name, .string r.left, .string r.right, .int .i64 r.al, .int .i64 r.ar]
def Rk.val (r : Rk) : Value := .agg #[.string r.name, .string r.left, .string r.right, .int .i64 r.al, .int .i64 r.ar]
/-- The texts are no longer than a text can be. -/
structure Rk.Fits (r : Rk) : Prop where
  name : r.name.size ≤ maxLen
  left : r.left.size ≤ maxLen
  right : r.right.size ≤ maxLen

def rkErr (ex : Bool) (r : Rk) : Int :=
  if nameB r.name = false then 4 else if ex then 5 else if nameB r.left = false ∨ nameB r.right = false then 4
  else if withinB r.al 1 10000 = false ∨ withinB r.ar 1 10000 = false then 2 else 0

end Go.Proofs.Ytcggceincmljdaa

end
