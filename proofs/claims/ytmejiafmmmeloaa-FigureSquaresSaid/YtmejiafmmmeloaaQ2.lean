import Derived.Test.YtmejiafmmmeloaaProg
import Derived.WalkKit
import Derived.Still
import Derived.Deep.Draws
import Derived.KernelRfl
import Derived.Test.YtmejiafmmmeloaaQ1

section
/- A rule for a region whose order is left open and which also writes: one walk in the order of the text serves every order, if each operation yields the same value wherever it may come up. The class of worlds is indexed by what has come up. -/
namespace Go.Proofs.Ytmejiafmmmeloaa.Fx
open Go Go.RowKit

section
variable {P : Program} {ops : Array Oper} {md : Region.Mode}

/-- From the world w the operation yields v and leaves a world of R. -/
def Gives (P : Program) (o : Oper) (a : Act) (w : World) (v : Value) (R : World → Prop) : Prop :=
  match (execOp a.eval o).run P w with
  | .ok (.value u) w' => u = v ∧ R w'
  | .ok .skip w' => v = undef ∧ R w'
  | .ok (.enter f args) w' => Calls P f args w' fun e w'' => e = .returned v ∧ R w''
  | _ => False

theorem Gives.congr {o : Oper} {a a' : Act} {w : World} {v : Value} {R : World → Prop} (h : Gives P o a w v R) (he : execOp a'.eval o = execOp a.eval o) : Gives P o a' w v R := by
  unfold Gives; rw [he]; exact h

theorem Gives.wp {o : Oper} {a : Act} {w : World} {v : Value} {R : World → Prop} {K : Act → World → Prop} {Q : Exit → Act → World → Prop} (h : Gives P o a w v R) (hk : ∀ w', R w' → K (a.put o.dst v) w') : o.wp P a w K Q := by
  unfold Oper.wp
  unfold Gives at h
  generalize (execOp a.eval o).run P w = r at *
  cases r with
  | halt x w' => exact h.elim
  | ok n w' =>
    cases n
    case value u => obtain ⟨rfl, hr⟩ := h; exact hk _ hr
    case skip => obtain ⟨rfl, hr⟩ := h; exact hk _ hr
    case enter f args => exact Calls.mono h fun e w'' ⟨he, hr⟩ => by subst he; exact hk _ hr
    all_goals exact h.elim

/-- Wherever number i may come up: it yields v, or (its guard says no) nothing. -/
def Sure (P : Program) (md : Region.Mode) (ops : Array Oper) (C : Array Bool → World → Prop) (i : Nat) (o : Oper) (v : Value) (a : Act) : Prop :=
  (Region.wanted o (yielded ops a.tmps) = true ∧ ∀ L w, C L w → i ∈ Region.ready md ops L → Gives P o a w v (C (L.setIfInBounds i true))) ∨
  (Region.wanted o (yielded ops a.tmps) = false ∧ v = undef ∧ ∀ L w, C L w → i ∈ Region.ready md ops L → C (L.setIfInBounds i true) w)

theorem Sure.same {C : Array Bool → World → Prop} {i : Nat} {o : Oper} {v : Value} {a a' : Act} (h : Sure P md ops C i o v a) (he : execOp a'.eval o = execOp a.eval o)
    (hw : Region.wanted o (yielded ops a'.tmps) = Region.wanted o (yielded ops a.tmps)) : Sure P md ops C i o v a' := by
  rcases h with ⟨h1, h2⟩ | h1
  · exact .inl ⟨hw.trans h1, fun L w hc hr => (h2 L w hc hr).congr he⟩
  · exact .inr ⟨hw.trans h1.1, h1.2⟩

def anyF (P : Program) (md : Region.Mode) (ops : Array Oper) (C : Array Bool → World → Prop) (Q : Array Bool → Act → Prop) : Nat → Array Bool → Act → Prop
  | 0, L, a => Region.ready md ops L = [] ∧ Q L a
  | n + 1, L, a => (Region.ready md ops L = [] → Q L a) ∧
      ∀ i ∈ Region.ready md ops L, ∃ o v, ops[i]? = some o ∧ Sure P md ops C i o v a ∧ anyF P md ops C Q n (L.setIfInBounds i true) (a.put o.dst v)

theorem wpAny_of_anyF {C : Array Bool → World → Prop} {Q : Array Bool → Act → Prop} {Q' : Exit → Act → World → Prop} (hQ : ∀ L a w, C L w → Q L a → Q' .normal a w) :
    ∀ (n : Nat) (L : Array Bool) (a : Act) (w : World), C L w → anyF P md ops C Q n L a → wpAny P md ops Q' n L a w
  | 0, _, _, _, hc, h => ⟨h.1, hQ _ _ _ hc h.2⟩
  | n + 1, L, a, w, hc, h => ⟨fun h0 => hQ _ _ _ hc (h.1 h0), fun i hi => by
      obtain ⟨o, v, ho, hs, hn⟩ := h.2 i hi
      unfold wpOp
      simp only [ho]
      rcases hs with ⟨h1, h2⟩ | ⟨h1, h2, h3⟩
      · rw [if_pos h1]
        exact .inl ((h2 L w hc hi).wp fun w' hw' => wpAny_of_anyF hQ n _ _ w' hw' hn)
      · rw [if_neg (by rw [h1]; exact Bool.false_ne_true)]
        subst h2
        exact wpAny_of_anyF hQ n _ _ w (h3 L w hc hi) hn⟩

/-- What may come up may be taken first, if all that could come before it is apart from it. -/
theorem anyF_first {C : Array Bool → World → Prop} {Q : Array Bool → Act → Prop} {i : Nat} {oi : Oper} {v : Value} (hi : ops[i]? = some oi) (hsel : ∀ (j : Nat) (o : Oper) cs b, ops[j]? = some o → o.op ≠ .select cs b) :
    ∀ (n : Nat) (L : Array Bool) (a : Act),
      (∀ j oj, ops[j]? = some oj → j ≠ i → L.getD j true = false → (∀ e ∈ oj.after, Region.binds md e = true → e.on ≠ i) → oi.apart ops oj = true) →
      i ∈ Region.ready md ops L → Sure P md ops C i oi v a →
      anyF P md ops C Q n (L.setIfInBounds i true) (a.put oi.dst v) → anyF P md ops C Q (n + 1) L a := by
  intro n
  induction n with
  | zero =>
    intro L a _ hr hs H
    refine ⟨fun h => (by rw [h] at hr; cases hr), fun j hj => ?_⟩
    by_cases hji : j = i
    · subst hji; exact ⟨oi, v, hi, hs, H⟩
    · have := ready_mono hj hji
      rw [H.1] at this
      cases this
  | succ n ih =>
    intro L a hfree hr hs H
    refine ⟨fun h => (by rw [h] at hr; cases hr), fun j hj => ?_⟩
    by_cases hji : j = i
    · subst hji; exact ⟨oi, v, hi, hs, H⟩
    · obtain ⟨oj, u, hoj, hsj, hn⟩ := H.2 j (ready_mono hj hji)
      obtain ⟨hjun, oj', hoj', hall⟩ := mem_ready.1 hj
      obtain rfl : oj' = oj := Option.some.inj (hoj'.symm.trans hoj)
      have hnot : ∀ e ∈ oj'.after, Region.binds md e = true → e.on ≠ i := fun e he hb heq => by
        have h1 := hall e he hb
        have h0 := (mem_ready.1 hr).1
        rw [heq] at h1
        rcases Nat.lt_or_ge i L.size with h' | h'
        · simp [h'] at h0 h1; rw [h0] at h1; cases h1
        · simp [Array.getElem?_eq_none h'] at h1
      obtain ⟨a1, a2, a3⟩ := Oper.apart_spec (hfree j oj' hoj hji hjun hnot)
      refine ⟨oj', u, hoj, hsj.same (execOp_put oj' (fun cs b => hsel j oj' cs b hoj) a oi.dst v a1).symm (wanted_put oj' a oi.dst v a1).symm, ?_⟩
      refine ih _ _ (fun k ok hk hki hun hno => hfree k ok hk hki ?_ hno) (ready_mono hr (Ne.symm hji))
        (hs.same (execOp_put oi (fun cs b => hsel i oi cs b hi) a oj'.dst u a3) (wanted_put oi a oj'.dst u a3)) ?_
      · by_cases hjk : j = k
        · subst hjk; exact hjun
        · rw [getD_set_ne true hjk] at hun; exact hun
      · rw [Array.setIfInBounds_comm _ _ hji, ← Act.put_comm a v u a2]
        exact hn

/-- The walk in the order of the text. -/
def lexF (P : Program) (md : Region.Mode) (ops : Array Oper) (C : Array Bool → World → Prop) (Q : Array Bool → Act → Prop) : List Oper → Nat → Array Bool → Act → Prop
  | [], _, L, a => Q L a
  | o :: l, k, L, a => ∃ v, Sure P md ops C k o v a ∧ lexF P md ops C Q l (k + 1) (L.setIfInBounds k true) (a.put o.dst v)

theorem anyF_lex {C : Array Bool → World → Prop} {Q : Array Bool → Act → Prop} (hs : Region.noSelect ops = true) : ∀ (l : List Oper) (k : Nat) (L : Array Bool) (a : Act), (∀ j, l[j]? = ops[k + j]?) →
    Region.lexFrom md ops l.length k L = true → lexF P md ops C Q l k L a → anyF P md ops C Q l.length L a
  | [], _, _, _, _, hB, h => ⟨by simpa [Region.lexFrom] using hB, h⟩
  | o :: l, k, L, a, hl, hB, h => by
    have h0 : ops[k]? = some o := by simpa using (hl 0).symm
    simp only [List.length_cons, Region.lexFrom, Bool.and_eq_true] at hB
    obtain ⟨⟨hr, hf⟩, hB'⟩ := hB
    obtain ⟨v, hy, hK⟩ := h
    exact anyF_first h0 (Region.noSelect_spec hs) l.length L a (Region.free_spec h0 hf) (by simpa using hr) hy
      (anyF_lex hs l (k + 1) _ _ (fun j => by have := hl (j + 1); simpa [Nat.add_assoc, Nat.add_comm 1 j] using this) hB' hK)

/-- What has come up is closed under what it waits for. -/
def Closed (md : Region.Mode) (ops : Array Oper) (L : Array Bool) : Prop :=
  L.size = ops.size ∧ ∀ j oj, ops[j]? = some oj → L.getD j false = true → ∀ e ∈ oj.after, Region.binds md e = true → L.getD e.on false = true

theorem Closed.start (md : Region.Mode) (ops : Array Oper) : Closed md ops (Array.replicate ops.size false) := by
  refine ⟨by simp, fun j oj _ h => ?_⟩
  simp only [Array.getD_eq_getD_getElem?, Array.getElem?_replicate] at h
  split at h <;> simp at h

theorem getD_false_of_true {L : Array Bool} {i : Nat} (h : L.getD i true = false) : L.getD i false = false ∧ i < L.size := by
  rcases Nat.lt_or_ge i L.size with h' | h'
  · simp [h'] at h ⊢; exact h
  · simp [Array.getElem?_eq_none h'] at h

theorem getD_set_same {L : Array Bool} {i : Nat} (h : i < L.size) : (L.setIfInBounds i true).getD i false = true := by
  simp [h]

theorem getD_set_ne' {L : Array Bool} {i j : Nat} (h : i ≠ j) : (L.setIfInBounds i true).getD j false = L.getD j false := by
  simp [Array.getElem?_setIfInBounds_ne h]

theorem Closed.set_ {L : Array Bool} {i : Nat} (h : Closed md ops L) (hr : i ∈ Region.ready md ops L) : Closed md ops (L.setIfInBounds i true) := by
  obtain ⟨h0, o, ho, hall⟩ := mem_ready.1 hr
  refine ⟨by simpa using h.1, fun j oj hoj hj e he hb => ?_⟩
  have hmono : L.getD e.on false = true → (L.setIfInBounds i true).getD e.on false = true := fun hx => getD_set_true hx
  by_cases hij : i = j
  · subst hij
    obtain rfl : oj = o := Option.some.inj (hoj.symm.trans ho)
    exact hmono (hall e he hb)
  · rw [getD_set_ne' hij] at hj
    exact hmono (h.2 j oj hoj hj e he hb)

/-- Does number j wait for number k? -/
def waits (md : Region.Mode) (ops : Array Oper) (j k : Nat) : Bool := ((ops[j]?).map fun o => o.after.any fun e => Region.binds md e && Nat.beq e.on k).getD false

/-- What is known of what has come up (f) where number k comes up. -/
def When (md : Region.Mode) (ops : Array Oper) (k : Nat) (f : Nat → Bool) : Prop :=
  f k = false ∧ (∀ j, waits md ops j k = true → f j = false) ∧ (∀ j, waits md ops k j = true → f j = true) ∧ (∀ i j, waits md ops i j = true → f i = true → f j = true)

theorem waits_spec {j k : Nat} (h : waits md ops j k = true) : ∃ oj, ops[j]? = some oj ∧ ∃ e ∈ oj.after, Region.binds md e = true ∧ e.on = k := by
  unfold waits at h
  cases ho : ops[j]? with
  | none => simp [ho] at h
  | some o =>
    simp only [ho, Option.map_some, Option.getD_some, Array.any_eq_true, Bool.and_eq_true] at h
    obtain ⟨x, hx, hb, he⟩ := h
    exact ⟨o, rfl, o.after[x], Array.getElem_mem hx, hb, Nat.eq_of_beq_eq_true he⟩

theorem when_of_ready {L : Array Bool} {k : Nat} (hc : Closed md ops L) (hr : k ∈ Region.ready md ops L) : When md ops k (fun j => L.getD j false) := by
  obtain ⟨h0, o, ho, hall⟩ := mem_ready.1 hr
  refine ⟨(getD_false_of_true h0).1, fun j hj => ?_, fun j hj => ?_, fun i j hw hi => ?_⟩
  · obtain ⟨oj, hoj, e, he, hb, rfl⟩ := waits_spec hj
    cases hx : L.getD j false with
    | false => exact hx
    | true =>
      have := hc.2 j oj hoj hx e he hb
      rw [(getD_false_of_true h0).1] at this
      cases this
  · obtain ⟨o', ho', e, he, hb, rfl⟩ := waits_spec hj
    obtain rfl : o' = o := Option.some.inj (ho'.symm.trans ho)
    exact hall e he hb
  · obtain ⟨oi, hoi, e, he, hb, rfl⟩ := waits_spec hw
    exact hc.2 i oi hoi hi e he hb

/-- What waits for what has not come up has not come up. -/
theorem When.un {k : Nat} {f : Nat → Bool} (h : When md ops k f) (i j : Nat) (hw : waits md ops i j = true) (hj : f j = false) : f i = false := by
  cases hi : f i with
  | false => rfl
  | true => rw [h.2.2.2 i j hw hi] at hj; cases hj

/-- f, and number k besides. -/
def add (f : Nat → Bool) (k : Nat) : Nat → Bool := fun j => Nat.beq j k || f j

theorem add_set {L : Array Bool} {k : Nat} (h : k < L.size) : (fun j => (L.setIfInBounds k true).getD j false) = add (fun j => L.getD j false) k := by
  funext j
  unfold add
  by_cases hkj : k = j
  · subst hkj; rw [getD_set_same h]; simp
  · rw [getD_set_ne' hkj]
    have : Nat.beq j k = false := by
      cases hb : Nat.beq j k with
      | false => rfl
      | true => exact absurd (Nat.eq_of_beq_eq_true hb).symm hkj
    rw [this]; rfl

/-- The walk in the order of the text, for the user: D is the class, f what has come up. -/
def lexD (P : Program) (md : Region.Mode) (ops : Array Oper) (D : (Nat → Bool) → World → Prop) (Q : Act → Prop) : List Oper → Nat → Act → Prop
  | [], _, a => Q a
  | o :: l, k, a => ∃ v, ((Region.wanted o (yielded ops a.tmps) = true ∧ ∀ f w, D f w → When md ops k f → Gives P o a w v (D (add f k))) ∨
      (Region.wanted o (yielded ops a.tmps) = false ∧ v = undef ∧ ∀ f w, D f w → When md ops k f → D (add f k) w)) ∧ lexD P md ops D Q l (k + 1) (a.put o.dst v)

theorem Gives.mono {o : Oper} {a : Act} {w : World} {v : Value} {R R' : World → Prop} (h : Gives P o a w v R) (hr : ∀ w', R w' → R' w') : Gives P o a w v R' := by
  unfold Gives at *
  generalize (execOp a.eval o).run P w = r at *
  cases r with
  | halt x w' => exact h
  | ok n w' =>
    cases n
    case value u => exact ⟨h.1, hr _ h.2⟩
    case skip => exact ⟨h.1, hr _ h.2⟩
    case enter f args => exact Calls.mono h fun e w'' ⟨he, hx⟩ => ⟨he, hr _ hx⟩
    all_goals exact h

theorem lexF_of_lexD {D : (Nat → Bool) → World → Prop} {Q : Act → Prop} {Q' : Array Bool → Act → Prop} (n : Nat) (hn : ops.size = n) (hQ : ∀ L a, (∀ j, j < n → L.getD j false = true) → Q a → Q' L a) :
    ∀ (l : List Oper) (k : Nat) (L : Array Bool) (a : Act), k + l.length = n → L.size = n → (∀ j, j < k → L.getD j false = true) → lexD P md ops D Q l k a →
      lexF P md ops (fun L w => Closed md ops L ∧ D (fun j => L.getD j false) w) Q' l k L a
  | [], k, L, a, hk, hs, hL, h => hQ L a (by intro j hj; exact hL j (by simp only [List.length_nil, Nat.add_zero] at hk; omega)) h
  | o :: l, k, L, a, hk, hs, hL, h => by
    obtain ⟨v, hv, hr⟩ := h
    have hkn : k < n := by rw [List.length_cons] at hk; omega
    refine ⟨v, ?_, lexF_of_lexD n hn hQ l (k + 1) _ _ (by rw [List.length_cons] at hk; omega) (by simpa using hs) (fun j hj => ?_) hr⟩
    · rcases hv with ⟨h1, h2⟩ | ⟨h1, h2, h3⟩
      · refine .inl ⟨h1, fun L' w hc hrd => (h2 _ w hc.2 (when_of_ready hc.1 hrd)).mono fun w' hw' => ⟨hc.1.set_ hrd, ?_⟩⟩
        rw [add_set (by rw [hc.1.1, hn]; exact hkn)]; exact hw'
      · refine .inr ⟨h1, h2, fun L' w hc hrd => ⟨hc.1.set_ hrd, ?_⟩⟩
        rw [add_set (by rw [hc.1.1, hn]; exact hkn)]; exact h3 _ w hc.2 (when_of_ready hc.1 hrd)
    · by_cases hjk : j = k
      · subst hjk; exact getD_set_same (by omega)
      · rw [getD_set_ne' (Ne.symm hjk)]; exact hL j (by omega)

/-- THE RULE. -/
theorem region {id : Nat} {Q : Exit → Act → World → Prop} {a : Act} {w : World} {l : List Oper} (D : (Nat → Bool) → World → Prop) (hm : P.follows .mixedOrders = true) (hB : Region.lexB .any l.toArray = true)
    (h0 : ∀ f, (∀ j, f j = false) → D f (w.drewN 1)) (h : lexD P .any l.toArray D (fun a' => ∀ f w', (∀ j, j < l.length → f j = true) → D f w' → Q .normal a' w') l 0 a) :
    (Code.region id l.toArray true).wp P Q a w := by
  simp only [Region.lexB, Bool.and_eq_true] at hB
  refine wp_region_any hm (wpAny_of_anyF (C := fun L w => Closed .any l.toArray L ∧ D (fun j => L.getD j false) w)
    (Q := fun L a' => ∀ w', D (fun j => L.getD j false) w' → Q .normal a' w') (fun L a w hc hq => hq w hc.2) _ _ _ _ ⟨Closed.start _ _, h0 _ (fun j => ?_)⟩ ?_)
  · simp only [Array.getD_eq_getD_getElem?, Array.getElem?_replicate]; split <;> rfl
  · have := anyF_lex (C := fun L w => Closed .any l.toArray L ∧ D (fun j => L.getD j false) w) (Q := fun L a' => ∀ w', D (fun j => L.getD j false) w' → Q .normal a' w')
      (P := P) hB.1 l 0 (Array.replicate l.toArray.size false) a (by simp) (by simpa using hB.2)
      (lexF_of_lexD l.length (by simp) (fun L a hL hq w' hd => hq _ w' hL hd) l 0 _ a (by simp) (by simp) (by omega) h)
    simpa using this

/-- The same, where the class names the world in which the region begins. -/
theorem regionW {id : Nat} {Q : Exit → Act → World → Prop} {a : Act} {w : World} {l : List Oper} (D : World → (Nat → Bool) → World → Prop) (hm : P.follows .mixedOrders = true) (hB : Region.lexB .any l.toArray = true)
    (h0 : ∀ f, (∀ j, f j = false) → D w f (w.drewN 1)) (h : lexD P .any l.toArray (D w) (fun a' => ∀ f w', (∀ j, j < l.length → f j = true) → D w f w' → Q .normal a' w') l 0 a) :
    (Code.region id l.toArray true).wp P Q a w := region (D w) hm hB h0 h

/-! The steps of the walk. -/
variable {D : (Nat → Bool) → World → Prop} {Q : Act → Prop} {l : List Oper} {o : Oper} {a : Act} {k : Nat}

/-- The guard says no. -/
theorem skip_ (hw : Region.wanted o (yielded ops a.tmps) = false) (hD : ∀ f w, D f w → D (add f k) w) (h : lexD P md ops D Q l (k + 1) (a.put o.dst undef)) : lexD P md ops D Q (o :: l) k a :=
  ⟨undef, .inr ⟨hw, rfl, fun f w hd _ => hD f w hd⟩, h⟩

/-- The operation yields v and leaves the world. -/
theorem val_ (v : Value) (hw : Region.wanted o (yielded ops a.tmps) = true) (hr : ∀ f w, D f w → When md ops k f → (execOp a.eval o).run P w = .ok (.value v) w) (hD : ∀ f w, D f w → D (add f k) w)
    (h : lexD P md ops D Q l (k + 1) (a.put o.dst v)) : lexD P md ops D Q (o :: l) k a :=
  ⟨v, .inl ⟨hw, fun f w hd hq => by unfold Gives; rw [hr f w hd hq]; exact ⟨rfl, hD f w hd⟩⟩, h⟩

/-- The operation yields v and changes the world. -/
theorem eff_ (v : Value) (g : World → World) (hw : Region.wanted o (yielded ops a.tmps) = true) (hr : ∀ f w, D f w → When md ops k f → (execOp a.eval o).run P w = .ok (.value v) (g w)) (hD : ∀ f w, D f w → When md ops k f → D (add f k) (g w))
    (h : lexD P md ops D Q l (k + 1) (a.put o.dst v)) : lexD P md ops D Q (o :: l) k a :=
  ⟨v, .inl ⟨hw, fun f w hd hq => by unfold Gives; rw [hr f w hd hq]; exact ⟨rfl, hD f w hd hq⟩⟩, h⟩

/-- A store: it yields nothing and changes the world. -/
theorem store_ (g : World → World) (hw : Region.wanted o (yielded ops a.tmps) = true) (hr : ∀ f w, D f w → When md ops k f → (execOp a.eval o).run P w = .ok .skip (g w)) (hD : ∀ f w, D f w → When md ops k f → D (add f k) (g w))
    (h : lexD P md ops D Q l (k + 1) (a.put o.dst undef)) : lexD P md ops D Q (o :: l) k a :=
  ⟨undef, .inl ⟨hw, fun f w hd hq => by unfold Gives; rw [hr f w hd hq]; exact ⟨rfl, hD f w hd hq⟩⟩, h⟩

/-- A call of a Go function. -/
theorem call_ (v : Value) (n : FuncId) (args : Array Value) (hw : Region.wanted o (yielded ops a.tmps) = true) (hr : ∀ w, (execOp a.eval o).run P w = .ok (.enter n args) w)
    (hc : ∀ f w, D f w → When md ops k f → Calls P n args w fun e w'' => e = .returned v ∧ D (add f k) w'')
    (h : lexD P md ops D Q l (k + 1) (a.put o.dst v)) : lexD P md ops D Q (o :: l) k a :=
  ⟨v, .inl ⟨hw, fun f w hd hq => by unfold Gives; rw [hr w]; exact hc f w hd hq⟩, h⟩

theorem nil_ (h : Q a) : lexD P md ops D Q [] k a := h
end
end Go.Proofs.Ytmejiafmmmeloaa.Fx

end

section
/- Contracts of the checks of fractions and of functions that return fractions in lowest terms. -/
namespace Go.Proofs.Ytmejiafmmmeloaa
open Go.RowKit

/-- The error of a fraction. -/
def fracErr (n d : Int) : Int := if d < 1 ∨ Int.gcd n d ≠ 1 then 3 else if n < -1000000000 ∨ 1000000000 < n ∨ 1000000000 < d then 2 else 0

theorem gcd_small (n d : Int) (h : 1 ≤ d) (h4 : d ≤ 9223372036854775807) : wrap64 (Int.gcd n d : Int) = (Int.gcd n d : Int) := by
  have h5 : Int.gcd n d ∣ d.natAbs := Int.gcd_dvd_natAbs_right n d
  have h6 := Nat.le_of_dvd (by omega) h5
  exact IntWalk.wrap64_in _ ⟨by omega, by omega⟩



theorem div_gcd_in (a b : Int) (h1 : -9223372036854775808 < a) (h2 : a ≤ 9223372036854775807) (hg : (Int.gcd a b : Int) ≠ 0) : -9223372036854775808 < a / (Int.gcd a b : Int) ∧ a / (Int.gcd a b : Int) ≤ 9223372036854775807 := by
  have h3 : (Int.gcd a b : Int) ∣ a := Int.gcd_dvd_left a b
  have h4 := Int.natAbs_ediv_of_dvd h3
  have h5 : (a / (Int.gcd a b : Int)).natAbs ≤ a.natAbs := by rw [h4]; exact Nat.div_le_self _ _
  omega

theorem tdiv_gcd_left (a b : Int) : a.tdiv (Int.gcd a b : Int) = a / (Int.gcd a b : Int) := Int.tdiv_eq_ediv_of_dvd (Int.gcd_dvd_left a b)
theorem tdiv_gcd_right (a b : Int) : b.tdiv (Int.gcd a b : Int) = b / (Int.gcd a b : Int) := Int.tdiv_eq_ediv_of_dvd (Int.gcd_dvd_right a b)

/-- Whether a fraction in lowest terms is small. -/
def smallB (a b : Int) : Bool := withinB (a / (Int.gcd a b : Int)) (-1000000000) 1000000000 && decide (b / (Int.gcd a b : Int) ≤ 1000000000)


end Go.Proofs.Ytmejiafmmmeloaa

end

section
/- More lemmas on memory: what is owned, a call of append, the frame of a function that appends through a pointer. -/
namespace Go.Proofs.Ytmejiafmmmeloaa
open Go.RowKit

/-- What is owned stays owned where its block is as it was. -/
theorem own_same {w w' : World} {base : Nat} {e : TypeId} {size n : Nat} {v : Value} {xs : List Value} (h : w.ownsRow base e size v n xs) (hb : ∀ g, v.ownBlock = some g → w'.heap[g]? = w.heap[g]?) : w'.ownsRow base e size v n xs := by
  obtain ⟨h1, h2⟩ := h
  refine ⟨h1, h2.imp id fun ⟨g, cap, cur, hv, hg, hh, r⟩ => ⟨g, cap, cur, hv, hg, ?_, r⟩⟩
  rw [hb g (by rw [hv]; rfl)]; exact hh
theorem own_lt {w : World} {base : Nat} {e : TypeId} {size n : Nat} {v : Value} {xs : List Value} (h : w.ownsRow base e size v n xs) {g : Nat} (hg : v.ownBlock = some g) : base ≤ g ∧ g < w.heap.size := by
  rcases h.2 with ⟨rfl, _⟩ | ⟨g', cap, cur, rfl, hb, hh, _⟩
  · simp [Value.ownBlock] at hg
  · have : g' = g := by simpa [Value.ownBlock] using hg
    subst this
    exact ⟨hb, (Array.getElem?_eq_some_iff.1 hh).1⟩
theorem own_below {w w' : World} {base B : Nat} {e : TypeId} {size n : Nat} {v : Value} {xs : List Value} (h : w.ownsRow base e size v n xs) (hb : Below B w w') (hB : w.heap.size ≤ B) : w'.ownsRow base e size v n xs :=
  own_same h fun g hg => hb.block g (by have := (own_lt h hg).2; omega)
theorem own_set {w : World} {base : Nat} {e : TypeId} {size n : Nat} {v : Value} {xs : List Value} (h : w.ownsRow base e size v n xs) {p : Addr} (hp : v.ownBlock ≠ some p.block) (u : Value) : (w.setCell p u).ownsRow base e size v n xs :=
  own_same h fun g hg => Below.heap_setCell _ _ _ _ (fun e => hp (by rw [hg, e]))
theorem own_drewN {w : World} {base : Nat} {e : TypeId} {size n : Nat} {v : Value} {xs : List Value} (h : w.ownsRow base e size v n xs) (k : Nat) : (w.drewN k).ownsRow base e size v n xs := h

/-- A call of append, run. -/
theorem exec_append {P : Program} {o : Oper} {a : Act} {w w' : World} {v' : Value} (s x : Operand) (t : TypeId) (ho : o.op = .call { callee := .builtin .append, args := #[s, x], argTypes := #[t, t] })
    (hrun : (Builtin.append_ #[t, t] o.type #[a.eval s, a.eval x]).run P w = .ok v' w') : (execOp a.eval o).run P w = .ok (.value v') w' := by
  unfold execOp
  simp only [ho, resolve, invoke, builtin, Sem.run_bind, Sem.run_pure, Result.andThen_ok, List.map_toArray, List.map_cons, List.map_nil, hrun]

/-- The frame of a function that appends to a slice in the cell of block ob, and writes nothing else that was there. -/
structure Fr (ob : Nat) (v v' : Value) (w w' : World) : Prop where
  os : w'.os = w.os
  tape : w'.tape = w.tape
  output : w'.output = w.output
  size : w.heap.size ≤ w'.heap.size
  block : ∀ k, k < w.heap.size → k ≠ ob → v.ownBlock ≠ some k → w'.heap[k]? = w.heap[k]?
  row : v'.ownBlock = v.ownBlock ∨ ∃ g, v'.ownBlock = some g ∧ w.heap.size ≤ g

theorem Fr.trans {ob : Nat} {v v1 v2 : Value} {w w1 w2 : World} (h : Fr ob v v1 w w1) (k : Fr ob v1 v2 w1 w2) : Fr ob v v2 w w2 := by
  refine ⟨k.os.trans h.os, k.tape.trans h.tape, k.output.trans h.output, Nat.le_trans h.size k.size, fun i hi hne hv => ?_, ?_⟩
  · refine (k.block i (Nat.lt_of_lt_of_le hi h.size) hne ?_).trans (h.block i hi hne hv)
    rcases h.row with e | ⟨g, e, hg⟩
    · rw [e]; exact hv
    · rw [e]; intro hx; have : g = i := Option.some.inj hx; omega
  · rcases k.row with e | ⟨g, e, hg⟩
    · rw [e]; exact h.row
    · exact .inr ⟨g, e, Nat.le_trans h.size hg⟩
theorem Fr.below {ob B : Nat} {v v' : Value} {w w' : World} (h : Fr ob v v' w w') (hB : B ≤ ob) (hs : ob ≤ w.heap.size) (hv : ∀ g, v.ownBlock = some g → B ≤ g) : Below B w w' :=
  ⟨h.os, h.tape, h.output, h.size, fun k hk => h.block k (by omega) (by omega) (fun e => by have := hv k e; omega)⟩
theorem Fr.blk {ob : Nat} {v v' : Value} {w w' : World} (h : Fr ob v v' w w') {g : Nat} {t : TypeId} {cs : Array Value} (hg : Blk w g t cs) (hne : g ≠ ob) (hv : v.ownBlock ≠ some g) : Blk w' g t cs := (h.block g hg.lt hne hv).trans hg

end Go.Proofs.Ytmejiafmmmeloaa

end

section
/- Contracts of the search of the best pair of gears. -/
namespace Go.Proofs.Ytmejiafmmmeloaa
open Go.RowKit

def cmpI (a b : Int) : Int := if a < b then -1 else if b < a then 1 else 0

theorem isnan_any (a : Int) (w : World) : Calls Try.prog 68 #[.int .i64 a] w fun e w' => e = .returned (.bool false) ∧ w = w' := by
  have h : (a != a) = false := by simp
  go_enter Try.func68, Try.ntmps68
  go_wp2
  go_ret
  exact ⟨by simp, rfl⟩

theorem cmp_any (a b : Int) (w : World) : Calls Try.prog 53 #[.int .i64 a, .int .i64 b] w fun e w' => e = .returned (.int .i64 (cmpI a b)) ∧ w = w' := by
  by_cases h1 : a < b
  · go_enter Try.func53, Try.ntmps53
    go_wp2_with (go_at_call 68; refine (isnan_any _ _).mono ?_; rintro e w' ⟨rfl, rfl⟩)
    go_ret
    exact ⟨ret_int (by unfold cmpI; rw [if_pos h1]), rfl⟩
  · by_cases h2 : b < a
    · go_enter Try.func53, Try.ntmps53
      go_wp2_with (go_at_call 68; refine (isnan_any _ _).mono ?_; rintro e w' ⟨rfl, rfl⟩)
      go_ret
      exact ⟨ret_int (by unfold cmpI; rw [if_neg (by omega), if_pos h2]), rfl⟩
    · go_enter Try.func53, Try.ntmps53
      go_wp2_with (go_at_call 68; refine (isnan_any _ _).mono ?_; rintro e w' ⟨rfl, rfl⟩)
      go_ret
      exact ⟨ret_int (by unfold cmpI; rw [if_neg (by omega), if_neg (by omega)]), rfl⟩

/-- By how much a pair misses a ratio. -/
def offF (rn rd gd gv : Int) : Int := ((rn * gv - gd * rd).natAbs : Int)
def cmpF (rn rd : Int) (g h : Int × Int) : Int := cmpI (offF rn rd g.1 g.2 * h.2) (offF rn rd h.1 h.2 * g.2)

def orF (x y z : Int) : Int := if x ≠ 0 then x else if y ≠ 0 then y else z

/-- Is a pair better than another one? -/
def betterB (rn rd : Int) (g h : Int × Int) : Bool :=
  decide (orF (cmpF rn rd g h) (cmpI (g.1 + g.2) (h.1 + h.2)) (cmpI g.1 h.1) < 0)
def stepF (rn rd : Int) (o g : Int × Int) : Int × Int := if betterB rn rd g o then g else o
/-- The best pair so far: rows of drivers. -/
def rowF (rn rd : Int) (lo : Int) (m : Nat) (d : Int) (o : Int × Int) : Int × Int := (List.range m).foldl (fun o (j : Nat) => stepF rn rd o (d, lo + (j : Int))) o
def bestF (rn rd : Int) (lo : Int) (m k : Nat) : Int × Int := (List.range k).foldl (fun o (i : Nat) => rowF rn rd lo m (lo + (i : Int)) o) (lo, lo)
end Go.Proofs.Ytmejiafmmmeloaa

end

section
/- Contracts of the check of a search for gears, and of the best pair. -/
namespace Go.Proofs.Ytmejiafmmmeloaa
open Go.RowKit

def searchErr (rn rd lo hi : Int) : Int :=
  if fracErr rn rd ≠ 0 then fracErr rn rd else if rn ≤ 0 ∨ withinB lo 1 500 = false ∨ withinB hi 1 500 = false then 2 else if hi < lo then 9 else 0


/-- The best pair between two numbers of teeth. -/
def bestP (rn rd lo hi : Int) : Int × Int := bestF rn rd lo (hi - lo + 1).toNat (hi - lo + 1).toNat

def PairPost (rn rd lo hi : Int) (w : World) (e : Ending) (w' : World) : Prop :=
  Below w.heap.size w w' ∧ (searchErr rn rd lo hi ≠ 0 → e = .returned (.tuple #[.agg #[.int .i64 0, .int .i64 0], .int .i64 (searchErr rn rd lo hi)])) ∧
  (searchErr rn rd lo hi = 0 → e = .returned (.tuple #[.agg #[.int .i64 (bestP rn rd lo hi).1, .int .i64 (bestP rn rd lo hi).2], .int .i64 0]))


end Go.Proofs.Ytmejiafmmmeloaa

end

section
/- Steps from one named world to the next: what a call that only makes memory leaves as it was. -/
namespace Go.Proofs.Ytmejiafmmmeloaa
open Go.RowKit

section
variable {w W W1 : World}
theorem step_below (hb : Below W.heap.size W W1) (h : Below w.heap.size w W) : Below w.heap.size w W1 := h.trans (hb.mono h.size)
theorem step_belowAt {B : Nat} (hb : Below W.heap.size W W1) (h : Below B w W) (hB : B ≤ w.heap.size) : Below B w W1 := h.trans (hb.mono (Nat.le_trans hB h.size))
theorem step_blk {g : Nat} {t : TypeId} {cs : Array Value} (hb : Below W.heap.size W W1) (h : Blk W g t cs) : Blk W1 g t cs := h.below hb h.lt
theorem step_cell {b o : Nat} {v : Value} (hb : Below W.heap.size W W1) (h : W.cell? ⟨b, o, none⟩ = some v) (hp : b < W.heap.size) : W1.cell? ⟨b, o, none⟩ = some v := (hb.cell (p := ⟨b, o, none⟩) hp).trans h
end
theorem ret_bool {a b : Bool} (h : a = b) : Ending.returned (.bool a) = .returned (.bool b) := by rw [h]
end Go.Proofs.Ytmejiafmmmeloaa

end

section
/- Contracts of the reference's comparison of pairs of gears, and of its search. -/
namespace Go.Proofs.Ytmejiafmmmeloaa
open Go.RowKit

theorem lowest_any (a b : Int) (w : World) (h1 : -9223372036854775808 < a) (h2 : a ≤ 9223372036854775807) (h3 : 1 ≤ b) (h4 : b ≤ 9223372036854775807) :
    Calls Try.prog 20 #[.int .i64 a, .int .i64 b] w fun e w' => e = .returned (.agg #[.int .i64 (a / (Int.gcd a b : Int)), .int .i64 (b / (Int.gcd a b : Int))]) ∧ Below w.heap.size w w' := by
  have hg := gcd_small a b (by omega) h4
  have hp : 0 < Int.gcd a b := Int.gcd_pos_of_ne_zero_right a (by omega)
  have d1 := div_gcd_in a b h1 h2 (by omega)
  have d2 := div_gcd_in b a (by omega) h4 (by rw [Int.gcd_comm]; omega)
  rw [Int.gcd_comm b a] at d2
  have e1 := tdiv_gcd_left a b
  have e2 := tdiv_gcd_right a b
  have g0 : ¬ (Int.gcd a b : Int) = 0 := by omega
  go_enter Try.func20, Try.ntmps20
  go_wp2_with fail
  refine (gcdref_any _ _ _ (by omega) (by omega) (by omega) (by omega)).mono ?_
  rintro e w' ⟨rfl, nq, rfl⟩
  rw [hg]
  go_wp2_with fail
  go_region
  all_goals go_wp2
  all_goals exact bodyPost_ret (v := .agg #[.int .i64 (a / (Int.gcd a b : Int)), .int .i64 (b / (Int.gcd a b : Int))]) (by simp [results, Try.results20, go_sem]) rfl ⟨rfl, by repeat' (first | exact Below.refl _ _ | exact HB0.out | refine below_drewN ?_ _ | refine Below.drew ?_ | refine Below.alloc ?_ (by first | omega | (simp; done) | (simp; omega) | (simp [World.setCell]; omega)) _ | refine Below.setCell ?_ (by first | omega | (simp; done) | (simp; omega)) _ | assumption)⟩


def nearB (rn rd : Int) (g h : Int × Int) : Bool := decide (offF rn rd g.1 g.2 * h.2 < offF rn rd h.1 h.2 * g.2)




/-- The reference's search: by sums, then by the driver. -/
def rstepF (rn rd lo hi : Int) (o : Int × Int) (g : Int × Int) : Int × Int := if withinB g.2 lo hi && nearB rn rd g o then g else o
def rrowF (rn rd lo hi : Int) (s : Int) (m : Nat) (o : Int × Int) : Int × Int := (List.range m).foldl (fun o (i : Nat) => rstepF rn rd lo hi o (lo + (i : Int), s - (lo + (i : Int)))) o
def rbestF (rn rd lo hi : Int) (m k : Nat) : Int × Int := (List.range k).foldl (fun o (j : Nat) => rrowF rn rd lo hi (2 * lo + (j : Int)) m o) (lo, lo)
end Go.Proofs.Ytmejiafmmmeloaa

end

section
/- Contracts of the comparisons of lists. -/
namespace Go.Proofs.Ytmejiafmmmeloaa
open Go.RowKit

/-- The cells of pairs of numbers. -/
def cells2 (l : List (Int × Int)) : List Value := l.flatMap fun p => [.int .i64 p.1, .int .i64 p.2]
theorem cells2_length (l : List (Int × Int)) : (cells2 l).length = l.length * 2 := by
  induction l with
  | nil => rfl
  | cons p l ih => simp only [cells2, List.flatMap_cons, List.length_append, List.length_cons, List.length_nil] at *; omega
theorem cells2_append (l m : List (Int × Int)) : cells2 (l ++ m) = cells2 l ++ cells2 m := by simp [cells2]
theorem cells2_get (l : List (Int × Int)) : ∀ (i : Nat) (h : i < l.length), (cells2 l)[i * 2]? = some (.int .i64 (l[i]).1) ∧ (cells2 l)[i * 2 + 1]? = some (.int .i64 (l[i]).2) := by
  induction l with
  | nil => intro i h; simp at h
  | cons p l ih =>
    intro i h
    cases i with
    | zero => simp [cells2]
    | succ i =>
      have := ih i (by simpa using h)
      have e : cells2 (p :: l) = .int .i64 p.1 :: .int .i64 p.2 :: cells2 l := rfl
      rw [e, show (i + 1) * 2 = i * 2 + 1 + 1 from by omega]
      simpa using this

theorem Reads.pair {w : World} {B n : Nat} {A : Option Addr} {l : List (Int × Int)} (h : Reads w B 2 A n (cells2 l)) {i : Nat} (hi : i < n) :
    ∃ b o p, A = some ⟨b, o, none⟩ ∧ b < B ∧ l[i]? = some p ∧ w.cell? ⟨b, o + i * 2, none⟩ = some (.int .i64 p.1) ∧ w.cell? ⟨b, o + i * 2 + 1, none⟩ = some (.int .i64 p.2) := by
  obtain ⟨b, o, e, hb, hc⟩ := h.2 (by omega)
  have hl : l.length = n := by have := h.1; rw [cells2_length] at this; omega
  have hg := cells2_get l i (by omega)
  exact ⟨b, o, l[i]'(by omega), e, hb, List.getElem?_eq_getElem (by omega), hc _ _ hg.1, hc _ _ hg.2⟩

theorem Reads.len2 {w : World} {B n : Nat} {A : Option Addr} {l : List (Int × Int)} (h : Reads w B 2 A n (cells2 l)) : l.length = n := by
  have := h.1; rw [cells2_length] at this; omega

@[go_sem] theorem held_frac : Try.prog.stoodInHeld 25 = false := by kernel_rfl

@[go_sem] theorem guard_frac : Try.prog.eqGuardType Try.prog.depth 25 = false := by kernel_rfl

theorem eq_frac (a b c d : Int) (w : World) : (Op.equalIn 10000 25 (.agg #[.int .i64 a, .int .i64 b]) (.agg #[.int .i64 c, .int .i64 d])).run Try.prog w = .ok (decide ((a, b) = (c, d))) w := by
  simp [go_sem]
  by_cases h1 : a = c <;> by_cases h2 : b = d <;> simp [h1, h2]

@[go_sem ↓ high] theorem eql_frac (a b c d : Int) (w : World) : (binOp .eql 25 (.agg #[.int .i64 a, .int .i64 b]) (.agg #[.int .i64 c, .int .i64 d])).run Try.prog w = .ok (.bool (decide ((a, b) = (c, d)))) w := by
  rw [run_eql_struct, eq_frac]; rfl

@[go_sem ↓ high] theorem neq_frac (a b c d : Int) (w : World) : (binOp .neq 25 (.agg #[.int .i64 a, .int .i64 b]) (.agg #[.int .i64 c, .int .i64 d])).run Try.prog w = .ok (.bool (!decide ((a, b) = (c, d)))) w := by
  rw [run_neq_struct, eq_frac]; rfl


end Go.Proofs.Ytmejiafmmmeloaa

end
