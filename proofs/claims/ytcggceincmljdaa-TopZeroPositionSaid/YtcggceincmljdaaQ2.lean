import Derived.Test.YtcggceincmljdaaQ1
import Derived.Maps.Own
import Derived.Maps.OwnOps
import Derived.Maps.OwnSet
import Derived.StringKeys
import Derived.Test.YtcggceincmljdaaProg
import Derived.WalkKit
import Derived.Still
import Derived.Deep.Draws
import Derived.KernelRfl

section
/- A map with strings as keys that the program has made, said as a function from strings to values. -/
namespace Go.Proofs.Ytcggceincmljdaa
open Go.RowKit Go.Maps Go.WideShapes Go.MapKept

/-- A value read as itself. -/
def heldR (v : Value) : Option (DataW Value × List MemPlace) := some (.held v, [])
def keyS (s : ByteArray) : Lit := .string s.data.toList

theorem keyS_inj {s t : ByteArray} (h : keyS s = keyS t) : s = t := by
  unfold keyS at h
  injection h with h
  cases s; cases t; congr; exact Array.toList_inj.1 h

/-- Block b is a map of at most n entries, with M's values at M's keys. -/
def MapIs (P : Program) (k : TypeId) (w : World) (b n : Nat) (M : ByteArray → Option Value) : Prop :=
  ∃ D : DataW Value, w.ownsMap P k heldR b n D ∧ ∀ s, match M s with
    | none => Maps.has D (keyS s) = false
    | some v => Maps.has D (keyS s) = true ∧ ∀ z, D.atKey (keyS s) z = .held v

section
variable {P : Program} {k t e : TypeId} {w w' : World} {b n : Nat} {M : ByteArray → Option Value}

theorem MapIs.made (w : World) (P : Program) (k : TypeId) : MapIs P k (w.alloc (.map #[] 0)) w.heap.size 0 (fun _ => none) :=
  ⟨.map [], World.ownsMap_made w P k heldR, fun s => rfl⟩
theorem MapIs.lt (h : MapIs P k w b n M) : b < w.heap.size := by obtain ⟨D, h, _⟩ := h; exact h.lt
theorem MapIs.mono (h : MapIs P k w b n M) {n' : Nat} (hn : n ≤ n') : MapIs P k w b n' M := by obtain ⟨D, h, hm⟩ := h; exact ⟨D, h.mono hn, hm⟩
theorem MapIs.alloc (h : MapIs P k w b n M) (o : Obj) : MapIs P k (w.alloc o) b n M := by obtain ⟨D, h, hm⟩ := h; exact ⟨D, h.alloc o, hm⟩
theorem MapIs.drew (h : MapIs P k w b n M) : MapIs P k w.drew b n M := h
theorem MapIs.drewN (h : MapIs P k w b n M) (m : Nat) : MapIs P k (w.drewN m) b n M := h
theorem MapIs.below {B : Nat} (h : MapIs P k w b n M) (hb : Below B w w') (hB : b < B) : MapIs P k w' b n M := by
  obtain ⟨D, ⟨es, clock, h1, h2⟩, hm⟩ := h
  exact ⟨D, ⟨es, clock, (hb.block b hB).trans h1, h2⟩, hm⟩
theorem MapIs.set_ (h : MapIs P k w b n M) {a : Addr} (ha : b ≠ a.block) (u : Value) : MapIs P k (w.setCell a u) b n M := by
  obtain ⟨D, h, hm⟩ := h; exact ⟨D, h.setCell ha u, hm⟩
/-- 'm[s] = v'. -/
theorem MapIs.put (h : MapIs P k w b n M) (hk : P.underlying k = some .string) (ht : P.underlying t = some (.map k e)) (s : ByteArray) (hs : s.size ≤ maxLen) (hn : n < maxLen) (v : Value) :
    ∃ w', (Instr.mapUpdate t (.map (some b)) (.string s) v).run P w = .ok () w' ∧ MapIs P k w' b (n + 1) (fun u => if u = s then some v else M u) ∧ w.grownBy w' (some b) := by
  obtain ⟨D, h, hm⟩ := h
  have hkey : keyOf P k (.string s) = some (keyS s) := WideMaps.keyOf_string_mk hk hs
  obtain ⟨w', hrun, hown, hg⟩ := h.update (string_keyed hk) ht hn (val := v) (d := .held v) (ps := []) hkey rfl
  refine ⟨w', hrun, ⟨_, hown, fun u => ?_⟩, hg⟩
  have hmap : IsMap D := h.isMap
  have hlit : WideAt.IsKeyLit (keyS s) := by unfold keyS; trivial
  by_cases hu : u = s
  · subst hu
    simp only [if_true]
    exact ⟨has_put_same hmap hlit _, fun z => atKey_put_same hmap hlit _ z⟩
  · simp only [if_neg hu]
    have hne : keyS u ≠ keyS s := fun e => hu (keyS_inj e)
    have := hm u
    rw [has_put_other hne]
    cases hM : M u with
    | none => rw [hM] at this; exact this
    | some x => rw [hM] at this; exact ⟨this.1, fun z => by rw [atKey_put_other hne]; exact this.2 z⟩
end

section
variable {P : Program} {k t e : TypeId} {b n : Nat} {M : ByteArray → Option Value} {ops : Array Oper} {rest : List Oper} {o : Oper} {a : Act} {Q : Exit → Act → World → Prop}
end
end Go.Proofs.Ytcggceincmljdaa

end

section
/- Rockers: their values, and the contract of the check of one rocker behind others. -/
namespace Go.Proofs.Ytcggceincmljdaa
open Go.RowKit

structure Rk where
  name : ByteArray
  left : ByteArray
  right : ByteArray
  al : Int
  ar : Int

def Rk.cells (r : Rk) : List Value := [.string r.name, .string r.left, .string r.right, .int .i64 r.al, .int .i64 r.ar]
def Rk.val (r : Rk) : Value := .agg #[.string r.name, .string r.left, .string r.right, .int .i64 r.al, .int .i64 r.ar]
/-- The texts are no longer than a text can be. -/
structure Rk.Fits (r : Rk) : Prop where
  name : r.name.size ≤ maxLen
  left : r.left.size ≤ maxLen
  right : r.right.size ≤ maxLen

def rkErr (ex : Bool) (r : Rk) : Int :=
  if nameB r.name = false then 4 else if ex then 5 else if nameB r.left = false ∨ nameB r.right = false then 4
  else if withinB r.al 1 10000 = false ∨ withinB r.ar 1 10000 = false then 2 else 0

end Go.Proofs.Ytcggceincmljdaa

end

section
/- A rule for a region whose order is left open and which also writes: one walk in the order of the text serves every order, if each operation yields the same value wherever it may come up. The class of worlds is indexed by what has come up. -/
namespace Go.Proofs.Ytcggceincmljdaa.Fx
open Go Go.RowKit

section
variable {P : Program} {ops : Array Oper} {md : Region.Mode}

/-- From the world w the operation yields v and leaves a world of R. -/
def Gives (P : Program) (o : Oper) (a : Act) (w : World) (v : Value) (R : World → Prop) : Prop :=
  match (execOp a.eval o).run P w with
  | .ok (.value u) w' => u = v ∧ R w'
  | .ok .skip w' => v = undef ∧ R w'
  | .ok (.enter f args) w' => Calls P f args w' fun e w'' => e = .returned v ∧ R w''
  | _ => False

theorem Gives.congr {o : Oper} {a a' : Act} {w : World} {v : Value} {R : World → Prop} (h : Gives P o a w v R) (he : execOp a'.eval o = execOp a.eval o) : Gives P o a' w v R := by
  unfold Gives; rw [he]; exact h

theorem Gives.wp {o : Oper} {a : Act} {w : World} {v : Value} {R : World → Prop} {K : Act → World → Prop} {Q : Exit → Act → World → Prop} (h : Gives P o a w v R) (hk : ∀ w', R w' → K (a.put o.dst v) w') : o.wp P a w K Q := by
  unfold Oper.wp
  unfold Gives at h
  generalize (execOp a.eval o).run P w = r at *
  cases r with
  | halt x w' => exact h.elim
  | ok n w' =>
    cases n
    case value u => obtain ⟨rfl, hr⟩ := h; exact hk _ hr
    case skip => obtain ⟨rfl, hr⟩ := h; exact hk _ hr
    case enter f args => exact Calls.mono h fun e w'' ⟨he, hr⟩ => by subst he; exact hk _ hr
    all_goals exact h.elim

/-- Wherever number i may come up: it yields v, or (its guard says no) nothing. -/
def Sure (P : Program) (md : Region.Mode) (ops : Array Oper) (C : Array Bool → World → Prop) (i : Nat) (o : Oper) (v : Value) (a : Act) : Prop :=
  (Region.wanted o (yielded ops a.tmps) = true ∧ ∀ L w, C L w → i ∈ Region.ready md ops L → Gives P o a w v (C (L.setIfInBounds i true))) ∨
  (Region.wanted o (yielded ops a.tmps) = false ∧ v = undef ∧ ∀ L w, C L w → i ∈ Region.ready md ops L → C (L.setIfInBounds i true) w)

theorem Sure.same {C : Array Bool → World → Prop} {i : Nat} {o : Oper} {v : Value} {a a' : Act} (h : Sure P md ops C i o v a) (he : execOp a'.eval o = execOp a.eval o)
    (hw : Region.wanted o (yielded ops a'.tmps) = Region.wanted o (yielded ops a.tmps)) : Sure P md ops C i o v a' := by
  rcases h with ⟨h1, h2⟩ | h1
  · exact .inl ⟨hw.trans h1, fun L w hc hr => (h2 L w hc hr).congr he⟩
  · exact .inr ⟨hw.trans h1.1, h1.2⟩

def anyF (P : Program) (md : Region.Mode) (ops : Array Oper) (C : Array Bool → World → Prop) (Q : Array Bool → Act → Prop) : Nat → Array Bool → Act → Prop
  | 0, L, a => Region.ready md ops L = [] ∧ Q L a
  | n + 1, L, a => (Region.ready md ops L = [] → Q L a) ∧
      ∀ i ∈ Region.ready md ops L, ∃ o v, ops[i]? = some o ∧ Sure P md ops C i o v a ∧ anyF P md ops C Q n (L.setIfInBounds i true) (a.put o.dst v)

theorem wpAny_of_anyF {C : Array Bool → World → Prop} {Q : Array Bool → Act → Prop} {Q' : Exit → Act → World → Prop} (hQ : ∀ L a w, C L w → Q L a → Q' .normal a w) :
    ∀ (n : Nat) (L : Array Bool) (a : Act) (w : World), C L w → anyF P md ops C Q n L a → wpAny P md ops Q' n L a w
  | 0, _, _, _, hc, h => ⟨h.1, hQ _ _ _ hc h.2⟩
  | n + 1, L, a, w, hc, h => ⟨fun h0 => hQ _ _ _ hc (h.1 h0), fun i hi => by
      obtain ⟨o, v, ho, hs, hn⟩ := h.2 i hi
      unfold wpOp
      simp only [ho]
      rcases hs with ⟨h1, h2⟩ | ⟨h1, h2, h3⟩
      · rw [if_pos h1]
        exact .inl ((h2 L w hc hi).wp fun w' hw' => wpAny_of_anyF hQ n _ _ w' hw' hn)
      · rw [if_neg (by rw [h1]; exact Bool.false_ne_true)]
        subst h2
        exact wpAny_of_anyF hQ n _ _ w (h3 L w hc hi) hn⟩

/-- What may come up may be taken first, if all that could come before it is apart from it. -/
theorem anyF_first {C : Array Bool → World → Prop} {Q : Array Bool → Act → Prop} {i : Nat} {oi : Oper} {v : Value} (hi : ops[i]? = some oi) (hsel : ∀ (j : Nat) (o : Oper) cs b, ops[j]? = some o → o.op ≠ .select cs b) :
    ∀ (n : Nat) (L : Array Bool) (a : Act),
      (∀ j oj, ops[j]? = some oj → j ≠ i → L.getD j true = false → (∀ e ∈ oj.after, Region.binds md e = true → e.on ≠ i) → oi.apart ops oj = true) →
      i ∈ Region.ready md ops L → Sure P md ops C i oi v a →
      anyF P md ops C Q n (L.setIfInBounds i true) (a.put oi.dst v) → anyF P md ops C Q (n + 1) L a := by
  intro n
  induction n with
  | zero =>
    intro L a _ hr hs H
    refine ⟨fun h => (by rw [h] at hr; cases hr), fun j hj => ?_⟩
    by_cases hji : j = i
    · subst hji; exact ⟨oi, v, hi, hs, H⟩
    · have := ready_mono hj hji
      rw [H.1] at this
      cases this
  | succ n ih =>
    intro L a hfree hr hs H
    refine ⟨fun h => (by rw [h] at hr; cases hr), fun j hj => ?_⟩
    by_cases hji : j = i
    · subst hji; exact ⟨oi, v, hi, hs, H⟩
    · obtain ⟨oj, u, hoj, hsj, hn⟩ := H.2 j (ready_mono hj hji)
      obtain ⟨hjun, oj', hoj', hall⟩ := mem_ready.1 hj
      obtain rfl : oj' = oj := Option.some.inj (hoj'.symm.trans hoj)
      have hnot : ∀ e ∈ oj'.after, Region.binds md e = true → e.on ≠ i := fun e he hb heq => by
        have h1 := hall e he hb
        have h0 := (mem_ready.1 hr).1
        rw [heq] at h1
        rcases Nat.lt_or_ge i L.size with h' | h'
        · simp [h'] at h0 h1; rw [h0] at h1; cases h1
        · simp [Array.getElem?_eq_none h'] at h1
      obtain ⟨a1, a2, a3⟩ := Oper.apart_spec (hfree j oj' hoj hji hjun hnot)
      refine ⟨oj', u, hoj, hsj.same (execOp_put oj' (fun cs b => hsel j oj' cs b hoj) a oi.dst v a1).symm (wanted_put oj' a oi.dst v a1).symm, ?_⟩
      refine ih _ _ (fun k ok hk hki hun hno => hfree k ok hk hki ?_ hno) (ready_mono hr (Ne.symm hji))
        (hs.same (execOp_put oi (fun cs b => hsel i oi cs b hi) a oj'.dst u a3) (wanted_put oi a oj'.dst u a3)) ?_
      · by_cases hjk : j = k
        · subst hjk; exact hjun
        · rw [getD_set_ne true hjk] at hun; exact hun
      · rw [Array.setIfInBounds_comm _ _ hji, ← Act.put_comm a v u a2]
        exact hn

/-- The walk in the order of the text. -/
def lexF (P : Program) (md : Region.Mode) (ops : Array Oper) (C : Array Bool → World → Prop) (Q : Array Bool → Act → Prop) : List Oper → Nat → Array Bool → Act → Prop
  | [], _, L, a => Q L a
  | o :: l, k, L, a => ∃ v, Sure P md ops C k o v a ∧ lexF P md ops C Q l (k + 1) (L.setIfInBounds k true) (a.put o.dst v)

theorem anyF_lex {C : Array Bool → World → Prop} {Q : Array Bool → Act → Prop} (hs : Region.noSelect ops = true) : ∀ (l : List Oper) (k : Nat) (L : Array Bool) (a : Act), (∀ j, l[j]? = ops[k + j]?) →
    Region.lexFrom md ops l.length k L = true → lexF P md ops C Q l k L a → anyF P md ops C Q l.length L a
  | [], _, _, _, _, hB, h => ⟨by simpa [Region.lexFrom] using hB, h⟩
  | o :: l, k, L, a, hl, hB, h => by
    have h0 : ops[k]? = some o := by simpa using (hl 0).symm
    simp only [List.length_cons, Region.lexFrom, Bool.and_eq_true] at hB
    obtain ⟨⟨hr, hf⟩, hB'⟩ := hB
    obtain ⟨v, hy, hK⟩ := h
    exact anyF_first h0 (Region.noSelect_spec hs) l.length L a (Region.free_spec h0 hf) (by simpa using hr) hy
      (anyF_lex hs l (k + 1) _ _ (fun j => by have := hl (j + 1); simpa [Nat.add_assoc, Nat.add_comm 1 j] using this) hB' hK)

/-- What has come up is closed under what it waits for. -/
def Closed (md : Region.Mode) (ops : Array Oper) (L : Array Bool) : Prop :=
  L.size = ops.size ∧ ∀ j oj, ops[j]? = some oj → L.getD j false = true → ∀ e ∈ oj.after, Region.binds md e = true → L.getD e.on false = true

theorem Closed.start (md : Region.Mode) (ops : Array Oper) : Closed md ops (Array.replicate ops.size false) := by
  refine ⟨by simp, fun j oj _ h => ?_⟩
  simp only [Array.getD_eq_getD_getElem?, Array.getElem?_replicate] at h
  split at h <;> simp at h

theorem getD_false_of_true {L : Array Bool} {i : Nat} (h : L.getD i true = false) : L.getD i false = false ∧ i < L.size := by
  rcases Nat.lt_or_ge i L.size with h' | h'
  · simp [h'] at h ⊢; exact h
  · simp [Array.getElem?_eq_none h'] at h

theorem getD_set_same {L : Array Bool} {i : Nat} (h : i < L.size) : (L.setIfInBounds i true).getD i false = true := by
  simp [h]

theorem getD_set_ne' {L : Array Bool} {i j : Nat} (h : i ≠ j) : (L.setIfInBounds i true).getD j false = L.getD j false := by
  simp [Array.getElem?_setIfInBounds_ne h]

theorem Closed.set_ {L : Array Bool} {i : Nat} (h : Closed md ops L) (hr : i ∈ Region.ready md ops L) : Closed md ops (L.setIfInBounds i true) := by
  obtain ⟨h0, o, ho, hall⟩ := mem_ready.1 hr
  refine ⟨by simpa using h.1, fun j oj hoj hj e he hb => ?_⟩
  have hmono : L.getD e.on false = true → (L.setIfInBounds i true).getD e.on false = true := fun hx => getD_set_true hx
  by_cases hij : i = j
  · subst hij
    obtain rfl : oj = o := Option.some.inj (hoj.symm.trans ho)
    exact hmono (hall e he hb)
  · rw [getD_set_ne' hij] at hj
    exact hmono (h.2 j oj hoj hj e he hb)

/-- Does number j wait for number k? -/
def waits (md : Region.Mode) (ops : Array Oper) (j k : Nat) : Bool := ((ops[j]?).map fun o => o.after.any fun e => Region.binds md e && Nat.beq e.on k).getD false

/-- What is known of what has come up (f) where number k comes up. -/
def When (md : Region.Mode) (ops : Array Oper) (k : Nat) (f : Nat → Bool) : Prop :=
  f k = false ∧ (∀ j, waits md ops j k = true → f j = false) ∧ (∀ j, waits md ops k j = true → f j = true) ∧ (∀ i j, waits md ops i j = true → f i = true → f j = true)

theorem waits_spec {j k : Nat} (h : waits md ops j k = true) : ∃ oj, ops[j]? = some oj ∧ ∃ e ∈ oj.after, Region.binds md e = true ∧ e.on = k := by
  unfold waits at h
  cases ho : ops[j]? with
  | none => simp [ho] at h
  | some o =>
    simp only [ho, Option.map_some, Option.getD_some, Array.any_eq_true, Bool.and_eq_true] at h
    obtain ⟨x, hx, hb, he⟩ := h
    exact ⟨o, rfl, o.after[x], Array.getElem_mem hx, hb, Nat.eq_of_beq_eq_true he⟩

theorem when_of_ready {L : Array Bool} {k : Nat} (hc : Closed md ops L) (hr : k ∈ Region.ready md ops L) : When md ops k (fun j => L.getD j false) := by
  obtain ⟨h0, o, ho, hall⟩ := mem_ready.1 hr
  refine ⟨(getD_false_of_true h0).1, fun j hj => ?_, fun j hj => ?_, fun i j hw hi => ?_⟩
  · obtain ⟨oj, hoj, e, he, hb, rfl⟩ := waits_spec hj
    cases hx : L.getD j false with
    | false => exact hx
    | true =>
      have := hc.2 j oj hoj hx e he hb
      rw [(getD_false_of_true h0).1] at this
      cases this
  · obtain ⟨o', ho', e, he, hb, rfl⟩ := waits_spec hj
    obtain rfl : o' = o := Option.some.inj (ho'.symm.trans ho)
    exact hall e he hb
  · obtain ⟨oi, hoi, e, he, hb, rfl⟩ := waits_spec hw
    exact hc.2 i oi hoi hi e he hb

/-- What waits for what has not come up has not come up. -/
theorem When.un {k : Nat} {f : Nat → Bool} (h : When md ops k f) (i j : Nat) (hw : waits md ops i j = true) (hj : f j = false) : f i = false := by
  cases hi : f i with
  | false => rfl
  | true => rw [h.2.2.2 i j hw hi] at hj; cases hj

/-- f, and number k besides. -/
def add (f : Nat → Bool) (k : Nat) : Nat → Bool := fun j => Nat.beq j k || f j

theorem add_set {L : Array Bool} {k : Nat} (h : k < L.size) : (fun j => (L.setIfInBounds k true).getD j false) = add (fun j => L.getD j false) k := by
  funext j
  unfold add
  by_cases hkj : k = j
  · subst hkj; rw [getD_set_same h]; simp
  · rw [getD_set_ne' hkj]
    have : Nat.beq j k = false := by
      cases hb : Nat.beq j k with
      | false => rfl
      | true => exact absurd (Nat.eq_of_beq_eq_true hb).symm hkj
    rw [this]; rfl

/-- The walk in the order of the text, for the user: D is the class, f what has come up. -/
def lexD (P : Program) (md : Region.Mode) (ops : Array Oper) (D : (Nat → Bool) → World → Prop) (Q : Act → Prop) : List Oper → Nat → Act → Prop
  | [], _, a => Q a
  | o :: l, k, a => ∃ v, ((Region.wanted o (yielded ops a.tmps) = true ∧ ∀ f w, D f w → When md ops k f → Gives P o a w v (D (add f k))) ∨
      (Region.wanted o (yielded ops a.tmps) = false ∧ v = undef ∧ ∀ f w, D f w → When md ops k f → D (add f k) w)) ∧ lexD P md ops D Q l (k + 1) (a.put o.dst v)

theorem Gives.mono {o : Oper} {a : Act} {w : World} {v : Value} {R R' : World → Prop} (h : Gives P o a w v R) (hr : ∀ w', R w' → R' w') : Gives P o a w v R' := by
  unfold Gives at *
  generalize (execOp a.eval o).run P w = r at *
  cases r with
  | halt x w' => exact h
  | ok n w' =>
    cases n
    case value u => exact ⟨h.1, hr _ h.2⟩
    case skip => exact ⟨h.1, hr _ h.2⟩
    case enter f args => exact Calls.mono h fun e w'' ⟨he, hx⟩ => ⟨he, hr _ hx⟩
    all_goals exact h

theorem lexF_of_lexD {D : (Nat → Bool) → World → Prop} {Q : Act → Prop} {Q' : Array Bool → Act → Prop} (n : Nat) (hn : ops.size = n) (hQ : ∀ L a, (∀ j, j < n → L.getD j false = true) → Q a → Q' L a) :
    ∀ (l : List Oper) (k : Nat) (L : Array Bool) (a : Act), k + l.length = n → L.size = n → (∀ j, j < k → L.getD j false = true) → lexD P md ops D Q l k a →
      lexF P md ops (fun L w => Closed md ops L ∧ D (fun j => L.getD j false) w) Q' l k L a
  | [], k, L, a, hk, hs, hL, h => hQ L a (by intro j hj; exact hL j (by simp only [List.length_nil, Nat.add_zero] at hk; omega)) h
  | o :: l, k, L, a, hk, hs, hL, h => by
    obtain ⟨v, hv, hr⟩ := h
    have hkn : k < n := by rw [List.length_cons] at hk; omega
    refine ⟨v, ?_, lexF_of_lexD n hn hQ l (k + 1) _ _ (by rw [List.length_cons] at hk; omega) (by simpa using hs) (fun j hj => ?_) hr⟩
    · rcases hv with ⟨h1, h2⟩ | ⟨h1, h2, h3⟩
      · refine .inl ⟨h1, fun L' w hc hrd => (h2 _ w hc.2 (when_of_ready hc.1 hrd)).mono fun w' hw' => ⟨hc.1.set_ hrd, ?_⟩⟩
        rw [add_set (by rw [hc.1.1, hn]; exact hkn)]; exact hw'
      · refine .inr ⟨h1, h2, fun L' w hc hrd => ⟨hc.1.set_ hrd, ?_⟩⟩
        rw [add_set (by rw [hc.1.1, hn]; exact hkn)]; exact h3 _ w hc.2 (when_of_ready hc.1 hrd)
    · by_cases hjk : j = k
      · subst hjk; exact getD_set_same (by omega)
      · rw [getD_set_ne' (Ne.symm hjk)]; exact hL j (by omega)

/-- THE RULE. -/
theorem region {id : Nat} {Q : Exit → Act → World → Prop} {a : Act} {w : World} {l : List Oper} (D : (Nat → Bool) → World → Prop) (hm : P.follows .mixedOrders = true) (hB : Region.lexB .any l.toArray = true)
    (h0 : ∀ f, (∀ j, f j = false) → D f (w.drewN 1)) (h : lexD P .any l.toArray D (fun a' => ∀ f w', (∀ j, j < l.length → f j = true) → D f w' → Q .normal a' w') l 0 a) :
    (Code.region id l.toArray true).wp P Q a w := by
  simp only [Region.lexB, Bool.and_eq_true] at hB
  refine wp_region_any hm (wpAny_of_anyF (C := fun L w => Closed .any l.toArray L ∧ D (fun j => L.getD j false) w)
    (Q := fun L a' => ∀ w', D (fun j => L.getD j false) w' → Q .normal a' w') (fun L a w hc hq => hq w hc.2) _ _ _ _ ⟨Closed.start _ _, h0 _ (fun j => ?_)⟩ ?_)
  · simp only [Array.getD_eq_getD_getElem?, Array.getElem?_replicate]; split <;> rfl
  · have := anyF_lex (C := fun L w => Closed .any l.toArray L ∧ D (fun j => L.getD j false) w) (Q := fun L a' => ∀ w', D (fun j => L.getD j false) w' → Q .normal a' w')
      (P := P) hB.1 l 0 (Array.replicate l.toArray.size false) a (by simp) (by simpa using hB.2)
      (lexF_of_lexD l.length (by simp) (fun L a hL hq w' hd => hq _ w' hL hd) l 0 _ a (by simp) (by simp) (by omega) h)
    simpa using this

/-- The same, where the class names the world in which the region begins. -/
theorem regionW {id : Nat} {Q : Exit → Act → World → Prop} {a : Act} {w : World} {l : List Oper} (D : World → (Nat → Bool) → World → Prop) (hm : P.follows .mixedOrders = true) (hB : Region.lexB .any l.toArray = true)
    (h0 : ∀ f, (∀ j, f j = false) → D w f (w.drewN 1)) (h : lexD P .any l.toArray (D w) (fun a' => ∀ f w', (∀ j, j < l.length → f j = true) → D w f w' → Q .normal a' w') l 0 a) :
    (Code.region id l.toArray true).wp P Q a w := region (D w) hm hB h0 h

/-! The steps of the walk. -/
variable {D : (Nat → Bool) → World → Prop} {Q : Act → Prop} {l : List Oper} {o : Oper} {a : Act} {k : Nat}

/-- The guard says no. -/
theorem skip_ (hw : Region.wanted o (yielded ops a.tmps) = false) (hD : ∀ f w, D f w → D (add f k) w) (h : lexD P md ops D Q l (k + 1) (a.put o.dst undef)) : lexD P md ops D Q (o :: l) k a :=
  ⟨undef, .inr ⟨hw, rfl, fun f w hd _ => hD f w hd⟩, h⟩

/-- The operation yields v and leaves the world. -/
theorem val_ (v : Value) (hw : Region.wanted o (yielded ops a.tmps) = true) (hr : ∀ f w, D f w → When md ops k f → (execOp a.eval o).run P w = .ok (.value v) w) (hD : ∀ f w, D f w → D (add f k) w)
    (h : lexD P md ops D Q l (k + 1) (a.put o.dst v)) : lexD P md ops D Q (o :: l) k a :=
  ⟨v, .inl ⟨hw, fun f w hd hq => by unfold Gives; rw [hr f w hd hq]; exact ⟨rfl, hD f w hd⟩⟩, h⟩

/-- The operation yields v and changes the world. -/
theorem eff_ (v : Value) (g : World → World) (hw : Region.wanted o (yielded ops a.tmps) = true) (hr : ∀ f w, D f w → When md ops k f → (execOp a.eval o).run P w = .ok (.value v) (g w)) (hD : ∀ f w, D f w → When md ops k f → D (add f k) (g w))
    (h : lexD P md ops D Q l (k + 1) (a.put o.dst v)) : lexD P md ops D Q (o :: l) k a :=
  ⟨v, .inl ⟨hw, fun f w hd hq => by unfold Gives; rw [hr f w hd hq]; exact ⟨rfl, hD f w hd hq⟩⟩, h⟩

/-- A store: it yields nothing and changes the world. -/
theorem store_ (g : World → World) (hw : Region.wanted o (yielded ops a.tmps) = true) (hr : ∀ f w, D f w → When md ops k f → (execOp a.eval o).run P w = .ok .skip (g w)) (hD : ∀ f w, D f w → When md ops k f → D (add f k) (g w))
    (h : lexD P md ops D Q l (k + 1) (a.put o.dst undef)) : lexD P md ops D Q (o :: l) k a :=
  ⟨undef, .inl ⟨hw, fun f w hd hq => by unfold Gives; rw [hr f w hd hq]; exact ⟨rfl, hD f w hd hq⟩⟩, h⟩

/-- A call of a Go function. -/
theorem call_ (v : Value) (n : FuncId) (args : Array Value) (hw : Region.wanted o (yielded ops a.tmps) = true) (hr : ∀ w, (execOp a.eval o).run P w = .ok (.enter n args) w)
    (hc : ∀ f w, D f w → When md ops k f → Calls P n args w fun e w'' => e = .returned v ∧ D (add f k) w'')
    (h : lexD P md ops D Q l (k + 1) (a.put o.dst v)) : lexD P md ops D Q (o :: l) k a :=
  ⟨v, .inl ⟨hw, fun f w hd hq => by unfold Gives; rw [hr w]; exact hc f w hd hq⟩, h⟩

theorem nil_ (h : Q a) : lexD P md ops D Q [] k a := h
end
end Go.Proofs.Ytcggceincmljdaa.Fx

end

section
/- The contract of the check of a whole tree. -/
namespace Go.Proofs.Ytcggceincmljdaa
open Go.RowKit

def rkCells (l : List Rk) : List Value := l.flatMap Rk.cells
theorem rkCells_length (l : List Rk) : (rkCells l).length = l.length * 5 := by
  induction l with
  | nil => rfl
  | cons p l ih => simp only [rkCells, List.flatMap_cons, List.length_append, List.length_cons, List.length_nil, Rk.cells] at *; omega
theorem rkCells_get (l : List Rk) : ∀ (i : Nat) (h : i < l.length) (j : Nat), j < 5 → (rkCells l)[i * 5 + j]? = (l[i]).cells[j]? := by
  induction l with
  | nil => intro i h; simp at h
  | cons p l ih =>
    intro i h j hj
    have e : rkCells (p :: l) = p.cells ++ rkCells l := rfl
    have e5 : p.cells.length = 5 := rfl
    rw [e]
    cases i with
    | zero => rw [List.getElem?_append_left (by omega)]; simp
    | succ i =>
      rw [List.getElem?_append_right (by omega), e5, show (i + 1) * 5 + j - 5 = i * 5 + j from by omega]
      simpa using ih i (by simpa using h) j hj

theorem Reads.len5 {w : World} {B n : Nat} {A : Option Addr} {l : List Rk} (h : Reads w B 5 A n (rkCells l)) : l.length = n := by
  have := h.1; rw [rkCells_length] at this; omega

theorem Reads.rk {w : World} {B n : Nat} {A : Option Addr} {l : List Rk} (h : Reads w B 5 A n (rkCells l)) {i : Nat} (hi : i < n) :
    ∃ b o r, A = some ⟨b, o, none⟩ ∧ b < B ∧ l[i]? = some r ∧ w.cell? ⟨b, o + i * 5, none⟩ = some (.string r.name) ∧ w.cell? ⟨b, o + i * 5 + 1, none⟩ = some (.string r.left) ∧
      w.cell? ⟨b, o + i * 5 + 2, none⟩ = some (.string r.right) ∧ w.cell? ⟨b, o + i * 5 + 3, none⟩ = some (.int .i64 r.al) ∧ w.cell? ⟨b, o + i * 5 + 4, none⟩ = some (.int .i64 r.ar) := by
  obtain ⟨b, o, e, hb, hc⟩ := h.2 (by omega)
  have hl := h.len5
  have hg := rkCells_get l i (by omega)
  exact ⟨b, o, l[i]'(by omega), e, hb, List.getElem?_eq_getElem (by omega), hc _ _ (hg 0 (by omega)), hc _ _ (hg 1 (by omega)), hc _ _ (hg 2 (by omega)), hc _ _ (hg 3 (by omega)), hc _ _ (hg 4 (by omega))⟩

def idxOf (l : List Rk) (s : ByteArray) : Option Nat := l.findIdx? fun r => decide (r.name = s)
def idxM (l : List Rk) (s : ByteArray) : Option Value := (idxOf l s).map fun (i : Nat) => .int .i64 (i : Int)

/-- The error of the first loop: the first rocker that is not right behind those before it. -/
def err1 : List Rk → List Rk → Int
  | _, [] => 0
  | seen, r :: l => if rkErr (idxM seen r.name).isSome r = 0 then err1 (seen ++ [r]) l else rkErr (idxM seen r.name).isSome r

def bearerOf (l : List Rk) (s : ByteArray) : Option Nat := l.findIdx? fun r => decide (r.left = s ∨ r.right = s)
def borneAll (l : List Rk) : List ByteArray := l.flatMap fun r => [r.left, r.right]
def climbs (l : List Rk) : Nat → ByteArray → Bool
  | 0, s => (bearerOf l s).isSome
  | f + 1, s => match bearerOf l s with
    | none => false
    | some i => climbs l f (((l[i]?).map (·.name)).getD s)
def isTop (l : List Rk) (i : Nat) : Bool := match l[i]? with
  | some r => (bearerOf l r.name).isNone
  | none => false
def topsTo (l : List Rk) (k : Nat) : List Nat := (List.range k).filter (isTop l)
def topsOf (l : List Rk) : List Nat := topsTo l l.length
def openErr (l : List Rk) : Int :=
  if l.length = 0 then 10 else if 40 < l.length then 8 else if err1 [] l ≠ 0 then err1 [] l else if ¬ (borneAll l).Nodup then 13
  else if l.any (fun r => climbs l (l.length + 1) r.name) then 21 else if 1 < (topsOf l).length then 25 else 0
def topOf (l : List Rk) : Nat := (topsOf l).getLast?.getD 0

def pairsFrom (k : Nat) : List Rk → List (ByteArray × Nat)
  | [] => []
  | r :: l => (r.left, k) :: (r.right, k) :: pairsFrom (k + 1) l
def bM (ps : List (ByteArray × Nat)) (s : ByteArray) : Option Value := (ps.find? fun p => decide (p.1 = s)).map fun p => .int .i64 (p.2 : Int)
def upM (l : List Rk) (s : ByteArray) : Option Value := (bearerOf l s).map fun (i : Nat) => .int .i64 (i : Int)
end Go.Proofs.Ytcggceincmljdaa

end

section
/- Contracts of the reference's searches of names: what a name is, the number of a rocker, whether a text is in a list. -/
namespace Go.Proofs.Ytcggceincmljdaa
open Go.RowKit

def digitB (c : Nat) : Bool := decide (48 ≤ c ∧ c ≤ 57)
/-- The number of a rocker, or -1. -/
def findI (l : List Rk) (s : ByteArray) : Int := match idxOf l s with | some i => (i : Int) | none => -1
theorem toList_inj {a b : ByteArray} (h : a.toList = b.toList) : a = b := by
  rw [ByteArray.toList_eq, ByteArray.toList_eq] at h
  cases a; cases b
  congr
  exact Array.toList_inj.1 h
/-- Texts as cells. -/
def strs (ps : List ByteArray) : List Value := ps.map .string
/-- Whether a text is in a list. -/
def hasB (xs : List ByteArray) (s : ByteArray) : Bool := xs.any fun x => decide (x = s)
end Go.Proofs.Ytcggceincmljdaa

end

section
/- Contracts of the checks of fractions and of functions that return fractions in lowest terms. -/
namespace Go.Proofs.Ytcggceincmljdaa
open Go.RowKit

/-- The error of a fraction. -/
def fracErr (n d : Int) : Int := if d < 1 ∨ Int.gcd n d ≠ 1 then 3 else if n < -1000000000 ∨ 1000000000 < n ∨ 1000000000 < d then 2 else 0

theorem gcd_small (n d : Int) (h : 1 ≤ d) (h4 : d ≤ 9223372036854775807) : wrap64 (Int.gcd n d : Int) = (Int.gcd n d : Int) := by
  have h5 : Int.gcd n d ∣ d.natAbs := Int.gcd_dvd_natAbs_right n d
  have h6 := Nat.le_of_dvd (by omega) h5
  exact IntWalk.wrap64_in _ ⟨by omega, by omega⟩



theorem div_gcd_in (a b : Int) (h1 : -9223372036854775808 < a) (h2 : a ≤ 9223372036854775807) (hg : (Int.gcd a b : Int) ≠ 0) : -9223372036854775808 < a / (Int.gcd a b : Int) ∧ a / (Int.gcd a b : Int) ≤ 9223372036854775807 := by
  have h3 : (Int.gcd a b : Int) ∣ a := Int.gcd_dvd_left a b
  have h4 := Int.natAbs_ediv_of_dvd h3
  have h5 : (a / (Int.gcd a b : Int)).natAbs ≤ a.natAbs := by rw [h4]; exact Nat.div_le_self _ _
  omega

theorem tdiv_gcd_left (a b : Int) : a.tdiv (Int.gcd a b : Int) = a / (Int.gcd a b : Int) := Int.tdiv_eq_ediv_of_dvd (Int.gcd_dvd_left a b)
theorem tdiv_gcd_right (a b : Int) : b.tdiv (Int.gcd a b : Int) = b / (Int.gcd a b : Int) := Int.tdiv_eq_ediv_of_dvd (Int.gcd_dvd_right a b)

/-- Whether a fraction in lowest terms is small. -/
def smallB (a b : Int) : Bool := withinB (a / (Int.gcd a b : Int)) (-1000000000) 1000000000 && decide (b / (Int.gcd a b : Int) ≤ 1000000000)


end Go.Proofs.Ytcggceincmljdaa

end

section
/- Contracts of the comparisons of lists. -/
namespace Go.Proofs.Ytcggceincmljdaa
open Go.RowKit

/-- The cells of pairs of numbers. -/
def cells2 (l : List (Int × Int)) : List Value := l.flatMap fun p => [.int .i64 p.1, .int .i64 p.2]
theorem cells2_length (l : List (Int × Int)) : (cells2 l).length = l.length * 2 := by
  induction l with
  | nil => rfl
  | cons p l ih => simp only [cells2, List.flatMap_cons, List.length_append, List.length_cons, List.length_nil] at *; omega
theorem cells2_append (l m : List (Int × Int)) : cells2 (l ++ m) = cells2 l ++ cells2 m := by simp [cells2]
theorem cells2_get (l : List (Int × Int)) : ∀ (i : Nat) (h : i < l.length), (cells2 l)[i * 2]? = some (.int .i64 (l[i]).1) ∧ (cells2 l)[i * 2 + 1]? = some (.int .i64 (l[i]).2) := by
  induction l with
  | nil => intro i h; simp at h
  | cons p l ih =>
    intro i h
    cases i with
    | zero => simp [cells2]
    | succ i =>
      have := ih i (by simpa using h)
      have e : cells2 (p :: l) = .int .i64 p.1 :: .int .i64 p.2 :: cells2 l := rfl
      rw [e, show (i + 1) * 2 = i * 2 + 1 + 1 from by omega]
      simpa using this

theorem Reads.pair {w : World} {B n : Nat} {A : Option Addr} {l : List (Int × Int)} (h : Reads w B 2 A n (cells2 l)) {i : Nat} (hi : i < n) :
    ∃ b o p, A = some ⟨b, o, none⟩ ∧ b < B ∧ l[i]? = some p ∧ w.cell? ⟨b, o + i * 2, none⟩ = some (.int .i64 p.1) ∧ w.cell? ⟨b, o + i * 2 + 1, none⟩ = some (.int .i64 p.2) := by
  obtain ⟨b, o, e, hb, hc⟩ := h.2 (by omega)
  have hl : l.length = n := by have := h.1; rw [cells2_length] at this; omega
  have hg := cells2_get l i (by omega)
  exact ⟨b, o, l[i]'(by omega), e, hb, List.getElem?_eq_getElem (by omega), hc _ _ hg.1, hc _ _ hg.2⟩

theorem Reads.len2 {w : World} {B n : Nat} {A : Option Addr} {l : List (Int × Int)} (h : Reads w B 2 A n (cells2 l)) : l.length = n := by
  have := h.1; rw [cells2_length] at this; omega

theorem take_succ_eq {α : Type} {xs ys : List α} {k : Nat} {p : α} (h : xs.take k = ys.take k) (hx : xs[k]? = some p) (hy : ys[k]? = some p) : xs.take (k + 1) = ys.take (k + 1) := by
  rw [List.take_add_one, List.take_add_one, h, hx, hy]

@[go_sem] theorem held_frac : Try.prog.stoodInHeld 53 = false := by kernel_rfl

@[go_sem] theorem guard_frac : Try.prog.eqGuardType Try.prog.depth 53 = false := by kernel_rfl

theorem eq_frac (a b c d : Int) (w : World) : (Op.equalIn 10000 53 (.agg #[.int .i64 a, .int .i64 b]) (.agg #[.int .i64 c, .int .i64 d])).run Try.prog w = .ok (decide ((a, b) = (c, d))) w := by
  simp [go_sem]
  by_cases h1 : a = c <;> by_cases h2 : b = d <;> simp [h1, h2]

@[go_sem ↓ high] theorem eql_frac (a b c d : Int) (w : World) : (binOp .eql 53 (.agg #[.int .i64 a, .int .i64 b]) (.agg #[.int .i64 c, .int .i64 d])).run Try.prog w = .ok (.bool (decide ((a, b) = (c, d)))) w := by
  rw [run_eql_struct, eq_frac]; rfl

@[go_sem ↓ high] theorem neq_frac (a b c d : Int) (w : World) : (binOp .neq 53 (.agg #[.int .i64 a, .int .i64 b]) (.agg #[.int .i64 c, .int .i64 d])).run Try.prog w = .ok (.bool (!decide ((a, b) = (c, d)))) w := by
  rw [run_neq_struct, eq_frac]; rfl

theorem fracs_any (A B : Option Addr) (ca cb n m : Nat) (xs ys : List (Int × Int)) (w : World) (N : Nat) (hx : Reads w N 2 A n (cells2 xs)) (hy : Reads w N 2 B m (cells2 ys))
    (h1 : n ≤ 9223372036854775807) (h2 : m ≤ 9223372036854775807) :
    Calls Try.prog 14 #[.slice A n ca, .slice B m cb] w fun e w' => e = .returned (.bool (decide (xs = ys))) ∧ ∃ n, w' = w.drewN n := by
  have hxl := Lib.hid hx.len2
  have hyl := Lib.hid hy.len2
  by_cases hl : n = m
  · subst hl
    have hb : ((n : Int) != (n : Int)) = false := by simp
    have HX := Lib.hid hx
    have HY := Lib.hid hy
    clear hx hy
    go_enter Try.func14, Try.ntmps14
    go_wp2
    go_loopw [5] (fun i wr => ∃ k : Nat, k ≤ n ∧ i = .int .i64 k ∧ xs.take k = ys.take k ∧ ∃ q, wr = w.drewN q) (fun i _ => n - (intOf i).toNat)
    case atStart => exact ⟨0, by omega, rfl, rfl, 0, rfl⟩
    case round =>
      obtain ⟨k, hk, rfl, ht, q, rfl⟩ := hrel
      have HT := Lib.hid ht
      clear ht
      by_cases hlt : k < n
      · obtain ⟨xb, xo, p, rfl, _, hp, c0, c1⟩ := HX.out.pair hlt
        obtain ⟨yb, yo, r, rfl, _, hr, d0, d1⟩ := HY.out.pair hlt
        go_wp2
        go_quiet (fail)
        go_wp2
        · go_ret
          refine ⟨?_, _, World.drewN_drewN _ _ _⟩
          have hne : xs ≠ ys := fun e => by
            subst e
            obtain rfl := Option.some.inj (hp.symm.trans hr)
            simp_all
          rw [decide_eq_false hne]; rfl
        · go_roundw
          case rel =>
            refine ⟨k + 1, by omega, by go_num, ?_, _, rfl⟩
            have hpr : p = r := by
              obtain ⟨p1, p2⟩ := p
              obtain ⟨r1, r2⟩ := r
              simp_all
            subst hpr
            exact take_succ_eq HT.out hp hr
          case measure => simp [intOf]; omega
      · go_wp2
        go_ret
        refine ⟨?_, _, rfl⟩
        have hkn : k = n := by omega
        have e : xs = ys := by
          have h := HT.out
          rw [List.take_of_length_le (by rw [hxl.out]; omega), List.take_of_length_le (by rw [hyl.out]; omega)] at h
          exact h
        rw [decide_eq_true e]; rfl
  · have hb : ((n : Int) != (m : Int)) = true := by simp; omega
    go_enter Try.func14, Try.ntmps14
    go_wp2
    go_ret
    exact ⟨by rw [decide_eq_false (fun e => hl (by rw [← hxl.out, ← hyl.out, e]))]; rfl, 0, rfl⟩

end Go.Proofs.Ytcggceincmljdaa

end

section
/- The contract of the shares of the points below a thing. -/
namespace Go.Proofs.Ytcggceincmljdaa
open Go.RowKit

/-- The points below a thing; none: not within so many steps. -/
def pts (l : List Rk) : Nat → ByteArray → Option (List ByteArray)
  | 0, s => match idxOf l s with
    | none => some [s]
    | some _ => none
  | f + 1, s => match idxOf l s with
    | none => some [s]
    | some i => match l[i]? with
      | none => none
      | some r => match pts l f r.left, pts l f r.right with
        | some a, some b => some (a ++ b)
        | _, _ => none

def redN (a b : Int) : Int := a / (Int.gcd a b : Int)
def redD (a b : Int) : Int := b / (Int.gcd a b : Int)

def join2 (a b : Option (List (Int × Int))) : Option (List (Int × Int)) := match a, b with
  | some x, some y => some (x ++ y)
  | _, _ => none

/-- The shares of the points below a thing; none: one is not small. -/
def sh (l : List Rk) : Nat → ByteArray → Int → Int → Option (List (Int × Int))
  | 0, _, n, d => some [(n, d)]
  | f + 1, s, n, d => match idxOf l s with
    | none => some [(n, d)]
    | some i => match l[i]? with
      | none => none
      | some r => if smallB (n * r.ar) (d * (r.al + r.ar)) && smallB (n * r.al) (d * (r.al + r.ar)) then
          join2 (sh l f r.left (redN (n * r.ar) (d * (r.al + r.ar))) (redD (n * r.ar) (d * (r.al + r.ar)))) (sh l f r.right (redN (n * r.al) (d * (r.al + r.ar))) (redD (n * r.al) (d * (r.al + r.ar))))
        else none

/-- Arms are from 1 to 10000. -/
def ArmsOK (l : List Rk) : Prop := ∀ r ∈ l, 1 ≤ r.al ∧ r.al ≤ 10000 ∧ 1 ≤ r.ar ∧ r.ar ≤ 10000
/-- A part of a fraction. -/
def Part (x : Int) : Prop := 1 ≤ x ∧ x ≤ 1000000000

end Go.Proofs.Ytcggceincmljdaa

end

section
/- What is owned, or a block of its own, reads as a list. -/
namespace Go.Proofs.Ytcggceincmljdaa
open Go.RowKit

theorem Blk.reads {w : World} {g n size : Nat} {t : TypeId} {xs : List Value} (h : Blk w g t xs.toArray) (hl : xs.length = n * size) : Reads w w.heap.size size (some ⟨g, 0, none⟩) n xs :=
  ⟨hl, fun _ => ⟨g, 0, rfl, h.lt, fun j u hu => by rw [Nat.zero_add, h.cell j]; simpa using hu⟩⟩

theorem Reads.of_adds' {w : World} {B n size : Nat} {g : Nat} {xs : List Value} (hl : xs.length = n * size) (hb : g < B) (hc : ∀ j u, xs[j]? = some u → w.cell? ((⟨g, 0, none⟩ : Addr).add j) = some u) : Reads w B size (some ⟨g, 0, none⟩) n xs :=
  ⟨hl, fun _ => ⟨g, 0, rfl, hb, fun j u hu => by have := hc j u hu; rwa [add_lit] at this⟩⟩

theorem own_reads {w : World} {base n size : Nat} {e : TypeId} {v : Value} {xs : List Value} (h : w.ownsRow base e size v n xs) : ∃ A c, v = .slice A n c ∧ Reads w w.heap.size size A n xs := by
  have hc := @World.ownsRow.cells _ _ _ _ _ _ _ h
  obtain ⟨h1, h2⟩ := h
  rcases h2 with ⟨rfl, rfl⟩ | ⟨g, cap, cur, rfl, hg, hh, _⟩
  · exact ⟨none, 0, rfl, h1, fun hn => absurd hn (by simp)⟩
  · refine ⟨some ⟨g, 0, none⟩, cap, rfl, Reads.of_adds' h1 (Array.getElem?_eq_some_iff.1 hh).1 (hc rfl)⟩

section
variable {P : Program} {ops : Array Oper} {Q : Exit → Act → World → Prop} {o : Oper} {rest : List Oper} {a : Act}
/-- A call of append whose run is known. -/
theorem wpList_app (w w' : World) (v' : Value) (hg : o.guard = none) (s x : Operand) (t : TypeId) (hop : o.op = .call { callee := .builtin .append, args := #[s, x], argTypes := #[t, t] }) (sv xv : Value) (hs : a.eval s = sv) (hx : a.eval x = xv)
    (hrun : (Builtin.append_ #[t, t] o.type #[sv, xv]).run P w = .ok v' w') (hK : wpList P ops Q rest (a.put o.dst v') w') : wpList P ops Q (o :: rest) a w := by
  refine wpList_plain hg fun K' hK' => ?_
  subst hs hx
  unfold Oper.wp
  rw [exec_append s x t hop hrun]
  exact hK' _ _ hK
end

end Go.Proofs.Ytcggceincmljdaa

end
