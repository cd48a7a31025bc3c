import Derived.Test.YtkfecbkcghmmhaaQ3
import Derived.Test.YtkfecbkcghmmhaaQ1
import Derived.Test.YtkfecbkcghmmhaaQ4
import Derived.Test.YtkfecbkcghmmhaaQ2

section
/- A rule for a region whose order is left open and in which several operations choose: a call whose result is only known to exist, memory that is made at a place that is not known ahead. The walk goes in an order of one's own. -/
namespace Go.Proofs.Ytkfecbkcghmmhaa.Fx
open Go Go.RowKit

section
variable {P : Program} {ops : Array Oper} {md : Region.Mode} {X : Type}

/-- What has been chosen, by the number of the operation. -/
def upd (g : Nat → Option X) (i : Nat) (x : X) : Nat → Option X := fun j => if Nat.beq j i then some x else g j
def Ext (g g' : Nat → Option X) : Prop := ∀ c x, g c = some x → g' c = some x
theorem Ext.refl (g : Nat → Option X) : Ext g g := fun _ _ h => h
theorem Ext.trans {g g' g'' : Nat → Option X} (h : Ext g g') (k : Ext g' g'') : Ext g g'' := fun c x e => k c x (h c x e)
theorem Ext.upd {g : Nat → Option X} {i : Nat} (hi : g i = none) (x : X) : Ext g (upd g i x) := fun c y e => by
  unfold Fx.upd
  cases h : Nat.beq c i with
  | false => simpa using e
  | true => rw [Nat.eq_of_beq_eq_true h] at e; rw [hi] at e; cases e
theorem upd_same {g : Nat → Option X} {i : Nat} {x : X} : upd g i x i = some x := by
  unfold upd
  rw [show Nat.beq i i = true from Nat.beq_refl i]
  rfl

def SureM (P : Program) (md : Region.Mode) (ops : Array Oper) (C : (Nat → Option X) → Array Bool → World → Prop) (val : Nat → X → Value) (g : Nat → Option X) (i : Nat) (o : Oper) (a : Act) : Prop :=
  Region.wanted o (yielded ops a.tmps) = true ∧ ∀ L w, C g L w → i ∈ Region.ready md ops L → GivesX P o a w fun v w' => ∃ x, v = val i x ∧ C (upd g i x) (L.setIfInBounds i true) w'

theorem SureM.same {C : (Nat → Option X) → Array Bool → World → Prop} {val : Nat → X → Value} {g : Nat → Option X} {i : Nat} {o : Oper} {a a' : Act} (h : SureM P md ops C val g i o a) (he : execOp a'.eval o = execOp a.eval o)
    (hw : Region.wanted o (yielded ops a'.tmps) = Region.wanted o (yielded ops a.tmps)) : SureM P md ops C val g i o a' :=
  ⟨hw.trans h.1, fun L w hc hr => (h.2 L w hc hr).congr he⟩

def anyM (P : Program) (md : Region.Mode) (ops : Array Oper) (C : (Nat → Option X) → Array Bool → World → Prop) (val : Nat → X → Value) (Q : (Nat → Option X) → Array Bool → Act → Prop) : Nat → (Nat → Option X) → Array Bool → Act → Prop
  | 0, g, L, a => Region.ready md ops L = [] ∧ Q g L a
  | n + 1, g, L, a => (Region.ready md ops L = [] → Q g L a) ∧
      ∀ i ∈ Region.ready md ops L, ∃ o, ops[i]? = some o ∧ ((∃ v, Sure P md ops (C g) i o v a ∧ anyM P md ops C val Q n g (L.setIfInBounds i true) (a.put o.dst v)) ∨
        (g i = none ∧ SureM P md ops C val g i o a ∧ ∀ x, anyM P md ops C val Q n (upd g i x) (L.setIfInBounds i true) (a.put o.dst (val i x))))

theorem wpAny_of_anyM {C : (Nat → Option X) → Array Bool → World → Prop} {val : Nat → X → Value} {Q : (Nat → Option X) → Array Bool → Act → Prop} {Q' : Exit → Act → World → Prop} (hQ : ∀ g L a w, C g L w → Q g L a → Q' .normal a w) :
    ∀ (n : Nat) (g : Nat → Option X) (L : Array Bool) (a : Act) (w : World), C g L w → anyM P md ops C val Q n g L a → wpAny P md ops Q' n L a w
  | 0, _, _, _, _, hc, h => ⟨h.1, hQ _ _ _ _ hc h.2⟩
  | n + 1, g, L, a, w, hc, h => ⟨fun h0 => hQ _ _ _ _ hc (h.1 h0), fun i hi => by
      obtain ⟨o, ho, hcs⟩ := h.2 i hi
      unfold wpOp
      simp only [ho]
      rcases hcs with ⟨v, hs, hn⟩ | ⟨-, hs, hn⟩
      · rcases hs with ⟨h1, h2⟩ | ⟨h1, h2, h3⟩
        · rw [if_pos h1]
          exact .inl ((h2 L w hc hi).wp fun w' hw' => wpAny_of_anyM hQ n _ _ _ w' hw' hn)
        · rw [if_neg (by rw [h1]; exact Bool.false_ne_true)]
          subst h2
          exact wpAny_of_anyM hQ n _ _ _ w (h3 L w hc hi) hn
      · rw [if_pos hs.1]
        exact .inl ((hs.2 L w hc hi).wp fun v w' ⟨x, hv, hw'⟩ => by subst hv; exact wpAny_of_anyM hQ n _ _ _ w' hw' (hn x))⟩

/-- What may come up may be taken first, if all that could come before it is apart from it. -/
theorem anyM_first {C : (Nat → Option X) → Array Bool → World → Prop} {val : Nat → X → Value} {Q : (Nat → Option X) → Array Bool → Act → Prop} {i : Nat} {oi : Oper} {v : Value} (hi : ops[i]? = some oi) (hsel : ∀ (j : Nat) (o : Oper) cs b, ops[j]? = some o → o.op ≠ .select cs b) :
    ∀ (n : Nat) (g : Nat → Option X) (L : Array Bool) (a : Act),
      (∀ j oj, ops[j]? = some oj → j ≠ i → L.getD j true = false → (∀ e ∈ oj.after, Region.binds md e = true → e.on ≠ i) → oi.apart ops oj = true) →
      i ∈ Region.ready md ops L → (∀ g', Ext g g' → Sure P md ops (C g') i oi v a) →
      anyM P md ops C val Q n g (L.setIfInBounds i true) (a.put oi.dst v) → anyM P md ops C val Q (n + 1) g L a := by
  intro n
  induction n with
  | zero =>
    intro g L a _ hr hs H
    refine ⟨fun h => (by rw [h] at hr; cases hr), fun j hj => ?_⟩
    by_cases hji : j = i
    · subst hji; exact ⟨oi, hi, .inl ⟨v, hs g (Ext.refl g), H⟩⟩
    · have := ready_mono hj hji
      rw [H.1] at this
      cases this
  | succ n ih =>
    intro g L a hfree hr hs H
    refine ⟨fun h => (by rw [h] at hr; cases hr), fun j hj => ?_⟩
    by_cases hji : j = i
    · subst hji; exact ⟨oi, hi, .inl ⟨v, hs g (Ext.refl g), H⟩⟩
    · obtain ⟨oj, hoj, hcs⟩ := H.2 j (ready_mono hj hji)
      obtain ⟨hjun, oj', hoj', hall⟩ := mem_ready.1 hj
      obtain rfl : oj' = oj := Option.some.inj (hoj'.symm.trans hoj)
      have hnot : ∀ e ∈ oj'.after, Region.binds md e = true → e.on ≠ i := fun e he hb heq => by
        have h1 := hall e he hb
        have h0 := (mem_ready.1 hr).1
        rw [heq] at h1
        rcases Nat.lt_or_ge i L.size with h' | h'
        · simp [h'] at h0 h1; rw [h0] at h1; cases h1
        · simp [Array.getElem?_eq_none h'] at h1
      obtain ⟨a1, a2, a3⟩ := Oper.apart_spec (hfree j oj' hoj hji hjun hnot)
      have key : ∀ (g' : Nat → Option X) (u : Value), Ext g g' → anyM P md ops C val Q n g' ((L.setIfInBounds i true).setIfInBounds j true) ((a.put oi.dst v).put oj'.dst u) → anyM P md ops C val Q (n + 1) g' (L.setIfInBounds j true) (a.put oj'.dst u) := fun g' u hx hn => by
        refine ih g' _ _ (fun k ok hk hki hun hno => hfree k ok hk hki ?_ hno) (ready_mono hr (Ne.symm hji))
          (fun g'' hg'' => (hs g'' (hx.trans hg'')).same (execOp_put oi (fun cs b => hsel i oi cs b hi) a oj'.dst u a3) (wanted_put oi a oj'.dst u a3)) ?_
        · by_cases hjk : j = k
          · subst hjk; exact hjun
          · rw [getD_set_ne true hjk] at hun; exact hun
        · rw [Array.setIfInBounds_comm _ _ hji, ← Act.put_comm a v u a2]
          exact hn
      refine ⟨oj', hoj, ?_⟩
      rcases hcs with ⟨u, hsj, hn⟩ | ⟨hg, hsj, hn⟩
      · exact .inl ⟨u, hsj.same (execOp_put oj' (fun cs b => hsel j oj' cs b hoj) a oi.dst v a1).symm (wanted_put oj' a oi.dst v a1).symm, key g u (Ext.refl g) hn⟩
      · exact .inr ⟨hg, hsj.same (execOp_put oj' (fun cs b => hsel j oj' cs b hoj) a oi.dst v a1).symm (wanted_put oj' a oi.dst v a1).symm, fun x => key (upd g j x) (val j x) (Ext.upd hg x) (hn x)⟩

/-- The walk: n operations are left, g has been chosen, L has come. -/
def WM (P : Program) (md : Region.Mode) (ops : Array Oper) (D : (Nat → Option X) → (Nat → Bool) → World → Prop) (val : Nat → X → Value) (Q : Act → World → Prop) (n : Nat) (g : Nat → Option X) (L : Array Bool) (a : Act) : Prop :=
  anyM P md ops (fun g L w => Closed md ops L ∧ D g (fun j => L.getD j false) w) val (fun g L a' => ∀ w', D g (fun j => L.getD j false) w' → Q a' w') n g L a

variable {D : (Nat → Option X) → (Nat → Bool) → World → Prop} {val : Nat → X → Value} {Q : Act → World → Prop} {n : Nat} {g : Nat → Option X} {L : Array Bool} {a : Act}

theorem WM.nil (hr : Region.ready md ops L = []) (h : ∀ w', D g (fun j => L.getD j false) w' → Q a w') : WM P md ops D val Q 0 g L a := ⟨hr, h⟩

theorem WM.plain (i : Nat) {o : Oper} (v : Value) (ho : ops[i]? = some o) (hs : Region.noSelect ops = true) (hr : (Region.ready md ops L).contains i = true) (hf : Region.free md ops L i = true)
    (h1 : (Region.wanted o (yielded ops a.tmps) = true ∧ ∀ g' f w, Ext g g' → D g' f w → When md ops i f → Gives P o a w v (D g' (add f i))) ∨ (Region.wanted o (yielded ops a.tmps) = false ∧ v = undef ∧ ∀ g' f w, Ext g g' → D g' f w → When md ops i f → D g' (add f i) w))
    (h : WM P md ops D val Q n g (L.setIfInBounds i true) (a.put o.dst v)) : WM P md ops D val Q (n + 1) g L a := by
  have hi : i < ops.size := (Array.getElem?_eq_some_iff.1 ho).1
  refine anyM_first ho (Region.noSelect_spec hs) n g L a (Region.free_spec ho hf) (by simpa using hr) (fun g' hg' => ?_) h
  rcases h1 with ⟨h1, h2⟩ | ⟨h1, h2, h3⟩
  · refine .inl ⟨h1, fun L' w hc hrd => (h2 g' _ w hg' hc.2 (when_of_ready hc.1 hrd)).mono fun w' hw' => ⟨hc.1.set_ hrd, ?_⟩⟩
    rw [add_set (by rw [hc.1.1]; exact hi)]; exact hw'
  · refine .inr ⟨h1, h2, fun L' w hc hrd => ⟨hc.1.set_ hrd, ?_⟩⟩
    rw [add_set (by rw [hc.1.1]; exact hi)]; exact h3 g' _ w hg' hc.2 (when_of_ready hc.1 hrd)

variable {l : List Oper}
theorem WM.skip (i : Nat) {o : Oper} (ho : l[i]? = some o) (hs : Region.noSelect l.toArray = true) (hr : (Region.ready md l.toArray L).contains i = true) (hf : Region.free md l.toArray L i = true) (hw : Region.wanted o (yielded l.toArray a.tmps) = false) (hD : ∀ g' f w, D g' f w → D g' (add f i) w)
    (h : WM P md l.toArray D val Q n g (L.setIfInBounds i true) (a.put o.dst undef)) : WM P md l.toArray D val Q (n + 1) g L a :=
  WM.plain i undef (by simpa using ho) hs hr hf (.inr ⟨hw, rfl, fun g' f w _ hd _ => hD g' f w hd⟩) h

theorem WM.val_ (i : Nat) {o : Oper} (v : Value) (ho : l[i]? = some o) (hs : Region.noSelect l.toArray = true) (hr : (Region.ready md l.toArray L).contains i = true) (hf : Region.free md l.toArray L i = true) (hw : Region.wanted o (yielded l.toArray a.tmps) = true)
    (hrun : ∀ g' f w, Ext g g' → D g' f w → When md l.toArray i f → (execOp a.eval o).run P w = .ok (.value v) w) (hD : ∀ g' f w, D g' f w → D g' (add f i) w)
    (h : WM P md l.toArray D val Q n g (L.setIfInBounds i true) (a.put o.dst v)) : WM P md l.toArray D val Q (n + 1) g L a :=
  WM.plain i v (by simpa using ho) hs hr hf (.inl ⟨hw, fun g' f w hx hd hk => by unfold Gives; rw [hrun g' f w hx hd hk]; exact ⟨rfl, hD g' f w hd⟩⟩) h

theorem WM.call (i : Nat) {o : Oper} (v : Value) (m : FuncId) (args : Array Value) (ho : l[i]? = some o) (hs : Region.noSelect l.toArray = true) (hr : (Region.ready md l.toArray L).contains i = true) (hf : Region.free md l.toArray L i = true) (hw : Region.wanted o (yielded l.toArray a.tmps) = true)
    (hrun : ∀ w, (execOp a.eval o).run P w = .ok (.enter m args) w) (hc : ∀ g' f w, Ext g g' → D g' f w → When md l.toArray i f → Calls P m args w fun e w'' => e = .returned v ∧ D g' (add f i) w'')
    (h : WM P md l.toArray D val Q n g (L.setIfInBounds i true) (a.put o.dst v)) : WM P md l.toArray D val Q (n + 1) g L a :=
  WM.plain i v (by simpa using ho) hs hr hf (.inl ⟨hw, fun g' f w hx hd hk => by unfold Gives; rw [hrun w]; exact hc g' f w hx hd hk⟩) h

/-- A value of fixed form behind which the world is another one. -/
theorem WM.eff (i : Nat) {o : Oper} (v : Value) (ho : l[i]? = some o) (hs : Region.noSelect l.toArray = true) (hr : (Region.ready md l.toArray L).contains i = true) (hf : Region.free md l.toArray L i = true) (hw : Region.wanted o (yielded l.toArray a.tmps) = true)
    (hrun : ∀ g' f w, Ext g g' → D g' f w → When md l.toArray i f → Gives P o a w v (D g' (add f i)))
    (h : WM P md l.toArray D val Q n g (L.setIfInBounds i true) (a.put o.dst v)) : WM P md l.toArray D val Q (n + 1) g L a :=
  WM.plain i v (by simpa using ho) hs hr hf (.inl ⟨hw, hrun⟩) h

theorem gives_skip {o : Oper} {w w' : World} {R : World → Prop} (h : (execOp a.eval o).run P w = .ok .skip w') (hr : R w') : Gives P o a w undef R := by unfold Gives; rw [h]; exact ⟨rfl, hr⟩

/-- One that chooses. -/
def Chooses (P : Program) (md : Region.Mode) (ops : Array Oper) (D : (Nat → Option X) → (Nat → Bool) → World → Prop) (val : Nat → X → Value) (g : Nat → Option X) (a : Act) (i : Nat) (o : Oper) : Prop :=
  Region.wanted o (yielded ops a.tmps) = true ∧ ∀ f w, D g f w → When md ops i f → GivesX P o a w fun v w' => ∃ x, v = val i x ∧ D (upd g i x) (add f i) w'

theorem Chooses.call {i : Nat} {o : Oper} (m : FuncId) (args : Array Value) (hw : Region.wanted o (yielded ops a.tmps) = true) (hrun : ∀ w, (execOp a.eval o).run P w = .ok (.enter m args) w)
    (hc : ∀ f w, D g f w → When md ops i f → Calls P m args w fun e w'' => ∃ x, e = .returned (val i x) ∧ D (upd g i x) (add f i) w'') : Chooses P md ops D val g a i o :=
  ⟨hw, fun f w hd hk => by unfold GivesX; rw [hrun w]; exact (hc f w hd hk).mono fun e w'' ⟨x, he, hx⟩ => ⟨_, he, x, rfl, hx⟩⟩
theorem Chooses.make {i : Nat} {o : Oper} (hw : Region.wanted o (yielded ops a.tmps) = true) (hrun : ∀ f w, D g f w → When md ops i f → ∃ x w', (execOp a.eval o).run P w = .ok (.value (val i x)) w' ∧ D (upd g i x) (add f i) w') : Chooses P md ops D val g a i o :=
  ⟨hw, fun f w hd hk => by
    obtain ⟨x, w', e, hx⟩ := hrun f w hd hk
    unfold GivesX
    rw [e]
    exact ⟨x, rfl, hx⟩⟩

theorem Chooses.sure {i : Nat} {o : Oper} (ho : ops[i]? = some o) (h : Chooses P md ops D val g a i o) : SureM P md ops (fun g L w => Closed md ops L ∧ D g (fun j => L.getD j false) w) val g i o a := by
  have hi : i < ops.size := (Array.getElem?_eq_some_iff.1 ho).1
  refine ⟨h.1, fun L w hc hrd => (h.2 _ w hc.2 (when_of_ready hc.1 hrd)).mono fun v w' ⟨x, hx, hw'⟩ => ⟨x, hx, hc.1.set_ hrd, ?_⟩⟩
  rw [add_set (by rw [hc.1.1]; exact hi)]; exact hw'

/-- Only i may come up, and it chooses. -/
theorem WM.choose (i : Nat) {o : Oper} (ho : l[i]? = some o) (hr : Region.ready md l.toArray L = [i]) (hg : g i = none) (hc : Chooses P md l.toArray D val g a i o)
    (h : ∀ x, WM P md l.toArray D val Q n (upd g i x) (L.setIfInBounds i true) (a.put o.dst (val i x))) : WM P md l.toArray D val Q (n + 1) g L a := by
  refine ⟨fun e => (by rw [hr] at e; cases e), fun k hk => ?_⟩
  rw [hr] at hk
  obtain rfl : k = i := by simpa using hk
  exact ⟨o, by simpa using ho, .inr ⟨hg, hc.sure (by simpa using ho), h⟩⟩

/-- Two may come up, and both choose. -/
theorem WM.choose2 (i j : Nat) {oi oj : Oper} (hoi : l[i]? = some oi) (hoj : l[j]? = some oj) (hr : Region.ready md l.toArray L = [i, j]) (hgi : g i = none) (hgj : g j = none) (hci : Chooses P md l.toArray D val g a i oi) (hcj : Chooses P md l.toArray D val g a j oj)
    (h : ∀ x, WM P md l.toArray D val Q n (upd g i x) (L.setIfInBounds i true) (a.put oi.dst (val i x))) (k : ∀ x, WM P md l.toArray D val Q n (upd g j x) (L.setIfInBounds j true) (a.put oj.dst (val j x))) : WM P md l.toArray D val Q (n + 1) g L a := by
  refine ⟨fun e => (by rw [hr] at e; cases e), fun m hm => ?_⟩
  rw [hr] at hm
  rcases (show m = i ∨ m = j by simpa using hm) with rfl | rfl
  · exact ⟨oi, by simpa using hoi, .inr ⟨hgi, hci.sure (by simpa using hoi), h⟩⟩
  · exact ⟨oj, by simpa using hoj, .inr ⟨hgj, hcj.sure (by simpa using hoj), k⟩⟩

/-- THE RULE. -/
theorem regionM {id : Nat} {Q : Exit → Act → World → Prop} {a : Act} {w : World} {l : List Oper} (D : World → (Nat → Option X) → (Nat → Bool) → World → Prop) (val : Nat → X → Value) (hm : P.follows .mixedOrders = true)
    (h0 : ∀ f, (∀ j, f j = false) → D w (fun _ => none) f (w.drewN 1))
    (h : WM P .any l.toArray (D w) val (Q .normal) l.length (fun _ => none) (Array.replicate l.length false) a) : (Code.region id l.toArray true).wp P Q a w := by
  have hz : Array.replicate l.length false = Array.replicate l.toArray.size false := by simp
  unfold WM at h
  rw [hz] at h
  refine wp_region_any hm (wpAny_of_anyM (C := fun g L w' => Closed .any l.toArray L ∧ D w g (fun j => L.getD j false) w') (val := val)
    (Q := fun g L a' => ∀ w', D w g (fun j => L.getD j false) w' → Q .normal a' w') (fun g L a w hc hq => hq w hc.2) _ (fun _ => none) _ _ _ ⟨Closed.start _ _, h0 _ (fun j => ?_)⟩ (by simpa using h))
  simp only [Array.getD_eq_getD_getElem?, Array.getElem?_replicate]; split <;> rfl
end
end Go.Proofs.Ytkfecbkcghmmhaa.Fx

end

section
/- Classes of worlds for the region rule in which several operations choose: memory of two cells that is made and stored into, and a copied list. -/
namespace Go.Proofs.Ytkfecbkcghmmhaa
open Go.RowKit

/-- What is chosen: a slice's address and capacity, or the place of new memory. -/
abbrev Pick := Option Addr × Nat

/-- The new block that operation c makes holds two cells: v0 and v1 when operation s (the store) has come. -/
def MkM (T : TypeId) (v0 v1 : Value) (c s : Nat) (W : World) (g : Nat → Option Pick) (f : Nat → Bool) (w' : World) : Prop :=
  ∀ x, g c = some x → ∃ b, x.1 = some ⟨b, 0, none⟩ ∧ W.heap.size ≤ b ∧ ∃ e0 e1, Blk w' b T #[e0, e1] ∧ (f s = true → e0 = v0 ∧ e1 = v1)
/-- The list that operation c yields reads so, until operation s (a store) comes. -/
def RdM (size n : Nat) (xs : List Value) (c s : Nat) (g : Nat → Option Pick) (f : Nat → Bool) (w' : World) : Prop := ∀ x, g c = some x → f s = false → Reads w' w'.heap.size size x.1 n xs

theorem add_ne' {f : Nat → Bool} {k s : Nat} (hk : k ≠ s) : Fx.add f k s = f s := by
  unfold Fx.add
  cases h : s.beq k with
  | false => simp
  | true => exact absurd (Nat.eq_of_beq_eq_true h).symm hk
theorem add_same {f : Nat → Bool} {k : Nat} : Fx.add f k k = true := by
  unfold Fx.add
  rw [show Nat.beq k k = true from Nat.beq_refl k]
  rfl
theorem upd_ne {X : Type} {g : Nat → Option X} {i c : Nat} {x : X} (h : c ≠ i) : Fx.upd g i x c = g c := by
  unfold Fx.upd
  cases e : Nat.beq c i with
  | false => rfl
  | true => exact absurd (Nat.eq_of_beq_eq_true e) h

section
variable {T : TypeId} {v0 v1 : Value} {c s k i size n : Nat} {xs : List Value} {W w' w'' : World} {g g' : Nat → Option Pick} {f : Nat → Bool} {x : Pick}
theorem MkM.start : MkM T v0 v1 c s W (fun _ => none) f w' := fun x h => by cases h
theorem RdM.start : RdM size n xs c s (fun _ => none) f w' := fun x h => by cases h
theorem MkM.step (h : MkM T v0 v1 c s W g f w') (hb : Below w'.heap.size w' w'') (hk : k ≠ s) : MkM T v0 v1 c s W g (Fx.add f k) w'' := fun x hx => by
  obtain ⟨b, h0, h1, e0, e1, h2, h3⟩ := h x hx
  exact ⟨b, h0, h1, e0, e1, h2.below hb h2.lt, fun h => h3 (by rwa [add_ne' hk] at h)⟩
theorem RdM.step (h : RdM size n xs c s g f w') (hb : Below w'.heap.size w' w'') (hk : k ≠ s) : RdM size n xs c s g (Fx.add f k) w'' := fun x hx hf => by
  rw [add_ne' hk] at hf
  exact ((h x hx hf).below hb).more hb.size
theorem RdM.stored : RdM size n xs c s g (Fx.add f s) w'' := fun x _ hf => by rw [add_same] at hf; cases hf
theorem MkM.other (h : MkM T v0 v1 c s W g f w') (hc : c ≠ i) : MkM T v0 v1 c s W (Fx.upd g i x) f w' := fun y hy => h y (by rwa [upd_ne hc] at hy)
theorem RdM.other (h : RdM size n xs c s g f w') (hc : c ≠ i) : RdM size n xs c s (Fx.upd g i x) f w' := fun y hy => h y (by rwa [upd_ne hc] at hy)
theorem RdM.new (h : Reads w' w'.heap.size size x.1 n xs) : RdM size n xs c s (Fx.upd g c x) f w' := fun y hy _ => by rw [Fx.upd_same] at hy; cases hy; exact h
theorem MkM.make {a b : Value} (hW : W.heap.size ≤ w'.heap.size) (hs : f s = false) (hk : c ≠ s) : MkM T v0 v1 c s W (Fx.upd g c (some ⟨w'.heap.size, 0, none⟩, 0)) (Fx.add f c) (w'.alloc (.cells #[a, b] T)) := fun y hy => by
  rw [Fx.upd_same] at hy
  cases hy
  refine ⟨w'.heap.size, rfl, hW, a, b, Blk.new _ _ _, fun h => ?_⟩
  rw [add_ne' hk, hs] at h
  cases h
theorem MkM.cells (h : MkM T v0 v1 c s W g f w') (hx : g c = some x) : ∃ b e0 e1, x.1 = some ⟨b, 0, none⟩ ∧ W.heap.size ≤ b ∧ w'.cell? ⟨b, 0, none⟩ = some e0 ∧ w'.cell? ⟨b, 1, none⟩ = some e1 ∧ w'.frozen? ⟨b, 0, none⟩ = false ∧ w'.frozen? ⟨b, 1, none⟩ = false := by
  obtain ⟨b, h0, h1, e0, e1, h2, -⟩ := h x hx
  exact ⟨b, e0, e1, h0, h1, h2.cell 0, h2.cell 1, h2.frozen 0, h2.frozen 1⟩
/-- The store, seen by the block that it stores into. -/
theorem MkM.store {b : Nat} (h : MkM T v0 v1 c s W g f w') (hx : g c = some x) (hb : x.1 = some ⟨b, 0, none⟩) : MkM T v0 v1 c s W g (Fx.add f s) ((w'.setCell ⟨b, 0, none⟩ v0).setCell ⟨b, 1, none⟩ v1) := fun y hy => by
  rw [hx] at hy
  cases hy
  obtain ⟨b', h0, h1, e0, e1, h2, -⟩ := h x hx
  rw [hb] at h0
  cases h0
  refine ⟨b, hb, h1, v0, v1, ?_, fun _ => ⟨rfl, rfl⟩⟩
  have := (h2.set_ 0 v0).set_ 1 v1
  simpa using this
/-- A store, seen by another block. -/
theorem MkM.far {b : Nat} {u0 u1 : Value} (h : MkM T v0 v1 c s W g f w') (hk : k ≠ s) (hne : ∀ x b', g c = some x → x.1 = some ⟨b', 0, none⟩ → b' ≠ b) : MkM T v0 v1 c s W g (Fx.add f k) ((w'.setCell ⟨b, 0, none⟩ u0).setCell ⟨b, 1, none⟩ u1) := fun y hy => by
  obtain ⟨b', h0, h1, e0, e1, h2, h3⟩ := h y hy
  have hn := hne y b' hy h0
  exact ⟨b', h0, h1, e0, e1, (h2.far (p := ⟨b, 0, none⟩) hn u0).far (p := ⟨b, 1, none⟩) hn u1, fun h => h3 (by rwa [add_ne' hk] at h)⟩
theorem MkM.lt {b : Nat} (h : MkM T v0 v1 c s W g f w') (hx : g c = some x) (hb : x.1 = some ⟨b, 0, none⟩) : b < w'.heap.size := by
  obtain ⟨b', h0, -, e0, e1, h2, -⟩ := h x hx
  rw [hb] at h0
  cases h0
  exact h2.lt
/-- New memory is another block. -/
theorem MkM.fresh (h : MkM T v0 v1 c s W g f w') (hc : c ≠ i) (x y : Pick) (bx by_ : Nat) (h1 : Fx.upd g i (some ⟨w'.heap.size, 0, none⟩, 0) c = some x) (h2 : Fx.upd g i (some ⟨w'.heap.size, 0, none⟩, 0) i = some y) (e1 : x.1 = some ⟨bx, 0, none⟩) (e2 : y.1 = some ⟨by_, 0, none⟩) : bx ≠ by_ := by
  rw [upd_ne hc] at h1
  rw [Fx.upd_same] at h2
  cases h2
  cases e2
  have := h.lt h1 e1
  omega
theorem below_store {b : Nat} {u0 u1 : Value} (h : Below W.heap.size W w') (hb : W.heap.size ≤ b) : Below W.heap.size W ((w'.setCell ⟨b, 0, none⟩ u0).setCell ⟨b, 1, none⟩ u1) :=
  (h.setCell (p := ⟨b, 0, none⟩) hb u0).setCell (p := ⟨b, 1, none⟩) hb u1
theorem MkM.end_ (h : MkM T v0 v1 c s W g f w') (hx : g c = some x) (hf : f s = true) : ∃ b, x.1 = some ⟨b, 0, none⟩ ∧ W.heap.size ≤ b ∧ Blk w' b T #[v0, v1] := by
  obtain ⟨b, h0, h1, e0, e1, h2, h3⟩ := h x hx
  obtain ⟨rfl, rfl⟩ := h3 hf
  exact ⟨b, h0, h1, h2⟩
end

/-- Two orders end alike: what comes behind is walked once. -/
theorem share {α β γ : Type} {Fact : α → β → γ → Prop} {G : Prop} {F : α → β → γ → Prop} (main : (∀ x z w, Fact x z w → F x z w) → G) (rest : ∀ x z w, Fact x z w → F x z w) : G := main rest

end Go.Proofs.Ytkfecbkcghmmhaa

end

section
/- Contracts of the rounded divisions, and of the product of two fractions that may have great parts. -/
namespace Go.Proofs.Ytkfecbkcghmmhaa
open Go.RowKit

/-- The product of two fractions whose parts are above 0, each taken against the other. -/
def timesF (a b c d : Int) : (Int × Int) × Bool :=
  if 1000000000 < a / (Int.gcd a d : Int) * (c / (Int.gcd c b : Int)) ∨ 1000000000 < b / (Int.gcd c b : Int) * (d / (Int.gcd a d : Int)) then ((0, 0), false)
  else ((a / (Int.gcd a d : Int) * (c / (Int.gcd c b : Int)), b / (Int.gcd c b : Int) * (d / (Int.gcd a d : Int))), true)

end Go.Proofs.Ytkfecbkcghmmhaa

end

section
/- Lists that are known to read so, from one named world to the next. -/
namespace Go.Proofs.Ytkfecbkcghmmhaa
open Go.RowKit

section
variable {w W W1 : World}
theorem reads_mid (_ : Below W.heap.size W W1) {wa : World} (h : Below wa.heap.size wa W) : Below wa.heap.size wa W := h
theorem reads_lay (hb : Below W.heap.size W W1) {wa : World} (ha : Below wa.heap.size wa W) {s n : Nat} {A : Option Addr} {xs : List Value} (h : Reads wa wa.heap.size s A n xs) : Reads W1 W1.heap.size s A n xs :=
  ((h.below ha).below (hb.mono ha.size)).more (Nat.le_trans ha.size hb.size)
end
end Go.Proofs.Ytkfecbkcghmmhaa

end

section
/- The plain law of tables: what a search by halves finds is what a search row by row finds. -/
namespace Go.Proofs.Ytkfecbkcghmmhaa
open Go.RowKit

def mil (z : Int) : Bool := withinB z (-1000000) 1000000
/-- The error of a row behind another one. -/
def rowErr (prev : Option Int) (p : Int × Int) : Int :=
  if mil p.1 = false ∨ mil p.2 = false then 2 else match prev with
    | some q => if p.1 ≤ q then 9 else 0
    | none => 0
def rowsErr : Option Int → List (Int × Int) → Int
  | _, [] => 0
  | prev, p :: l => if rowErr prev p ≠ 0 then rowErr prev p else rowsErr (some p.1) l
/-- The error of a table. -/
def tabErr (l : List (Int × Int)) : Int := if l.length < 1 ∨ 40 < l.length then 10 else rowsErr none l

def prevOf (l : List (Int × Int)) (k : Nat) : Option Int := if k = 0 then none else (l[k - 1]?).map (·.1)

theorem rowsErr_at : ∀ (l : List (Int × Int)) (k : Nat) (prev : Option Int), (∀ j, j < k → ∀ p, l[j]? = some p → rowErr (if j = 0 then prev else (l[j - 1]?).map (·.1)) p = 0) →
    rowsErr prev l = rowsErr (if k = 0 then prev else if k ≤ l.length then (l[k - 1]?).map (·.1) else (l[l.length - 1]?).map (·.1)) (l.drop k) ∨ l = []
  | [], k, prev, _ => .inr rfl
  | p :: l, 0, prev, _ => .inl (by simp)
  | p :: l, k + 1, prev, h => by
    left
    have h0 := h 0 (by omega) p rfl
    simp only [if_true] at h0
    rw [rowsErr, if_neg (by rw [h0]; simp)]
    cases l with
    | nil => simp [rowsErr]
    | cons q l =>
      have := rowsErr_at (q :: l) k (some p.1) (fun j hj x hx => by
        have := h (j + 1) (by omega) x (by simpa using hx)
        rw [if_neg (by omega), Nat.add_sub_cancel] at this
        cases j with
        | zero => simpa using this
        | succ j => simpa using this)
      rcases this with e | e
      · rw [e]
        congr 1
        cases k with
        | zero => simp
        | succ k =>
          simp only [Nat.add_eq_zero_iff, Nat.succ_ne_zero, and_false, if_false]
          simp
      · cases e

/-- The value of a table behind a row. -/
def tabGo (p : Int × Int) : List (Int × Int) → Int → Int
  | [], _ => p.2
  | q :: t, x => if x < q.1 then p.2 + (q.2 - p.2) * (x - p.1) / (q.1 - p.1) else tabGo q t x
/-- The value of a table at a place. -/
def tabAt (l : List (Int × Int)) (x : Int) : Int := match l with
  | [] => 0
  | p :: t => if x ≤ p.1 then p.2 else tabGo p t x

end Go.Proofs.Ytkfecbkcghmmhaa

end

section
/- Contracts of the small functions of the package of pointing: bounds of lists, the greatest common divisor, rounding, the first error. -/
namespace Go.Proofs.Ytkfecbkcghmmhaa
open Go Go.RowKit



/-- A function value that has captured a pointer and asks something of a number, and changes nothing. -/
structure AsksP (k : FuncId) (vb : Nat) (pr : Int → Bool) (P : World → Prop) : Prop where
  ent : ∀ (args : Array Value) (w : World), (callFunc k args).run Try.prog w = .ok (.enter k args) w
  call : ∀ (z : Int) (t : Bool) (w : World), pr z = t → P w → Calls Try.prog k #[.int .i64 z, .pointer (some ⟨vb, 0, none⟩)] w fun e w' => e = .returned (.bool t) ∧ w = w'

/-- Whether no number is greater in size than a limit. -/
def smallL (m : Int) (l : List Int) : Bool := l.all fun z => withinB z (-m) m


/-- The first error of some. -/
def orE : List Int → Int
  | [] => 0
  | a :: l => if a ≠ 0 then a else orE l
/-- The way from one place to another, and its cost. -/
def wayF (a b : Int) : Int := ((a - b).natAbs : Int)
def costF (a b : Int) : Int := if 648000 < wayF a b then wayF a b + 10000000000 else wayF a b
def PosR (a : Int) : Prop := -100000000000 ≤ a ∧ a ≤ 100000000000




end Go.Proofs.Ytkfecbkcghmmhaa

end

section
/- Contracts of the tables of the package of pointing: the check, the search by halves, the value. -/
namespace Go.Proofs.Ytkfecbkcghmmhaa
open Go Go.RowKit

/-- The first rows are right. -/
def TabUp (l : List (Int × Int)) (k : Nat) : Prop := ∀ j, j < k → ∀ p, l[j]? = some p → rowErr (prevOf l j) p = 0
theorem TabUp.step {l : List (Int × Int)} {k : Nat} {p : Int × Int} (h : TabUp l k) (hp : l[k]? = some p) (h0 : rowErr (prevOf l k) p = 0) : TabUp l (k + 1) := fun j hj q hq => by
  rcases Nat.lt_or_ge j k with hlt | hge
  · exact h j hlt q hq
  · obtain rfl : j = k := by omega
    rw [hp] at hq
    cases hq
    exact h0
theorem TabUp.stop {l : List (Int × Int)} {k : Nat} {p : Int × Int} {E : Int} (h : TabUp l k) (hp : l[k]? = some p) (hl : ¬ (l.length < 1 ∨ 40 < l.length)) (h0 : rowErr (prevOf l k) p = E) (hE : E ≠ 0) : tabErr l = E := by
  obtain ⟨hk, he⟩ := List.getElem?_eq_some_iff.1 hp
  unfold tabErr
  rw [if_neg hl]
  rcases rowsErr_at l k none (fun j hj q hq => h j hj q hq) with e | e
  · rw [e, if_pos (show k ≤ l.length by omega), List.drop_eq_getElem_cons hk, he]
    have : (if k = 0 then none else (l[k - 1]?).map (·.1)) = prevOf l k := rfl
    rw [this, rowsErr, h0, if_pos hE]
  · subst e; simp at hl
theorem TabUp.all {l : List (Int × Int)} (h : TabUp l l.length) (hl : ¬ (l.length < 1 ∨ 40 < l.length)) : tabErr l = 0 := by
  unfold tabErr
  rw [if_neg hl]
  rcases rowsErr_at l l.length none (fun j hj q hq => h j hj q hq) with e | e
  · rw [e, List.drop_length]; rfl
  · subst e; simp at hl
/-- Where a search by halves ends: all before i lie before x, all from i on at or behind it. -/
def Cut (l : List (Int × Int)) (x : Int) (i j : Nat) : Prop := (∀ q p, q < i → l[q]? = some p → p.1 < x) ∧ (∀ q p, j ≤ q → l[q]? = some p → x ≤ p.1)
theorem pairwise_lt {l : List (Int × Int)} (hs : l.Pairwise (fun a b => a.1 < b.1)) {i j : Nat} {p q : Int × Int} (hp : l[i]? = some p) (hq : l[j]? = some q) (h : i < j) : p.1 < q.1 := by
  obtain ⟨h1, e1⟩ := List.getElem?_eq_some_iff.1 hp
  obtain ⟨h2, e2⟩ := List.getElem?_eq_some_iff.1 hq
  have := (List.pairwise_iff_getElem.1 hs) i j h1 h2 h
  rw [e1, e2] at this
  exact this
theorem Cut.left {l : List (Int × Int)} {x : Int} {i j h : Nat} {p : Int × Int} (hc : Cut l x i j) (hs : l.Pairwise (fun a b => a.1 < b.1)) (hp : l[h]? = some p) (hlt : p.1 < x) : Cut l x (h + 1) j :=
  ⟨fun q r hq hr => by
    rcases Nat.lt_or_ge q h with hh | hh
    · have := pairwise_lt hs hr hp hh; omega
    · obtain rfl : q = h := by omega
      rw [hp] at hr; cases hr; exact hlt, hc.2⟩
theorem Cut.right {l : List (Int × Int)} {x : Int} {i j h : Nat} {p : Int × Int} (hc : Cut l x i j) (hs : l.Pairwise (fun a b => a.1 < b.1)) (hp : l[h]? = some p) (hge : x ≤ p.1) : Cut l x i h :=
  ⟨hc.1, fun q r hq hr => by
    rcases Nat.lt_or_ge h q with hh | hh
    · have := pairwise_lt hs hp hr hh; omega
    · obtain rfl : q = h := by omega
      rw [hp] at hr; cases hr; exact hge⟩

end Go.Proofs.Ytkfecbkcghmmhaa

end

section
/- The value of a right table, as the package of pointing finds it. -/
namespace Go.Proofs.Ytkfecbkcghmmhaa
open Go Go.RowKit

end Go.Proofs.Ytkfecbkcghmmhaa

end

section
/- Contracts of the tables: TableAt of the package of pointing, and the reference's check and value. -/
namespace Go.Proofs.Ytkfecbkcghmmhaa
open Go Go.RowKit

end Go.Proofs.Ytkfecbkcghmmhaa

end

section
/- Contracts of the reference's searches of names: what a name is, the number of a rocker, whether a text is in a list. -/
namespace Go.Proofs.Ytkfecbkcghmmhaa
open Go.RowKit

def digitB (c : Nat) : Bool := decide (48 ≤ c ∧ c ≤ 57)
/-- The number of a rocker, or -1. -/
def findI (l : List Rk) (s : ByteArray) : Int := match idxOf l s with | some i => (i : Int) | none => -1
theorem toList_inj {a b : ByteArray} (h : a.toList = b.toList) : a = b := by
  rw [ByteArray.toList_eq, ByteArray.toList_eq] at h
  cases a; cases b
  congr
  exact Array.toList_inj.1 h
/-- Texts as cells. -/
def strs (ps : List ByteArray) : List Value := ps.map .string
/-- Whether a text is in a list. -/
def hasB (xs : List ByteArray) (s : ByteArray) : Bool := xs.any fun x => decide (x = s)
end Go.Proofs.Ytkfecbkcghmmhaa

end

section
/- Contracts of the checks of mountings, targets and days, the package's and the reference's. -/
namespace Go.Proofs.Ytkfecbkcghmmhaa
open Go Go.RowKit

/-- A mounting in memory. -/
structure Mnt where
  ls : Int
  ms : Int
  lo : Int
  hi : Int
  sp : Int
  A1 : Option Addr
  n1 : Nat
  c1 : Nat
  l1 : List (Int × Int)
  A2 : Option Addr
  n2 : Nat
  c2 : Nat
  l2 : List (Int × Int)
def Mnt.val (m : Mnt) : Value := .agg #[.int .i64 m.ls, .int .i64 m.ms, .int .i64 m.lo, .int .i64 m.hi, .int .i64 m.sp, .slice m.A1 m.n1 m.c1, .slice m.A2 m.n2 m.c2]
structure MntAt (m : Mnt) (w : World) : Prop where
  r1 : Reads w w.heap.size 2 m.A1 m.n1 (cells2 m.l1)
  r2 : Reads w w.heap.size 2 m.A2 m.n2 (cells2 m.l2)
  b1 : m.n1 ≤ 9223372036854775807
  b2 : m.n2 ≤ 9223372036854775807
theorem MntAt.lay {m : Mnt} {w w' : World} (h : MntAt m w) (hb : Below w.heap.size w w') : MntAt m w' := ⟨(h.r1.below hb).more hb.size, (h.r2.below hb).more hb.size, h.b1, h.b2⟩
theorem MntAt.len2 {m : Mnt} {w : World} (h : MntAt m w) : m.l2.length = m.n2 := by have := h.r2.1; rw [cells2_length] at this; omega
def Mnt.rng (m : Mnt) : Bool := smallL 25920000 [m.ls, m.ms] && withinB m.lo 0 324000 && withinB m.hi 0 324000 && withinB m.sp 1 1000000
/-- The error of a mounting. -/
def mntErr (m : Mnt) : Int := if m.rng = false then 2 else if m.ms < m.ls ∨ m.hi < m.lo then 9 else orE [tabErr m.l1, tabErr m.l2]

end Go.Proofs.Ytkfecbkcghmmhaa

end

section
/- Contracts of the checks of targets and days, and of the reference's checks of mountings and targets. -/
namespace Go.Proofs.Ytkfecbkcghmmhaa
open Go Go.RowKit

/-- A target. -/
structure Tgt where
  name : ByteArray
  az : Int
  ht : Int
  fr : Int
  to : Int
  dw : Int
def Tgt.val (t : Tgt) : Value := .agg #[.string t.name, .int .i64 t.az, .int .i64 t.ht, .int .i64 t.fr, .int .i64 t.to, .int .i64 t.dw]
def Tgt.rng (t : Tgt) : Bool := withinB t.az 0 1295999 && withinB t.ht 0 324000 && withinB t.fr 0 10000000 && withinB t.to 0 10000000 && withinB t.dw 1 10000
/-- The error of a target. -/
def tgtErr (t : Tgt) : Int := if nameB t.name = false then 4 else if t.rng = false then 2 else if t.to ≤ t.fr then 9 else 0

def dayErr (n : Int) : Int := if withinB n 0 100000 then 0 else 2
end Go.Proofs.Ytkfecbkcghmmhaa

end

section
/- Contracts of the apparent place of a target, the package's and the reference's. -/
namespace Go.Proofs.Ytkfecbkcghmmhaa
open Go Go.RowKit

/-- The apparent place. -/
def appF (m : Mnt) (t : Tgt) (day : Int) : Int × Int := ((t.az + tabAt m.l2 day) % 1296000, t.ht + tabAt m.l1 t.ht)
end Go.Proofs.Ytkfecbkcghmmhaa

end

section
/- The contracts of all shares of a tree, and of Shares. -/
namespace Go.Proofs.Ytkfecbkcghmmhaa
open Go.RowKit

/-- The name of the top. -/
def topName (l : List Rk) : ByteArray := ((l[topOf l]?).map (·.name)).getD ByteArray.empty
def sharesOf (l : List Rk) : Option (List (Int × Int)) := sh l l.length (topName l) 1 1

def AllPost (l : List Rk) (base : Nat) (w : World) (e : Ending) (w' : World) : Prop :=
  Below w.heap.size w w' ∧ ∃ v', e = .returned (.tuple #[v', .bool (sharesOf l).isSome]) ∧ ∀ ys, sharesOf l = some ys → w'.ownsRow base 42 2 v' ys.length (cells2 ys)

/-- What lies below the top, as the tree of a list has it. -/
def ptsOf (l : List Rk) : Option (List ByteArray) := pts l l.length (topName l)

def SharesPost (l : List Rk) (base : Nat) (w : World) (e : Ending) (w' : World) : Prop :=
  Below w.heap.size w w' ∧ (openErr l ≠ 0 → e = .returned (.tuple #[.slice none 0 0, .int .i64 (openErr l)])) ∧
  (openErr l = 0 → sharesOf l = none → e = .returned (.tuple #[.slice none 0 0, .int .i64 8])) ∧
  (openErr l = 0 → ∀ ys, sharesOf l = some ys → ∃ v, e = .returned (.tuple #[v, .int .i64 0]) ∧ w'.ownsRow base 42 2 v ys.length (cells2 ys))






end Go.Proofs.Ytkfecbkcghmmhaa

end
