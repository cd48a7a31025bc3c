import Derived.Test.YtclnffpfbngjoaaQ3
import Derived.Test.YtclnffpfbngjoaaQ1
import Derived.Test.YtclnffpfbngjoaaQ2

section
/- A rule for a region whose order is left open and in which several operations choose: a call whose result is only known to exist, memory that is made at a place that is not known ahead. The walk goes in an order of one's own. -/
namespace Go.Proofs.Ytclnffpfbngjoaa.Fx
open Go Go.RowKit

section
variable {P : Program} {ops : Array Oper} {md : Region.Mode} {X : Type}

/-- What has been chosen, by the number of the operation. -/
def upd (g : Nat → Option X) (i : Nat) (x : X) : Nat → Option X := fun j => if Nat.beq j i then some x else g j
def Ext (g g' : Nat → Option X) : Prop := ∀ c x, g c = some x → g' c = some x
theorem Ext.refl (g : Nat → Option X) : Ext g g := fun _ _ h => h
theorem Ext.trans {g g' g'' : Nat → Option X} (h : Ext g g') (k : Ext g' g'') : Ext g g'' := fun c x e => k c x (h c x e)
theorem Ext.upd {g : Nat → Option X} {i : Nat} (hi : g i = none) (x : X) : Ext g (upd g i x) := fun c y e => by
  unfold Fx.upd
  cases h : Nat.beq c i with
  | false => simpa using e
  | true => rw [Nat.eq_of_beq_eq_true h] at e; rw [hi] at e; cases e
theorem upd_same {g : Nat → Option X} {i : Nat} {x : X} : upd g i x i = some x := by
  unfold upd
  rw [show Nat.beq i i = true from Nat.beq_refl i]
  rfl

def SureM (P : Program) (md : Region.Mode) (ops : Array Oper) (C : (Nat → Option X) → Array Bool → World → Prop) (val : Nat → X → Value) (g : Nat → Option X) (i : Nat) (o : Oper) (a : Act) : Prop :=
  Region.wanted o (yielded ops a.tmps) = true ∧ ∀ L w, C g L w → i ∈ Region.ready md ops L → GivesX P o a w fun v w' => ∃ x, v = val i x ∧ C (upd g i x) (L.setIfInBounds i true) w'

theorem SureM.same {C : (Nat → Option X) → Array Bool → World → Prop} {val : Nat → X → Value} {g : Nat → Option X} {i : Nat} {o : Oper} {a a' : Act} (h : SureM P md ops C val g i o a) (he : execOp a'.eval o = execOp a.eval o)
    (hw : Region.wanted o (yielded ops a'.tmps) = Region.wanted o (yielded ops a.tmps)) : SureM P md ops C val g i o a' :=
  ⟨hw.trans h.1, fun L w hc hr => (h.2 L w hc hr).congr he⟩

def anyM (P : Program) (md : Region.Mode) (ops : Array Oper) (C : (Nat → Option X) → Array Bool → World → Prop) (val : Nat → X → Value) (Q : (Nat → Option X) → Array Bool → Act → Prop) : Nat → (Nat → Option X) → Array Bool → Act → Prop
  | 0, g, L, a => Region.ready md ops L = [] ∧ Q g L a
  | n + 1, g, L, a => (Region.ready md ops L = [] → Q g L a) ∧
      ∀ i ∈ Region.ready md ops L, ∃ o, ops[i]? = some o ∧ ((∃ v, Sure P md ops (C g) i o v a ∧ anyM P md ops C val Q n g (L.setIfInBounds i true) (a.put o.dst v)) ∨
        (g i = none ∧ SureM P md ops C val g i o a ∧ ∀ x, anyM P md ops C val Q n (upd g i x) (L.setIfInBounds i true) (a.put o.dst (val i x))))

theorem wpAny_of_anyM {C : (Nat → Option X) → Array Bool → World → Prop} {val : Nat → X → Value} {Q : (Nat → Option X) → Array Bool → Act → Prop} {Q' : Exit → Act → World → Prop} (hQ : ∀ g L a w, C g L w → Q g L a → Q' .normal a w) :
    ∀ (n : Nat) (g : Nat → Option X) (L : Array Bool) (a : Act) (w : World), C g L w → anyM P md ops C val Q n g L a → wpAny P md ops Q' n L a w
  | 0, _, _, _, _, hc, h => ⟨h.1, hQ _ _ _ _ hc h.2⟩
  | n + 1, g, L, a, w, hc, h => ⟨fun h0 => hQ _ _ _ _ hc (h.1 h0), fun i hi => by
      obtain ⟨o, ho, hcs⟩ := h.2 i hi
      unfold wpOp
      simp only [ho]
      rcases hcs with ⟨v, hs, hn⟩ | ⟨-, hs, hn⟩
      · rcases hs with ⟨h1, h2⟩ | ⟨h1, h2, h3⟩
        · rw [if_pos h1]
          exact .inl ((h2 L w hc hi).wp fun w' hw' => wpAny_of_anyM hQ n _ _ _ w' hw' hn)
        · rw [if_neg (by rw [h1]; exact Bool.false_ne_true)]
          subst h2
          exact wpAny_of_anyM hQ n _ _ _ w (h3 L w hc hi) hn
      · rw [if_pos hs.1]
        exact .inl ((hs.2 L w hc hi).wp fun v w' ⟨x, hv, hw'⟩ => by subst hv; exact wpAny_of_anyM hQ n _ _ _ w' hw' (hn x))⟩

/-- What may come up may be taken first, if all that could come before it is apart from it. -/
theorem anyM_first {C : (Nat → Option X) → Array Bool → World → Prop} {val : Nat → X → Value} {Q : (Nat → Option X) → Array Bool → Act → Prop} {i : Nat} {oi : Oper} {v : Value} (hi : ops[i]? = some oi) (hsel : ∀ (j : Nat) (o : Oper) cs b, ops[j]? = some o → o.op ≠ .select cs b) :
    ∀ (n : Nat) (g : Nat → Option X) (L : Array Bool) (a : Act),
      (∀ j oj, ops[j]? = some oj → j ≠ i → L.getD j true = false → (∀ e ∈ oj.after, Region.binds md e = true → e.on ≠ i) → oi.apart ops oj = true) →
      i ∈ Region.ready md ops L → (∀ g', Ext g g' → Sure P md ops (C g') i oi v a) →
      anyM P md ops C val Q n g (L.setIfInBounds i true) (a.put oi.dst v) → anyM P md ops C val Q (n + 1) g L a := by
  intro n
  induction n with
  | zero =>
    intro g L a _ hr hs H
    refine ⟨fun h => (by rw [h] at hr; cases hr), fun j hj => ?_⟩
    by_cases hji : j = i
    · subst hji; exact ⟨oi, hi, .inl ⟨v, hs g (Ext.refl g), H⟩⟩
    · have := ready_mono hj hji
      rw [H.1] at this
      cases this
  | succ n ih =>
    intro g L a hfree hr hs H
    refine ⟨fun h => (by rw [h] at hr; cases hr), fun j hj => ?_⟩
    by_cases hji : j = i
    · subst hji; exact ⟨oi, hi, .inl ⟨v, hs g (Ext.refl g), H⟩⟩
    · obtain ⟨oj, hoj, hcs⟩ := H.2 j (ready_mono hj hji)
      obtain ⟨hjun, oj', hoj', hall⟩ := mem_ready.1 hj
      obtain rfl : oj' = oj := Option.some.inj (hoj'.symm.trans hoj)
      have hnot : ∀ e ∈ oj'.after, Region.binds md e = true → e.on ≠ i := fun e he hb heq => by
        have h1 := hall e he hb
        have h0 := (mem_ready.1 hr).1
        rw [heq] at h1
        rcases Nat.lt_or_ge i L.size with h' | h'
        · simp [h'] at h0 h1; rw [h0] at h1; cases h1
        · simp [Array.getElem?_eq_none h'] at h1
      obtain ⟨a1, a2, a3⟩ := Oper.apart_spec (hfree j oj' hoj hji hjun hnot)
      have key : ∀ (g' : Nat → Option X) (u : Value), Ext g g' → anyM P md ops C val Q n g' ((L.setIfInBounds i true).setIfInBounds j true) ((a.put oi.dst v).put oj'.dst u) → anyM P md ops C val Q (n + 1) g' (L.setIfInBounds j true) (a.put oj'.dst u) := fun g' u hx hn => by
        refine ih g' _ _ (fun k ok hk hki hun hno => hfree k ok hk hki ?_ hno) (ready_mono hr (Ne.symm hji))
          (fun g'' hg'' => (hs g'' (hx.trans hg'')).same (execOp_put oi (fun cs b => hsel i oi cs b hi) a oj'.dst u a3) (wanted_put oi a oj'.dst u a3)) ?_
        · by_cases hjk : j = k
          · subst hjk; exact hjun
          · rw [getD_set_ne true hjk] at hun; exact hun
        · rw [Array.setIfInBounds_comm _ _ hji, ← Act.put_comm a v u a2]
          exact hn
      refine ⟨oj', hoj, ?_⟩
      rcases hcs with ⟨u, hsj, hn⟩ | ⟨hg, hsj, hn⟩
      · exact .inl ⟨u, hsj.same (execOp_put oj' (fun cs b => hsel j oj' cs b hoj) a oi.dst v a1).symm (wanted_put oj' a oi.dst v a1).symm, key g u (Ext.refl g) hn⟩
      · exact .inr ⟨hg, hsj.same (execOp_put oj' (fun cs b => hsel j oj' cs b hoj) a oi.dst v a1).symm (wanted_put oj' a oi.dst v a1).symm, fun x => key (upd g j x) (val j x) (Ext.upd hg x) (hn x)⟩

/-- The walk: n operations are left, g has been chosen, L has come. -/
def WM (P : Program) (md : Region.Mode) (ops : Array Oper) (D : (Nat → Option X) → (Nat → Bool) → World → Prop) (val : Nat → X → Value) (Q : Act → World → Prop) (n : Nat) (g : Nat → Option X) (L : Array Bool) (a : Act) : Prop :=
  anyM P md ops (fun g L w => Closed md ops L ∧ D g (fun j => L.getD j false) w) val (fun g L a' => ∀ w', D g (fun j => L.getD j false) w' → Q a' w') n g L a

variable {D : (Nat → Option X) → (Nat → Bool) → World → Prop} {val : Nat → X → Value} {Q : Act → World → Prop} {n : Nat} {g : Nat → Option X} {L : Array Bool} {a : Act}

theorem WM.nil (hr : Region.ready md ops L = []) (h : ∀ w', D g (fun j => L.getD j false) w' → Q a w') : WM P md ops D val Q 0 g L a := ⟨hr, h⟩

theorem WM.plain (i : Nat) {o : Oper} (v : Value) (ho : ops[i]? = some o) (hs : Region.noSelect ops = true) (hr : (Region.ready md ops L).contains i = true) (hf : Region.free md ops L i = true)
    (h1 : (Region.wanted o (yielded ops a.tmps) = true ∧ ∀ g' f w, Ext g g' → D g' f w → When md ops i f → Gives P o a w v (D g' (add f i))) ∨ (Region.wanted o (yielded ops a.tmps) = false ∧ v = undef ∧ ∀ g' f w, Ext g g' → D g' f w → When md ops i f → D g' (add f i) w))
    (h : WM P md ops D val Q n g (L.setIfInBounds i true) (a.put o.dst v)) : WM P md ops D val Q (n + 1) g L a := by
  have hi : i < ops.size := (Array.getElem?_eq_some_iff.1 ho).1
  refine anyM_first ho (Region.noSelect_spec hs) n g L a (Region.free_spec ho hf) (by simpa using hr) (fun g' hg' => ?_) h
  rcases h1 with ⟨h1, h2⟩ | ⟨h1, h2, h3⟩
  · refine .inl ⟨h1, fun L' w hc hrd => (h2 g' _ w hg' hc.2 (when_of_ready hc.1 hrd)).mono fun w' hw' => ⟨hc.1.set_ hrd, ?_⟩⟩
    rw [add_set (by rw [hc.1.1]; exact hi)]; exact hw'
  · refine .inr ⟨h1, h2, fun L' w hc hrd => ⟨hc.1.set_ hrd, ?_⟩⟩
    rw [add_set (by rw [hc.1.1]; exact hi)]; exact h3 g' _ w hg' hc.2 (when_of_ready hc.1 hrd)

variable {l : List Oper}
theorem WM.skip (i : Nat) {o : Oper} (ho : l[i]? = some o) (hs : Region.noSelect l.toArray = true) (hr : (Region.ready md l.toArray L).contains i = true) (hf : Region.free md l.toArray L i = true) (hw : Region.wanted o (yielded l.toArray a.tmps) = false) (hD : ∀ g' f w, D g' f w → D g' (add f i) w)
    (h : WM P md l.toArray D val Q n g (L.setIfInBounds i true) (a.put o.dst undef)) : WM P md l.toArray D val Q (n + 1) g L a :=
  WM.plain i undef (by simpa using ho) hs hr hf (.inr ⟨hw, rfl, fun g' f w _ hd _ => hD g' f w hd⟩) h

theorem WM.val_ (i : Nat) {o : Oper} (v : Value) (ho : l[i]? = some o) (hs : Region.noSelect l.toArray = true) (hr : (Region.ready md l.toArray L).contains i = true) (hf : Region.free md l.toArray L i = true) (hw : Region.wanted o (yielded l.toArray a.tmps) = true)
    (hrun : ∀ g' f w, Ext g g' → D g' f w → When md l.toArray i f → (execOp a.eval o).run P w = .ok (.value v) w) (hD : ∀ g' f w, D g' f w → D g' (add f i) w)
    (h : WM P md l.toArray D val Q n g (L.setIfInBounds i true) (a.put o.dst v)) : WM P md l.toArray D val Q (n + 1) g L a :=
  WM.plain i v (by simpa using ho) hs hr hf (.inl ⟨hw, fun g' f w hx hd hk => by unfold Gives; rw [hrun g' f w hx hd hk]; exact ⟨rfl, hD g' f w hd⟩⟩) h

theorem WM.call (i : Nat) {o : Oper} (v : Value) (m : FuncId) (args : Array Value) (ho : l[i]? = some o) (hs : Region.noSelect l.toArray = true) (hr : (Region.ready md l.toArray L).contains i = true) (hf : Region.free md l.toArray L i = true) (hw : Region.wanted o (yielded l.toArray a.tmps) = true)
    (hrun : ∀ w, (execOp a.eval o).run P w = .ok (.enter m args) w) (hc : ∀ g' f w, Ext g g' → D g' f w → When md l.toArray i f → Calls P m args w fun e w'' => e = .returned v ∧ D g' (add f i) w'')
    (h : WM P md l.toArray D val Q n g (L.setIfInBounds i true) (a.put o.dst v)) : WM P md l.toArray D val Q (n + 1) g L a :=
  WM.plain i v (by simpa using ho) hs hr hf (.inl ⟨hw, fun g' f w hx hd hk => by unfold Gives; rw [hrun w]; exact hc g' f w hx hd hk⟩) h

/-- A value of fixed form behind which the world is another one. -/
theorem WM.eff (i : Nat) {o : Oper} (v : Value) (ho : l[i]? = some o) (hs : Region.noSelect l.toArray = true) (hr : (Region.ready md l.toArray L).contains i = true) (hf : Region.free md l.toArray L i = true) (hw : Region.wanted o (yielded l.toArray a.tmps) = true)
    (hrun : ∀ g' f w, Ext g g' → D g' f w → When md l.toArray i f → Gives P o a w v (D g' (add f i)))
    (h : WM P md l.toArray D val Q n g (L.setIfInBounds i true) (a.put o.dst v)) : WM P md l.toArray D val Q (n + 1) g L a :=
  WM.plain i v (by simpa using ho) hs hr hf (.inl ⟨hw, hrun⟩) h

theorem gives_skip {o : Oper} {w w' : World} {R : World → Prop} (h : (execOp a.eval o).run P w = .ok .skip w') (hr : R w') : Gives P o a w undef R := by unfold Gives; rw [h]; exact ⟨rfl, hr⟩

/-- One that chooses. -/
def Chooses (P : Program) (md : Region.Mode) (ops : Array Oper) (D : (Nat → Option X) → (Nat → Bool) → World → Prop) (val : Nat → X → Value) (g : Nat → Option X) (a : Act) (i : Nat) (o : Oper) : Prop :=
  Region.wanted o (yielded ops a.tmps) = true ∧ ∀ f w, D g f w → When md ops i f → GivesX P o a w fun v w' => ∃ x, v = val i x ∧ D (upd g i x) (add f i) w'

theorem Chooses.call {i : Nat} {o : Oper} (m : FuncId) (args : Array Value) (hw : Region.wanted o (yielded ops a.tmps) = true) (hrun : ∀ w, (execOp a.eval o).run P w = .ok (.enter m args) w)
    (hc : ∀ f w, D g f w → When md ops i f → Calls P m args w fun e w'' => ∃ x, e = .returned (val i x) ∧ D (upd g i x) (add f i) w'') : Chooses P md ops D val g a i o :=
  ⟨hw, fun f w hd hk => by unfold GivesX; rw [hrun w]; exact (hc f w hd hk).mono fun e w'' ⟨x, he, hx⟩ => ⟨_, he, x, rfl, hx⟩⟩
theorem Chooses.make {i : Nat} {o : Oper} (hw : Region.wanted o (yielded ops a.tmps) = true) (hrun : ∀ f w, D g f w → When md ops i f → ∃ x w', (execOp a.eval o).run P w = .ok (.value (val i x)) w' ∧ D (upd g i x) (add f i) w') : Chooses P md ops D val g a i o :=
  ⟨hw, fun f w hd hk => by
    obtain ⟨x, w', e, hx⟩ := hrun f w hd hk
    unfold GivesX
    rw [e]
    exact ⟨x, rfl, hx⟩⟩

theorem Chooses.sure {i : Nat} {o : Oper} (ho : ops[i]? = some o) (h : Chooses P md ops D val g a i o) : SureM P md ops (fun g L w => Closed md ops L ∧ D g (fun j => L.getD j false) w) val g i o a := by
  have hi : i < ops.size := (Array.getElem?_eq_some_iff.1 ho).1
  refine ⟨h.1, fun L w hc hrd => (h.2 _ w hc.2 (when_of_ready hc.1 hrd)).mono fun v w' ⟨x, hx, hw'⟩ => ⟨x, hx, hc.1.set_ hrd, ?_⟩⟩
  rw [add_set (by rw [hc.1.1]; exact hi)]; exact hw'

/-- Only i may come up, and it chooses. -/
theorem WM.choose (i : Nat) {o : Oper} (ho : l[i]? = some o) (hr : Region.ready md l.toArray L = [i]) (hg : g i = none) (hc : Chooses P md l.toArray D val g a i o)
    (h : ∀ x, WM P md l.toArray D val Q n (upd g i x) (L.setIfInBounds i true) (a.put o.dst (val i x))) : WM P md l.toArray D val Q (n + 1) g L a := by
  refine ⟨fun e => (by rw [hr] at e; cases e), fun k hk => ?_⟩
  rw [hr] at hk
  obtain rfl : k = i := by simpa using hk
  exact ⟨o, by simpa using ho, .inr ⟨hg, hc.sure (by simpa using ho), h⟩⟩

/-- Two may come up, and both choose. -/
theorem WM.choose2 (i j : Nat) {oi oj : Oper} (hoi : l[i]? = some oi) (hoj : l[j]? = some oj) (hr : Region.ready md l.toArray L = [i, j]) (hgi : g i = none) (hgj : g j = none) (hci : Chooses P md l.toArray D val g a i oi) (hcj : Chooses P md l.toArray D val g a j oj)
    (h : ∀ x, WM P md l.toArray D val Q n (upd g i x) (L.setIfInBounds i true) (a.put oi.dst (val i x))) (k : ∀ x, WM P md l.toArray D val Q n (upd g j x) (L.setIfInBounds j true) (a.put oj.dst (val j x))) : WM P md l.toArray D val Q (n + 1) g L a := by
  refine ⟨fun e => (by rw [hr] at e; cases e), fun m hm => ?_⟩
  rw [hr] at hm
  rcases (show m = i ∨ m = j by simpa using hm) with rfl | rfl
  · exact ⟨oi, by simpa using hoi, .inr ⟨hgi, hci.sure (by simpa using hoi), h⟩⟩
  · exact ⟨oj, by simpa using hoj, .inr ⟨hgj, hcj.sure (by simpa using hoj), k⟩⟩

/-- THE RULE. -/
theorem regionM {id : Nat} {Q : Exit → Act → World → Prop} {a : Act} {w : World} {l : List Oper} (D : World → (Nat → Option X) → (Nat → Bool) → World → Prop) (val : Nat → X → Value) (hm : P.follows .mixedOrders = true)
    (h0 : ∀ f, (∀ j, f j = false) → D w (fun _ => none) f (w.drewN 1))
    (h : WM P .any l.toArray (D w) val (Q .normal) l.length (fun _ => none) (Array.replicate l.length false) a) : (Code.region id l.toArray true).wp P Q a w := by
  have hz : Array.replicate l.length false = Array.replicate l.toArray.size false := by simp
  unfold WM at h
  rw [hz] at h
  refine wp_region_any hm (wpAny_of_anyM (C := fun g L w' => Closed .any l.toArray L ∧ D w g (fun j => L.getD j false) w') (val := val)
    (Q := fun g L a' => ∀ w', D w g (fun j => L.getD j false) w' → Q .normal a' w') (fun g L a w hc hq => hq w hc.2) _ (fun _ => none) _ _ _ ⟨Closed.start _ _, h0 _ (fun j => ?_)⟩ (by simpa using h))
  simp only [Array.getD_eq_getD_getElem?, Array.getElem?_replicate]; split <;> rfl
end
end Go.Proofs.Ytclnffpfbngjoaa.Fx

end

section
/- Classes of worlds for the region rule in which several operations choose: memory of two cells that is made and stored into, and a copied list. -/
namespace Go.Proofs.Ytclnffpfbngjoaa
open Go.RowKit

/-- What is chosen: a slice's address and capacity, or the place of new memory. -/
abbrev Pick := Option Addr × Nat

/-- The new block that operation c makes holds two cells: v0 and v1 when operation s (the store) has come. -/
def MkM (T : TypeId) (v0 v1 : Value) (c s : Nat) (W : World) (g : Nat → Option Pick) (f : Nat → Bool) (w' : World) : Prop :=
  ∀ x, g c = some x → ∃ b, x.1 = some ⟨b, 0, none⟩ ∧ W.heap.size ≤ b ∧ ∃ e0 e1, Blk w' b T #[e0, e1] ∧ (f s = true → e0 = v0 ∧ e1 = v1)
/-- The list that operation c yields reads so, until operation s (a store) comes. -/
def RdM (size n : Nat) (xs : List Value) (c s : Nat) (g : Nat → Option Pick) (f : Nat → Bool) (w' : World) : Prop := ∀ x, g c = some x → f s = false → Reads w' w'.heap.size size x.1 n xs

theorem add_ne' {f : Nat → Bool} {k s : Nat} (hk : k ≠ s) : Fx.add f k s = f s := by
  unfold Fx.add
  cases h : s.beq k with
  | false => simp
  | true => exact absurd (Nat.eq_of_beq_eq_true h).symm hk
theorem add_same {f : Nat → Bool} {k : Nat} : Fx.add f k k = true := by
  unfold Fx.add
  rw [show Nat.beq k k = true from Nat.beq_refl k]
  rfl
theorem upd_ne {X : Type} {g : Nat → Option X} {i c : Nat} {x : X} (h : c ≠ i) : Fx.upd g i x c = g c := by
  unfold Fx.upd
  cases e : Nat.beq c i with
  | false => rfl
  | true => exact absurd (Nat.eq_of_beq_eq_true e) h

section
variable {T : TypeId} {v0 v1 : Value} {c s k i size n : Nat} {xs : List Value} {W w' w'' : World} {g g' : Nat → Option Pick} {f : Nat → Bool} {x : Pick}
theorem MkM.start : MkM T v0 v1 c s W (fun _ => none) f w' := fun x h => by cases h
theorem RdM.start : RdM size n xs c s (fun _ => none) f w' := fun x h => by cases h
theorem MkM.step (h : MkM T v0 v1 c s W g f w') (hb : Below w'.heap.size w' w'') (hk : k ≠ s) : MkM T v0 v1 c s W g (Fx.add f k) w'' := fun x hx => by
  obtain ⟨b, h0, h1, e0, e1, h2, h3⟩ := h x hx
  exact ⟨b, h0, h1, e0, e1, h2.below hb h2.lt, fun h => h3 (by rwa [add_ne' hk] at h)⟩
theorem RdM.step (h : RdM size n xs c s g f w') (hb : Below w'.heap.size w' w'') (hk : k ≠ s) : RdM size n xs c s g (Fx.add f k) w'' := fun x hx hf => by
  rw [add_ne' hk] at hf
  exact ((h x hx hf).below hb).more hb.size
theorem RdM.stored : RdM size n xs c s g (Fx.add f s) w'' := fun x _ hf => by rw [add_same] at hf; cases hf
theorem MkM.other (h : MkM T v0 v1 c s W g f w') (hc : c ≠ i) : MkM T v0 v1 c s W (Fx.upd g i x) f w' := fun y hy => h y (by rwa [upd_ne hc] at hy)
theorem RdM.other (h : RdM size n xs c s g f w') (hc : c ≠ i) : RdM size n xs c s (Fx.upd g i x) f w' := fun y hy => h y (by rwa [upd_ne hc] at hy)
theorem RdM.new (h : Reads w' w'.heap.size size x.1 n xs) : RdM size n xs c s (Fx.upd g c x) f w' := fun y hy _ => by rw [Fx.upd_same] at hy; cases hy; exact h
theorem MkM.make {a b : Value} (hW : W.heap.size ≤ w'.heap.size) (hs : f s = false) (hk : c ≠ s) : MkM T v0 v1 c s W (Fx.upd g c (some ⟨w'.heap.size, 0, none⟩, 0)) (Fx.add f c) (w'.alloc (.cells #[a, b] T)) := fun y hy => by
  rw [Fx.upd_same] at hy
  cases hy
  refine ⟨w'.heap.size, rfl, hW, a, b, Blk.new _ _ _, fun h => ?_⟩
  rw [add_ne' hk, hs] at h
  cases h
theorem MkM.cells (h : MkM T v0 v1 c s W g f w') (hx : g c = some x) : ∃ b e0 e1, x.1 = some ⟨b, 0, none⟩ ∧ W.heap.size ≤ b ∧ w'.cell? ⟨b, 0, none⟩ = some e0 ∧ w'.cell? ⟨b, 1, none⟩ = some e1 ∧ w'.frozen? ⟨b, 0, none⟩ = false ∧ w'.frozen? ⟨b, 1, none⟩ = false := by
  obtain ⟨b, h0, h1, e0, e1, h2, -⟩ := h x hx
  exact ⟨b, e0, e1, h0, h1, h2.cell 0, h2.cell 1, h2.frozen 0, h2.frozen 1⟩
/-- The store, seen by the block that it stores into. -/
theorem MkM.store {b : Nat} (h : MkM T v0 v1 c s W g f w') (hx : g c = some x) (hb : x.1 = some ⟨b, 0, none⟩) : MkM T v0 v1 c s W g (Fx.add f s) ((w'.setCell ⟨b, 0, none⟩ v0).setCell ⟨b, 1, none⟩ v1) := fun y hy => by
  rw [hx] at hy
  cases hy
  obtain ⟨b', h0, h1, e0, e1, h2, -⟩ := h x hx
  rw [hb] at h0
  cases h0
  refine ⟨b, hb, h1, v0, v1, ?_, fun _ => ⟨rfl, rfl⟩⟩
  have := (h2.set_ 0 v0).set_ 1 v1
  simpa using this
/-- A store, seen by another block. -/
theorem MkM.far {b : Nat} {u0 u1 : Value} (h : MkM T v0 v1 c s W g f w') (hk : k ≠ s) (hne : ∀ x b', g c = some x → x.1 = some ⟨b', 0, none⟩ → b' ≠ b) : MkM T v0 v1 c s W g (Fx.add f k) ((w'.setCell ⟨b, 0, none⟩ u0).setCell ⟨b, 1, none⟩ u1) := fun y hy => by
  obtain ⟨b', h0, h1, e0, e1, h2, h3⟩ := h y hy
  have hn := hne y b' hy h0
  exact ⟨b', h0, h1, e0, e1, (h2.far (p := ⟨b, 0, none⟩) hn u0).far (p := ⟨b, 1, none⟩) hn u1, fun h => h3 (by rwa [add_ne' hk] at h)⟩
theorem MkM.lt {b : Nat} (h : MkM T v0 v1 c s W g f w') (hx : g c = some x) (hb : x.1 = some ⟨b, 0, none⟩) : b < w'.heap.size := by
  obtain ⟨b', h0, -, e0, e1, h2, -⟩ := h x hx
  rw [hb] at h0
  cases h0
  exact h2.lt
/-- New memory is another block. -/
theorem MkM.fresh (h : MkM T v0 v1 c s W g f w') (hc : c ≠ i) (x y : Pick) (bx by_ : Nat) (h1 : Fx.upd g i (some ⟨w'.heap.size, 0, none⟩, 0) c = some x) (h2 : Fx.upd g i (some ⟨w'.heap.size, 0, none⟩, 0) i = some y) (e1 : x.1 = some ⟨bx, 0, none⟩) (e2 : y.1 = some ⟨by_, 0, none⟩) : bx ≠ by_ := by
  rw [upd_ne hc] at h1
  rw [Fx.upd_same] at h2
  cases h2
  cases e2
  have := h.lt h1 e1
  omega
theorem below_store {b : Nat} {u0 u1 : Value} (h : Below W.heap.size W w') (hb : W.heap.size ≤ b) : Below W.heap.size W ((w'.setCell ⟨b, 0, none⟩ u0).setCell ⟨b, 1, none⟩ u1) :=
  (h.setCell (p := ⟨b, 0, none⟩) hb u0).setCell (p := ⟨b, 1, none⟩) hb u1
theorem MkM.end_ (h : MkM T v0 v1 c s W g f w') (hx : g c = some x) (hf : f s = true) : ∃ b, x.1 = some ⟨b, 0, none⟩ ∧ W.heap.size ≤ b ∧ Blk w' b T #[v0, v1] := by
  obtain ⟨b, h0, h1, e0, e1, h2, h3⟩ := h x hx
  obtain ⟨rfl, rfl⟩ := h3 hf
  exact ⟨b, h0, h1, h2⟩
end

/-- Two orders end alike: what comes behind is walked once. -/
theorem share {α β γ : Type} {Fact : α → β → γ → Prop} {G : Prop} {F : α → β → γ → Prop} (main : (∀ x z w, Fact x z w → F x z w) → G) (rest : ∀ x z w, Fact x z w → F x z w) : G := main rest

end Go.Proofs.Ytclnffpfbngjoaa

end

section
/- Contracts of the rounded divisions, and of the product of two fractions that may have great parts. -/
namespace Go.Proofs.Ytclnffpfbngjoaa
open Go.RowKit

theorem floor_eq {a b : Int} (hb : 1 ≤ b) : (if a.tmod b < 0 then a.tdiv b - 1 else a.tdiv b) = a / b := by
  have h1 := Int.emod_nonneg a (show b ≠ 0 by omega)
  have h2 := Int.emod_lt_of_pos a (show 0 < b by omega)
  have e1 := Int.mul_ediv_add_emod a b
  have e2 := Int.mul_tdiv_add_tmod a b
  have h3 : (a.tmod b).natAbs < b.natAbs := tmod_lt a b (by omega)
  obtain ⟨q, hq⟩ : ∃ q, a / b = q := ⟨_, rfl⟩
  obtain ⟨r, hr⟩ : ∃ r, a % b = r := ⟨_, rfl⟩
  obtain ⟨p, hp⟩ : ∃ p, a.tdiv b = p := ⟨_, rfl⟩
  obtain ⟨s, hs⟩ : ∃ s, a.tmod b = s := ⟨_, rfl⟩
  rw [hq, hr] at e1
  rw [hp, hs] at e2
  rw [hs] at h3 ⊢
  rw [hp, hq]
  have key : ∀ k : Int, b * k < b → -b < b * k → k = 0 := by
    intro k k1 k2
    rcases Int.lt_trichotomy k 0 with h | h | h
    · have := Int.mul_le_mul_of_nonneg_left (show k ≤ -1 by omega) (show 0 ≤ b by omega)
      omega
    · exact h
    · have := Int.mul_le_mul_of_nonneg_left (show 1 ≤ k by omega) (show 0 ≤ b by omega)
      omega
  split
  · have := key (p - 1 - q) (by rw [Int.mul_sub, Int.mul_sub]; omega) (by rw [Int.mul_sub, Int.mul_sub]; omega)
    omega
  · rename_i h
    by_cases ha : a.tmod b < 0
    · omega
    · have := key (p - q) (by rw [Int.mul_sub]; omega) (by rw [Int.mul_sub]; omega)
      omega

theorem floor_in {a b : Int} (hb : 1 ≤ b) (h1 : -4000000000000000000 ≤ a) (h2 : a ≤ 4000000000000000000) : -4000000000000000001 ≤ a / b ∧ a / b ≤ 4000000000000000001 ∧ -4000000000000000001 ≤ a.tdiv b ∧ a.tdiv b ≤ 4000000000000000001 := by
  have hq : (a.tdiv b).natAbs ≤ a.natAbs := by rw [Int.natAbs_tdiv]; exact Nat.div_le_self _ _
  have e := floor_eq (a := a) hb
  split at e <;> omega


theorem floorref_any (a b : Int) (w : World) (h1 : -4000000000000000000 ≤ a) (h2 : a ≤ 4000000000000000000) (h3 : 1 ≤ b) (h4 : b ≤ 9223372036854775807) :
    Calls Try.prog 85 #[.int .i64 a, .int .i64 b] w fun e w' => e = .returned (.int .i64 (a / b)) ∧ w = w' := by
  have b0 : ¬ b = 0 := by omega
  have he := floor_eq (a := a) h3
  obtain ⟨f1, f2, f3, f4⟩ := floor_in (a := a) h3 h1 h2
  have hm := tmod_in a b (by omega) h4 b0
  obtain ⟨q, hq⟩ : ∃ q, a.tdiv b = q := ⟨_, rfl⟩
  obtain ⟨r, hr⟩ : ∃ r, a.tmod b = r := ⟨_, rfl⟩
  rw [hq] at f3 f4 he
  rw [hr] at he hm
  have v1 := IntWalk.i64_in q ⟨by omega, by omega⟩
  have v2 := IntWalk.i64_in (q - 1) ⟨by omega, by omega⟩
  have v3 := IntWalk.i64_in r hm
  have HE := Lib.hid he
  clear he
  by_cases hneg : r < 0
  · have hv : a / b = q - 1 := by rw [← HE.out, if_pos hneg]
    have HV := Lib.hid hv
    clear hv
    go_enter Try.func85, Try.ntmps85
    go_wp2
    go_ret
    exact ⟨ret_int HV.out.symm, rfl⟩
  · have hv : a / b = q := by rw [← HE.out, if_neg hneg]
    have HV := Lib.hid hv
    clear hv
    go_enter Try.func85, Try.ntmps85
    go_wp2
    go_ret
    exact ⟨ret_int HV.out.symm, rfl⟩



/-- The product of two fractions whose parts are above 0, each taken against the other. -/
def timesF (a b c d : Int) : (Int × Int) × Bool :=
  if 1000000000 < a / (Int.gcd a d : Int) * (c / (Int.gcd c b : Int)) ∨ 1000000000 < b / (Int.gcd c b : Int) * (d / (Int.gcd a d : Int)) then ((0, 0), false)
  else ((a / (Int.gcd a d : Int) * (c / (Int.gcd c b : Int)), b / (Int.gcd c b : Int) * (d / (Int.gcd a d : Int))), true)

end Go.Proofs.Ytclnffpfbngjoaa

end

section
/- Copies of lists: what append to an empty list of its own makes, and the contracts of the functions that copy. -/
namespace Go.Proofs.Ytclnffpfbngjoaa
open Go.RowKit

theorem copy_run {P : Program} (t ty e : TypeId) (z : Value) (size bytes : Nat) (ht : P.underlying t = some (.slice e)) (hi : (P.info? e).map (fun i => (i.zero, i.size, i.bytes)) = some (some z, size, bytes)) (hzs : z.cells.size = size) (hsz : 0 < size)
    (w : World) (N : Nat) (A : Option Addr) (n c : Nat) (xs : List Value) (hr : Reads w N size A n xs) (hN : N ≤ w.heap.size) (h1 : ∀ u ∈ xs, u.oneCell' = true) (hn : n ≤ maxLen) (hbytes : n * bytes ≤ 140737488355328) :
    ∃ v' W2, (Builtin.append_ #[t, t] ty #[.slice (some ⟨w.heap.size, 0, none⟩) 0 0, .slice A n c]).run P (w.alloc (.cells #[] e)) = .ok v' W2 ∧ W2.ownsRow w.heap.size e size v' n xs ∧ Below w.heap.size w W2 := by
  obtain ⟨i0, hi0, hz0, hz1, hz2⟩ := info_parts hi
  have ho : (w.alloc (.cells #[] e)).ownsRow w.heap.size e size (.slice (some ⟨w.heap.size, 0, none⟩) 0 0) 0 [] :=
    ⟨by simp, .inr ⟨w.heap.size, 0, #[], rfl, Nat.le_refl _, Blk.new _ _ _, by omega, by decide, by simp, by simp⟩⟩
  obtain ⟨v', W2, hrun, ho2, hg, -⟩ := run_append_any (P := P) (w.alloc (.cells #[] e)) w.heap.size t ty e i0 z size bytes ht hi0 hz0 hz1 hz2 hzs hsz _ 0 [] ho N A n c xs (hr.alloc hN _) h1 (by omega) (by rw [Nat.zero_add]; omega) (by simp)
  refine ⟨v', W2, hrun, by simpa using ho2, ?_⟩
  exact ((Below.refl _ _).alloc (Nat.le_refl _) _).grown hg (by simp) (fun k hk => (own_lt ho hk).1)

theorem one_cells2 (l : List (Int × Int)) : ∀ u ∈ cells2 l, u.oneCell' = true := by
  intro u hu
  unfold cells2 at hu
  rw [List.mem_flatMap] at hu
  obtain ⟨p, -, hp⟩ := hu
  simp at hp
  rcases hp with rfl | rfl <;> rfl
theorem one_ints (l : List Int) : ∀ u ∈ l.map (Value.int .i64), u.oneCell' = true := by
  intro u hu
  obtain ⟨p, -, rfl⟩ := List.mem_map.1 hu
  rfl



theorem info_int : (Try.prog.info? 3).map (fun i => (i.zero, i.size, i.bytes)) = some (some (.int .i64 0), 1, 8) := by kernel_rfl

/-- A copy: the elements, in memory of its own. -/
def CopyPost (w : World) (e : TypeId) (size n : Nat) (xs : List Value) (en : Ending) (w' : World) : Prop :=
  ∃ A c, en = .returned (.slice A n c) ∧ Below w.heap.size w w' ∧ Reads w' w'.heap.size size A n xs ∧ w'.ownsRow w.heap.size e size (.slice A n c) n xs
theorem CopyPost.of {w w' : World} {e : TypeId} {size n : Nat} {xs : List Value} {v : Value} (ho : w'.ownsRow w.heap.size e size v n xs) (hb : Below w.heap.size w w') : CopyPost w e size n xs (.returned v) w' := by
  obtain ⟨A, c, rfl, hr⟩ := own_reads ho
  exact ⟨A, c, rfl, hb, hr, ho⟩




theorem copyints_any (A : Option Addr) (n c N : Nat) (l : List Int) (w : World) (hx : Reads w N 1 A n (l.map (.int .i64))) (hN : N ≤ w.heap.size) (hn : n ≤ 1000000) :
    Calls Try.prog 58 #[.slice A n c] w (CopyPost w 3 1 n (l.map (.int .i64))) := by
  obtain ⟨v', W2, hrun, ho, hb⟩ := copy_run (P := Try.prog) 31 31 3 _ 1 8 Try.underlying31 info_int rfl (by omega) w N A n c (l.map (.int .i64)) hx hN (one_ints l) (by unfold maxLen; omega) (by omega)
  have HRUN := Lib.hid hrun
  have HO := Lib.hid ho
  have HB := Lib.hid hb
  clear hrun ho hb
  go_enter Try.func58, Try.ntmps58
  go_wp2_with (first | (at_builtin; refine wpList_app _ W2 v' rfl _ _ _ rfl _ _ rfl rfl HRUN.out ?_))
  go_ret
  exact CopyPost.of HO.out HB.out

end Go.Proofs.Ytclnffpfbngjoaa

end

section
/- Contracts of the search of a list by a function value, and of the copy of a train. -/
namespace Go.Proofs.Ytclnffpfbngjoaa
open Go Go.RowKit

/-- A function value that asks something of a number, and changes nothing. -/
structure Asks (k : FuncId) (pr : Int → Bool) : Prop where
  ent : ∀ (args : Array Value) (w : World), (callFunc k args).run Try.prog w = .ok (.enter k args) w
  call : ∀ (z : Int) (w : World), Calls Try.prog k #[.int .i64 z] w fun e w' => e = .returned (.bool (pr z)) ∧ w = w'

theorem Asks.is {k : FuncId} {pr : Int → Bool} (h : Asks k pr) (z : Int) (t : Bool) (ht : pr z = t) (w : World) : Calls Try.prog k #[.int .i64 z] w fun e w' => e = .returned (.bool t) ∧ w = w' := ht ▸ h.call z w

theorem any_take {pr : Int → Bool} {l : List Int} {k : Nat} {z : Int} (hz : l[k]? = some z) (h : (l.take k).any pr = false) (hp : pr z = false) : (l.take (k + 1)).any pr = false := by
  rw [List.take_add_one, hz]
  simp [List.any_append, h, hp]

end Go.Proofs.Ytclnffpfbngjoaa

end

section
/- Lists that are known to read so, from one named world to the next. -/
namespace Go.Proofs.Ytclnffpfbngjoaa
open Go.RowKit

section
variable {w W W1 : World}
theorem reads_mid (_ : Below W.heap.size W W1) {wa : World} (h : Below wa.heap.size wa W) : Below wa.heap.size wa W := h
theorem reads_lay (hb : Below W.heap.size W W1) {wa : World} (ha : Below wa.heap.size wa W) {s n : Nat} {A : Option Addr} {xs : List Value} (h : Reads wa wa.heap.size s A n xs) : Reads W1 W1.heap.size s A n xs :=
  ((h.below ha).below (hb.mono ha.size)).more (Nat.le_trans ha.size hb.size)
end
end Go.Proofs.Ytclnffpfbngjoaa

end

section
/- The plain law of tables: what a search by halves finds is what a search row by row finds. -/
namespace Go.Proofs.Ytclnffpfbngjoaa
open Go.RowKit

def mil (z : Int) : Bool := withinB z (-1000000) 1000000
/-- The error of a row behind another one. -/
def rowErr (prev : Option Int) (p : Int × Int) : Int :=
  if mil p.1 = false ∨ mil p.2 = false then 2 else match prev with
    | some q => if p.1 ≤ q then 9 else 0
    | none => 0
def rowsErr : Option Int → List (Int × Int) → Int
  | _, [] => 0
  | prev, p :: l => if rowErr prev p ≠ 0 then rowErr prev p else rowsErr (some p.1) l
/-- The error of a table. -/
def tabErr (l : List (Int × Int)) : Int := if l.length < 1 ∨ 40 < l.length then 10 else rowsErr none l

def prevOf (l : List (Int × Int)) (k : Nat) : Option Int := if k = 0 then none else (l[k - 1]?).map (·.1)

theorem rowsErr_at : ∀ (l : List (Int × Int)) (k : Nat) (prev : Option Int), (∀ j, j < k → ∀ p, l[j]? = some p → rowErr (if j = 0 then prev else (l[j - 1]?).map (·.1)) p = 0) →
    rowsErr prev l = rowsErr (if k = 0 then prev else if k ≤ l.length then (l[k - 1]?).map (·.1) else (l[l.length - 1]?).map (·.1)) (l.drop k) ∨ l = []
  | [], k, prev, _ => .inr rfl
  | p :: l, 0, prev, _ => .inl (by simp)
  | p :: l, k + 1, prev, h => by
    left
    have h0 := h 0 (by omega) p rfl
    simp only [if_true] at h0
    rw [rowsErr, if_neg (by rw [h0]; simp)]
    cases l with
    | nil => simp [rowsErr]
    | cons q l =>
      have := rowsErr_at (q :: l) k (some p.1) (fun j hj x hx => by
        have := h (j + 1) (by omega) x (by simpa using hx)
        rw [if_neg (by omega), Nat.add_sub_cancel] at this
        cases j with
        | zero => simpa using this
        | succ j => simpa using this)
      rcases this with e | e
      · rw [e]
        congr 1
        cases k with
        | zero => simp
        | succ k =>
          simp only [Nat.add_eq_zero_iff, Nat.succ_ne_zero, and_false, if_false]
          simp
      · cases e

/-- The rows of a right table: in range, and ascending. -/
theorem rows_ok : ∀ (l : List (Int × Int)) (prev : Option Int), rowsErr prev l = 0 → (∀ p ∈ l, (-1000000 ≤ p.1 ∧ p.1 ≤ 1000000) ∧ (-1000000 ≤ p.2 ∧ p.2 ≤ 1000000)) ∧ l.Pairwise (fun a b => a.1 < b.1) ∧ ∀ q, prev = some q → ∀ p ∈ l, q < p.1
  | [], prev, _ => ⟨by simp, by simp, by simp⟩
  | p :: l, prev, h => by
    unfold rowsErr at h
    by_cases h0 : rowErr prev p ≠ 0
    · rw [if_pos h0] at h; exact absurd h h0
    rw [if_neg h0] at h
    have h0 := Decidable.not_not.1 h0
    obtain ⟨i1, i2, i3⟩ := rows_ok l (some p.1) h
    have i3 := i3 p.1 rfl
    unfold rowErr at h0
    by_cases hm : mil p.1 = false ∨ mil p.2 = false
    · rw [if_pos hm] at h0; cases h0
    rw [if_neg hm] at h0
    have hm1 : mil p.1 = true := by cases hx : mil p.1 <;> simp_all
    have hm2 : mil p.2 = true := by cases hx : mil p.2 <;> simp_all
    refine ⟨fun x hx => ?_, List.pairwise_cons.2 ⟨fun x hx => i3 x hx, i2⟩, fun q hq x hx => ?_⟩
    · rcases List.mem_cons.1 hx with rfl | hx
      · exact ⟨(withinB_iff _ _ _).1 hm1, (withinB_iff _ _ _).1 hm2⟩
      · exact i1 x hx
    · rw [hq] at h0
      simp only at h0
      have hlt : q < p.1 := by
        by_cases hle : p.1 ≤ q
        · rw [if_pos hle] at h0; cases h0
        · omega
      rcases List.mem_cons.1 hx with rfl | hx
      · exact hlt
      · have := i3 x hx; omega

/-- The value of a table behind a row. -/
def tabGo (p : Int × Int) : List (Int × Int) → Int → Int
  | [], _ => p.2
  | q :: t, x => if x < q.1 then p.2 + (q.2 - p.2) * (x - p.1) / (q.1 - p.1) else tabGo q t x
/-- The value of a table at a place. -/
def tabAt (l : List (Int × Int)) (x : Int) : Int := match l with
  | [] => 0
  | p :: t => if x ≤ p.1 then p.2 else tabGo p t x

theorem tabGo_skip {x : Int} : ∀ (t1 t2 : List (Int × Int)) (p q : Int × Int), (∀ r ∈ t1, r.1 ≤ x) → q.1 ≤ x → tabGo p (t1 ++ q :: t2) x = tabGo q t2 x
  | [], t2, p, q, _, hq => by simp only [List.nil_append, tabGo]; rw [if_neg (by omega)]
  | r :: t1, t2, p, q, h, hq => by
    simp only [List.cons_append, tabGo]
    rw [if_neg (by have := h r (by simp); omega)]
    exact tabGo_skip t1 t2 r q (fun y hy => h y (by simp [hy])) hq
/-- Behind rows that lie at or before the place, from the last of them on. -/
theorem tabAt_skip {x : Int} {t1 t2 : List (Int × Int)} {q : Int × Int} (hs : (t1 ++ q :: t2).Pairwise (fun a b => a.1 < b.1)) (hq : q.1 ≤ x) : tabAt (t1 ++ q :: t2) x = tabGo q t2 x := by
  have hle : ∀ r ∈ t1, r.1 < q.1 := fun r hr => (List.pairwise_append.1 hs).2.2 r hr q (by simp)
  cases t1 with
  | nil =>
    simp only [List.nil_append, tabAt]
    by_cases e : x ≤ q.1
    · rw [if_pos e]
      have ex : x = q.1 := by omega
      cases t2 with
      | nil => rfl
      | cons r t2 =>
        have : q.1 < r.1 := (List.pairwise_cons.1 hs).1 r (by simp)
        simp only [tabGo]
        rw [if_pos (by omega), ex, Int.sub_self, Int.mul_zero]
        simp
    · rw [if_neg e]
  | cons r t1 =>
    simp only [List.cons_append, tabAt]
    rw [if_neg (by have := hle r (by simp); omega)]
    exact tabGo_skip t1 t2 r q (fun y hy => by have := hle y (by simp [hy]); omega) hq

/-- A search that finds the first row at or behind the place. -/
theorem tab_found {l : List (Int × Int)} {x : Int} {i : Nat} {q : Int × Int} (hs : l.Pairwise (fun a b => a.1 < b.1)) (hq : l[i]? = some q) (he : q.1 = x) : tabAt l x = q.2 := by
  obtain ⟨hi, hqe⟩ := List.getElem?_eq_some_iff.1 hq
  have e : l = l.take i ++ q :: l.drop (i + 1) := by rw [← hqe, ← List.drop_eq_getElem_cons hi, List.take_append_drop]
  obtain ⟨t1, ht1⟩ : ∃ t, l.take i = t := ⟨_, rfl⟩
  obtain ⟨t2, ht2⟩ : ∃ t, l.drop (i + 1) = t := ⟨_, rfl⟩
  rw [ht1, ht2] at e
  rw [e] at hs ⊢
  rw [tabAt_skip hs (by omega)]
  cases t2 with
  | nil => simp [tabGo]
  | cons r t =>
    have hr : q.1 < r.1 := (List.pairwise_cons.1 (List.pairwise_append.1 hs).2.1).1 r (by simp)
    simp only [tabGo]
    rw [if_pos (by omega), he, Int.sub_self, Int.mul_zero]
    simp
theorem tab_first {l : List (Int × Int)} {x : Int} {q : Int × Int} (hq : l[0]? = some q) (he : x < q.1) : tabAt l x = q.2 := by
  cases l with
  | nil => simp at hq
  | cons p t =>
    simp at hq
    subst hq
    simp only [tabAt]
    rw [if_pos (by omega)]
theorem tab_last {l : List (Int × Int)} {x : Int} {i : Nat} {q : Int × Int} (hs : l.Pairwise (fun a b => a.1 < b.1)) (hi : i + 1 = l.length) (hq : l[i]? = some q) (he : q.1 < x) : tabAt l x = q.2 := by
  obtain ⟨hi', hqe⟩ := List.getElem?_eq_some_iff.1 hq
  have e : l = l.take i ++ q :: l.drop (i + 1) := by rw [← hqe, ← List.drop_eq_getElem_cons hi', List.take_append_drop]
  have hd : l.drop (i + 1) = [] := List.drop_of_length_le (by omega)
  rw [hd] at e
  obtain ⟨t1, ht1⟩ : ∃ t, l.take i = t := ⟨_, rfl⟩
  rw [ht1] at e
  rw [e] at hs ⊢
  rw [tabAt_skip hs (by omega)]
  rfl
theorem tab_mid {l : List (Int × Int)} {x : Int} {i : Nat} {a b : Int × Int} (hs : l.Pairwise (fun a b => a.1 < b.1)) (ha : l[i]? = some a) (hb : l[i + 1]? = some b) (h1 : a.1 < x) (h2 : x < b.1) : tabAt l x = a.2 + (b.2 - a.2) * (x - a.1) / (b.1 - a.1) := by
  obtain ⟨hi, hae⟩ := List.getElem?_eq_some_iff.1 ha
  obtain ⟨hj, hbe⟩ := List.getElem?_eq_some_iff.1 hb
  have e2 : l.drop (i + 1) = b :: l.drop (i + 2) := by rw [← hbe]; exact List.drop_eq_getElem_cons hj
  have e : l = l.take i ++ a :: b :: l.drop (i + 2) := by rw [← e2, ← hae, ← List.drop_eq_getElem_cons hi, List.take_append_drop]
  obtain ⟨t1, ht1⟩ : ∃ t, l.take i = t := ⟨_, rfl⟩
  obtain ⟨t2, ht2⟩ : ∃ t, l.drop (i + 2) = t := ⟨_, rfl⟩
  rw [ht1, ht2] at e
  rw [e] at hs ⊢
  rw [tabAt_skip hs (by omega)]
  simp only [tabGo]
  rw [if_pos h2]

end Go.Proofs.Ytclnffpfbngjoaa

end
