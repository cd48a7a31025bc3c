/- A rule for a region whose order is left open and in which several operations choose: a call whose result is only known to exist, memory that is made at a place that is not known ahead. The walk goes in an order of one's own. -/
import Derived.Test.YtmioamcgbihhjaaFxg
namespace Go.Proofs.Ytmioamcgbihhjaa.Fx
open Go Go.RowKit

section
variable {P : Program} {ops : Array Oper} {md : Region.Mode} {X : Type}

/-- What has been chosen, by the number of the operation. -/
def upd (g : Nat → Option X) (i : Nat) (x : X) : Nat → Option X := fun j => if Nat.beq j i then some x else g j
def Ext (g g' : Nat → Option X) : Prop := ∀ c x, g c = some x → g' c = some x
theorem Ext.refl (g : Nat → Option X) : Ext g g := fun _ _ h => h
theorem Ext.trans {g g' g'' : Nat → Option X} (h : Ext g g') (k : Ext g' g'') : Ext g g'' := fun c x e => k c x (h c x e)
theorem Ext.upd {g : Nat → Option X} {i : Nat} (hi : g i = none) (x : X) : Ext g (upd g i x) := fun c y e => by
  unfold Fx.upd
  cases h : Nat.beq c i with
  | false => simpa using e
  | true => rw [Nat.eq_of_beq_eq_true h] at e; rw [hi] at e; cases e
theorem upd_same {g : Nat → Option X} {i : Nat} {x : X} : upd g i x i = some x := by
  unfold upd
  rw [show Nat.beq i i = true from Nat.beq_refl i]
  rfl

def SureM (P : Program) (md : Region.Mode) (ops : Array Oper) (C : (Nat → Option X) → Array Bool → World → Prop) (val : Nat → X → Value) (g : Nat → Option X) (i : Nat) (o : Oper) (a : Act) : Prop :=
  Region.wanted o (yielded ops a.tmps) = true ∧ ∀ L w, C g L w → i ∈ Region.ready md ops L → GivesX P o a w fun v w' => ∃ x, v = val i x ∧ C (upd g i x) (L.setIfInBounds i true) w'

theorem SureM.same {C : (Nat → Option X) → Array Bool → World → Prop} {val : Nat → X → Value} {g : Nat → Option X} {i : Nat} {o : Oper} {a a' : Act} (h : SureM P md ops C val g i o a) (he : execOp a'.eval o = execOp a.eval o)
    (hw : Region.wanted o (yielded ops a'.tmps) = Region.wanted o (yielded ops a.tmps)) : SureM P md ops C val g i o a' :=
  ⟨hw.trans h.1, fun L w hc hr => (h.2 L w hc hr).congr he⟩

def anyM (P : Program) (md : Region.Mode) (ops : Array Oper) (C : (Nat → Option X) → Array Bool → World → Prop) (val : Nat → X → Value) (Q : (Nat → Option X) → Array Bool → Act → Prop) : Nat → (Nat → Option X) → Array Bool → Act → Prop
  | 0, g, L, a => Region.ready md ops L = [] ∧ Q g L a
  | n + 1, g, L, a => (Region.ready md ops L = [] → Q g L a) ∧
      ∀ i ∈ Region.ready md ops L, ∃ o, ops[i]? = some o ∧ ((∃ v, Sure P md ops (C g) i o v a ∧ anyM P md ops C val Q n g (L.setIfInBounds i true) (a.put o.dst v)) ∨
        (g i = none ∧ SureM P md ops C val g i o a ∧ ∀ x, anyM P md ops C val Q n (upd g i x) (L.setIfInBounds i true) (a.put o.dst (val i x))))

theorem wpAny_of_anyM {C : (Nat → Option X) → Array Bool → World → Prop} {val : Nat → X → Value} {Q : (Nat → Option X) → Array Bool → Act → Prop} {Q' : Exit → Act → World → Prop} (hQ : ∀ g L a w, C g L w → Q g L a → Q' .normal a w) :
    ∀ (n : Nat) (g : Nat → Option X) (L : Array Bool) (a : Act) (w : World), C g L w → anyM P md ops C val Q n g L a → wpAny P md ops Q' n L a w
  | 0, _, _, _, _, hc, h => ⟨h.1, hQ _ _ _ _ hc h.2⟩
  | n + 1, g, L, a, w, hc, h => ⟨fun h0 => hQ _ _ _ _ hc (h.1 h0), fun i hi => by
      obtain ⟨o, ho, hcs⟩ := h.2 i hi
      unfold wpOp
      simp only [ho]
      rcases hcs with ⟨v, hs, hn⟩ | ⟨-, hs, hn⟩
      · rcases hs with ⟨h1, h2⟩ | ⟨h1, h2, h3⟩
        · rw [if_pos h1]
          exact .inl ((h2 L w hc hi).wp fun w' hw' => wpAny_of_anyM hQ n _ _ _ w' hw' hn)
        · rw [if_neg (by rw [h1]; exact Bool.false_ne_true)]
          subst h2
          exact wpAny_of_anyM hQ n _ _ _ w (h3 L w hc hi) hn
      · rw [if_pos hs.1]
        exact .inl ((hs.2 L w hc hi).wp fun v w' ⟨x, hv, hw'⟩ => by subst hv; exact wpAny_of_anyM hQ n _ _ _ w' hw' (hn x))⟩

/-- What may come up may be taken first, if all that could come before it is apart from it. -/
theorem anyM_first {C : (Nat → Option X) → Array Bool → World → Prop} {val : Nat → X → Value} {Q : (Nat → Option X) → Array Bool → Act → Prop} {i : Nat} {oi : Oper} {v : Value} (hi : ops[i]? = some oi) (hsel : ∀ (j : Nat) (o : Oper) cs b, ops[j]? = some o → o.op ≠ .select cs b) :
    ∀ (n : Nat) (g : Nat → Option X) (L : Array Bool) (a : Act),
      (∀ j oj, ops[j]? = some oj → j ≠ i → L.getD j true = false → (∀ e ∈ oj.after, Region.binds md e = true → e.on ≠ i) → oi.apart ops oj = true) →
      i ∈ Region.ready md ops L → (∀ g', Ext g g' → Sure P md ops (C g') i oi v a) →
      anyM P md ops C val Q n g (L.setIfInBounds i true) (a.put oi.dst v) → anyM P md ops C val Q (n + 1) g L a := by
  intro n
  induction n with
  | zero =>
    intro g L a _ hr hs H
    refine ⟨fun h => (by rw [h] at hr; cases hr), fun j hj => ?_⟩
    by_cases hji : j = i
    · subst hji; exact ⟨oi, hi, .inl ⟨v, hs g (Ext.refl g), H⟩⟩
    · have := ready_mono hj hji
      rw [H.1] at this
      cases this
  | succ n ih =>
    intro g L a hfree hr hs H
    refine ⟨fun h => (by rw [h] at hr; cases hr), fun j hj => ?_⟩
    by_cases hji : j = i
    · subst hji; exact ⟨oi, hi, .inl ⟨v, hs g (Ext.refl g), H⟩⟩
    · obtain ⟨oj, hoj, hcs⟩ := H.2 j (ready_mono hj hji)
      obtain ⟨hjun, oj', hoj', hall⟩ := mem_ready.1 hj
      obtain rfl : oj' = oj := Option.some.inj (hoj'.symm.trans hoj)
      have hnot : ∀ e ∈ oj'.after, Region.binds md e = true → e.on ≠ i := fun e he hb heq => by
        have h1 := hall e he hb
        have h0 := (mem_ready.1 hr).1
        rw [heq] at h1
        rcases Nat.lt_or_ge i L.size with h' | h'
        · simp [h'] at h0 h1; rw [h0] at h1; cases h1
        · simp [Array.getElem?_eq_none h'] at h1
      obtain ⟨a1, a2, a3⟩ := Oper.apart_spec (hfree j oj' hoj hji hjun hnot)
      have key : ∀ (g' : Nat → Option X) (u : Value), Ext g g' → anyM P md ops C val Q n g' ((L.setIfInBounds i true).setIfInBounds j true) ((a.put oi.dst v).put oj'.dst u) → anyM P md ops C val Q (n + 1) g' (L.setIfInBounds j true) (a.put oj'.dst u) := fun g' u hx hn => by
        refine ih g' _ _ (fun k ok hk hki hun hno => hfree k ok hk hki ?_ hno) (ready_mono hr (Ne.symm hji))
          (fun g'' hg'' => (hs g'' (hx.trans hg'')).same (execOp_put oi (fun cs b => hsel i oi cs b hi) a oj'.dst u a3) (wanted_put oi a oj'.dst u a3)) ?_
        · by_cases hjk : j = k
          · subst hjk; exact hjun
          · rw [getD_set_ne true hjk] at hun; exact hun
        · rw [Array.setIfInBounds_comm _ _ hji, ← Act.put_comm a v u a2]
          exact hn
      refine ⟨oj', hoj, ?_⟩
      rcases hcs with ⟨u, hsj, hn⟩ | ⟨hg, hsj, hn⟩
      · exact .inl ⟨u, hsj.same (execOp_put oj' (fun cs b => hsel j oj' cs b hoj) a oi.dst v a1).symm (wanted_put oj' a oi.dst v a1).symm, key g u (Ext.refl g) hn⟩
      · exact .inr ⟨hg, hsj.same (execOp_put oj' (fun cs b => hsel j oj' cs b hoj) a oi.dst v a1).symm (wanted_put oj' a oi.dst v a1).symm, fun x => key (upd g j x) (val j x) (Ext.upd hg x) (hn x)⟩

/-- The walk: n operations are left, g has been chosen, L has come. -/
def WM (P : Program) (md : Region.Mode) (ops : Array Oper) (D : (Nat → Option X) → (Nat → Bool) → World → Prop) (val : Nat → X → Value) (Q : Act → World → Prop) (n : Nat) (g : Nat → Option X) (L : Array Bool) (a : Act) : Prop :=
  anyM P md ops (fun g L w => Closed md ops L ∧ D g (fun j => L.getD j false) w) val (fun g L a' => ∀ w', D g (fun j => L.getD j false) w' → Q a' w') n g L a

variable {D : (Nat → Option X) → (Nat → Bool) → World → Prop} {val : Nat → X → Value} {Q : Act → World → Prop} {n : Nat} {g : Nat → Option X} {L : Array Bool} {a : Act}

theorem WM.nil (hr : Region.ready md ops L = []) (h : ∀ w', D g (fun j => L.getD j false) w' → Q a w') : WM P md ops D val Q 0 g L a := ⟨hr, h⟩

theorem WM.plain (i : Nat) {o : Oper} (v : Value) (ho : ops[i]? = some o) (hs : Region.noSelect ops = true) (hr : (Region.ready md ops L).contains i = true) (hf : Region.free md ops L i = true)
    (h1 : (Region.wanted o (yielded ops a.tmps) = true ∧ ∀ g' f w, Ext g g' → D g' f w → When md ops i f → Gives P o a w v (D g' (add f i))) ∨ (Region.wanted o (yielded ops a.tmps) = false ∧ v = undef ∧ ∀ g' f w, Ext g g' → D g' f w → When md ops i f → D g' (add f i) w))
    (h : WM P md ops D val Q n g (L.setIfInBounds i true) (a.put o.dst v)) : WM P md ops D val Q (n + 1) g L a := by
  have hi : i < ops.size := (Array.getElem?_eq_some_iff.1 ho).1
  refine anyM_first ho (Region.noSelect_spec hs) n g L a (Region.free_spec ho hf) (by simpa using hr) (fun g' hg' => ?_) h
  rcases h1 with ⟨h1, h2⟩ | ⟨h1, h2, h3⟩
  · refine .inl ⟨h1, fun L' w hc hrd => (h2 g' _ w hg' hc.2 (when_of_ready hc.1 hrd)).mono fun w' hw' => ⟨hc.1.set_ hrd, ?_⟩⟩
    rw [add_set (by rw [hc.1.1]; exact hi)]; exact hw'
  · refine .inr ⟨h1, h2, fun L' w hc hrd => ⟨hc.1.set_ hrd, ?_⟩⟩
    rw [add_set (by rw [hc.1.1]; exact hi)]; exact h3 g' _ w hg' hc.2 (when_of_ready hc.1 hrd)

variable {l : List Oper}
theorem WM.skip (i : Nat) {o : Oper} (ho : l[i]? = some o) (hs : Region.noSelect l.toArray = true) (hr : (Region.ready md l.toArray L).contains i = true) (hf : Region.free md l.toArray L i = true) (hw : Region.wanted o (yielded l.toArray a.tmps) = false) (hD : ∀ g' f w, D g' f w → D g' (add f i) w)
    (h : WM P md l.toArray D val Q n g (L.setIfInBounds i true) (a.put o.dst undef)) : WM P md l.toArray D val Q (n + 1) g L a :=
  WM.plain i undef (by simpa using ho) hs hr hf (.inr ⟨hw, rfl, fun g' f w _ hd _ => hD g' f w hd⟩) h

theorem WM.val_ (i : Nat) {o : Oper} (v : Value) (ho : l[i]? = some o) (hs : Region.noSelect l.toArray = true) (hr : (Region.ready md l.toArray L).contains i = true) (hf : Region.free md l.toArray L i = true) (hw : Region.wanted o (yielded l.toArray a.tmps) = true)
    (hrun : ∀ g' f w, Ext g g' → D g' f w → When md l.toArray i f → (execOp a.eval o).run P w = .ok (.value v) w) (hD : ∀ g' f w, D g' f w → D g' (add f i) w)
    (h : WM P md l.toArray D val Q n g (L.setIfInBounds i true) (a.put o.dst v)) : WM P md l.toArray D val Q (n + 1) g L a :=
  WM.plain i v (by simpa using ho) hs hr hf (.inl ⟨hw, fun g' f w hx hd hk => by unfold Gives; rw [hrun g' f w hx hd hk]; exact ⟨rfl, hD g' f w hd⟩⟩) h

theorem WM.call (i : Nat) {o : Oper} (v : Value) (m : FuncId) (args : Array Value) (ho : l[i]? = some o) (hs : Region.noSelect l.toArray = true) (hr : (Region.ready md l.toArray L).contains i = true) (hf : Region.free md l.toArray L i = true) (hw : Region.wanted o (yielded l.toArray a.tmps) = true)
    (hrun : ∀ w, (execOp a.eval o).run P w = .ok (.enter m args) w) (hc : ∀ g' f w, Ext g g' → D g' f w → When md l.toArray i f → Calls P m args w fun e w'' => e = .returned v ∧ D g' (add f i) w'')
    (h : WM P md l.toArray D val Q n g (L.setIfInBounds i true) (a.put o.dst v)) : WM P md l.toArray D val Q (n + 1) g L a :=
  WM.plain i v (by simpa using ho) hs hr hf (.inl ⟨hw, fun g' f w hx hd hk => by unfold Gives; rw [hrun w]; exact hc g' f w hx hd hk⟩) h

/-- A value of fixed form behind which the world is another one. -/
theorem WM.eff (i : Nat) {o : Oper} (v : Value) (ho : l[i]? = some o) (hs : Region.noSelect l.toArray = true) (hr : (Region.ready md l.toArray L).contains i = true) (hf : Region.free md l.toArray L i = true) (hw : Region.wanted o (yielded l.toArray a.tmps) = true)
    (hrun : ∀ g' f w, Ext g g' → D g' f w → When md l.toArray i f → Gives P o a w v (D g' (add f i)))
    (h : WM P md l.toArray D val Q n g (L.setIfInBounds i true) (a.put o.dst v)) : WM P md l.toArray D val Q (n + 1) g L a :=
  WM.plain i v (by simpa using ho) hs hr hf (.inl ⟨hw, hrun⟩) h

theorem gives_skip {o : Oper} {w w' : World} {R : World → Prop} (h : (execOp a.eval o).run P w = .ok .skip w') (hr : R w') : Gives P o a w undef R := by unfold Gives; rw [h]; exact ⟨rfl, hr⟩

/-- One that chooses. -/
def Chooses (P : Program) (md : Region.Mode) (ops : Array Oper) (D : (Nat → Option X) → (Nat → Bool) → World → Prop) (val : Nat → X → Value) (g : Nat → Option X) (a : Act) (i : Nat) (o : Oper) : Prop :=
  Region.wanted o (yielded ops a.tmps) = true ∧ ∀ f w, D g f w → When md ops i f → GivesX P o a w fun v w' => ∃ x, v = val i x ∧ D (upd g i x) (add f i) w'

theorem Chooses.call {i : Nat} {o : Oper} (m : FuncId) (args : Array Value) (hw : Region.wanted o (yielded ops a.tmps) = true) (hrun : ∀ w, (execOp a.eval o).run P w = .ok (.enter m args) w)
    (hc : ∀ f w, D g f w → When md ops i f → Calls P m args w fun e w'' => ∃ x, e = .returned (val i x) ∧ D (upd g i x) (add f i) w'') : Chooses P md ops D val g a i o :=
  ⟨hw, fun f w hd hk => by unfold GivesX; rw [hrun w]; exact (hc f w hd hk).mono fun e w'' ⟨x, he, hx⟩ => ⟨_, he, x, rfl, hx⟩⟩
theorem Chooses.make {i : Nat} {o : Oper} (hw : Region.wanted o (yielded ops a.tmps) = true) (hrun : ∀ f w, D g f w → When md ops i f → ∃ x w', (execOp a.eval o).run P w = .ok (.value (val i x)) w' ∧ D (upd g i x) (add f i) w') : Chooses P md ops D val g a i o :=
  ⟨hw, fun f w hd hk => by
    obtain ⟨x, w', e, hx⟩ := hrun f w hd hk
    unfold GivesX
    rw [e]
    exact ⟨x, rfl, hx⟩⟩

theorem Chooses.sure {i : Nat} {o : Oper} (ho : ops[i]? = some o) (h : Chooses P md ops D val g a i o) : SureM P md ops (fun g L w => Closed md ops L ∧ D g (fun j => L.getD j false) w) val g i o a := by
  have hi : i < ops.size := (Array.getElem?_eq_some_iff.1 ho).1
  refine ⟨h.1, fun L w hc hrd => (h.2 _ w hc.2 (when_of_ready hc.1 hrd)).mono fun v w' ⟨x, hx, hw'⟩ => ⟨x, hx, hc.1.set_ hrd, ?_⟩⟩
  rw [add_set (by rw [hc.1.1]; exact hi)]; exact hw'

/-- Only i may come up, and it chooses. -/
theorem WM.choose (i : Nat) {o : Oper} (ho : l[i]? = some o) (hr : Region.ready md l.toArray L = [i]) (hg : g i = none) (hc : Chooses P md l.toArray D val g a i o)
    (h : ∀ x, WM P md l.toArray D val Q n (upd g i x) (L.setIfInBounds i true) (a.put o.dst (val i x))) : WM P md l.toArray D val Q (n + 1) g L a := by
  refine ⟨fun e => (by rw [hr] at e; cases e), fun k hk => ?_⟩
  rw [hr] at hk
  obtain rfl : k = i := by simpa using hk
  exact ⟨o, by simpa using ho, .inr ⟨hg, hc.sure (by simpa using ho), h⟩⟩

/-- Two may come up, and both choose. -/
theorem WM.choose2 (i j : Nat) {oi oj : Oper} (hoi : l[i]? = some oi) (hoj : l[j]? = some oj) (hr : Region.ready md l.toArray L = [i, j]) (hgi : g i = none) (hgj : g j = none) (hci : Chooses P md l.toArray D val g a i oi) (hcj : Chooses P md l.toArray D val g a j oj)
    (h : ∀ x, WM P md l.toArray D val Q n (upd g i x) (L.setIfInBounds i true) (a.put oi.dst (val i x))) (k : ∀ x, WM P md l.toArray D val Q n (upd g j x) (L.setIfInBounds j true) (a.put oj.dst (val j x))) : WM P md l.toArray D val Q (n + 1) g L a := by
  refine ⟨fun e => (by rw [hr] at e; cases e), fun m hm => ?_⟩
  rw [hr] at hm
  rcases (show m = i ∨ m = j by simpa using hm) with rfl | rfl
  · exact ⟨oi, by simpa using hoi, .inr ⟨hgi, hci.sure (by simpa using hoi), h⟩⟩
  · exact ⟨oj, by simpa using hoj, .inr ⟨hgj, hcj.sure (by simpa using hoj), k⟩⟩

/-- THE RULE. -/
theorem regionM {id : Nat} {Q : Exit → Act → World → Prop} {a : Act} {w : World} {l : List Oper} (D : World → (Nat → Option X) → (Nat → Bool) → World → Prop) (val : Nat → X → Value) (hm : P.follows .mixedOrders = true)
    (h0 : ∀ f, (∀ j, f j = false) → D w (fun _ => none) f (w.drewN 1))
    (h : WM P .any l.toArray (D w) val (Q .normal) l.length (fun _ => none) (Array.replicate l.length false) a) : (Code.region id l.toArray true).wp P Q a w := by
  have hz : Array.replicate l.length false = Array.replicate l.toArray.size false := by simp
  unfold WM at h
  rw [hz] at h
  refine wp_region_any hm (wpAny_of_anyM (C := fun g L w' => Closed .any l.toArray L ∧ D w g (fun j => L.getD j false) w') (val := val)
    (Q := fun g L a' => ∀ w', D w g (fun j => L.getD j false) w' → Q .normal a' w') (fun g L a w hc hq => hq w hc.2) _ (fun _ => none) _ _ _ ⟨Closed.start _ _, h0 _ (fun j => ?_)⟩ (by simpa using h))
  simp only [Array.getD_eq_getD_getElem?, Array.getElem?_replicate]; split <;> rfl
end
end Go.Proofs.Ytmioamcgbihhjaa.Fx
