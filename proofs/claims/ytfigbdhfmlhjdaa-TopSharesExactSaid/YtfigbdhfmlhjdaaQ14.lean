import Derived.Test.YtfigbdhfmlhjdaaQ11
import Derived.Test.YtfigbdhfmlhjdaaQ13
import Derived.Test.YtfigbdhfmlhjdaaQ2
import Derived.RangeFuncNested
import Derived.RangeFuncBound
import Derived.RangeFuncCalls
import Derived.RangeFuncLeaves
import Derived.OrdersIn
import Derived.Test.YtfigbdhfmlhjdaaQ9

section
/- The plain law of pivots: a step fails in the program just where it fails in the reference. -/
namespace Go.Proofs.Ytfigbdhfmlhjdaa
open Go.RowKit

def mustF (o : Option (Int × Int)) : Int × Int := o.getD (0, 1)
def partF (al ar : Int) : Int × Int := (redN al (al + ar), redD al (al + ar))
theorem zero_ok : FOk (0, 1) := by unfold FOk fracErr; decide
theorem must_ok {a b : Int} (hb : 1 ≤ b) : FOk (mustF (opF a b)) := by
  cases h : opF a b with
  | none => exact zero_ok
  | some p => exact opF_ok hb h
theorem part_ok {al ar : Int} (h1 : 1 ≤ al) (h2 : al ≤ 10000) (h3 : 1 ≤ ar) (h4 : ar ≤ 10000) : FOk (partF al ar) := by
  have hs : smallB al (al + ar) = true := by
    unfold smallB
    have hp : 0 < Int.gcd al (al + ar) := Int.gcd_pos_of_ne_zero_right al (by omega)
    have x1 := Int.ediv_le_self (b := (Int.gcd al (al + ar) : Int)) (a := al) (by omega)
    have x2 := Int.ediv_le_self (b := (Int.gcd al (al + ar) : Int)) (a := al + ar) (by omega)
    have x3 : 0 ≤ al / (Int.gcd al (al + ar) : Int) := Int.ediv_nonneg (by omega) (by omega)
    rw [Bool.and_eq_true, withinB_iff, decide_eq_true_eq]
    omega
  exact (small_err (by omega)).1 hs

/-- One step, in one coordinate, as the program makes it: what is not small is 0 on the way. -/
def stepD (a b : Int × Int) (al ar : Int) : Int × Int := mustF (addF a (mustF (mulF (mustF (subF b a)) (partF al ar))))
def stepOK (a b : Int × Int) (al ar : Int) : Bool := (subF b a).isSome && (mulF (mustF (subF b a)) (partF al ar)).isSome && (addF a (mustF (mulF (mustF (subF b a)) (partF al ar)))).isSome
/-- The same as the reference makes it. -/
def pstF (a b : Int × Int) (al ar : Int) : Option (Int × Int) := match subF b a with
  | none => none
  | some d => match mulF d (partF al ar) with
    | none => none
    | some p => addF a p
theorem pstF_eq (a b : Int × Int) (al ar : Int) : pstF a b al ar = if stepOK a b al ar then some (stepD a b al ar) else none := by
  unfold pstF stepOK stepD
  cases h1 : subF b a with
  | none => rfl
  | some d =>
    have e1 : mustF (some d) = d := rfl
    rw [e1]
    simp only [Option.isSome_some, Bool.true_and]
    cases h2 : mulF d (partF al ar) with
    | none => rfl
    | some p =>
      have e2 : mustF (some p) = p := rfl
      rw [e2]
      simp only [Option.isSome_some, Bool.true_and]
      cases h3 : addF a p with
      | none => rfl
      | some s => rfl
theorem step_ok {a b : Int × Int} {al ar : Int} (ha : FOk a) (hb : FOk b) (h1 : 1 ≤ al) (h2 : al ≤ 10000) (h3 : 1 ≤ ar) (h4 : ar ≤ 10000) :
    FOk (mustF (subF b a)) ∧ FOk (mustF (mulF (mustF (subF b a)) (partF al ar))) ∧ FOk (stepD a b al ar) := by
  obtain ⟨a1, a2, -, -⟩ := ha.parts
  obtain ⟨b1, b2, -, -⟩ := hb.parts
  have hs : FOk (mustF (subF b a)) := must_ok (den_in b1 b2 a1 a2).1
  obtain ⟨s1, s2, -, -⟩ := hs.parts
  obtain ⟨p1, p2, -, -⟩ := (part_ok h1 h2 h3 h4).parts
  have hm : FOk (mustF (mulF (mustF (subF b a)) (partF al ar))) := must_ok (den_in s1 s2 p1 p2).1
  obtain ⟨m1, m2, -, -⟩ := hm.parts
  exact ⟨hs, hm, must_ok (den_in a1 a2 m1 m2).1⟩

/-- The place of a thing in one coordinate, as the program finds it. -/
def plD (l : List Rk) (g : ByteArray → Int) : Nat → ByteArray → Int × Int
  | 0, s => (g s, 1)
  | f + 1, s => match idxOf l s with
    | none => (g s, 1)
    | some i => match l[i]? with
      | none => (0, 1)
      | some r => stepD (plD l g f r.left) (plD l g f r.right) r.al r.ar
/-- Whether a step at or below a thing fails. -/
def flF (l : List Rk) (g : ByteArray → Int) : Nat → ByteArray → Bool
  | 0, _ => false
  | f + 1, s => match idxOf l s with
    | none => false
    | some i => match l[i]? with
      | none => false
      | some r => flF l g f r.left || flF l g f r.right || !stepOK (plD l g f r.left) (plD l g f r.right) r.al r.ar
/-- The place of a thing as the reference finds it. -/
def pvF (l : List Rk) (g : ByteArray → Int) : Nat → ByteArray → Option (Int × Int)
  | 0, s => some (g s, 1)
  | f + 1, s => match idxOf l s with
    | none => some (g s, 1)
    | some i => match l[i]? with
      | none => some (0, 1)
      | some r => match pvF l g f r.left, pvF l g f r.right with
        | some a, some b => pstF a b r.al r.ar
        | _, _ => none

theorem pvF_eq (l : List Rk) (g : ByteArray → Int) : ∀ (f : Nat) (s : ByteArray), pvF l g f s = if flF l g f s then none else some (plD l g f s) := by
  intro f
  induction f with
  | zero => intro s; rfl
  | succ f ih =>
    intro s
    cases hi : idxOf l s with
    | none =>
      rw [pvF, flF, plD, hi]
      rfl
    | some i =>
      cases hr : l[i]? with
      | none =>
        rw [pvF, flF, plD, hi]
        simp only [hr]
        rfl
      | some r =>
        have e1 : plD l g (f + 1) s = stepD (plD l g f r.left) (plD l g f r.right) r.al r.ar := by rw [plD, hi]; simp only [hr]
        have e2 : flF l g (f + 1) s = (flF l g f r.left || flF l g f r.right || !stepOK (plD l g f r.left) (plD l g f r.right) r.al r.ar) := by rw [flF, hi]; simp only [hr]
        have e3 : pvF l g (f + 1) s = match pvF l g f r.left, pvF l g f r.right with
          | some a, some b => pstF a b r.al r.ar
          | _, _ => none := by rw [pvF, hi]; simp only [hr]
        rw [e1, e2, e3, ih, ih]
        cases h1 : flF l g f r.left with
        | true => simp
        | false =>
          cases h2 : flF l g f r.right with
          | true => simp
          | false =>
            simp only [Bool.false_eq_true, if_false, Bool.false_or]
            rw [pstF_eq]
            cases stepOK (plD l g f r.left) (plD l g f r.right) r.al r.ar <;> rfl

theorem pl_mono {l : List Rk} (g : ByteArray → Int) : ∀ (f : Nat) (s : ByteArray) (ps : List ByteArray), pts l f s = some ps → plD l g (f + 1) s = plD l g f s ∧ flF l g (f + 1) s = flF l g f s := by
  intro f
  induction f with
  | zero =>
    intro s ps h
    unfold pts at h
    have hi : idxOf l s = none := by
      cases hx : idxOf l s with
      | none => rfl
      | some i => rw [hx] at h; cases h
    unfold plD flF
    rw [hi]
    exact ⟨rfl, rfl⟩
  | succ f ih =>
    intro s ps h
    unfold pts at h
    cases hi : idxOf l s with
    | none =>
      unfold plD flF
      rw [hi]
      exact ⟨rfl, rfl⟩
    | some i =>
      rw [hi] at h
      simp only at h
      cases hr : l[i]? with
      | none => rw [hr] at h; cases h
      | some r =>
        rw [hr] at h
        simp only at h
        cases ha : pts l f r.left with
        | none => rw [ha] at h; cases h
        | some pa =>
          cases hb : pts l f r.right with
          | none => rw [ha, hb] at h; cases h
          | some pb =>
            obtain ⟨x1, x2⟩ := ih _ _ ha
            obtain ⟨y1, y2⟩ := ih _ _ hb
            have e1 : ∀ f, plD l g (f + 1) s = stepD (plD l g f r.left) (plD l g f r.right) r.al r.ar := fun f => by rw [plD, hi]; simp only [hr]
            have e2 : ∀ f, flF l g (f + 1) s = (flF l g f r.left || flF l g f r.right || !stepOK (plD l g f r.left) (plD l g f r.right) r.al r.ar) := fun f => by rw [flF, hi]; simp only [hr]
            rw [e1, e2, e1 f, e2 f, x1, x2, y1, y2]
            exact ⟨rfl, rfl⟩

/-- The place, and whether a step fails, of any thing of a right tree. -/
def plV (l : List Rk) (g : ByteArray → Int) (s : ByteArray) : Int × Int := plD l g l.length s
def flV (l : List Rk) (g : ByteArray → Int) (s : ByteArray) : Bool := flF l g l.length s
theorem plV_leaf {l : List Rk} {s : ByteArray} (g : ByteArray → Int) (h : idxOf l s = none) : plV l g s = (g s, 1) ∧ flV l g s = false := by
  unfold plV flV
  cases l.length with
  | zero => exact ⟨rfl, rfl⟩
  | succ f => unfold plD flF; rw [h]; exact ⟨rfl, rfl⟩
theorem plV_step {l : List Rk} (h : openErr l = 0) {s : ByteArray} (g : ByteArray → Int) {i : Nat} {r : Rk} (hi : idxOf l s = some i) (hr : l[i]? = some r) :
    plV l g s = stepD (plV l g r.left) (plV l g r.right) r.al r.ar ∧ flV l g s = (flV l g r.left || flV l g r.right || !stepOK (plV l g r.left) (plV l g r.right) r.al r.ar) := by
  obtain ⟨e1, e2⟩ := pl_mono g _ _ _ (below_pts h s)
  unfold plV flV
  rw [← e1, ← e2]
  refine ⟨?_, ?_⟩
  · rw [plD, hi]; simp only [hr]
  · rw [flF, hi]; simp only [hr]
theorem plD_ok {l : List Rk} (harms : ArmsOK l) {g : ByteArray → Int} (hg : ∀ s, -1000000 ≤ g s ∧ g s ≤ 1000000) : ∀ (f : Nat) (s : ByteArray), FOk (plD l g f s) := by
  have h0 : ∀ s, FOk (g s, 1) := fun s => by
    have := hg s
    unfold FOk fracErr
    rw [if_neg (by simp), if_neg (by simp only; omega)]
  intro f
  induction f with
  | zero => intro s; exact h0 s
  | succ f ih =>
    intro s
    unfold plD
    cases hi : idxOf l s with
    | none => exact h0 s
    | some i =>
      simp only
      cases hr : l[i]? with
      | none => exact zero_ok
      | some r =>
        obtain ⟨a1, a2, a3, a4⟩ := harms r (List.mem_of_getElem? hr)
        exact (step_ok (ih _) (ih _) a1 a2 a3 a4).2.2

end Go.Proofs.Ytfigbdhfmlhjdaa

end

section
/- The rule for a region whose order is left open, in a round of a range over a function; the marks that such ranges leave among the deferred calls. -/
namespace Go.Proofs.Ytfigbdhfmlhjdaa.Fx
open Go Go.RowKit

section
variable {P : Program} {ops : Array Oper} {md : Region.Mode}

def noDefer (l : List Oper) : Bool := l.all fun o => match o.op with | .defer _ => false | _ => true
theorem noDefer_spec {l : List Oper} (h : noDefer l = true) {i : Nat} {o : Oper} (ho : l[i]? = some o) (c : Call) : o.op ≠ .defer c := by
  intro e
  have := List.all_eq_true.1 h o (List.mem_of_getElem? ho)
  rw [e] at this
  cases this

theorem Gives.wpIn {r n : Nat} {o : Oper} {a : Act} {w : World} {v : Value} {R : World → Prop} {K : Act → World → Prop} {Q : Exit → Act → World → Prop} (hd : ∀ c, o.op ≠ .defer c) (h : Gives P o a w v R) (hk : ∀ w', R w' → K (a.put o.dst v) w') : o.wpIn (Fence.wide.inRound r) n P a w K Q := by
  unfold Oper.wpIn
  refine ⟨fun f _ => trivial, ?_⟩
  rw [Oper.semAt_eq _ _ _ hd]
  unfold Gives at h
  generalize (execOp a.eval o).run P w = q at *
  cases q with
  | halt x w' => exact h.elim
  | ok m w' =>
    cases m
    case value u => obtain ⟨rfl, hr⟩ := h; exact hk _ hr
    case skip => obtain ⟨rfl, hr⟩ := h; exact hk _ hr
    case enter f args =>
      refine ⟨(fun h => by cases h), CallsIn.inRound r (callsIn_wide.2 (Calls.mono h fun e w'' ⟨he, hr⟩ => ?_))⟩
      subst he
      exact hk _ hr
    all_goals exact h.elim

theorem wpAnyIn_of_anyF {r m : Nat} {C : Array Bool → World → Prop} {Q : Array Bool → Act → Prop} {Q' : Exit → Act → World → Prop} (hd : ∀ (i : Nat) (o : Oper), ops[i]? = some o → ∀ c, o.op ≠ .defer c) (hQ : ∀ L a w, C L w → Q L a → Q' .normal a w) :
    ∀ (n : Nat) (L : Array Bool) (a : Act) (w : World), C L w → anyF P md ops C Q n L a → wpAnyIn (Fence.wide.inRound r) m P md ops Q' n L a w
  | 0, _, _, _, hc, h => ⟨h.1, hQ _ _ _ hc h.2⟩
  | n + 1, L, a, w, hc, h => ⟨fun h0 => hQ _ _ _ hc (h.1 h0), fun i hi => by
      obtain ⟨o, v, ho, hs, hn⟩ := h.2 i hi
      unfold wpOpIn
      simp only [ho]
      rcases hs with ⟨h1, h2⟩ | ⟨h1, h2, h3⟩
      · rw [if_pos h1]
        exact (h2 L w hc hi).wpIn (hd i o ho) fun w' hw' => wpAnyIn_of_anyF hd hQ n _ _ w' hw' hn
      · rw [if_neg (by rw [h1]; exact Bool.false_ne_true)]
        subst h2
        exact ⟨fun f _ => trivial, wpAnyIn_of_anyF hd hQ n _ _ w (h3 L w hc hi) hn⟩⟩

/-- THE RULE, in a round. -/
theorem regionIn {r m id : Nat} {Q : Exit → Act → World → Prop} {a : Act} {w : World} {l : List Oper} (D : (Nat → Bool) → World → Prop) (hm : P.follows .mixedOrders = true) (hB : Region.lexB .any l.toArray = true) (hnd : noDefer l = true)
    (h0 : ∀ f, (∀ j, f j = false) → D f (w.drewN 1)) (h : lexD P .any l.toArray D (fun a' => ∀ f w', (∀ j, j < l.length → f j = true) → D f w' → Q .normal a' w') l 0 a) :
    (Code.region id l.toArray true).wpIn (Fence.wide.inRound r) m P Q a w := by
  simp only [Region.lexB, Bool.and_eq_true] at hB
  refine wpIn_region_any hm (wpAnyIn_of_anyF (C := fun L w => Closed .any l.toArray L ∧ D (fun j => L.getD j false) w)
    (Q := fun L a' => ∀ w', D (fun j => L.getD j false) w' → Q .normal a' w') (fun i o ho => noDefer_spec hnd (by simpa using ho)) (fun L a w hc hq => hq w hc.2) _ _ _ _ ⟨Closed.start _ _, h0 _ (fun j => ?_)⟩ ?_)
  · simp only [Array.getD_eq_getD_getElem?, Array.getElem?_replicate]; split <;> rfl
  · have := anyF_lex (C := fun L w => Closed .any l.toArray L ∧ D (fun j => L.getD j false) w) (Q := fun L a' => ∀ w', D (fun j => L.getD j false) w' → Q .normal a' w')
      (P := P) hB.1 l 0 (Array.replicate l.toArray.size false) a (by simp) (by simpa using hB.2)
      (lexF_of_lexD l.length (by simp) (fun L a hL hq w' hd => hq _ w' hL hd) l 0 _ a (by simp) (by simp) (by omega) h)
    simpa using this
end

theorem grown_trans_ {a w w' : World} {row : Option Nat} (h : a.grownBy w row) (k : w.grownBy w' row) : a.grownBy w' row :=
  ⟨k.os.trans h.os, k.tape.trans h.tape, k.output.trans h.output, Nat.le_trans h.size k.size, fun i hi hne => (k.block i (Nat.lt_of_lt_of_le hi h.size) hne).trans (h.block i hi hne)⟩
theorem ownFrom_grown {β : Type} {B : Nat} {w₀ : World} {r₀ : Option Nat} (hB : w₀.heap.size ≤ B) : OwnFrom B (fun (_ : β) W => w₀.grownBy W r₀) :=
  fun _ X Y row hs hg hr => ⟨hg.os.trans hs.os, hg.tape.trans hs.tape, hg.output.trans hs.output, Nat.le_trans hs.size hg.size, fun i hi hne =>
    (hg.block i (Nat.lt_of_lt_of_le hi hs.size) (fun e => by have := (hr i e.symm).1; omega)).trans (hs.block i hi hne)⟩
theorem ownFrom_cells {β : Type} {B g : Nat} {T : TypeId} {f : β → Array Value} : OwnFrom B (fun (s : β) W => W.heap[g]? = some (.cells (f s) T (0, 0))) :=
  fun s X Y row hs hg hr => (hg.block g (Array.getElem?_eq_some_iff.1 hs).1 (fun e => by
    obtain ⟨-, o, ho, hc⟩ := hr g e.symm
    rw [hs] at ho
    cases ho
    cases hc)).trans hs

/-! Marks. -/
/-- The deferred calls that ranges over functions have left: blocks Ds. -/
def marks (Ds : List Nat) : List Deferred := Ds.map fun D => { target := .collected D, args := #[] }
/-- The blocks of the marks are there, each for itself, from B on. -/
def MarksAt (B : Nat) (Ds : List Nat) (w : World) : Prop := Ds.Nodup ∧ ∀ D ∈ Ds, B ≤ D ∧ w.heap[D]? = some (.deferred (some []))

theorem MarksAt.nil (B : Nat) (w : World) : MarksAt B [] w := ⟨by simp, fun D h => by cases h⟩
theorem MarksAt.keep {B : Nat} {Ds : List Nat} {w w' : World} (h : MarksAt B Ds w) (hk : ∀ D, B ≤ D → D < w.heap.size → w'.heap[D]? = w.heap[D]?) : MarksAt B Ds w' :=
  ⟨h.1, fun D hD => ⟨(h.2 D hD).1, (hk D (h.2 D hD).1 (Array.getElem?_eq_some_iff.1 (h.2 D hD).2).1).trans (h.2 D hD).2⟩⟩
theorem MarksAt.cons {B D : Nat} {Ds : List Nat} {w : World} (h : MarksAt B Ds w) (hB : B ≤ D) (hD : w.heap[D]? = some (.deferred (some []))) (hn : D ∉ Ds) : MarksAt B (D :: Ds) w :=
  ⟨List.nodup_cons.2 ⟨hn, h.1⟩, fun E hE => by
    rcases List.mem_cons.1 hE with rfl | hE
    · exact ⟨hB, hD⟩
    · exact h.2 E hE⟩

/-- A function that leaves with marks alone. -/
theorem leaves_marks {P : Program} {fn : Func} {n : Nat} {tmps : Array Value} {R : Ending → World → Prop} {B : Nat} : ∀ (Ds : List Nat) (w : World), MarksAt B Ds w →
    (∀ w', (∀ k, k < w.heap.size → (∀ D ∈ Ds, k ≠ D) → w'.heap[k]? = w.heap[k]?) → w'.os = w.os → w'.tape = w.tape → w'.output = w.output → w'.heap.size = w.heap.size → LeavesIn Fence.wide n P fn tmps R [] .returning w') →
    LeavesInM Fence.wide n P fn tmps R (marks Ds) .returning w
  | [], w, _, h => h w (fun _ _ _ => rfl) rfl rfl rfl rfl
  | D :: Ds, w, hm, h => by
    have hD := (hm.2 D (by simp)).2
    have hlt := (Array.getElem?_eq_some_iff.1 hD).1
    have hnd := List.nodup_cons.1 hm.1
    refine ⟨by simp, .inl ⟨D, _, rfl, run_takeDeferred hD, ?_⟩⟩
    have hput : ∀ k, k ≠ D → (w.putObj D (.deferred none)).heap[k]? = w.heap[k]? := fun k hk => World.putObj_heap_other hk
    have hsz : (w.putObj D (.deferred none)).heap.size = w.heap.size := by simp [World.putObj]
    refine leaves_marks Ds _ ⟨hnd.2, fun E hE => ⟨(hm.2 E (by simp [hE])).1, ?_⟩⟩ fun w' h1 h2 h3 h4 h5 => h w' (fun k hk hne => ?_) h2 h3 h4 (h5.trans hsz)
    · rw [hput E (fun e => hnd.1 (e ▸ hE))]
      exact (hm.2 E (by simp [hE])).2
    · rw [h1 k (by omega) (fun E hE => hne E (by simp [hE])), hput k (hne D (by simp))]
end Go.Proofs.Ytfigbdhfmlhjdaa.Fx

end

section
/- Lists that are known to read so, from one named world to the next. -/
namespace Go.Proofs.Ytfigbdhfmlhjdaa
open Go.RowKit

section
variable {w W W1 : World}
theorem reads_mid (_ : Below W.heap.size W W1) {wa : World} (h : Below wa.heap.size wa W) : Below wa.heap.size wa W := h
theorem reads_lay (hb : Below W.heap.size W W1) {wa : World} (ha : Below wa.heap.size wa W) {s n : Nat} {A : Option Addr} {xs : List Value} (h : Reads wa wa.heap.size s A n xs) : Reads W1 W1.heap.size s A n xs :=
  ((h.below ha).below (hb.mono ha.size)).more (Nat.le_trans ha.size hb.size)
end
end Go.Proofs.Ytfigbdhfmlhjdaa

end
