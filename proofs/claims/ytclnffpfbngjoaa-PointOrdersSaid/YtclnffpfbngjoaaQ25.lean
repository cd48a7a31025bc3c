import Derived.Test.YtclnffpfbngjoaaQ1
import Derived.RangeFuncNested
import Derived.RangeFuncBound
import Derived.RangeFuncCalls
import Derived.RangeFuncLeaves
import Derived.OrdersIn
import Derived.Test.YtclnffpfbngjoaaQ17
import Derived.Test.YtclnffpfbngjoaaQ16
import Derived.WalkKit
import Derived.OwnWalkIn
import Derived.TacticsInMore
import Derived.LoopNIn
import Derived.LoopIn

section
/- The rule for a region whose order is left open, in a round of a range over a function; the marks that such ranges leave among the deferred calls. -/
namespace Go.Proofs.Ytclnffpfbngjoaa.Fx
open Go Go.RowKit

section
variable {P : Program} {ops : Array Oper} {md : Region.Mode}

def noDefer (l : List Oper) : Bool := l.all fun o => match o.op with | .defer _ => false | _ => true
theorem noDefer_spec {l : List Oper} (h : noDefer l = true) {i : Nat} {o : Oper} (ho : l[i]? = some o) (c : Call) : o.op ≠ .defer c := by
  intro e
  have := List.all_eq_true.1 h o (List.mem_of_getElem? ho)
  rw [e] at this
  cases this

theorem Gives.wpIn {r n : Nat} {o : Oper} {a : Act} {w : World} {v : Value} {R : World → Prop} {K : Act → World → Prop} {Q : Exit → Act → World → Prop} (hd : ∀ c, o.op ≠ .defer c) (h : Gives P o a w v R) (hk : ∀ w', R w' → K (a.put o.dst v) w') : o.wpIn (Fence.wide.inRound r) n P a w K Q := by
  unfold Oper.wpIn
  refine ⟨fun f _ => trivial, ?_⟩
  rw [Oper.semAt_eq _ _ _ hd]
  unfold Gives at h
  generalize (execOp a.eval o).run P w = q at *
  cases q with
  | halt x w' => exact h.elim
  | ok m w' =>
    cases m
    case value u => obtain ⟨rfl, hr⟩ := h; exact hk _ hr
    case skip => obtain ⟨rfl, hr⟩ := h; exact hk _ hr
    case enter f args =>
      refine ⟨(fun h => by cases h), CallsIn.inRound r (callsIn_wide.2 (Calls.mono h fun e w'' ⟨he, hr⟩ => ?_))⟩
      subst he
      exact hk _ hr
    all_goals exact h.elim

theorem wpAnyIn_of_anyF {r m : Nat} {C : Array Bool → World → Prop} {Q : Array Bool → Act → Prop} {Q' : Exit → Act → World → Prop} (hd : ∀ (i : Nat) (o : Oper), ops[i]? = some o → ∀ c, o.op ≠ .defer c) (hQ : ∀ L a w, C L w → Q L a → Q' .normal a w) :
    ∀ (n : Nat) (L : Array Bool) (a : Act) (w : World), C L w → anyF P md ops C Q n L a → wpAnyIn (Fence.wide.inRound r) m P md ops Q' n L a w
  | 0, _, _, _, hc, h => ⟨h.1, hQ _ _ _ hc h.2⟩
  | n + 1, L, a, w, hc, h => ⟨fun h0 => hQ _ _ _ hc (h.1 h0), fun i hi => by
      obtain ⟨o, v, ho, hs, hn⟩ := h.2 i hi
      unfold wpOpIn
      simp only [ho]
      rcases hs with ⟨h1, h2⟩ | ⟨h1, h2, h3⟩
      · rw [if_pos h1]
        exact (h2 L w hc hi).wpIn (hd i o ho) fun w' hw' => wpAnyIn_of_anyF hd hQ n _ _ w' hw' hn
      · rw [if_neg (by rw [h1]; exact Bool.false_ne_true)]
        subst h2
        exact ⟨fun f _ => trivial, wpAnyIn_of_anyF hd hQ n _ _ w (h3 L w hc hi) hn⟩⟩

/-- THE RULE, in a round. -/
theorem regionIn {r m id : Nat} {Q : Exit → Act → World → Prop} {a : Act} {w : World} {l : List Oper} (D : (Nat → Bool) → World → Prop) (hm : P.follows .mixedOrders = true) (hB : Region.lexB .any l.toArray = true) (hnd : noDefer l = true)
    (h0 : ∀ f, (∀ j, f j = false) → D f (w.drewN 1)) (h : lexD P .any l.toArray D (fun a' => ∀ f w', (∀ j, j < l.length → f j = true) → D f w' → Q .normal a' w') l 0 a) :
    (Code.region id l.toArray true).wpIn (Fence.wide.inRound r) m P Q a w := by
  simp only [Region.lexB, Bool.and_eq_true] at hB
  refine wpIn_region_any hm (wpAnyIn_of_anyF (C := fun L w => Closed .any l.toArray L ∧ D (fun j => L.getD j false) w)
    (Q := fun L a' => ∀ w', D (fun j => L.getD j false) w' → Q .normal a' w') (fun i o ho => noDefer_spec hnd (by simpa using ho)) (fun L a w hc hq => hq w hc.2) _ _ _ _ ⟨Closed.start _ _, h0 _ (fun j => ?_)⟩ ?_)
  · simp only [Array.getD_eq_getD_getElem?, Array.getElem?_replicate]; split <;> rfl
  · have := anyF_lex (C := fun L w => Closed .any l.toArray L ∧ D (fun j => L.getD j false) w) (Q := fun L a' => ∀ w', D (fun j => L.getD j false) w' → Q .normal a' w')
      (P := P) hB.1 l 0 (Array.replicate l.toArray.size false) a (by simp) (by simpa using hB.2)
      (lexF_of_lexD l.length (by simp) (fun L a hL hq w' hd => hq _ w' hL hd) l 0 _ a (by simp) (by simp) (by omega) h)
    simpa using this
end

/-! Marks. -/
/-- The deferred calls that ranges over functions have left: blocks Ds. -/
def marks (Ds : List Nat) : List Deferred := Ds.map fun D => { target := .collected D, args := #[] }
/-- The blocks of the marks are there, each for itself, from B on. -/
def MarksAt (B : Nat) (Ds : List Nat) (w : World) : Prop := Ds.Nodup ∧ ∀ D ∈ Ds, B ≤ D ∧ w.heap[D]? = some (.deferred (some []))

theorem MarksAt.nil (B : Nat) (w : World) : MarksAt B [] w := ⟨by simp, fun D h => by cases h⟩
theorem MarksAt.keep {B : Nat} {Ds : List Nat} {w w' : World} (h : MarksAt B Ds w) (hk : ∀ D, B ≤ D → D < w.heap.size → w'.heap[D]? = w.heap[D]?) : MarksAt B Ds w' :=
  ⟨h.1, fun D hD => ⟨(h.2 D hD).1, (hk D (h.2 D hD).1 (Array.getElem?_eq_some_iff.1 (h.2 D hD).2).1).trans (h.2 D hD).2⟩⟩
theorem MarksAt.cons {B D : Nat} {Ds : List Nat} {w : World} (h : MarksAt B Ds w) (hB : B ≤ D) (hD : w.heap[D]? = some (.deferred (some []))) (hn : D ∉ Ds) : MarksAt B (D :: Ds) w :=
  ⟨List.nodup_cons.2 ⟨hn, h.1⟩, fun E hE => by
    rcases List.mem_cons.1 hE with rfl | hE
    · exact ⟨hB, hD⟩
    · exact h.2 E hE⟩

/-- A function that leaves with marks alone. -/
theorem leaves_marks {P : Program} {fn : Func} {n : Nat} {tmps : Array Value} {R : Ending → World → Prop} {B : Nat} : ∀ (Ds : List Nat) (w : World), MarksAt B Ds w →
    (∀ w', (∀ k, k < w.heap.size → (∀ D ∈ Ds, k ≠ D) → w'.heap[k]? = w.heap[k]?) → w'.os = w.os → w'.tape = w.tape → w'.output = w.output → w'.heap.size = w.heap.size → LeavesIn Fence.wide n P fn tmps R [] .returning w') →
    LeavesInM Fence.wide n P fn tmps R (marks Ds) .returning w
  | [], w, _, h => h w (fun _ _ _ => rfl) rfl rfl rfl rfl
  | D :: Ds, w, hm, h => by
    have hD := (hm.2 D (by simp)).2
    have hlt := (Array.getElem?_eq_some_iff.1 hD).1
    have hnd := List.nodup_cons.1 hm.1
    refine ⟨by simp, .inl ⟨D, _, rfl, run_takeDeferred hD, ?_⟩⟩
    have hput : ∀ k, k ≠ D → (w.putObj D (.deferred none)).heap[k]? = w.heap[k]? := fun k hk => World.putObj_heap_other hk
    have hsz : (w.putObj D (.deferred none)).heap.size = w.heap.size := by simp [World.putObj]
    refine leaves_marks Ds _ ⟨hnd.2, fun E hE => ⟨(hm.2 E (by simp [hE])).1, ?_⟩⟩ fun w' h1 h2 h3 h4 h5 => h w' (fun k hk hne => ?_) h2 h3 h4 (h5.trans hsz)
    · rw [hput E (fun e => hnd.1 (e ▸ hE))]
      exact (hm.2 E (by simp [hE])).2
    · rw [h1 k (by omega) (fun E hE => hne E (by simp [hE])), hput k (hne D (by simp))]
end Go.Proofs.Ytclnffpfbngjoaa.Fx

end

section
/- A range over a function whose rounds are told apart by their numbers; slices.Backward over the stops of a tour. -/
namespace Go.Proofs.Ytclnffpfbngjoaa
open Go Go.RowKit

attribute [local go_sem] Oper.semAt_some

theorem Tch.putObj {X : Nat → Prop} {w w' : World} (h : Tch X w w') {l : Nat} (hl : X l ∨ w.heap.size ≤ l) (o : Obj) : Tch X w (w'.putObj l o) :=
  ⟨h.os, h.tape, h.output, by simpa using h.size, fun i hi hx => (World.putObj_heap_other (by rintro rfl; rcases hl with hl | hl; exact hx hl; omega)).trans (h.block i hi hx)⟩

/-- How the body of round j ends: it goes on, and leaves all blocks from B on as they were. -/
def stepPost (B : Nat) (I : World → Prop) (W : World) : Exit → Act → World → Prop
  | .normal, _, W' => Tch (fun g => g < B) W W' ∧ I W'
  | _, _, _ => False

/-- The iterator: round j is called with encs j; J holds between the rounds. -/
def StepsK (m : Nat) (P : Program) (gf : Nat) (lb : Array Value) (encs : Nat → Array Value) (N : Nat) (K : World → Prop) : Prop :=
  ∀ (l : Nat) (J : Nat → World → Prop) (W : World), (∀ j W, J j W → K W) →
    (∀ j W1, j < N → J j W1 → YieldAt Fence.wide (m - 1) P l (encs j) W1 fun e W' => e = .returned (.bool true) ∧ J (j + 1) W') → J 0 W →
    CallsIn Fence.wide m P gf (#[.func (.yield l) #[] #[]] ++ lb) W fun e W' => (∃ v, e = .returned v) ∧ J N W'

theorem range_steps {P : Program} {g : Operand} {ps : Array Tmp} {assign body : Code} {Q : Exit → Act → World → Prop} {a : Act} {w : World} {n : Nat} {gf : Nat} {lb : Array Value} (hg : a.eval g = .func (.func gf) #[] lb)
    (eg : ∀ args w, (callFunc gf args).run P w = .ok (.enter gf args) w) {encs : Nat → Array Value} {N : Nat} {K : World → Prop} (hseq : StepsK (n - 1) P gf lb encs N K) (hps : ∀ j, (encs j).size = ps.size)
    (I : Nat → World → Prop) (hI : ∀ j W W', Tch (fun g => w.heap.size ≤ g) W W' → I j W → I j W') (hK : ∀ j W, I j W → K W) (h0 : I 0 w)
    (hround : ∀ (l j : Nat) (W : World), w.heap.size < l → l < W.heap.size → j < N → I j W → assign.wpIn (Fence.wide.inRound l) (n - 1 - 1) P
      (Exit.then (fun a' W1 => Tch (fun _ => False) W W1 ∧ ∀ W2, Tch (fun g => g = l) W1 W2 → I j W2 → body.wpIn (Fence.wide.inRound l) (n - 1 - 1) P (stepPost w.heap.size (I (j + 1)) W2) a' W2) (fun _ _ _ => False))
      { tmps := (ps.zip (encs j)).foldl (fun t (p, v) => t.setIfInBounds p v) a.tmps, defers := [] } W)
    (hdone : ∀ (D : Nat) (W : World), w.heap.size ≤ D → I N W → W.heap[D]? = some (.deferred (some [])) → Q .normal { a with defers := { target := .collected D, args := #[] } :: a.defers } W) :
    (Code.rangeFunc g ps assign body).wpIn Fence.wide n P Q a w := by
  refine wpIn_rangeFunc fun fn _ => ?_
  obtain ⟨B, hB⟩ : ∃ B, w.heap.size = B := ⟨_, rfl⟩
  let rec_ : LoopState → Option Code → Loop := fun st pe => { state := st, pending := pe, fn, tmps := a.tmps, params := ps, assign, body, defers := B }
  let V := (w.alloc (.deferred (some []))).alloc (.loop (rec_ .ready none))
  have hVs : V.heap.size = B + 2 := by simp [V, hB]
  have hVD : V.heap[B]? = some (.deferred (some [])) := by
    rw [← hB]
    exact (((Below.refl (w.heap.size + 1) _).alloc (by simp) _).block _ (by omega)).trans (World.alloc_heap_new w _)
  have hVL : V.heap[B + 1]? = some (.loop (rec_ .ready none)) := by
    have h := World.alloc_heap_new (w.alloc (.deferred (some []))) (.loop (rec_ .ready none))
    rwa [World.size_alloc, hB] at h
  have hVI : I 0 V := hI 0 w V ((Tch.refl _ w).alloc _ |>.alloc _) h0
  refine ⟨B + 1, [{ target := .collected B, args := #[] }], V, { target := .fn (.func gf) lb, args := #[.func (.yield (B + 1)) #[] #[]] }, V, gf, _, V, by rw [← hB]; simpa [rec_, V, hB] using run_enterLoop_outer (P := P) (w := w) fn a.tmps ps assign body, ?_, fun _ _ => trivial, by simp [invoke, go_sem, eg]; rfl, fun h => (by cases h), ?_⟩
  · simp only [resolve, hg]
    simp [go_sem]
  refine (hseq (B + 1) (fun j W => I j W ∧ W.heap[B + 1]? = some (.loop (rec_ .ready none)) ∧ W.heap[B]? = some (.deferred (some []))) V (fun j W h => hK j W h.1) ?_ ⟨hVI, hVL, hVD⟩).mono ?_
  · rintro j W hj ⟨hi, hl, hd⟩
    have hlt := (Array.getElem?_eq_some_iff.1 hl).1
    refine ⟨fn, _, assign, body, run_yield (P := P) (args := encs j) hl (hps j), roundIn_of_wpIn trivial (wpIn_mono (hround (B + 1) j W (by omega) hlt hj hi) ?_)⟩
    rintro e a' W1 hq
    cases e with
    | normal =>
      obtain ⟨h1, h2⟩ := hq
      have hl1 : W1.heap[B + 1]? = some (.loop (rec_ .ready none)) := (h1.block _ hlt (by simp)).trans hl
      have hd1 : W1.heap[B]? = some (.deferred (some [])) := (h1.block _ (by omega) (by simp)).trans hd
      have hlt1 := (Array.getElem?_eq_some_iff.1 hl1).1
      have hbusy : Tch (fun g => g = B + 1) W1 (W1.putObj (B + 1) (.loop { rec_ .ready none with state := .busy })) := (Tch.refl (fun g => g = B + 1) W1).putObj (l := B + 1) (.inl rfl) _
      refine ⟨_, run_beginRound hl1 rfl, wpIn_mono (h2 _ hbusy (hI j W _ ((h1.mono (Y := fun g => B ≤ g) (fun _ _ h => h.elim)).trans (hbusy.mono (fun i _ (e : i = B + 1) => by show B ≤ i; omega)) |> fun t => hB ▸ t) hi)) ?_⟩
      rintro e a3 W3 hq3
      cases e with
      | normal =>
        obtain ⟨h3, h4⟩ := hq3
        rw [hB] at h3
        have hl3 : W3.heap[B + 1]? = some (.loop { rec_ .ready none with state := .busy }) := (h3.block _ (by simpa using hlt1) (by omega)).trans (World.putObj_heap_same hlt1)
        have hd3 : W3.heap[B]? = some (.deferred (some [])) := (h3.block _ (by simp; omega) (by omega)).trans ((World.putObj_heap_other (by omega)).trans hd1)
        have hlt3 := (Array.getElem?_eq_some_iff.1 hl3).1
        refine ⟨_, _, run_endRound (P := P) none hl3, rfl, hI _ W3 _ ((Tch.refl _ W3).putObj (.inl (by show w.heap.size ≤ _; omega)) _) h4, World.putObj_heap_same hlt3, (World.putObj_heap_other (by omega)).trans hd3⟩
      | _ => exact hq3.elim
    | _ => exact hq.elim
  · rintro e W ⟨⟨v, rfl⟩, hi, hl, hd⟩
    refine ⟨none, _, run_endLoop (P := P) hl (by simp [rec_]), ?_⟩
    exact hdone B _ (by omega) (hI N W _ ((Tch.refl _ W).putObj (.inl (by show w.heap.size ≤ _; omega)) _) hi) ((World.putObj_heap_other (by omega)).trans hd)

def Stp.val (s : Stp) : Value := .agg s.cells.toArray
def stpAt (S : List Stp) (i : Nat) : Value := ((S[i]?).map Stp.val).getD undef

set_option maxRecDepth 100000 in
set_option maxHeartbeats 2000000 in
theorem back1_in (S : List Stp) (A : Option Addr) (n c Bs m : Nat) (hn : n ≤ 1000) :
    StepsK m Try.prog 73 #[.pointer (some ⟨Bs, 0, none⟩)] (fun j => #[.int .i64 (((n - 1 - j : Nat) : Int)), stpAt S (n - 1 - j)]) n
      (fun W => W.cell? ⟨Bs, 0, none⟩ = some (.slice A n c) ∧ Reads W W.heap.size 8 A n (stpCells S)) := by
  intro l J W hJ hY h0
  have hc := (hJ 0 W h0).1
  refine callsIn_of_wp Try.func73 rfl trivial ?_ rfl
  simp only [Try.ntmps73, List.size_toArray, List.length_cons, List.length_nil, Nat.reduceAdd, Nat.reduceSub, Array.replicate_succ, Array.replicate_zero, List.push_toArray, List.append_toArray, List.nil_append, List.cons_append]
  have v0 : IntKind.i64.wrap ((n : Int) - 1) = (n : Int) - 1 := IntWalk.i64_in ((n : Int) - 1) ⟨by omega, by omega⟩
  gi_wp2
  gi_loopw [3] (fun i wr => ∃ j : Nat, j ≤ n ∧ i = .int .i64 ((n : Int) - 1 - j) ∧ J j wr) (fun i _ => (intOf i + 1).toNat)
  case atStart => exact ⟨0, by omega, by simp, h0⟩
  case round =>
    obtain ⟨j, hj, rfl, hJs⟩ := hrel
    obtain ⟨hc1, hr1⟩ := hJ j wr hJs
    by_cases hlt : j < n
    · obtain ⟨q, hq⟩ : ∃ q, q + j + 1 = n := ⟨n - 1 - j, by omega⟩
      have ej : (n : Int) - 1 - (j : Int) = (q : Int) := by omega
      have eq2 : n - 1 - j = q := by omega
      obtain ⟨sb, so, s, rfl, hsb, hs, c6, c7, hcs⟩ := hr1.stp (show q < n by omega)
      have d0 : wr.cell? ⟨sb, so + q * 8, none⟩ = some (.string s.t.name) := hcs 0 _ (by omega) rfl
      have d1 : wr.cell? ⟨sb, so + q * 8 + 1, none⟩ = some (.int .i64 s.t.az) := hcs 1 _ (by omega) rfl
      have d2 : wr.cell? ⟨sb, so + q * 8 + 2, none⟩ = some (.int .i64 s.t.ht) := hcs 2 _ (by omega) rfl
      have d3 : wr.cell? ⟨sb, so + q * 8 + 3, none⟩ = some (.int .i64 s.t.fr) := hcs 3 _ (by omega) rfl
      have d4 : wr.cell? ⟨sb, so + q * 8 + 4, none⟩ = some (.int .i64 s.t.to) := hcs 4 _ (by omega) rfl
      have d5 : wr.cell? ⟨sb, so + q * 8 + 5, none⟩ = some (.int .i64 s.t.dw) := hcs 5 _ (by omega) rfl
      obtain ⟨fn, tmps, assign, body, hy, hR⟩ := hY j wr hlt hJs
      have hsv : stpAt S q = .agg #[.string s.t.name, .int .i64 s.t.az, .int .i64 s.t.ht, .int .i64 s.t.fr, .int .i64 s.t.to, .int .i64 s.t.dw, .slice s.A s.n s.c, .slice s.A' s.n s.c'] := by unfold stpAt; rw [hs]; rfl
      rw [eq2, hsv] at hy
      rw [ej]
      have hqn : (q : Int) < (n : Int) := by omega
      have v1 : IntKind.i64.wrap ((q : Int) - 1) = (q : Int) - 1 := IntWalk.i64_in ((q : Int) - 1) ⟨by omega, by omega⟩
      clear hcs hr1 hs hsv hY
      gi_wp2
      refine ⟨fun h => (by cases h), ?_⟩
      refine hR.mono ?_
      rintro e W3 ⟨rfl, hJ3⟩
      gi_wp2
      go_roundw
      case rel => exact ⟨j + 1, by omega, by congr 1; push_cast; omega, hJ3⟩
      case measure => simp [intOf]
    · obtain rfl : j = n := by omega
      have ej : (j : Int) - 1 - (j : Int) = -1 := by omega
      rw [ej]
      gi_wp2
      go_end0
      exact ⟨⟨_, rfl⟩, hJs⟩

theorem back_any (A : Option Addr) (n c : Nat) (w : World) : Calls Try.prog 51 #[.slice A n c] w fun e w' => e = .returned (.func (.func 73) #[] #[.pointer (some ⟨w.heap.size, 0, none⟩)]) ∧ w' = w.alloc (.cells #[.slice A n c] 69) := by
  have hmf : ∀ (fn : Fn) (first cap : Array Value) (w : World), (Instr.makeFunc fn first cap).run Try.prog w = .ok (.func fn first cap) w := fun _ _ _ _ => rfl
  go_enter Try.func51, Try.ntmps51
  go_wp2
  go_ret
  exact ⟨rfl, rfl⟩
end Go.Proofs.Ytclnffpfbngjoaa

end
