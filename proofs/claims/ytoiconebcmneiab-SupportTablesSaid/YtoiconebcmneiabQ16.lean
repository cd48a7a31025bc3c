import Derived.Test.YtoiconebcmneiabQ15
import Derived.Test.YtoiconebcmneiabQ7
import Derived.Test.YtoiconebcmneiabQ2
import Derived.RangeFuncNested
import Derived.RangeFuncBound
import Derived.RangeFuncCalls
import Derived.RangeFuncLeaves
import Derived.OrdersIn

section
/- Contracts of the rounded divisions, and of the product of two fractions that may have great parts. -/
namespace Go.Proofs.Ytoiconebcmneiab
open Go.RowKit

theorem floor_eq {a b : Int} (hb : 1 ≤ b) : (if a.tmod b < 0 then a.tdiv b - 1 else a.tdiv b) = a / b := by
  have h1 := Int.emod_nonneg a (show b ≠ 0 by omega)
  have h2 := Int.emod_lt_of_pos a (show 0 < b by omega)
  have e1 := Int.mul_ediv_add_emod a b
  have e2 := Int.mul_tdiv_add_tmod a b
  have h3 : (a.tmod b).natAbs < b.natAbs := tmod_lt a b (by omega)
  obtain ⟨q, hq⟩ : ∃ q, a / b = q := ⟨_, rfl⟩
  obtain ⟨r, hr⟩ : ∃ r, a % b = r := ⟨_, rfl⟩
  obtain ⟨p, hp⟩ : ∃ p, a.tdiv b = p := ⟨_, rfl⟩
  obtain ⟨s, hs⟩ : ∃ s, a.tmod b = s := ⟨_, rfl⟩
  rw [hq, hr] at e1
  rw [hp, hs] at e2
  rw [hs] at h3 ⊢
  rw [hp, hq]
  have key : ∀ k : Int, b * k < b → -b < b * k → k = 0 := by
    intro k k1 k2
    rcases Int.lt_trichotomy k 0 with h | h | h
    · have := Int.mul_le_mul_of_nonneg_left (show k ≤ -1 by omega) (show 0 ≤ b by omega)
      omega
    · exact h
    · have := Int.mul_le_mul_of_nonneg_left (show 1 ≤ k by omega) (show 0 ≤ b by omega)
      omega
  split
  · have := key (p - 1 - q) (by rw [Int.mul_sub, Int.mul_sub]; omega) (by rw [Int.mul_sub, Int.mul_sub]; omega)
    omega
  · rename_i h
    by_cases ha : a.tmod b < 0
    · omega
    · have := key (p - q) (by rw [Int.mul_sub]; omega) (by rw [Int.mul_sub]; omega)
      omega

theorem floor_in {a b : Int} (hb : 1 ≤ b) (h1 : -4000000000000000000 ≤ a) (h2 : a ≤ 4000000000000000000) : -4000000000000000001 ≤ a / b ∧ a / b ≤ 4000000000000000001 ∧ -4000000000000000001 ≤ a.tdiv b ∧ a.tdiv b ≤ 4000000000000000001 := by
  have hq : (a.tdiv b).natAbs ≤ a.natAbs := by rw [Int.natAbs_tdiv]; exact Nat.div_le_self _ _
  have e := floor_eq (a := a) hb
  split at e <;> omega

theorem floorsup_any (a b : Int) (w : World) (h1 : -4000000000000000000 ≤ a) (h2 : a ≤ 4000000000000000000) (h3 : 1 ≤ b) (h4 : b ≤ 9223372036854775807) :
    Calls Try.prog 48 #[.int .i64 a, .int .i64 b] w fun e w' => e = .returned (.int .i64 (a / b)) ∧ w = w' := by
  have b0 : ¬ b = 0 := by omega
  have he := floor_eq (a := a) h3
  obtain ⟨f1, f2, f3, f4⟩ := floor_in (a := a) h3 h1 h2
  have hm := tmod_in a b (by omega) h4 b0
  obtain ⟨q, hq⟩ : ∃ q, a.tdiv b = q := ⟨_, rfl⟩
  obtain ⟨r, hr⟩ : ∃ r, a.tmod b = r := ⟨_, rfl⟩
  rw [hq] at f3 f4 he
  rw [hr] at he hm
  have v1 := IntWalk.i64_in q ⟨by omega, by omega⟩
  have v2 := IntWalk.i64_in (q - 1) ⟨by omega, by omega⟩
  have v3 := IntWalk.i64_in r hm
  have HE := Lib.hid he
  clear he
  by_cases hneg : r < 0
  · have hv : a / b = q - 1 := by rw [← HE.out, if_pos hneg]
    have HV := Lib.hid hv
    clear hv
    go_enter Try.func48, Try.ntmps48
    go_wp2
    go_ret
    exact ⟨ret_int HV.out.symm, rfl⟩
  · have hv : a / b = q := by rw [← HE.out, if_neg hneg]
    have HV := Lib.hid hv
    clear hv
    go_enter Try.func48, Try.ntmps48
    go_wp2
    go_ret
    exact ⟨ret_int HV.out.symm, rfl⟩

theorem floorref_any (a b : Int) (w : World) (h1 : -4000000000000000000 ≤ a) (h2 : a ≤ 4000000000000000000) (h3 : 1 ≤ b) (h4 : b ≤ 9223372036854775807) :
    Calls Try.prog 58 #[.int .i64 a, .int .i64 b] w fun e w' => e = .returned (.int .i64 (a / b)) ∧ w = w' := by
  have b0 : ¬ b = 0 := by omega
  have he := floor_eq (a := a) h3
  obtain ⟨f1, f2, f3, f4⟩ := floor_in (a := a) h3 h1 h2
  have hm := tmod_in a b (by omega) h4 b0
  obtain ⟨q, hq⟩ : ∃ q, a.tdiv b = q := ⟨_, rfl⟩
  obtain ⟨r, hr⟩ : ∃ r, a.tmod b = r := ⟨_, rfl⟩
  rw [hq] at f3 f4 he
  rw [hr] at he hm
  have v1 := IntWalk.i64_in q ⟨by omega, by omega⟩
  have v2 := IntWalk.i64_in (q - 1) ⟨by omega, by omega⟩
  have v3 := IntWalk.i64_in r hm
  have HE := Lib.hid he
  clear he
  by_cases hneg : r < 0
  · have hv : a / b = q - 1 := by rw [← HE.out, if_pos hneg]
    have HV := Lib.hid hv
    clear hv
    go_enter Try.func58, Try.ntmps58
    go_wp2
    go_ret
    exact ⟨ret_int HV.out.symm, rfl⟩
  · have hv : a / b = q := by rw [← HE.out, if_neg hneg]
    have HV := Lib.hid hv
    clear hv
    go_enter Try.func58, Try.ntmps58
    go_wp2
    go_ret
    exact ⟨ret_int HV.out.symm, rfl⟩

theorem ceilsup_any (a b : Int) (w : World) (h1 : -4000000000000000000 ≤ a) (h2 : a ≤ 4000000000000000000) (h3 : 1 ≤ b) (h4 : b ≤ 9223372036854775807) :
    Calls Try.prog 49 #[.int .i64 a, .int .i64 b] w fun e w' => e = .returned (.int .i64 (-((-a) / b))) ∧ w = w' := by
  obtain ⟨f1, f2, f3, f4⟩ := floor_in (a := -a) h3 (by omega) (by omega)
  have v1 := IntWalk.i64_in (-a) ⟨by omega, by omega⟩
  obtain ⟨q, hq⟩ : ∃ q, (-a) / b = q := ⟨_, rfl⟩
  have HQ := Lib.hid hq
  rw [hq] at f1 f2
  rw [hq]
  clear hq
  have v2 := IntWalk.i64_in (-q) ⟨by omega, by omega⟩
  go_enter Try.func49, Try.ntmps49
  go_wp2_with fail
  refine (floorsup_any (-a) b _ (by omega) (by omega) h3 h4).mono ?_
  rintro e w' ⟨rfl, rfl⟩
  rw [HQ.out]
  go_wp2
  go_ret
  exact ⟨rfl, rfl⟩

theorem ceilref_any (a b : Int) (w : World) (h1 : -4000000000000000000 ≤ a) (h2 : a ≤ 4000000000000000000) (h3 : 1 ≤ b) (h4 : b ≤ 9223372036854775807) :
    Calls Try.prog 59 #[.int .i64 a, .int .i64 b] w fun e w' => e = .returned (.int .i64 (-((-a) / b))) ∧ w = w' := by
  obtain ⟨f1, f2, f3, f4⟩ := floor_in (a := -a) h3 (by omega) (by omega)
  have v1 := IntWalk.i64_in (-a) ⟨by omega, by omega⟩
  obtain ⟨q, hq⟩ : ∃ q, (-a) / b = q := ⟨_, rfl⟩
  have HQ := Lib.hid hq
  rw [hq] at f1 f2
  rw [hq]
  clear hq
  have v2 := IntWalk.i64_in (-q) ⟨by omega, by omega⟩
  go_enter Try.func59, Try.ntmps59
  go_wp2_with fail
  refine (floorref_any (-a) b _ (by omega) (by omega) h3 h4).mono ?_
  rintro e w' ⟨rfl, rfl⟩
  rw [HQ.out]
  go_wp2
  go_ret
  exact ⟨rfl, rfl⟩

/-- The product of two fractions whose parts are above 0, each taken against the other. -/
def timesF (a b c d : Int) : (Int × Int) × Bool :=
  if 1000000000 < a / (Int.gcd a d : Int) * (c / (Int.gcd c b : Int)) ∨ 1000000000 < b / (Int.gcd c b : Int) * (d / (Int.gcd a d : Int)) then ((0, 0), false)
  else ((a / (Int.gcd a d : Int) * (c / (Int.gcd c b : Int)), b / (Int.gcd c b : Int) * (d / (Int.gcd a d : Int))), true)

theorem most_div {p q : Int} (hq : 1 ≤ q) : ((1000000000 : Int).tdiv q < p) ↔ 1000000000 < p * q := by
  rw [Int.tdiv_eq_ediv_of_nonneg (by decide)]
  exact Int.ediv_lt_iff_lt_mul (by omega)

theorem div_gcd_pos {a b : Int} (ha : 1 ≤ a) (hb : 1 ≤ b) : 1 ≤ (Int.gcd a b : Int) ∧ 1 ≤ a / (Int.gcd a b : Int) ∧ a / (Int.gcd a b : Int) ≤ a ∧ 1 ≤ b / (Int.gcd a b : Int) ∧ b / (Int.gcd a b : Int) ≤ b := by
  have hp : 0 < Int.gcd a b := Int.gcd_pos_of_ne_zero_right a (by omega)
  have a1 : 0 < a / (Int.gcd a b : Int) := Int.ediv_pos_of_pos_of_dvd (by omega) (by omega) (Int.gcd_dvd_left a b)
  have a2 : 0 < b / (Int.gcd a b : Int) := Int.ediv_pos_of_pos_of_dvd (by omega) (by omega) (Int.gcd_dvd_right a b)
  have b1 : a / (Int.gcd a b : Int) ≤ a := Int.ediv_le_self _ (by omega)
  have b2 : b / (Int.gcd a b : Int) ≤ b := Int.ediv_le_self _ (by omega)
  omega


end Go.Proofs.Ytoiconebcmneiab

end

section
/- The rule for a region whose order is left open, in a round of a range over a function; the marks that such ranges leave among the deferred calls. -/
namespace Go.Proofs.Ytoiconebcmneiab.Fx
open Go Go.RowKit

section
variable {P : Program} {ops : Array Oper} {md : Region.Mode}

def noDefer (l : List Oper) : Bool := l.all fun o => match o.op with | .defer _ => false | _ => true
theorem noDefer_spec {l : List Oper} (h : noDefer l = true) {i : Nat} {o : Oper} (ho : l[i]? = some o) (c : Call) : o.op ≠ .defer c := by
  intro e
  have := List.all_eq_true.1 h o (List.mem_of_getElem? ho)
  rw [e] at this
  cases this

theorem Gives.wpIn {r n : Nat} {o : Oper} {a : Act} {w : World} {v : Value} {R : World → Prop} {K : Act → World → Prop} {Q : Exit → Act → World → Prop} (hd : ∀ c, o.op ≠ .defer c) (h : Gives P o a w v R) (hk : ∀ w', R w' → K (a.put o.dst v) w') : o.wpIn (Fence.wide.inRound r) n P a w K Q := by
  unfold Oper.wpIn
  refine ⟨fun f _ => trivial, ?_⟩
  rw [Oper.semAt_eq _ _ _ hd]
  unfold Gives at h
  generalize (execOp a.eval o).run P w = q at *
  cases q with
  | halt x w' => exact h.elim
  | ok m w' =>
    cases m
    case value u => obtain ⟨rfl, hr⟩ := h; exact hk _ hr
    case skip => obtain ⟨rfl, hr⟩ := h; exact hk _ hr
    case enter f args =>
      refine ⟨(fun h => by cases h), CallsIn.inRound r (callsIn_wide.2 (Calls.mono h fun e w'' ⟨he, hr⟩ => ?_))⟩
      subst he
      exact hk _ hr
    all_goals exact h.elim

theorem wpAnyIn_of_anyF {r m : Nat} {C : Array Bool → World → Prop} {Q : Array Bool → Act → Prop} {Q' : Exit → Act → World → Prop} (hd : ∀ (i : Nat) (o : Oper), ops[i]? = some o → ∀ c, o.op ≠ .defer c) (hQ : ∀ L a w, C L w → Q L a → Q' .normal a w) :
    ∀ (n : Nat) (L : Array Bool) (a : Act) (w : World), C L w → anyF P md ops C Q n L a → wpAnyIn (Fence.wide.inRound r) m P md ops Q' n L a w
  | 0, _, _, _, hc, h => ⟨h.1, hQ _ _ _ hc h.2⟩
  | n + 1, L, a, w, hc, h => ⟨fun h0 => hQ _ _ _ hc (h.1 h0), fun i hi => by
      obtain ⟨o, v, ho, hs, hn⟩ := h.2 i hi
      unfold wpOpIn
      simp only [ho]
      rcases hs with ⟨h1, h2⟩ | ⟨h1, h2, h3⟩
      · rw [if_pos h1]
        exact (h2 L w hc hi).wpIn (hd i o ho) fun w' hw' => wpAnyIn_of_anyF hd hQ n _ _ w' hw' hn
      · rw [if_neg (by rw [h1]; exact Bool.false_ne_true)]
        subst h2
        exact ⟨fun f _ => trivial, wpAnyIn_of_anyF hd hQ n _ _ w (h3 L w hc hi) hn⟩⟩

/-- THE RULE, in a round. -/
theorem regionIn {r m id : Nat} {Q : Exit → Act → World → Prop} {a : Act} {w : World} {l : List Oper} (D : (Nat → Bool) → World → Prop) (hm : P.follows .mixedOrders = true) (hB : Region.lexB .any l.toArray = true) (hnd : noDefer l = true)
    (h0 : ∀ f, (∀ j, f j = false) → D f (w.drewN 1)) (h : lexD P .any l.toArray D (fun a' => ∀ f w', (∀ j, j < l.length → f j = true) → D f w' → Q .normal a' w') l 0 a) :
    (Code.region id l.toArray true).wpIn (Fence.wide.inRound r) m P Q a w := by
  simp only [Region.lexB, Bool.and_eq_true] at hB
  refine wpIn_region_any hm (wpAnyIn_of_anyF (C := fun L w => Closed .any l.toArray L ∧ D (fun j => L.getD j false) w)
    (Q := fun L a' => ∀ w', D (fun j => L.getD j false) w' → Q .normal a' w') (fun i o ho => noDefer_spec hnd (by simpa using ho)) (fun L a w hc hq => hq w hc.2) _ _ _ _ ⟨Closed.start _ _, h0 _ (fun j => ?_)⟩ ?_)
  · simp only [Array.getD_eq_getD_getElem?, Array.getElem?_replicate]; split <;> rfl
  · have := anyF_lex (C := fun L w => Closed .any l.toArray L ∧ D (fun j => L.getD j false) w) (Q := fun L a' => ∀ w', D (fun j => L.getD j false) w' → Q .normal a' w')
      (P := P) hB.1 l 0 (Array.replicate l.toArray.size false) a (by simp) (by simpa using hB.2)
      (lexF_of_lexD l.length (by simp) (fun L a hL hq w' hd => hq _ w' hL hd) l 0 _ a (by simp) (by simp) (by omega) h)
    simpa using this
end

theorem grown_trans_ {a w w' : World} {row : Option Nat} (h : a.grownBy w row) (k : w.grownBy w' row) : a.grownBy w' row :=
  ⟨k.os.trans h.os, k.tape.trans h.tape, k.output.trans h.output, Nat.le_trans h.size k.size, fun i hi hne => (k.block i (Nat.lt_of_lt_of_le hi h.size) hne).trans (h.block i hi hne)⟩
theorem ownFrom_grown {β : Type} {B : Nat} {w₀ : World} {r₀ : Option Nat} (hB : w₀.heap.size ≤ B) : OwnFrom B (fun (_ : β) W => w₀.grownBy W r₀) :=
  fun _ X Y row hs hg hr => ⟨hg.os.trans hs.os, hg.tape.trans hs.tape, hg.output.trans hs.output, Nat.le_trans hs.size hg.size, fun i hi hne =>
    (hg.block i (Nat.lt_of_lt_of_le hi hs.size) (fun e => by have := (hr i e.symm).1; omega)).trans (hs.block i hi hne)⟩
theorem ownFrom_cells {β : Type} {B g : Nat} {T : TypeId} {f : β → Array Value} : OwnFrom B (fun (s : β) W => W.heap[g]? = some (.cells (f s) T (0, 0))) :=
  fun s X Y row hs hg hr => (hg.block g (Array.getElem?_eq_some_iff.1 hs).1 (fun e => by
    obtain ⟨-, o, ho, hc⟩ := hr g e.symm
    rw [hs] at ho
    cases ho
    cases hc)).trans hs

/-! Marks. -/
/-- The deferred calls that ranges over functions have left: blocks Ds. -/
def marks (Ds : List Nat) : List Deferred := Ds.map fun D => { target := .collected D, args := #[] }
/-- The blocks of the marks are there, each for itself, from B on. -/
def MarksAt (B : Nat) (Ds : List Nat) (w : World) : Prop := Ds.Nodup ∧ ∀ D ∈ Ds, B ≤ D ∧ w.heap[D]? = some (.deferred (some []))

theorem MarksAt.nil (B : Nat) (w : World) : MarksAt B [] w := ⟨by simp, fun D h => by cases h⟩
theorem MarksAt.keep {B : Nat} {Ds : List Nat} {w w' : World} (h : MarksAt B Ds w) (hk : ∀ D, B ≤ D → D < w.heap.size → w'.heap[D]? = w.heap[D]?) : MarksAt B Ds w' :=
  ⟨h.1, fun D hD => ⟨(h.2 D hD).1, (hk D (h.2 D hD).1 (Array.getElem?_eq_some_iff.1 (h.2 D hD).2).1).trans (h.2 D hD).2⟩⟩
theorem MarksAt.cons {B D : Nat} {Ds : List Nat} {w : World} (h : MarksAt B Ds w) (hB : B ≤ D) (hD : w.heap[D]? = some (.deferred (some []))) (hn : D ∉ Ds) : MarksAt B (D :: Ds) w :=
  ⟨List.nodup_cons.2 ⟨hn, h.1⟩, fun E hE => by
    rcases List.mem_cons.1 hE with rfl | hE
    · exact ⟨hB, hD⟩
    · exact h.2 E hE⟩

/-- A function that leaves with marks alone. -/
theorem leaves_marks {P : Program} {fn : Func} {n : Nat} {tmps : Array Value} {R : Ending → World → Prop} {B : Nat} : ∀ (Ds : List Nat) (w : World), MarksAt B Ds w →
    (∀ w', (∀ k, k < w.heap.size → (∀ D ∈ Ds, k ≠ D) → w'.heap[k]? = w.heap[k]?) → w'.os = w.os → w'.tape = w.tape → w'.output = w.output → w'.heap.size = w.heap.size → LeavesIn Fence.wide n P fn tmps R [] .returning w') →
    LeavesInM Fence.wide n P fn tmps R (marks Ds) .returning w
  | [], w, _, h => h w (fun _ _ _ => rfl) rfl rfl rfl rfl
  | D :: Ds, w, hm, h => by
    have hD := (hm.2 D (by simp)).2
    have hlt := (Array.getElem?_eq_some_iff.1 hD).1
    have hnd := List.nodup_cons.1 hm.1
    refine ⟨by simp, .inl ⟨D, _, rfl, run_takeDeferred hD, ?_⟩⟩
    have hput : ∀ k, k ≠ D → (w.putObj D (.deferred none)).heap[k]? = w.heap[k]? := fun k hk => World.putObj_heap_other hk
    have hsz : (w.putObj D (.deferred none)).heap.size = w.heap.size := by simp [World.putObj]
    refine leaves_marks Ds _ ⟨hnd.2, fun E hE => ⟨(hm.2 E (by simp [hE])).1, ?_⟩⟩ fun w' h1 h2 h3 h4 h5 => h w' (fun k hk hne => ?_) h2 h3 h4 (h5.trans hsz)
    · rw [hput E (fun e => hnd.1 (e ▸ hE))]
      exact (hm.2 E (by simp [hE])).2
    · rw [h1 k (by omega) (fun E hE => hne E (by simp [hE])), hput k (hne D (by simp))]
end Go.Proofs.Ytoiconebcmneiab.Fx

end
