import Derived.Test.YtoiconebcmneiabQ12
import Derived.Test.YtoiconebcmneiabQ16
import Derived.Test.YtoiconebcmneiabQ2
import Derived.RangeFuncNested
import Derived.RangeFuncBound
import Derived.RangeFuncCalls
import Derived.RangeFuncLeaves
import Derived.OrdersIn
import Derived.Test.YtoiconebcmneiabQ14

section
/- Contracts of the reference's sums below a thing. -/
namespace Go.Proofs.Ytoiconebcmneiab
open Go Go.RowKit

theorem int_at {w : World} {B n : Nat} {A : Option Addr} {xs : List Int} (h : Reads w B 1 A n (xs.map (.int .i64))) {i : Nat} (hi : i < n) : ∃ b o z, A = some ⟨b, o, none⟩ ∧ b < B ∧ xs[i]? = some z ∧ w.cell? ⟨b, o + i, none⟩ = some (.int .i64 z) := by
  obtain ⟨b, o, u, e, hb, hu, hc⟩ := h.at_ hi
  rw [List.getElem?_map] at hu
  cases hz : xs[i]? with
  | none => rw [hz] at hu; cases hu
  | some z => rw [hz] at hu; obtain rfl := Option.some.inj hu; exact ⟨b, o, z, e, hb, rfl, hc⟩
theorem points_below {l : List Rk} (h0 : openErr l = 0) {ps : List ByteArray} (hp : ptsOf l = some ps) : below_ l (topName l) = ps := by
  have := below_pts h0 (topName l)
  unfold ptsOf at hp
  rw [hp] at this
  exact (Option.some.inj this).symm

set_option maxRecDepth 100000 in
set_option maxHeartbeats 1000000 in
theorem under_any (l : List Rk) (hfits : ∀ r ∈ l, r.Fits) (A : Option Addr) (n c : Nat) (B : Option Addr) (m cb : Nat) (xs : List Int) (s : ByteArray) (w : World) (hx : Reads w w.heap.size 5 A n (rkCells l)) (hn : n ≤ 100000) (hy : Reads w w.heap.size 1 B m (xs.map (.int .i64))) (h0 : openErr l = 0) (ps : List ByteArray) (hp : ptsOf l = some ps) (hps : ps.length ≤ 1000000) (hmn : ps.length = m)
    (hxs : ∀ z ∈ xs, 0 ≤ z ∧ z ≤ 1000000) (hbl : (below_ l s).length ≤ 1000000) (hsub : ∀ x ∈ below_ l s, x ∈ ps) :
    Calls Try.prog 64 #[.slice A n c, .string s, .slice B m cb] w fun e w' => e = .returned (.int .i64 (underI l ps xs s)) ∧ Below w.heap.size w w' := by
  have hxl : xs.length = m := by have := hy.1; simpa using this
  have HXL := Lib.hid hxl
  have HP := Lib.hid hp
  have H0 := Lib.hid h0
  have HBP := Lib.hid (below_pts h0 s)
  have HSUB := Lib.hid hsub
  have HMN := Lib.hid hmn
  have hm6 : m ≤ 1000000 := by omega
  clear hp h0 hsub hxl hmn
  obtain ⟨q, hq⟩ : ∃ q, (below_ l s).length = q := ⟨_, rfl⟩
  have HQ := Lib.hid hq
  rw [hq] at hbl
  clear hq
  go_enter Try.func64, Try.ntmps64
  have R0_0 := Lib.hid hx
  clear hx
  have R1_0 := Lib.hid hy
  clear hy
  go_wp2_with fail
  refine (rpoints_any l hfits A n c _ _ R0_0.out (Nat.le_refl _) hn H0.out ps HP.out hps).mono ?_
  rintro e w1 ⟨hb, A1, c1, rfl, ho⟩
  have HB1 := Lib.hid (show Below w.heap.size w w1 from step_below hb (by repeat' (first | exact Below.refl _ _ | exact HB0.out | refine below_drewN ?_ _ | refine Below.drew ?_ | refine Below.alloc ?_ (by first | omega | (simp; done) | (simp; omega) | (simp [World.setCell]; omega)) _ | refine Below.setCell ?_ (by first | omega | (simp; done) | (simp; omega)) _ | assumption)))
  have hL1 := Lib.hid (show Below w.heap.size w _ from reads_mid hb (by repeat' (first | exact Below.refl _ _ | refine below_drewN ?_ _ | refine Below.drew ?_ | refine Below.alloc ?_ (by first | omega | (simp; done) | (simp; omega) | (simp [World.setCell]; omega)) _ | refine Below.setCell ?_ (by first | omega | (simp; done) | (simp; omega)) _)))
  have R0_1 := Lib.hid (reads_lay hb hL1.out R0_0.out)
  have R1_1 := Lib.hid (reads_lay hb hL1.out R1_0.out)
  clear hL1 R0_0 R1_0
  have hz1 := hb.size
  try simp only [World.size_alloc, World.drewN, World.drew] at hz1
  clear hb
  have hr' := own_reads2 ho
  clear ho
  rw [HMN.out] at hr'
  rw [HMN.out]
  have R2_1 := Lib.hid hr'
  clear hr'
  go_wp2_with fail
  refine (rbelow_any l hfits A n c _ hn l.length s (below_ l s) _ HBP.out R0_1.out (Nat.le_refl _) (by rw [HQ.out]; exact hbl)).mono ?_
  rintro e w2 ⟨hb, A2, c2, rfl, ho⟩
  have HB2 := Lib.hid (show Below w.heap.size w w2 from step_below hb (by repeat' (first | exact Below.refl _ _ | exact HB1.out | refine below_drewN ?_ _ | refine Below.drew ?_ | refine Below.alloc ?_ (by first | omega | (simp; done) | (simp; omega) | (simp [World.setCell]; omega)) _ | refine Below.setCell ?_ (by first | omega | (simp; done) | (simp; omega)) _ | assumption)))
  have hL2 := Lib.hid (show Below w1.heap.size w1 _ from reads_mid hb (by repeat' (first | exact Below.refl _ _ | refine below_drewN ?_ _ | refine Below.drew ?_ | refine Below.alloc ?_ (by first | omega | (simp; done) | (simp; omega) | (simp [World.setCell]; omega)) _ | refine Below.setCell ?_ (by first | omega | (simp; done) | (simp; omega)) _)))
  have R0_2 := Lib.hid (reads_lay hb hL2.out R0_1.out)
  have R1_2 := Lib.hid (reads_lay hb hL2.out R1_1.out)
  have R2_2 := Lib.hid (reads_lay hb hL2.out R2_1.out)
  clear hL2 R0_1 R1_1 R2_1
  have hz2 := hb.size
  try simp only [World.size_alloc, World.drewN, World.drew] at hz2
  clear hb
  have hr' := own_reads2 ho
  clear ho
  rw [HQ.out] at hr'
  rw [HQ.out]
  have R3_2 := Lib.hid hr'
  clear hr'
  go_wp2
  go_loop [9, 10] (fun t i => ∃ k : Nat, k ≤ q ∧ i = .int .i64 k ∧ t = .int .i64 (sumF (loadOf ps xs) ((below_ l s).take k))) (fun _ i => q - (intOf i).toNat)
  case atStart => exact ⟨0, by omega, rfl, by rfl⟩
  case round =>
    obtain ⟨k, hk, rfl, rfl⟩ := hrel
    have hsb := sumF_bound (g := loadOf ps xs) (b := 1000000) ((below_ l s).take k) (fun s _ => loadOf_bound (by omega) hxs s)
    have hlk : ((below_ l s).take k).length ≤ q := by rw [List.length_take, HQ.out]; omega
    by_cases hlt : k < q
    · obtain ⟨zb, zo, x, rfl, hzb, hxk, c0⟩ := R3_2.out.str hlt
      obtain ⟨i, hi⟩ := posOf_mem (HSUB.out x (List.mem_of_getElem? hxk))
      obtain ⟨hi1, hi2⟩ := posOf_some hi
      have him : i < m := by have := (List.getElem?_eq_some_iff.1 hi1).1; rw [HMN.out] at this; exact this
      obtain ⟨yb, yo, z, rfl, hyb, hz, d0⟩ := int_at R1_2.out him
      have hsn : sumF (loadOf ps xs) ((below_ l s).take (k + 1)) = sumF (loadOf ps xs) ((below_ l s).take k) + z := by
        rw [List.take_add_one, hxk]
        show sumF _ (_ ++ [x]) = _
        rw [sumF_snoc]
        congr 1
        unfold loadOf
        rw [hi]
        simp only
        rw [List.getD, hz]
        rfl
      have hzb2 := hxs z (List.mem_of_getElem? hz)
      have HSN := Lib.hid hsn
      have HI1 := Lib.hid hi1
      have HI2 := Lib.hid hi2
      obtain ⟨S, hS⟩ : ∃ S, sumF (loadOf ps xs) ((below_ l s).take k) = S := ⟨_, rfl⟩
      rw [hS] at hsb
      have HS := Lib.hid hS
      rw [hS]
      have hS2 : S ≤ 1000000000000 := by omega
      clear hsn hi hi1 hi2 hz hxk hS
      go_wp2_with fail
      refine (place_is ps _ m c1 _ x i HI1.out HI2.out _ R2_2.out (by omega)).mono ?_
      rintro e w' ⟨rfl, rfl⟩
      go_wp2
      go_round
      case rel => exact ⟨k + 1, by omega, by go_num, by rw [HSN.out, HS.out]⟩
      case measure => simp [intOf]; omega
    · have hkq : k = q := by omega
      have HE : Hid (sumF (loadOf ps xs) ((below_ l s).take k) = underI l ps xs s) := by
        show _ = _
        rw [List.take_of_length_le (by rw [HQ.out]; omega)]
        rfl
      clear hkq
      go_wp2
      go_ret
      exact ⟨ret_int HE.out, HB2.out⟩
theorem under_is (l : List Rk) (hfits : ∀ r ∈ l, r.Fits) (A : Option Addr) (n c : Nat) (B : Option Addr) (m cb : Nat) (xs : List Int) (s : ByteArray) (t : Int) (w : World) (ps : List ByteArray) (ht : underI l ps xs s = t) (hx : Reads w w.heap.size 5 A n (rkCells l)) (hn : n ≤ 100000) (hy : Reads w w.heap.size 1 B m (xs.map (.int .i64))) (h0 : openErr l = 0) (hp : ptsOf l = some ps) (hps : ps.length ≤ 1000000) (hmn : ps.length = m)
    (hxs : ∀ z ∈ xs, 0 ≤ z ∧ z ≤ 1000000) (hbl : (below_ l s).length ≤ 1000000) (hsub : ∀ x ∈ below_ l s, x ∈ ps) :
    Calls Try.prog 64 #[.slice A n c, .string s, .slice B m cb] w fun e w' => e = .returned (.int .i64 t) ∧ Below w.heap.size w w' := ht ▸ under_any l hfits A n c B m cb xs s w hx hn hy h0 ps hp hps hmn hxs hbl hsub

end Go.Proofs.Ytoiconebcmneiab

end

section
/- The rule for a region whose order is left open, in a round of a range over a function; the marks that such ranges leave among the deferred calls. -/
namespace Go.Proofs.Ytoiconebcmneiab.Fx
open Go Go.RowKit

section
variable {P : Program} {ops : Array Oper} {md : Region.Mode}

def noDefer (l : List Oper) : Bool := l.all fun o => match o.op with | .defer _ => false | _ => true
theorem noDefer_spec {l : List Oper} (h : noDefer l = true) {i : Nat} {o : Oper} (ho : l[i]? = some o) (c : Call) : o.op ≠ .defer c := by
  intro e
  have := List.all_eq_true.1 h o (List.mem_of_getElem? ho)
  rw [e] at this
  cases this

theorem Gives.wpIn {r n : Nat} {o : Oper} {a : Act} {w : World} {v : Value} {R : World → Prop} {K : Act → World → Prop} {Q : Exit → Act → World → Prop} (hd : ∀ c, o.op ≠ .defer c) (h : Gives P o a w v R) (hk : ∀ w', R w' → K (a.put o.dst v) w') : o.wpIn (Fence.wide.inRound r) n P a w K Q := by
  unfold Oper.wpIn
  refine ⟨fun f _ => trivial, ?_⟩
  rw [Oper.semAt_eq _ _ _ hd]
  unfold Gives at h
  generalize (execOp a.eval o).run P w = q at *
  cases q with
  | halt x w' => exact h.elim
  | ok m w' =>
    cases m
    case value u => obtain ⟨rfl, hr⟩ := h; exact hk _ hr
    case skip => obtain ⟨rfl, hr⟩ := h; exact hk _ hr
    case enter f args =>
      refine ⟨(fun h => by cases h), CallsIn.inRound r (callsIn_wide.2 (Calls.mono h fun e w'' ⟨he, hr⟩ => ?_))⟩
      subst he
      exact hk _ hr
    all_goals exact h.elim

theorem wpAnyIn_of_anyF {r m : Nat} {C : Array Bool → World → Prop} {Q : Array Bool → Act → Prop} {Q' : Exit → Act → World → Prop} (hd : ∀ (i : Nat) (o : Oper), ops[i]? = some o → ∀ c, o.op ≠ .defer c) (hQ : ∀ L a w, C L w → Q L a → Q' .normal a w) :
    ∀ (n : Nat) (L : Array Bool) (a : Act) (w : World), C L w → anyF P md ops C Q n L a → wpAnyIn (Fence.wide.inRound r) m P md ops Q' n L a w
  | 0, _, _, _, hc, h => ⟨h.1, hQ _ _ _ hc h.2⟩
  | n + 1, L, a, w, hc, h => ⟨fun h0 => hQ _ _ _ hc (h.1 h0), fun i hi => by
      obtain ⟨o, v, ho, hs, hn⟩ := h.2 i hi
      unfold wpOpIn
      simp only [ho]
      rcases hs with ⟨h1, h2⟩ | ⟨h1, h2, h3⟩
      · rw [if_pos h1]
        exact (h2 L w hc hi).wpIn (hd i o ho) fun w' hw' => wpAnyIn_of_anyF hd hQ n _ _ w' hw' hn
      · rw [if_neg (by rw [h1]; exact Bool.false_ne_true)]
        subst h2
        exact ⟨fun f _ => trivial, wpAnyIn_of_anyF hd hQ n _ _ w (h3 L w hc hi) hn⟩⟩

/-- THE RULE, in a round. -/
theorem regionIn {r m id : Nat} {Q : Exit → Act → World → Prop} {a : Act} {w : World} {l : List Oper} (D : (Nat → Bool) → World → Prop) (hm : P.follows .mixedOrders = true) (hB : Region.lexB .any l.toArray = true) (hnd : noDefer l = true)
    (h0 : ∀ f, (∀ j, f j = false) → D f (w.drewN 1)) (h : lexD P .any l.toArray D (fun a' => ∀ f w', (∀ j, j < l.length → f j = true) → D f w' → Q .normal a' w') l 0 a) :
    (Code.region id l.toArray true).wpIn (Fence.wide.inRound r) m P Q a w := by
  simp only [Region.lexB, Bool.and_eq_true] at hB
  refine wpIn_region_any hm (wpAnyIn_of_anyF (C := fun L w => Closed .any l.toArray L ∧ D (fun j => L.getD j false) w)
    (Q := fun L a' => ∀ w', D (fun j => L.getD j false) w' → Q .normal a' w') (fun i o ho => noDefer_spec hnd (by simpa using ho)) (fun L a w hc hq => hq w hc.2) _ _ _ _ ⟨Closed.start _ _, h0 _ (fun j => ?_)⟩ ?_)
  · simp only [Array.getD_eq_getD_getElem?, Array.getElem?_replicate]; split <;> rfl
  · have := anyF_lex (C := fun L w => Closed .any l.toArray L ∧ D (fun j => L.getD j false) w) (Q := fun L a' => ∀ w', D (fun j => L.getD j false) w' → Q .normal a' w')
      (P := P) hB.1 l 0 (Array.replicate l.toArray.size false) a (by simp) (by simpa using hB.2)
      (lexF_of_lexD l.length (by simp) (fun L a hL hq w' hd => hq _ w' hL hd) l 0 _ a (by simp) (by simp) (by omega) h)
    simpa using this
end

theorem grown_trans_ {a w w' : World} {row : Option Nat} (h : a.grownBy w row) (k : w.grownBy w' row) : a.grownBy w' row :=
  ⟨k.os.trans h.os, k.tape.trans h.tape, k.output.trans h.output, Nat.le_trans h.size k.size, fun i hi hne => (k.block i (Nat.lt_of_lt_of_le hi h.size) hne).trans (h.block i hi hne)⟩
theorem ownFrom_grown {β : Type} {B : Nat} {w₀ : World} {r₀ : Option Nat} (hB : w₀.heap.size ≤ B) : OwnFrom B (fun (_ : β) W => w₀.grownBy W r₀) :=
  fun _ X Y row hs hg hr => ⟨hg.os.trans hs.os, hg.tape.trans hs.tape, hg.output.trans hs.output, Nat.le_trans hs.size hg.size, fun i hi hne =>
    (hg.block i (Nat.lt_of_lt_of_le hi hs.size) (fun e => by have := (hr i e.symm).1; omega)).trans (hs.block i hi hne)⟩
theorem ownFrom_cells {β : Type} {B g : Nat} {T : TypeId} {f : β → Array Value} : OwnFrom B (fun (s : β) W => W.heap[g]? = some (.cells (f s) T (0, 0))) :=
  fun s X Y row hs hg hr => (hg.block g (Array.getElem?_eq_some_iff.1 hs).1 (fun e => by
    obtain ⟨-, o, ho, hc⟩ := hr g e.symm
    rw [hs] at ho
    cases ho
    cases hc)).trans hs

/-! Marks. -/
/-- The deferred calls that ranges over functions have left: blocks Ds. -/
def marks (Ds : List Nat) : List Deferred := Ds.map fun D => { target := .collected D, args := #[] }
/-- The blocks of the marks are there, each for itself, from B on. -/
def MarksAt (B : Nat) (Ds : List Nat) (w : World) : Prop := Ds.Nodup ∧ ∀ D ∈ Ds, B ≤ D ∧ w.heap[D]? = some (.deferred (some []))

theorem MarksAt.nil (B : Nat) (w : World) : MarksAt B [] w := ⟨by simp, fun D h => by cases h⟩
theorem MarksAt.keep {B : Nat} {Ds : List Nat} {w w' : World} (h : MarksAt B Ds w) (hk : ∀ D, B ≤ D → D < w.heap.size → w'.heap[D]? = w.heap[D]?) : MarksAt B Ds w' :=
  ⟨h.1, fun D hD => ⟨(h.2 D hD).1, (hk D (h.2 D hD).1 (Array.getElem?_eq_some_iff.1 (h.2 D hD).2).1).trans (h.2 D hD).2⟩⟩
theorem MarksAt.cons {B D : Nat} {Ds : List Nat} {w : World} (h : MarksAt B Ds w) (hB : B ≤ D) (hD : w.heap[D]? = some (.deferred (some []))) (hn : D ∉ Ds) : MarksAt B (D :: Ds) w :=
  ⟨List.nodup_cons.2 ⟨hn, h.1⟩, fun E hE => by
    rcases List.mem_cons.1 hE with rfl | hE
    · exact ⟨hB, hD⟩
    · exact h.2 E hE⟩

/-- A function that leaves with marks alone. -/
theorem leaves_marks {P : Program} {fn : Func} {n : Nat} {tmps : Array Value} {R : Ending → World → Prop} {B : Nat} : ∀ (Ds : List Nat) (w : World), MarksAt B Ds w →
    (∀ w', (∀ k, k < w.heap.size → (∀ D ∈ Ds, k ≠ D) → w'.heap[k]? = w.heap[k]?) → w'.os = w.os → w'.tape = w.tape → w'.output = w.output → w'.heap.size = w.heap.size → LeavesIn Fence.wide n P fn tmps R [] .returning w') →
    LeavesInM Fence.wide n P fn tmps R (marks Ds) .returning w
  | [], w, _, h => h w (fun _ _ _ => rfl) rfl rfl rfl rfl
  | D :: Ds, w, hm, h => by
    have hD := (hm.2 D (by simp)).2
    have hlt := (Array.getElem?_eq_some_iff.1 hD).1
    have hnd := List.nodup_cons.1 hm.1
    refine ⟨by simp, .inl ⟨D, _, rfl, run_takeDeferred hD, ?_⟩⟩
    have hput : ∀ k, k ≠ D → (w.putObj D (.deferred none)).heap[k]? = w.heap[k]? := fun k hk => World.putObj_heap_other hk
    have hsz : (w.putObj D (.deferred none)).heap.size = w.heap.size := by simp [World.putObj]
    refine leaves_marks Ds _ ⟨hnd.2, fun E hE => ⟨(hm.2 E (by simp [hE])).1, ?_⟩⟩ fun w' h1 h2 h3 h4 h5 => h w' (fun k hk hne => ?_) h2 h3 h4 (h5.trans hsz)
    · rw [hput E (fun e => hnd.1 (e ▸ hE))]
      exact (hm.2 E (by simp [hE])).2
    · rw [h1 k (by omega) (fun E hE => hne E (by simp [hE])), hput k (hne D (by simp))]
end Go.Proofs.Ytoiconebcmneiab.Fx

end

section
/- Contracts of all shares as the reference has them, and of its check of shares. -/
namespace Go.Proofs.Ytoiconebcmneiab
open Go.RowKit

theorem made_fracs (m : Nat) : madeCells #[.int .i64 0, .int .i64 0] (m * 2) = (cells2 (List.replicate m (0, 0))).toArray := by
  apply Array.ext
  · rw [size_madeCells]; simp [cells2_length]
  · intro i h1 h2
    rw [size_madeCells] at h1
    have hl : (List.replicate m ((0 : Int), (0 : Int))).length = m := by simp
    have e1 : (madeCells #[.int .i64 0, .int .i64 0] (m * 2))[i]'(by rw [size_madeCells]; exact h1) = .int .i64 0 := by
      unfold madeCells
      simp only [Array.getElem_map, Array.getElem_range]
      have : i % 2 = 0 ∨ i % 2 = 1 := by omega
      rcases this with h | h <;> simp [h]
    have e2 : (cells2 (List.replicate m ((0 : Int), (0 : Int))))[i]'(by rw [cells2_length, hl]; exact h1) = .int .i64 0 := by
      have hg := cells2_get (List.replicate m ((0 : Int), (0 : Int))) (i / 2) (by rw [hl]; omega)
      simp only [List.getElem_replicate] at hg
      have : i = i / 2 * 2 ∨ i = i / 2 * 2 + 1 := by omega
      rcases this with h | h
      · have := hg.1; rw [← h] at this; exact (List.getElem?_eq_some_iff.1 this).2
      · have := hg.2; rw [← h] at this; exact (List.getElem?_eq_some_iff.1 this).2
    rw [e1]
    simp only [List.getElem_toArray]
    rw [e2]

def RSharesPost (l : List Rk) (m : Nat) (w : World) (e : Ending) (w' : World) : Prop :=
  Below w.heap.size w w' ∧ ∃ A' c', e = .returned (.tuple #[.slice A' m c', .bool (sharesOf l).isSome]) ∧ ∀ ys, sharesOf l = some ys → Reads w' w'.heap.size 2 A' m (cells2 ys)

set_option maxRecDepth 100000 in
set_option maxHeartbeats 1000000 in
theorem rshares_any (l : List Rk) (hfits : ∀ r ∈ l, r.Fits) (A : Option Addr) (n c N : Nat) (w : World) (hx : Reads w N 5 A n (rkCells l)) (hN : N ≤ w.heap.size) (hn : n ≤ 100000) (h0 : openErr l = 0) (ps : List ByteArray) (hp : ptsOf l = some ps) (hps : ps.length ≤ 1000000) :
    Calls Try.prog 37 #[.slice A n c] w (RSharesPost l ps.length w) := by
  obtain ⟨i0, hi0, hz0, hz1, hz2⟩ := info_parts info_frac
  have harms := arms_of h0
  have hnd := points_nodup h0 hp
  have hx' := hx.more hN
  have HX := Lib.hid hx'
  have HP := Lib.hid hp
  have H0 := Lib.hid h0
  have hmk : ∀ w, (Instr.makeSlice 49 (.int .i64 (ps.length : Int)) (.int .i64 (ps.length : Int))).run Try.prog w = .ok (.slice (some ⟨w.heap.size, 0, none⟩) ps.length ps.length) (w.alloc (.cells (cells2 (List.replicate ps.length (0, 0))).toArray 53)) := fun w => by
    have := run_make_rowN (P := Try.prog) 49 53 i0 (.agg #[.int .i64 0, .int .i64 0]) Try.underlying49 hi0 hz0 .i64 .i64 ps.length ps.length (Nat.le_refl _) (by rw [hz2]; omega) (by omega) w
    rw [this, hz1]
    have e := made_fracs ps.length
    rw [← e]
    rfl
  clear hx hx' hp h0 hi0 hz0 hz1 hz2
  obtain ⟨m, hm⟩ : ∃ m, ps.length = m := ⟨_, rfl⟩
  have HM := Lib.hid hm
  rw [hm] at hmk hps
  rw [hm]
  clear hm
  have hxq := HX.out
  go_enter Try.func37, Try.ntmps37
  have R0_0 := Lib.hid hxq
  clear hxq
  go_wp2_with fail
  refine (rpoints_any l hfits A n c _ _ R0_0.out (Nat.le_refl _) hn H0.out ps HP.out (by rw [HM.out]; exact hps)).mono ?_
  rintro e w1 ⟨hb, A1, c1, rfl, ho⟩
  have HB1 := Lib.hid (show Below w.heap.size w w1 from step_below hb (by repeat' (first | exact Below.refl _ _ | exact HB0.out | refine below_drewN ?_ _ | refine Below.drew ?_ | refine Below.alloc ?_ (by first | omega | (simp; done) | (simp; omega) | (simp [World.setCell]; omega)) _ | refine Below.setCell ?_ (by first | omega | (simp; done) | (simp; omega)) _ | assumption)))
  have hL1 := Lib.hid (show Below w.heap.size w _ from reads_mid hb (by repeat' (first | exact Below.refl _ _ | refine below_drewN ?_ _ | refine Below.drew ?_ | refine Below.alloc ?_ (by first | omega | (simp; done) | (simp; omega) | (simp [World.setCell]; omega)) _ | refine Below.setCell ?_ (by first | omega | (simp; done) | (simp; omega)) _)))
  have R0_1 := Lib.hid (reads_lay hb hL1.out R0_0.out)
  clear hL1 R0_0
  have hz1 := hb.size
  try simp only [World.size_alloc, World.drewN, World.drew] at hz1
  clear hb
  have hr' := own_reads2 ho
  rw [HM.out] at hr'
  rw [HM.out]
  clear ho
  have R1_1 := Lib.hid hr'
  clear hr'
  go_wp2_with fail
  clear hmk
  have hb : Below w1.heap.size w1 (w1.alloc (.cells (cells2 (List.replicate m (0, 0))).toArray 53)) := (Below.refl _ _).alloc (Nat.le_refl _) _
  refine (rtop_any l hfits A n c w.heap.size _ (HX.out.below (HB1.out.trans (hb.mono HB1.out.size))) (Nat.le_trans HB1.out.size hb.size) hn H0.out).mono ?_
  rintro e w2 ⟨rfl, hb2⟩
  have kz : Blk w2 w1.heap.size 53 (cells2 ([] ++ List.replicate m (0, 0) ++ [])).toArray := by
    rw [List.nil_append, List.append_nil]
    exact (Blk.new w1 _ _).below hb2 (by simp)
  have hw12 : Below w1.heap.size w1 w2 := hb.trans (hb2.mono hb.size)
  have hw02 : Below w.heap.size w w2 := HB1.out.trans (hw12.mono HB1.out.size)
  have hr2 : Reads w2 w1.heap.size 1 A1 m (strs ps) := R1_1.out.below hw12
  have hx2 : Reads w2 w.heap.size 5 A n (rkCells l) := HX.out.below hw02
  have KZ := Lib.hid kz
  have HW02 := Lib.hid hw02
  have HW12 := Lib.hid hw12
  have HR2 := Lib.hid hr2
  have HX2 := Lib.hid hx2
  have hs1 := HB1.out.size
  clear kz hw12 hw02 hr2 hx2 hb hb2
  go_wp2_with fail
  refine (rshare_any l hfits harms A n c w.heap.size A1 m c1 w1.heap.size ps hn hps hs1 hnd l.length (topName l) ps 1 1 [] [] [] (List.replicate m (0, 0)) [] _ (by have := HP.out; unfold ptsOf at this; exact this) ⟨by omega, by omega⟩ ⟨by omega, by omega⟩ (by simp) HX2.out HR2.out KZ.out rfl (by simp [HM.out]) (by simp)).mono ?_
  rintro e w3 ⟨hg, rfl, zs, hzl, hzb, hzy⟩
  have HW03 : Hid (Below w.heap.size w w3) := by
    exact HW02.out.grown hg (by have := HW02.out.size; omega) (fun g hg => by have e := Option.some.inj hg; rw [← e]; exact hs1)
  have HZB := Lib.hid hzb
  have HZY := Lib.hid hzy
  have HZL := Lib.hid hzl
  clear hg hzb hzy hzl
  go_wp2
  go_ret2
  refine ⟨HW03.out, some ⟨w1.heap.size, 0, none⟩, m, ?_, fun ys hys => ?_⟩
  · unfold sharesOf; rfl
  · have := HZY.out ys (by unfold sharesOf at hys; exact hys)
    rw [List.nil_append, List.append_nil] at this
    subst this
    exact Blk.reads HZB.out (by rw [cells2_length, HZL.out])

/-- The error of the first fraction that is not right. -/
def fracsErr : List (Int × Int) → Int
  | [] => 0
  | p :: l => if fracErr p.1 p.2 ≠ 0 then fracErr p.1 p.2 else fracsErr l
theorem fracsErr_zero : ∀ {l : List (Int × Int)}, (∀ (k : Nat) (p : Int × Int), l[k]? = some p → fracErr p.1 p.2 = 0) → fracsErr l = 0
  | [], _ => rfl
  | p :: l, h => by
    unfold fracsErr
    rw [if_neg (by have := h 0 p rfl; simpa using this)]
    exact fracsErr_zero fun k q hq => h (k + 1) q (by simpa using hq)
theorem fracsErr_at : ∀ {l : List (Int × Int)} {k : Nat} {p : Int × Int}, (∀ j, j < k → ∀ q : Int × Int, l[j]? = some q → fracErr q.1 q.2 = 0) → l[k]? = some p → fracErr p.1 p.2 ≠ 0 → fracsErr l = fracErr p.1 p.2
  | x :: l, 0, p, h, hp, hne => by
    simp at hp; subst hp
    unfold fracsErr
    rw [if_pos hne]
  | x :: l, k + 1, p, h, hp, hne => by
    unfold fracsErr
    rw [if_neg (by have := h 0 (Nat.succ_pos _) x rfl; simpa using this)]
    exact fracsErr_at (fun j hj q hq => h (j + 1) (Nat.succ_lt_succ hj) q (by simpa using hq)) (by simpa using hp) hne
  | [], k, p, h, hp, hne => by simp at hp
/-- The error of shares of a right tree with so many points. -/
def cksErr (np : Nat) (res : Option (List (Int × Int))) (xs : List (Int × Int)) : Int :=
  if xs.length ≠ np then 10 else if fracsErr xs ≠ 0 then fracsErr xs else match res with
    | none => 8
    | some ys => if ys = xs then 0 else 22

theorem checkfracref_is2 (n d t : Int) (h : fracErr n d = t) (w : World) (h1 : -9223372036854775808 ≤ n) (h2 : n ≤ 9223372036854775807) (h3 : -9223372036854775808 ≤ d) (h4 : d ≤ 9223372036854775807) :
    Calls Try.prog 33 #[.agg #[.int .i64 n, .int .i64 d]] w fun e w' => e = .returned (.int .i64 t) ∧ Below w.heap.size w w' := h ▸ checkfracref_any n d w h1 h2 h3 h4

theorem checkfrac_is2 (n d t : Int) (h : fracErr n d = t) (w : World) (h1 : -9223372036854775808 ≤ n) (h2 : n ≤ 9223372036854775807) (h3 : -9223372036854775808 ≤ d) (h4 : d ≤ 9223372036854775807) :
    Calls Try.prog 77 #[.agg #[.int .i64 n, .int .i64 d]] w fun e w' => e = .returned (.int .i64 t) ∧ Below w.heap.size w w' := h ▸ checkfrac_any n d w h1 h2 h3 h4

def Small2 (l : List (Int × Int)) : Prop := ∀ p ∈ l, (-9223372036854775808 ≤ p.1 ∧ p.1 ≤ 9223372036854775807) ∧ (-9223372036854775808 ≤ p.2 ∧ p.2 ≤ 9223372036854775807)


end Go.Proofs.Ytoiconebcmneiab

end
