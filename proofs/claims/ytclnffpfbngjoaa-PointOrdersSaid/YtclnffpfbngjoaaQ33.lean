import Derived.Test.YtclnffpfbngjoaaQ32
import Derived.Test.YtclnffpfbngjoaaQ27
import Derived.Test.YtclnffpfbngjoaaQ15
import Derived.Test.YtclnffpfbngjoaaQ26

section
/- The contract of the program's best order. -/
namespace Go.Proofs.Ytclnffpfbngjoaa
open Go Go.RowKit Go.Shelf

attribute [local go_sem] Oper.semAt_some

set_option maxRecDepth 100000 in
theorem porder_bad (m : Mnt) (day pos : Int) (l : List Tgt) (A : Option Addr) (n c : Nat) (E : Int) (hE : (tourF m l day pos).2 = E) (h0 : E ≠ 0) (w : World) (hx : MntAt m w) (hl : Reads w w.heap.size 6 A n (tgtCells l)) (hn : n ≤ c ∧ c ≤ 9223372036854775807) (hfit : ∀ t ∈ l, t.name.size ≤ maxLen) :
    Calls Try.prog 6 #[m.val, .slice A n c, .agg #[.int .i64 day, .int .i64 pos]] w fun e w' => e = .returned (.tuple #[.slice none 0 0, .int .i64 0, .int .i64 E]) ∧ Below w.heap.size w w' := by
  have HX := Lib.hid hx
  have HL := Lib.hid hl
  have HE := Lib.hid hE
  have HF := Lib.hid hfit
  have e0 : (E != 0) = true := by simpa using h0
  have H0 := Lib.hid h0
  clear hx hl hE hfit h0
  unfold Mnt.val
  go_enter Try.func6, Try.ntmps6
  go_wp2_with fail
  generalize hwn : ((w.alloc (.cells #[.int .i64 (m.ls), .int .i64 (m.ms), .int .i64 (m.lo), .int .i64 (m.hi), .int .i64 (m.sp), .slice m.A1 m.n1 m.c1, .slice m.A2 m.n2 m.c2] 24)).alloc (.cells #[.int .i64 (day), .int .i64 (pos)] 26)) = w1
  have hbn : Below w.heap.size w w1 := by rw [← hwn]; repeat' (first | exact Below.refl _ _ | refine below_drewN ?_ _ | refine Below.drew ?_ | refine Below.alloc ?_ (by first | omega | (simp; done) | (simp; omega) | (simp [World.setCell]; omega)) _ | refine Below.setCell ?_ (by first | omega | (simp; done) | (simp; omega)) _)
  have HB1 := Lib.hid (show Below w.heap.size w w1 from hbn)
  have K0_1 := Lib.hid (show Blk w1 (w.heap.size) 24 #[.int .i64 (m.ls), .int .i64 (m.ms), .int .i64 (m.lo), .int .i64 (m.hi), .int .i64 (m.sp), .slice m.A1 m.n1 m.c1, .slice m.A2 m.n2 m.c2] by rw [← hwn]; repeat' (first | exact Blk.at_ _ (by first | rfl | (simp; done) | (simp; omega)) _ _ | refine Blk.drewN ?_ _ | refine Blk.drew ?_ | refine Blk.alloc ?_ _ | refine Blk.far ?_ (by first | omega | (simp; done) | (simp; omega)) _ | assumption))
  have K1_1 := Lib.hid (show Blk w1 (w.heap.size + 1) 26 #[.int .i64 (day), .int .i64 (pos)] by rw [← hwn]; repeat' (first | exact Blk.at_ _ (by first | rfl | (simp; done) | (simp; omega)) _ _ | refine Blk.drewN ?_ _ | refine Blk.drew ?_ | refine Blk.alloc ?_ _ | refine Blk.far ?_ (by first | omega | (simp; done) | (simp; omega)) _ | assumption))
  have HN1 := Lib.hid hbn
  have hz1 := hbn.size
  clear hwn hbn
  have l0_1 : w.heap.size < w1.heap.size := K0_1.out.lt
  have z0_0_1 : w1.cell? ⟨w.heap.size, 0, none⟩ = some (.int .i64 (m.ls)) := K0_1.out.cell 0
  have z0_1_1 : w1.cell? ⟨w.heap.size, 1, none⟩ = some (.int .i64 (m.ms)) := K0_1.out.cell 1
  have z0_2_1 : w1.cell? ⟨w.heap.size, 2, none⟩ = some (.int .i64 (m.lo)) := K0_1.out.cell 2
  have z0_3_1 : w1.cell? ⟨w.heap.size, 3, none⟩ = some (.int .i64 (m.hi)) := K0_1.out.cell 3
  have z0_4_1 : w1.cell? ⟨w.heap.size, 4, none⟩ = some (.int .i64 (m.sp)) := K0_1.out.cell 4
  have z0_5_1 : w1.cell? ⟨w.heap.size, 5, none⟩ = some (.slice m.A1 m.n1 m.c1) := K0_1.out.cell 5
  have z0_6_1 : w1.cell? ⟨w.heap.size, 6, none⟩ = some (.slice m.A2 m.n2 m.c2) := K0_1.out.cell 6
  have l1_1 : w.heap.size + 1 < w1.heap.size := K1_1.out.lt
  have z1_0_1 : w1.cell? ⟨w.heap.size + 1, 0, none⟩ = some (.int .i64 (day)) := K1_1.out.cell 0
  have z1_1_1 : w1.cell? ⟨w.heap.size + 1, 1, none⟩ = some (.int .i64 (pos)) := K1_1.out.cell 1
  refine (popen_any m day pos l A n c _ (HX.out.lay HB1.out) ((HL.out.below HB1.out).more HB1.out.size) hn HF.out).mono ?_
  rintro e w2 ⟨hbad, -⟩
  obtain ⟨rfl, hb⟩ := hbad (by rw [HE.out]; exact H0.out)
  rw [HE.out]
  clear hbad
  have HB2 := Lib.hid (show Below w.heap.size w w2 from step_below hb (by repeat' (first | exact Below.refl _ _ | exact HB1.out | refine below_drewN ?_ _ | refine Below.drew ?_ | refine Below.alloc ?_ (by first | omega | (simp; done) | (simp; omega) | (simp [World.setCell]; omega)) _ | refine Below.setCell ?_ (by first | omega | (simp; done) | (simp; omega)) _ | assumption)))
  have K0_2 := Lib.hid (step_blk hb (show Blk _ (w.heap.size) 24 #[.int .i64 (m.ls), .int .i64 (m.ms), .int .i64 (m.lo), .int .i64 (m.hi), .int .i64 (m.sp), .slice m.A1 m.n1 m.c1, .slice m.A2 m.n2 m.c2] by repeat' (first | exact K0_1.out | exact K1_1.out | exact Blk.at_ _ (by first | rfl | (simp; done) | (simp; omega)) _ _ | refine Blk.drewN ?_ _ | refine Blk.drew ?_ | refine Blk.alloc ?_ _ | refine Blk.far ?_ (by first | omega | (simp; done) | (simp; omega)) _ | assumption)))
  have K1_2 := Lib.hid (step_blk hb (show Blk _ (w.heap.size + 1) 26 #[.int .i64 (day), .int .i64 (pos)] by repeat' (first | exact K0_1.out | exact K1_1.out | exact Blk.at_ _ (by first | rfl | (simp; done) | (simp; omega)) _ _ | refine Blk.drewN ?_ _ | refine Blk.drew ?_ | refine Blk.alloc ?_ _ | refine Blk.far ?_ (by first | omega | (simp; done) | (simp; omega)) _ | assumption)))
  have hz2 := hb.size
  try simp only [World.size_alloc, World.drewN, World.drew] at hz2
  clear hb K0_1 K1_1 z0_0_1 z0_1_1 z0_2_1 z0_3_1 z0_4_1 z0_5_1 z0_6_1 l0_1 z1_0_1 z1_1_1 l1_1
  have l0_2 : w.heap.size < w2.heap.size := K0_2.out.lt
  have z0_0_2 : w2.cell? ⟨w.heap.size, 0, none⟩ = some (.int .i64 (m.ls)) := K0_2.out.cell 0
  have z0_1_2 : w2.cell? ⟨w.heap.size, 1, none⟩ = some (.int .i64 (m.ms)) := K0_2.out.cell 1
  have z0_2_2 : w2.cell? ⟨w.heap.size, 2, none⟩ = some (.int .i64 (m.lo)) := K0_2.out.cell 2
  have z0_3_2 : w2.cell? ⟨w.heap.size, 3, none⟩ = some (.int .i64 (m.hi)) := K0_2.out.cell 3
  have z0_4_2 : w2.cell? ⟨w.heap.size, 4, none⟩ = some (.int .i64 (m.sp)) := K0_2.out.cell 4
  have z0_5_2 : w2.cell? ⟨w.heap.size, 5, none⟩ = some (.slice m.A1 m.n1 m.c1) := K0_2.out.cell 5
  have z0_6_2 : w2.cell? ⟨w.heap.size, 6, none⟩ = some (.slice m.A2 m.n2 m.c2) := K0_2.out.cell 6
  have l1_2 : w.heap.size + 1 < w2.heap.size := K1_2.out.lt
  have z1_0_2 : w2.cell? ⟨w.heap.size + 1, 0, none⟩ = some (.int .i64 (day)) := K1_2.out.cell 0
  have z1_1_2 : w2.cell? ⟨w.heap.size + 1, 1, none⟩ = some (.int .i64 (pos)) := K1_2.out.cell 1
  go_wp2
  go_ret3
  exact ⟨rfl, by repeat' (first | exact Below.refl _ _ | exact HB2.out | refine below_drewN ?_ _ | refine Below.drew ?_ | refine Below.alloc ?_ (by first | omega | (simp; done) | (simp; omega) | (simp [World.setCell]; omega)) _ | refine Below.setCell ?_ (by first | omega | (simp; done) | (simp; omega)) _ | assumption)⟩

def permG {α : Type} (S : List α) (o : List Nat) : List α := o.filterMap fun i => S[i]?
theorem permG_snoc {α : Type} {S : List α} {o : List Nat} {i : Nat} {t : α} (h : S[i]? = some t) : permG S (o ++ [i]) = permG S o ++ [t] := by
  unfold permG
  rw [List.filterMap_append]
  simp [h]
theorem permG_map {α β : Type} (f : α → β) (S : List α) (o : List Nat) : (permG S o).map f = permG (S.map f) o := by
  unfold permG
  rw [List.map_filterMap]
  congr 1
  funext i
  rw [List.getElem?_map]
theorem permG_mem {α : Type} {S : List α} {o : List Nat} {t : α} (h : t ∈ permG S o) : t ∈ S := by
  unfold permG at h
  obtain ⟨i, -, hi⟩ := List.mem_filterMap.1 h
  exact List.mem_of_getElem? hi
theorem tch_put (q : Nat) (W : World) (o : Obj) : Tch (fun g => g = q) W (W.putObj q o) := ⟨rfl, rfl, rfl, by simp, fun i _ hx => World.putObj_heap_other hx⟩
/-- The best order so far, in the program's boxes from M on. -/
def BstAt (M : Nat) (st : BestO) (r : Option Nat) (W : World) : Prop :=
  ∃ A k c x t, Blk W (M + 1) 31 #[.slice A k c] ∧ Blk W (M + 2) 3 #[.int .i64 x] ∧ Blk W (M + 3) 4 #[.bool t] ∧
    match st with
    | none => t = false ∧ x = 0 ∧ A = none ∧ k = 0 ∧ c = 0
    | some b => t = true ∧ x = b.2 ∧ k = b.1.length ∧ W.ownsRow (M + 10) 3 1 (.slice A k c) k ((ordI b.1).map (.int .i64)) ∧ ∀ q, (Value.slice A k c).ownBlock = some q → r ≠ some q
/-- What BestOrder holds on to between the rounds. -/
def OrdC (M : Nat) (cost : List Nat → Int) (w5 : World) (pre : List (List Nat)) (r : Option Nat) (W : World) : Prop :=
  Tch (fun q => q = M + 1 ∨ q = M + 2 ∨ q = M + 3 ∨ M + 5 ≤ q) w5 W ∧ BstAt M (foldO cost none pre) r W ∧ ∀ q, r = some q → M + 10 ≤ q
theorem BstAt.tch {M : Nat} {st : BestO} {r r' : Option Nat} {X : Nat → Prop} {W W' : World} (h : BstAt M st r W) (ht : Tch X W W') (hX : ∀ q, X q → M + 4 ≤ q) (hr : ∀ q, X q → M + 10 ≤ q → r = some q) (hr' : ∀ q, q < W.heap.size → r ≠ some q → r' ≠ some q) : BstAt M st r' W' := by
  obtain ⟨A, k, c, x, t, h1, h2, h3, h4⟩ := h
  refine ⟨A, k, c, x, t, ht.blk h1 (fun e => by have := hX _ e; omega), ht.blk h2 (fun e => by have := hX _ e; omega), ht.blk h3 (fun e => by have := hX _ e; omega), ?_⟩
  cases st with
  | none => exact h4
  | some b =>
    obtain ⟨a1, a2, a3, a4, a5⟩ := h4
    exact ⟨a1, a2, a3, ht.own a4 (fun q hq hx => a5 q hq (hr q hx (own_lt a4 hq).1)), fun q hq => hr' q (own_lt a4 hq).2 (a5 q hq)⟩
theorem OrdC.stb {M : Nat} {cost : List Nat → Int} {w5 : World} (hs : w5.heap.size = M + 5) : StbC (M + 5) (OrdC M cost w5) := by
  rintro pre r r' W W' ⟨h1, h2, h3⟩ ht hr
  have hsz := h1.size
  refine ⟨h1.then_ ht fun i hi e => ?_, h2.tch ht (fun q e => ?_) (fun q e hq => ?_) (fun q hq hne => ?_), fun q e => ?_⟩
  · rcases e with e | e | e
    · omega
    · omega
    · have := h3 _ e; omega
  · rcases e with e | e | e
    · omega
    · omega
    · have := h3 _ e; omega
  · rcases e with e | e | e
    · omega
    · omega
    · exact e
  · rcases hr with rfl | ⟨q', rfl, hq', -⟩
    · exact hne
    · intro e; have := Option.some.inj e; omega
  · rcases hr with rfl | ⟨q', rfl, hq', hq2⟩
    · exact h3 q e
    · have := Option.some.inj e; omega

def X3 (M q : Nat) : Prop := q = M + 1 ∨ q = M + 2 ∨ q = M + 3
theorem body_end {M n : Nat} {cost : List Nat → Int} {w5 Wq Wf : World} {pre : List OrdX} {x : OrdX} {a : Act} (hs5 : w5.heap.size = M + 5) (hc : OrdC M cost w5 (pre.map (·.1)) (x.blk n) Wq) (ht : Tch (X3 M) Wq Wf) (hB : BstAt M (stepO cost (foldO cost none (pre.map (·.1))) x.1) (x.blk n) Wf) :
    onlyOn w5.heap.size (OrdI' n (OrdC M cost w5) pre x) Wq .normal a Wf := by
  have hk : ∀ q, M + 5 ≤ q → q < Wq.heap.size → Wf.heap[q]? = Wq.heap[q]? := fun q hq hlt => ht.block q hlt (fun h => by unfold X3 at h; omega)
  refine ⟨⟨ht.size, fun k o hB hk' _ => (hk k (by omega) (Array.getElem?_eq_some_iff.1 hk').1).trans hk'⟩, ⟨ht.size, fun q hq hlt => hk q (by omega) hlt⟩, ?_, ?_, hc.2.2⟩
  · exact hc.1.then_ ht fun i _ h => by unfold X3 at h; rcases h with h | h | h <;> omega
  · rw [fold_snoc]; exact hB
theorem bst_new {M n : Nat} {v : Int} {o : List Nat} {cA : Option Addr} {cc : Nat} {Wq w10 : World} {r : Option Nat} {u1 u2 u3 : Value} (hb : Below Wq.heap.size Wq w10) (hM : M + 10 ≤ Wq.heap.size)
    (h1 : Blk Wq (M + 1) 31 #[u1]) (h2 : Blk Wq (M + 2) 3 #[u2]) (h3 : Blk Wq (M + 3) 4 #[u3]) (ho : w10.ownsRow Wq.heap.size 3 1 (.slice cA n cc) n ((ordI o).map (.int .i64))) (hol : o.length = n) (hr : ∀ q, r = some q → q < Wq.heap.size) :
    Tch (X3 M) Wq (((w10.setCell ⟨M + 1, 0, none⟩ (.slice cA n cc)).setCell ⟨M + 1 + 1, 0, none⟩ (.int .i64 v)).setCell ⟨M + 1 + 1 + 1, 0, none⟩ (.bool true)) ∧
    BstAt M (some (o, v)) r (((w10.setCell ⟨M + 1, 0, none⟩ (.slice cA n cc)).setCell ⟨M + 1 + 1, 0, none⟩ (.int .i64 v)).setCell ⟨M + 1 + 1 + 1, 0, none⟩ (.bool true)) := by
  have hs := hb.size
  have hne : ∀ q, q < M + 10 → (Value.slice cA n cc).ownBlock ≠ some q := fun q hq e => by have := (own_lt ho e).1; omega
  refine ⟨?_, cA, n, cc, v, true, ?_, ?_, ?_, rfl, rfl, hol.symm, ?_, fun q hq e => ?_⟩
  · exact (((Tch.of_below hb : Tch (X3 M) Wq w10).setCell (p := ⟨M + 1, 0, none⟩) (.inl (.inl rfl)) _).setCell (p := ⟨M + 1 + 1, 0, none⟩) (.inl (.inr (.inl rfl))) _).setCell (p := ⟨M + 1 + 1 + 1, 0, none⟩) (.inl (.inr (.inr rfl))) _
  · exact (((h1.below hb h1.lt).set_ 0 (.slice cA n cc)).far (p := ⟨M + 1 + 1, 0, none⟩) (by show M + 1 ≠ M + 1 + 1; omega) _).far (p := ⟨M + 1 + 1 + 1, 0, none⟩) (by show M + 1 ≠ M + 1 + 1 + 1; omega) _
  · exact ((((h2.below hb h2.lt).far (p := ⟨M + 1, 0, none⟩) (by show M + 2 ≠ M + 1; omega) _).set_ 0 (.int .i64 v)).far (p := ⟨M + 1 + 1 + 1, 0, none⟩) (by show M + 2 ≠ M + 1 + 1 + 1; omega) _ :)
  · exact ((((h3.below hb h3.lt).far (p := ⟨M + 1, 0, none⟩) (by show M + 3 ≠ M + 1; omega) _).far (p := ⟨M + 1 + 1, 0, none⟩) (by show M + 3 ≠ M + 1 + 1; omega) _).set_ 0 (.bool true) :)
  · exact own_mono (own_set (own_set (own_set ho (hne _ (by show M + 1 < _; omega)) _) (hne _ (by show M + 1 + 1 < _; omega)) _) (hne _ (by show M + 1 + 1 + 1 < _; omega)) _) hM
  · have h1 := hr q e
    have h2 := (own_lt ho hq).1
    omega

def POrdPost (n : Nat) (o : List Nat) (v : Int) (w : World) (e : Ending) (w' : World) : Prop := ∃ oA oc, e = .returned (.tuple #[.slice oA n oc, .int .i64 v, .int .i64 0]) ∧ Below w.heap.size w w' ∧ Reads w' w'.heap.size 1 oA n ((ordI o).map (.int .i64)) ∧ (n ≤ oc ∧ oc ≤ 9223372036854775807)
set_option maxRecDepth 100000 in
set_option maxHeartbeats 8000000 in
theorem porder_ok (m : Mnt) (day pos : Int) (l : List Tgt) (A : Option Addr) (n c : Nat) (hE : (tourF m l day pos).2 = 0) (h6 : n ≤ 6) (o : List Nat) (v : Int) (hF : foldO (costO m day pos l) none (leavesT n n []) = some (o, v)) (hol : o.length = n) (w : World) (hx : MntAt m w) (hl : Reads w w.heap.size 6 A n (tgtCells l)) (hn : n ≤ c ∧ c ≤ 9223372036854775807) (hfit : ∀ t ∈ l, t.name.size ≤ maxLen) :
    Calls Try.prog 6 #[m.val, .slice A n c, .agg #[.int .i64 day, .int .i64 pos]] w (POrdPost n o v w) := by
  have HLN := Lib.hid (hl.tlen : l.length = n)
  have HX := Lib.hid hx
  have HL := Lib.hid hl
  have HE := Lib.hid hE
  have HFF := Lib.hid hF
  have HOL := Lib.hid hol
  have HF := Lib.hid hfit
  have e0 : decide ((6 : Int) < (n : Int)) = false := decide_eq_false (by omega)
  clear hx hl hE hfit hF hol
  unfold Mnt.val
  refine callsIn_wide.1 (callsIn_of_wp_marks (n := 10) Try.func6 rfl trivial (wpIn_wide.2 ?_) rfl)
  simp only [Try.ntmps6, List.size_toArray, List.length_cons, List.length_nil, Nat.reduceAdd, Nat.reduceSub, Array.replicate_succ, Array.replicate_zero, List.push_toArray, List.append_toArray, List.nil_append, List.cons_append]
  go_wp2_with fail
  generalize hwn : ((w.alloc (.cells #[.int .i64 (m.ls), .int .i64 (m.ms), .int .i64 (m.lo), .int .i64 (m.hi), .int .i64 (m.sp), .slice m.A1 m.n1 m.c1, .slice m.A2 m.n2 m.c2] 24)).alloc (.cells #[.int .i64 (day), .int .i64 (pos)] 26)) = w1
  have hbn : Below w.heap.size w w1 := by rw [← hwn]; repeat' (first | exact Below.refl _ _ | refine below_drewN ?_ _ | refine Below.drew ?_ | refine Below.alloc ?_ (by first | omega | (simp; done) | (simp; omega) | (simp [World.setCell]; omega)) _ | refine Below.setCell ?_ (by first | omega | (simp; done) | (simp; omega)) _)
  have HB1 := Lib.hid (show Below w.heap.size w w1 from hbn)
  have K0_1 := Lib.hid (show Blk w1 (w.heap.size) 24 #[.int .i64 (m.ls), .int .i64 (m.ms), .int .i64 (m.lo), .int .i64 (m.hi), .int .i64 (m.sp), .slice m.A1 m.n1 m.c1, .slice m.A2 m.n2 m.c2] by rw [← hwn]; repeat' (first | exact Blk.at_ _ (by first | rfl | (simp; done) | (simp; omega)) _ _ | refine Blk.drewN ?_ _ | refine Blk.drew ?_ | refine Blk.alloc ?_ _ | refine Blk.far ?_ (by first | omega | (simp; done) | (simp; omega)) _ | assumption))
  have K1_1 := Lib.hid (show Blk w1 (w.heap.size + 1) 26 #[.int .i64 (day), .int .i64 (pos)] by rw [← hwn]; repeat' (first | exact Blk.at_ _ (by first | rfl | (simp; done) | (simp; omega)) _ _ | refine Blk.drewN ?_ _ | refine Blk.drew ?_ | refine Blk.alloc ?_ _ | refine Blk.far ?_ (by first | omega | (simp; done) | (simp; omega)) _ | assumption))
  have HN1 := Lib.hid hbn
  have hz1 := hbn.size
  clear hwn hbn
  have l0_1 : w.heap.size < w1.heap.size := K0_1.out.lt
  have z0_0_1 : w1.cell? ⟨w.heap.size, 0, none⟩ = some (.int .i64 (m.ls)) := K0_1.out.cell 0
  have z0_1_1 : w1.cell? ⟨w.heap.size, 1, none⟩ = some (.int .i64 (m.ms)) := K0_1.out.cell 1
  have z0_2_1 : w1.cell? ⟨w.heap.size, 2, none⟩ = some (.int .i64 (m.lo)) := K0_1.out.cell 2
  have z0_3_1 : w1.cell? ⟨w.heap.size, 3, none⟩ = some (.int .i64 (m.hi)) := K0_1.out.cell 3
  have z0_4_1 : w1.cell? ⟨w.heap.size, 4, none⟩ = some (.int .i64 (m.sp)) := K0_1.out.cell 4
  have z0_5_1 : w1.cell? ⟨w.heap.size, 5, none⟩ = some (.slice m.A1 m.n1 m.c1) := K0_1.out.cell 5
  have z0_6_1 : w1.cell? ⟨w.heap.size, 6, none⟩ = some (.slice m.A2 m.n2 m.c2) := K0_1.out.cell 6
  have l1_1 : w.heap.size + 1 < w1.heap.size := K1_1.out.lt
  have z1_0_1 : w1.cell? ⟨w.heap.size + 1, 0, none⟩ = some (.int .i64 (day)) := K1_1.out.cell 0
  have z1_1_1 : w1.cell? ⟨w.heap.size + 1, 1, none⟩ = some (.int .i64 (pos)) := K1_1.out.cell 1
  refine (popen_any m day pos l A n c _ (HX.out.lay HB1.out) ((HL.out.below HB1.out).more HB1.out.size) hn HF.out).mono ?_
  rintro e w2 ⟨-, hgood⟩
  obtain ⟨hb, tb, A9, c9, S, rfl, hta⟩ := hgood HE.out
  have HTA := Lib.hid hta
  clear hgood hta
  have HB2 := Lib.hid (show Below w.heap.size w w2 from step_below hb (by repeat' (first | exact Below.refl _ _ | exact HB1.out | refine below_drewN ?_ _ | refine Below.drew ?_ | refine Below.alloc ?_ (by first | omega | (simp; done) | (simp; omega) | (simp [World.setCell]; omega)) _ | refine Below.setCell ?_ (by first | omega | (simp; done) | (simp; omega)) _ | assumption)))
  have K0_2 := Lib.hid (step_blk hb (show Blk _ (w.heap.size) 24 #[.int .i64 (m.ls), .int .i64 (m.ms), .int .i64 (m.lo), .int .i64 (m.hi), .int .i64 (m.sp), .slice m.A1 m.n1 m.c1, .slice m.A2 m.n2 m.c2] by repeat' (first | exact K0_1.out | exact K1_1.out | exact Blk.at_ _ (by first | rfl | (simp; done) | (simp; omega)) _ _ | refine Blk.drewN ?_ _ | refine Blk.drew ?_ | refine Blk.alloc ?_ _ | refine Blk.far ?_ (by first | omega | (simp; done) | (simp; omega)) _ | assumption)))
  have K1_2 := Lib.hid (step_blk hb (show Blk _ (w.heap.size + 1) 26 #[.int .i64 (day), .int .i64 (pos)] by repeat' (first | exact K0_1.out | exact K1_1.out | exact Blk.at_ _ (by first | rfl | (simp; done) | (simp; omega)) _ _ | refine Blk.drewN ?_ _ | refine Blk.drew ?_ | refine Blk.alloc ?_ _ | refine Blk.far ?_ (by first | omega | (simp; done) | (simp; omega)) _ | assumption)))
  have hz2 := hb.size
  try simp only [World.size_alloc, World.drewN, World.drew] at hz2
  clear hb K0_1 K1_1 z0_0_1 z0_1_1 z0_2_1 z0_3_1 z0_4_1 z0_5_1 z0_6_1 l0_1 z1_0_1 z1_1_1 l1_1
  have l0_2 : w.heap.size < w2.heap.size := K0_2.out.lt
  have z0_0_2 : w2.cell? ⟨w.heap.size, 0, none⟩ = some (.int .i64 (m.ls)) := K0_2.out.cell 0
  have z0_1_2 : w2.cell? ⟨w.heap.size, 1, none⟩ = some (.int .i64 (m.ms)) := K0_2.out.cell 1
  have z0_2_2 : w2.cell? ⟨w.heap.size, 2, none⟩ = some (.int .i64 (m.lo)) := K0_2.out.cell 2
  have z0_3_2 : w2.cell? ⟨w.heap.size, 3, none⟩ = some (.int .i64 (m.hi)) := K0_2.out.cell 3
  have z0_4_2 : w2.cell? ⟨w.heap.size, 4, none⟩ = some (.int .i64 (m.sp)) := K0_2.out.cell 4
  have z0_5_2 : w2.cell? ⟨w.heap.size, 5, none⟩ = some (.slice m.A1 m.n1 m.c1) := K0_2.out.cell 5
  have z0_6_2 : w2.cell? ⟨w.heap.size, 6, none⟩ = some (.slice m.A2 m.n2 m.c2) := K0_2.out.cell 6
  have l1_2 : w.heap.size + 1 < w2.heap.size := K1_2.out.lt
  have z1_0_2 : w2.cell? ⟨w.heap.size + 1, 0, none⟩ = some (.int .i64 (day)) := K1_2.out.cell 0
  have z1_1_2 : w2.cell? ⟨w.heap.size + 1, 1, none⟩ = some (.int .i64 (pos)) := K1_2.out.cell 1
  go_wp2_with fail
  refine (orders_any _ _).mono ?_
  rintro e w5 ⟨rfl, hw5⟩
  simp only [World.size_alloc] at hw5 ⊢
  obtain ⟨M, hM⟩ : ∃ M, w2.heap.size = M := ⟨_, rfl⟩
  rw [hM]
  have HM := Lib.hid hM
  have HW5 := Lib.hid hw5
  clear hM hw5
  have hs5 : w5.heap.size = M + 5 := by rw [HW5.out]; simp only [World.size_alloc]; rw [HM.out]
  have hb25 : Below w2.heap.size w2 w5 := by rw [HW5.out]; exact (((((Below.refl _ _).alloc (Nat.le_refl _) _).alloc (by simp) _).alloc (by simp; omega) _).alloc (by simp; omega) _).alloc (by simp; omega) _
  have ht0 : Blk w5 M 64 #[.pointer (some ⟨tb, 0, none⟩)] := by rw [HW5.out]; exact (((Blk.at_ w2 HM.out _ _).alloc _).alloc _).alloc _ |>.alloc _
  have ht1 : Blk w5 (M + 1) 31 #[.slice none 0 0] := by rw [HW5.out]; exact (((Blk.at_ _ (by simp [HM.out]) _ _).alloc _).alloc _).alloc _
  have ht2 : Blk w5 (M + 2) 3 #[.int .i64 0] := by rw [HW5.out]; exact ((Blk.at_ _ (by simp [HM.out]) _ _).alloc _).alloc _
  have ht3 : Blk w5 (M + 3) 4 #[.bool false] := by rw [HW5.out]; exact (Blk.at_ _ (by simp [HM.out]) _ _).alloc _
  have ht4 : Blk w5 (M + 4) 3 #[.int .i64 (n : Int)] := by rw [HW5.out]; exact Blk.at_ _ (by simp [HM.out]) _ _
  have HS5 := Lib.hid hs5
  have HT0 := Lib.hid ht0
  have HT4 := Lib.hid ht4
  have HB25 := Lib.hid hb25
  have HC0 := Lib.hid (show BstAt M none none w5 from ⟨none, 0, 0, 0, false, ht1, ht2, ht3, rfl, rfl, rfl, rfl, rfl⟩)
  clear ht0 ht1 ht2 ht3 ht4 hs5 hb25
  go_wp2_with fail
  have hst : StbC w5.heap.size (OrdC M (costO m day pos l) w5) := by rw [HS5.out]; exact OrdC.stb HS5.out
  have HSTB := Lib.hid hst
  refine (wpIn_wide (n := 12)).1 ?_
  refine wp_rangeOwn (n := 10) (gf := 46) (lb := #[.pointer (some ⟨M + 1 + 1 + 1 + 1, 0, none⟩)]) rfl (enters_of Try.func46 (by kernel_rfl) rfl) (encs := encO n) (fun _ => rfl)
    (OrdI w5.heap.size n (OrdC M (costO m day pos l) w5)) (OrdI' n (OrdC M (costO m day pos l) w5)) (fun _ W => ∃ r, OrdC M (costO m day pos l) w5 (leavesT n n []) r W)
    (orders_owes n (M + 4) 10 (by omega) w5 _ (fun pre r W h => (Tch.cell h.1 (p := ⟨M + 4, 0, none⟩) (by show M + 4 < _; rw [HS5.out]; omega) (by show ¬ (M + 4 = M + 1 ∨ M + 4 = M + 2 ∨ M + 4 = M + 3 ∨ M + 5 ≤ M + 4); omega)).trans (HT4.out.cell 0)) hst (fun L => ?hinit))
    ?hI ?hI' (fun x => { tmps := #[.agg #[.int .i64 m.ls, .int .i64 m.ms, .int .i64 m.lo, .int .i64 m.hi, .int .i64 m.sp, .slice m.A1 m.n1 m.c1, .slice m.A2 m.n2 m.c2], .slice A n c, .agg #[.int .i64 day, .int .i64 pos], .pointer (some ⟨w.heap.size, 0, none⟩), undef, .pointer (some ⟨w.heap.size + 1, 0, none⟩), .slice none 0 0, .int .i64 0, .int .i64 0, .pointer (some ⟨M, 0, none⟩), .int .i64 0, .int .i64 0, .pointer (some ⟨M + 1, 0, none⟩), .pointer (some ⟨M + 1 + 1, 0, none⟩), .pointer (some ⟨M + 1 + 1 + 1, 0, none⟩), .slice x.2.1 n x.2.2, undef, undef, undef, undef, undef, .tuple #[.pointer (some ⟨tb, 0, none⟩), .int .i64 0, .int .i64 0], .agg #[.int .i64 m.ls, .int .i64 m.ms, .int .i64 m.lo, .int .i64 m.hi, .int .i64 m.sp, .slice m.A1 m.n1 m.c1, .slice m.A2 m.n2 m.c2], .slice A n c, .agg #[.int .i64 day, .int .i64 pos], .tuple #[.pointer (some ⟨tb, 0, none⟩), .int .i64 0, .int .i64 0], .pointer (some ⟨tb, 0, none⟩), .int .i64 0, .int .i64 0, .bool false, .int .i64 0, .bool false, undef, .bool false, .slice A n c, .int .i64 (n : Int), .bool false, .slice A n c, .int .i64 (n : Int), .func (.func 46) #[] #[.pointer (some ⟨M + 1 + 1 + 1 + 1, 0, none⟩)], .slice x.2.1 n x.2.2, undef, undef, undef, undef, undef, undef, undef, undef, undef, undef, undef, undef, undef, undef, undef, undef, undef, undef, undef, undef, undef, undef, undef, undef, undef, undef, undef, undef, undef, undef, undef, undef, undef, undef, undef, undef, undef, undef, undef, undef, undef, undef, undef, undef, undef, undef], defers := [] }) ?hassign ?hbody ?hdone
  case hinit =>
    have hb : Below w5.heap.size w5 ((w5.alloc (.deferred (some []))).alloc L) := ((Below.refl _ _).alloc (Nat.le_refl _) _).alloc (by simp) _
    have ht : Tch (fun _ => False) w5 ((w5.alloc (.deferred (some []))).alloc L) := Tch.of_below hb
    exact ⟨ht.mono fun _ _ h => h.elim, HC0.out.tch ht (fun _ h => h.elim) (fun _ h => h.elim) (fun _ _ h => h), fun q e => by cases e⟩
  case hI =>
    rintro pre x W q ⟨hc, hown, hord, hsz⟩ hlt
    refine ⟨HSTB.out _ _ _ _ _ hc ((tch_put _ _ _).mono fun i _ h => .inl h) (.inl rfl), own_same hown (fun g hg => World.putObj_heap_other (by have := (own_lt hown hg).1; omega)), hord, by simpa using hsz⟩
  case hI' =>
    rintro pre x W q hc hlt
    exact HSTB.out _ _ _ _ _ hc ((tch_put _ _ _).mono fun i _ h => .inl h) (.inl rfl)
  case hassign =>
    intro l' x W K hK
    unfold encO
    gi_wp2
    exact hK
  case hbody =>
    rintro l' pre ⟨xo, xA, xc⟩ Wq ⟨hc, hown, hord, hsz⟩
    simp only at hc hown hord
    obtain ⟨h1, hbst, hrq⟩ := hc
    have hxl : xo.length = n := by have := hord.1; omega
    have hbM : Below w2.heap.size w2 Wq := HB25.out.trans ((h1.below (B := M) (fun q hq => by omega) (by rw [HS5.out]; omega)).mono (Nat.le_of_eq HM.out))
    have hta := HTA.out.lay hbM
    have htM : tb < M := by rw [← HM.out]; exact HTA.out.blk.lt
    have hWM : M + 10 ≤ Wq.heap.size := by rw [HS5.out] at hsz; omega
    have x0 : Wq.cell? ⟨M, 0, none⟩ = some (.pointer (some ⟨tb, 0, none⟩)) := (h1.cell (p := ⟨M, 0, none⟩) (by show M < _; rw [HS5.out]; omega) (by show ¬ (M = M + 1 ∨ M = M + 2 ∨ M = M + 3 ∨ M + 5 ≤ M); omega)).trans (HT0.out.cell 0)
    have x1 : Wq.cell? ⟨tb, 0, none⟩ = some (.int .i64 pos) := hta.blk.cell 0
    have x2 : Wq.cell? ⟨tb, 1, none⟩ = some (.slice A9 l.length c9) := hta.blk.cell 1
    rw [HLN.out] at x2
    have HX2 := Lib.hid x2
    have HX0 := Lib.hid x0
    have HTW := Lib.hid hta
    have H1 := Lib.hid h1
    have HBST := Lib.hid hbst
    have HRQ := Lib.hid hrq
    have HOWN := Lib.hid hown
    have HORD := Lib.hid hord
    have HXL := Lib.hid hxl
    clear h1 hbst hrq hbM hta hown hord hsz hxl x2
    gi_wp2
    generalize hW1 : World.alloc Wq _ = W1
    have hbW1 : Below Wq.heap.size Wq W1 := by rw [← hW1]; exact (Below.refl _ _).alloc (Nat.le_refl _) _
    have hkW1 : Blk W1 Wq.heap.size 71 #[.int .i64 pos, .slice none 0 0] := by rw [← hW1]; exact Blk.new _ _ _
    have hsW1 : W1.heap.size = Wq.heap.size + 1 := by rw [← hW1]; simp
    have HBW1 := Lib.hid hbW1
    have HKW1 := Lib.hid hkW1
    have HSW1 := Lib.hid hsW1
    clear hbW1 hkW1 hsW1 hW1 x0 x1
    gi_loopw [49] (fun v wr => ∃ (k : Nat) (xv : Value), k ≤ n ∧ v = .int .i64 k ∧ Below Wq.heap.size Wq wr ∧ Blk wr Wq.heap.size 71 #[.int .i64 pos, xv] ∧ wr.ownsRow (Wq.heap.size + 1) 73 8 xv k (stpCells (permG S (xo.take k)))) (fun v _ => n - (intOf v).toNat)
    case atStart => exact ⟨0, .slice none 0 0, by omega, rfl, HBW1.out, HKW1.out, World.ownsRow_nil _ _ _ _⟩
    case round =>
      obtain ⟨k, xv, hk, rfl, hbr, hkr, hor⟩ := hrel
      obtain ⟨w6, hnm⟩ : ∃ z : World, z = wr := ⟨_, rfl⟩
      subst hnm
      have HBR := Lib.hid hbr
      have HKR := Lib.hid hkr
      have HOR := Lib.hid hor
      have hs6 := hbr.size
      have hs7 := hkr.lt
      clear hbr hkr hor
      by_cases hlt : k < n
      · have hkk : (k : Int) < (n : Int) := by omega
        obtain ⟨ob, oo, z, rfl, hob, hz, d0⟩ := ((own_reads2 HOWN.out).below HBR.out).int_ hlt
        obtain ⟨j, hj, rfl⟩ := ordI_at hz
        have hjn : j < n := HORD.out.2 j (List.mem_of_getElem? hj)
        have hjj : (j : Int) < (n : Int) := by omega
        have hj0 : (0 : Int) ≤ (j : Int) := by omega
        have hrow := HTW.out.row
        rw [HLN.out] at hrow
        obtain ⟨sb, so, s, hsA, hsb, hs, s6, s7, sg⟩ := hrow.stp hjn
        have s0 : Wq.cell? ⟨sb, so + j * 8, none⟩ = some (.string s.t.name) := sg 0 _ (by omega) rfl
        have s1 : Wq.cell? ⟨sb, so + j * 8 + 1, none⟩ = some (.int .i64 s.t.az) := sg 1 _ (by omega) rfl
        have s2 : Wq.cell? ⟨sb, so + j * 8 + 2, none⟩ = some (.int .i64 s.t.ht) := sg 2 _ (by omega) rfl
        have s3 : Wq.cell? ⟨sb, so + j * 8 + 3, none⟩ = some (.int .i64 s.t.fr) := sg 3 _ (by omega) rfl
        have s4 : Wq.cell? ⟨sb, so + j * 8 + 4, none⟩ = some (.int .i64 s.t.to) := sg 4 _ (by omega) rfl
        have s5 : Wq.cell? ⟨sb, so + j * 8 + 5, none⟩ = some (.int .i64 s.t.dw) := sg 5 _ (by omega) rfl
        have S0 := Lib.hid s0
        have S1 := Lib.hid s1
        have S2 := Lib.hid s2
        have S3 := Lib.hid s3
        have S4 := Lib.hid s4
        have S5 := Lib.hid s5
        have S6 := Lib.hid s6
        have S7 := Lib.hid s7
        subst hsA
        have x2 := HX2.out
        have x0 := HX0.out
        have htW : tb < Wq.heap.size := by omega
        have hps : permG S (xo.take (k + 1)) = permG S (xo.take k) ++ [s] := by rw [List.take_add_one, hj]; exact permG_snoc hs
        have HPS := Lib.hid hps
        have hneT : xv.ownBlock ≠ some Wq.heap.size := fun e => by have := (own_lt HOR.out e).1; omega
        have ek := IntWalk.i64_in ((k : Int) + 1) ⟨by omega, by omega⟩
        clear hz hj hs hps hrow sg s0 s1 s2 s3 s4 s5 s6 s7
        gi_wp2
        have hownS := HOR.out
        have hblkS := HKR.out
        have hneS := hneT
        refine Fx.regionMIn (fun W g f w' => As (Wq.heap.size + 1) 73 8 (xv) (k) (stpCells (permG S (xo.take k))) [.string s.t.name, .int .i64 s.t.az, .int .i64 s.t.ht, .int .i64 s.t.fr, .int .i64 s.t.to, .int .i64 s.t.dw, .slice s.A s.n s.c, .slice s.A' s.n s.c'] 12 13 16 (Wq.heap.size) 71 #[.int .i64 pos, xv] 1 W g f w') (fun i (x : Pick) => if i = 12 then .slice x.1 1 1 else .slice x.1 (k + 1) x.2) (by kernel_rfl) (by kernel_rfl) ?_ ?_
        · intro f hf0
          exact As.start hownS hblkS hneS (hf0 16) 1
        first
        | (refine Fx.WM.skip 0 (by rfl) (by kernel_rfl) (by kernel_rfl) (by kernel_rfl) (by rfl) (fun g f w h => As.same h (by decide)) ?_; simp only [Act.put, List.setIfInBounds_toArray, List.set_cons_zero, List.set_cons_succ])
        | (refine Fx.WM.val_ 0 ?_ (by rfl) (by kernel_rfl) (by kernel_rfl) (by kernel_rfl) (by rfl) ?_ (fun g f w h => As.same h (by decide)) ?_
           rotate_left
           · intro g f w' hx hD hk
             obtain has := id hD
             have hbA : Below Wq.heap.size Wq w' := HBR.out.trans (has.below (fun q hq => by have := (own_lt HOR.out hq).1; omega) (Nat.le_refl _) hs6)
             have y_0 : w'.cell? ⟨M, 0, none⟩ = some (.pointer (some ⟨tb, 0, none⟩)) := (hbA.cell (p := ⟨M, 0, none⟩) (by show M < _; omega)).trans x0
             have y_1 : w'.cell? ⟨tb, 1, none⟩ = some (.slice (some ⟨sb, so, none⟩) n c9) := (hbA.cell (p := ⟨tb, 1, none⟩) htW).trans x2
             have y0 : w'.cell? ⟨sb, so + j * 8, none⟩ = some (.string s.t.name) := (hbA.cell (p := ⟨sb, so + j * 8, none⟩) hsb).trans S0.out
             have y1 : w'.cell? ⟨sb, so + j * 8 + 1, none⟩ = some (.int .i64 s.t.az) := (hbA.cell (p := ⟨sb, so + j * 8 + 1, none⟩) hsb).trans S1.out
             have y2 : w'.cell? ⟨sb, so + j * 8 + 2, none⟩ = some (.int .i64 s.t.ht) := (hbA.cell (p := ⟨sb, so + j * 8 + 2, none⟩) hsb).trans S2.out
             have y3 : w'.cell? ⟨sb, so + j * 8 + 3, none⟩ = some (.int .i64 s.t.fr) := (hbA.cell (p := ⟨sb, so + j * 8 + 3, none⟩) hsb).trans S3.out
             have y4 : w'.cell? ⟨sb, so + j * 8 + 4, none⟩ = some (.int .i64 s.t.to) := (hbA.cell (p := ⟨sb, so + j * 8 + 4, none⟩) hsb).trans S4.out
             have y5 : w'.cell? ⟨sb, so + j * 8 + 5, none⟩ = some (.int .i64 s.t.dw) := (hbA.cell (p := ⟨sb, so + j * 8 + 5, none⟩) hsb).trans S5.out
             have y6 : w'.cell? ⟨sb, so + j * 8 + 6, none⟩ = some (.slice s.A s.n s.c) := (hbA.cell (p := ⟨sb, so + j * 8 + 6, none⟩) hsb).trans S6.out
             have y7 : w'.cell? ⟨sb, so + j * 8 + 7, none⟩ = some (.slice s.A' s.n s.c') := (hbA.cell (p := ⟨sb, so + j * 8 + 7, none⟩) hsb).trans S7.out
             clear hx hk hD has
             go_simp
             try rfl
           simp only [Act.put, List.setIfInBounds_toArray, List.set_cons_zero, List.set_cons_succ])
        first
        | (refine Fx.WM.skip 1 (by rfl) (by kernel_rfl) (by kernel_rfl) (by kernel_rfl) (by rfl) (fun g f w h => As.same h (by decide)) ?_; simp only [Act.put, List.setIfInBounds_toArray, List.set_cons_zero, List.set_cons_succ])
        | (refine Fx.WM.val_ 1 ?_ (by rfl) (by kernel_rfl) (by kernel_rfl) (by kernel_rfl) (by rfl) ?_ (fun g f w h => As.same h (by decide)) ?_
           rotate_left
           · intro g f w' hx hD hk
             obtain has := id hD
             have hbA : Below Wq.heap.size Wq w' := HBR.out.trans (has.below (fun q hq => by have := (own_lt HOR.out hq).1; omega) (Nat.le_refl _) hs6)
             have y_0 : w'.cell? ⟨M, 0, none⟩ = some (.pointer (some ⟨tb, 0, none⟩)) := (hbA.cell (p := ⟨M, 0, none⟩) (by show M < _; omega)).trans x0
             have y_1 : w'.cell? ⟨tb, 1, none⟩ = some (.slice (some ⟨sb, so, none⟩) n c9) := (hbA.cell (p := ⟨tb, 1, none⟩) htW).trans x2
             have y0 : w'.cell? ⟨sb, so + j * 8, none⟩ = some (.string s.t.name) := (hbA.cell (p := ⟨sb, so + j * 8, none⟩) hsb).trans S0.out
             have y1 : w'.cell? ⟨sb, so + j * 8 + 1, none⟩ = some (.int .i64 s.t.az) := (hbA.cell (p := ⟨sb, so + j * 8 + 1, none⟩) hsb).trans S1.out
             have y2 : w'.cell? ⟨sb, so + j * 8 + 2, none⟩ = some (.int .i64 s.t.ht) := (hbA.cell (p := ⟨sb, so + j * 8 + 2, none⟩) hsb).trans S2.out
             have y3 : w'.cell? ⟨sb, so + j * 8 + 3, none⟩ = some (.int .i64 s.t.fr) := (hbA.cell (p := ⟨sb, so + j * 8 + 3, none⟩) hsb).trans S3.out
             have y4 : w'.cell? ⟨sb, so + j * 8 + 4, none⟩ = some (.int .i64 s.t.to) := (hbA.cell (p := ⟨sb, so + j * 8 + 4, none⟩) hsb).trans S4.out
             have y5 : w'.cell? ⟨sb, so + j * 8 + 5, none⟩ = some (.int .i64 s.t.dw) := (hbA.cell (p := ⟨sb, so + j * 8 + 5, none⟩) hsb).trans S5.out
             have y6 : w'.cell? ⟨sb, so + j * 8 + 6, none⟩ = some (.slice s.A s.n s.c) := (hbA.cell (p := ⟨sb, so + j * 8 + 6, none⟩) hsb).trans S6.out
             have y7 : w'.cell? ⟨sb, so + j * 8 + 7, none⟩ = some (.slice s.A' s.n s.c') := (hbA.cell (p := ⟨sb, so + j * 8 + 7, none⟩) hsb).trans S7.out
             clear hx hk hD has
             go_simp
             try rfl
           simp only [Act.put, List.setIfInBounds_toArray, List.set_cons_zero, List.set_cons_succ])
        first
        | (refine Fx.WM.skip 2 (by rfl) (by kernel_rfl) (by kernel_rfl) (by kernel_rfl) (by rfl) (fun g f w h => As.same h (by decide)) ?_; simp only [Act.put, List.setIfInBounds_toArray, List.set_cons_zero, List.set_cons_succ])
        | (refine Fx.WM.val_ 2 ?_ (by rfl) (by kernel_rfl) (by kernel_rfl) (by kernel_rfl) (by rfl) ?_ (fun g f w h => As.same h (by decide)) ?_
           rotate_left
           · intro g f w' hx hD hk
             obtain has := id hD
             have hbA : Below Wq.heap.size Wq w' := HBR.out.trans (has.below (fun q hq => by have := (own_lt HOR.out hq).1; omega) (Nat.le_refl _) hs6)
             have y_0 : w'.cell? ⟨M, 0, none⟩ = some (.pointer (some ⟨tb, 0, none⟩)) := (hbA.cell (p := ⟨M, 0, none⟩) (by show M < _; omega)).trans x0
             have y_1 : w'.cell? ⟨tb, 1, none⟩ = some (.slice (some ⟨sb, so, none⟩) n c9) := (hbA.cell (p := ⟨tb, 1, none⟩) htW).trans x2
             have y0 : w'.cell? ⟨sb, so + j * 8, none⟩ = some (.string s.t.name) := (hbA.cell (p := ⟨sb, so + j * 8, none⟩) hsb).trans S0.out
             have y1 : w'.cell? ⟨sb, so + j * 8 + 1, none⟩ = some (.int .i64 s.t.az) := (hbA.cell (p := ⟨sb, so + j * 8 + 1, none⟩) hsb).trans S1.out
             have y2 : w'.cell? ⟨sb, so + j * 8 + 2, none⟩ = some (.int .i64 s.t.ht) := (hbA.cell (p := ⟨sb, so + j * 8 + 2, none⟩) hsb).trans S2.out
             have y3 : w'.cell? ⟨sb, so + j * 8 + 3, none⟩ = some (.int .i64 s.t.fr) := (hbA.cell (p := ⟨sb, so + j * 8 + 3, none⟩) hsb).trans S3.out
             have y4 : w'.cell? ⟨sb, so + j * 8 + 4, none⟩ = some (.int .i64 s.t.to) := (hbA.cell (p := ⟨sb, so + j * 8 + 4, none⟩) hsb).trans S4.out
             have y5 : w'.cell? ⟨sb, so + j * 8 + 5, none⟩ = some (.int .i64 s.t.dw) := (hbA.cell (p := ⟨sb, so + j * 8 + 5, none⟩) hsb).trans S5.out
             have y6 : w'.cell? ⟨sb, so + j * 8 + 6, none⟩ = some (.slice s.A s.n s.c) := (hbA.cell (p := ⟨sb, so + j * 8 + 6, none⟩) hsb).trans S6.out
             have y7 : w'.cell? ⟨sb, so + j * 8 + 7, none⟩ = some (.slice s.A' s.n s.c') := (hbA.cell (p := ⟨sb, so + j * 8 + 7, none⟩) hsb).trans S7.out
             clear hx hk hD has
             go_simp
             try rfl
           simp only [Act.put, List.setIfInBounds_toArray, List.set_cons_zero, List.set_cons_succ])
        first
        | (refine Fx.WM.skip 3 (by rfl) (by kernel_rfl) (by kernel_rfl) (by kernel_rfl) (by rfl) (fun g f w h => As.same h (by decide)) ?_; simp only [Act.put, List.setIfInBounds_toArray, List.set_cons_zero, List.set_cons_succ])
        | (refine Fx.WM.val_ 3 ?_ (by rfl) (by kernel_rfl) (by kernel_rfl) (by kernel_rfl) (by rfl) ?_ (fun g f w h => As.same h (by decide)) ?_
           rotate_left
           · intro g f w' hx hD hk
             obtain has := id hD
             have hbA : Below Wq.heap.size Wq w' := HBR.out.trans (has.below (fun q hq => by have := (own_lt HOR.out hq).1; omega) (Nat.le_refl _) hs6)
             have y_0 : w'.cell? ⟨M, 0, none⟩ = some (.pointer (some ⟨tb, 0, none⟩)) := (hbA.cell (p := ⟨M, 0, none⟩) (by show M < _; omega)).trans x0
             have y_1 : w'.cell? ⟨tb, 1, none⟩ = some (.slice (some ⟨sb, so, none⟩) n c9) := (hbA.cell (p := ⟨tb, 1, none⟩) htW).trans x2
             have y0 : w'.cell? ⟨sb, so + j * 8, none⟩ = some (.string s.t.name) := (hbA.cell (p := ⟨sb, so + j * 8, none⟩) hsb).trans S0.out
             have y1 : w'.cell? ⟨sb, so + j * 8 + 1, none⟩ = some (.int .i64 s.t.az) := (hbA.cell (p := ⟨sb, so + j * 8 + 1, none⟩) hsb).trans S1.out
             have y2 : w'.cell? ⟨sb, so + j * 8 + 2, none⟩ = some (.int .i64 s.t.ht) := (hbA.cell (p := ⟨sb, so + j * 8 + 2, none⟩) hsb).trans S2.out
             have y3 : w'.cell? ⟨sb, so + j * 8 + 3, none⟩ = some (.int .i64 s.t.fr) := (hbA.cell (p := ⟨sb, so + j * 8 + 3, none⟩) hsb).trans S3.out
             have y4 : w'.cell? ⟨sb, so + j * 8 + 4, none⟩ = some (.int .i64 s.t.to) := (hbA.cell (p := ⟨sb, so + j * 8 + 4, none⟩) hsb).trans S4.out
             have y5 : w'.cell? ⟨sb, so + j * 8 + 5, none⟩ = some (.int .i64 s.t.dw) := (hbA.cell (p := ⟨sb, so + j * 8 + 5, none⟩) hsb).trans S5.out
             have y6 : w'.cell? ⟨sb, so + j * 8 + 6, none⟩ = some (.slice s.A s.n s.c) := (hbA.cell (p := ⟨sb, so + j * 8 + 6, none⟩) hsb).trans S6.out
             have y7 : w'.cell? ⟨sb, so + j * 8 + 7, none⟩ = some (.slice s.A' s.n s.c') := (hbA.cell (p := ⟨sb, so + j * 8 + 7, none⟩) hsb).trans S7.out
             clear hx hk hD has
             go_simp
             try rfl
           simp only [Act.put, List.setIfInBounds_toArray, List.set_cons_zero, List.set_cons_succ])
        first
        | (refine Fx.WM.skip 4 (by rfl) (by kernel_rfl) (by kernel_rfl) (by kernel_rfl) (by rfl) (fun g f w h => As.same h (by decide)) ?_; simp only [Act.put, List.setIfInBounds_toArray, List.set_cons_zero, List.set_cons_succ])
        | (refine Fx.WM.val_ 4 ?_ (by rfl) (by kernel_rfl) (by kernel_rfl) (by kernel_rfl) (by rfl) ?_ (fun g f w h => As.same h (by decide)) ?_
           rotate_left
           · intro g f w' hx hD hk
             obtain has := id hD
             have hst := (hk.un 16 13 (by kernel_rfl) (hk.2.1 13 (by kernel_rfl)))
             have qf := (has.cell hst 1).1
             have hbA : Below Wq.heap.size Wq w' := HBR.out.trans (has.below (fun q hq => by have := (own_lt HOR.out hq).1; omega) (Nat.le_refl _) hs6)
             have y_0 : w'.cell? ⟨M, 0, none⟩ = some (.pointer (some ⟨tb, 0, none⟩)) := (hbA.cell (p := ⟨M, 0, none⟩) (by show M < _; omega)).trans x0
             have y_1 : w'.cell? ⟨tb, 1, none⟩ = some (.slice (some ⟨sb, so, none⟩) n c9) := (hbA.cell (p := ⟨tb, 1, none⟩) htW).trans x2
             have y0 : w'.cell? ⟨sb, so + j * 8, none⟩ = some (.string s.t.name) := (hbA.cell (p := ⟨sb, so + j * 8, none⟩) hsb).trans S0.out
             have y1 : w'.cell? ⟨sb, so + j * 8 + 1, none⟩ = some (.int .i64 s.t.az) := (hbA.cell (p := ⟨sb, so + j * 8 + 1, none⟩) hsb).trans S1.out
             have y2 : w'.cell? ⟨sb, so + j * 8 + 2, none⟩ = some (.int .i64 s.t.ht) := (hbA.cell (p := ⟨sb, so + j * 8 + 2, none⟩) hsb).trans S2.out
             have y3 : w'.cell? ⟨sb, so + j * 8 + 3, none⟩ = some (.int .i64 s.t.fr) := (hbA.cell (p := ⟨sb, so + j * 8 + 3, none⟩) hsb).trans S3.out
             have y4 : w'.cell? ⟨sb, so + j * 8 + 4, none⟩ = some (.int .i64 s.t.to) := (hbA.cell (p := ⟨sb, so + j * 8 + 4, none⟩) hsb).trans S4.out
             have y5 : w'.cell? ⟨sb, so + j * 8 + 5, none⟩ = some (.int .i64 s.t.dw) := (hbA.cell (p := ⟨sb, so + j * 8 + 5, none⟩) hsb).trans S5.out
             have y6 : w'.cell? ⟨sb, so + j * 8 + 6, none⟩ = some (.slice s.A s.n s.c) := (hbA.cell (p := ⟨sb, so + j * 8 + 6, none⟩) hsb).trans S6.out
             have y7 : w'.cell? ⟨sb, so + j * 8 + 7, none⟩ = some (.slice s.A' s.n s.c') := (hbA.cell (p := ⟨sb, so + j * 8 + 7, none⟩) hsb).trans S7.out
             clear hx hk hD has hst
             go_simp
             try rfl
           simp only [Act.put, List.setIfInBounds_toArray, List.set_cons_zero, List.set_cons_succ])
        first
        | (refine Fx.WM.skip 5 (by rfl) (by kernel_rfl) (by kernel_rfl) (by kernel_rfl) (by rfl) (fun g f w h => As.same h (by decide)) ?_; simp only [Act.put, List.setIfInBounds_toArray, List.set_cons_zero, List.set_cons_succ])
        | (refine Fx.WM.val_ 5 ?_ (by rfl) (by kernel_rfl) (by kernel_rfl) (by kernel_rfl) (by rfl) ?_ (fun g f w h => As.same h (by decide)) ?_
           rotate_left
           · intro g f w' hx hD hk
             obtain has := id hD
             have hbA : Below Wq.heap.size Wq w' := HBR.out.trans (has.below (fun q hq => by have := (own_lt HOR.out hq).1; omega) (Nat.le_refl _) hs6)
             have y_0 : w'.cell? ⟨M, 0, none⟩ = some (.pointer (some ⟨tb, 0, none⟩)) := (hbA.cell (p := ⟨M, 0, none⟩) (by show M < _; omega)).trans x0
             have y_1 : w'.cell? ⟨tb, 1, none⟩ = some (.slice (some ⟨sb, so, none⟩) n c9) := (hbA.cell (p := ⟨tb, 1, none⟩) htW).trans x2
             have y0 : w'.cell? ⟨sb, so + j * 8, none⟩ = some (.string s.t.name) := (hbA.cell (p := ⟨sb, so + j * 8, none⟩) hsb).trans S0.out
             have y1 : w'.cell? ⟨sb, so + j * 8 + 1, none⟩ = some (.int .i64 s.t.az) := (hbA.cell (p := ⟨sb, so + j * 8 + 1, none⟩) hsb).trans S1.out
             have y2 : w'.cell? ⟨sb, so + j * 8 + 2, none⟩ = some (.int .i64 s.t.ht) := (hbA.cell (p := ⟨sb, so + j * 8 + 2, none⟩) hsb).trans S2.out
             have y3 : w'.cell? ⟨sb, so + j * 8 + 3, none⟩ = some (.int .i64 s.t.fr) := (hbA.cell (p := ⟨sb, so + j * 8 + 3, none⟩) hsb).trans S3.out
             have y4 : w'.cell? ⟨sb, so + j * 8 + 4, none⟩ = some (.int .i64 s.t.to) := (hbA.cell (p := ⟨sb, so + j * 8 + 4, none⟩) hsb).trans S4.out
             have y5 : w'.cell? ⟨sb, so + j * 8 + 5, none⟩ = some (.int .i64 s.t.dw) := (hbA.cell (p := ⟨sb, so + j * 8 + 5, none⟩) hsb).trans S5.out
             have y6 : w'.cell? ⟨sb, so + j * 8 + 6, none⟩ = some (.slice s.A s.n s.c) := (hbA.cell (p := ⟨sb, so + j * 8 + 6, none⟩) hsb).trans S6.out
             have y7 : w'.cell? ⟨sb, so + j * 8 + 7, none⟩ = some (.slice s.A' s.n s.c') := (hbA.cell (p := ⟨sb, so + j * 8 + 7, none⟩) hsb).trans S7.out
             clear hx hk hD has
             go_simp
             try rfl
           simp only [Act.put, List.setIfInBounds_toArray, List.set_cons_zero, List.set_cons_succ])
        first
        | (refine Fx.WM.skip 6 (by rfl) (by kernel_rfl) (by kernel_rfl) (by kernel_rfl) (by rfl) (fun g f w h => As.same h (by decide)) ?_; simp only [Act.put, List.setIfInBounds_toArray, List.set_cons_zero, List.set_cons_succ])
        | (refine Fx.WM.val_ 6 ?_ (by rfl) (by kernel_rfl) (by kernel_rfl) (by kernel_rfl) (by rfl) ?_ (fun g f w h => As.same h (by decide)) ?_
           rotate_left
           · intro g f w' hx hD hk
             obtain has := id hD
             have hbA : Below Wq.heap.size Wq w' := HBR.out.trans (has.below (fun q hq => by have := (own_lt HOR.out hq).1; omega) (Nat.le_refl _) hs6)
             have y_0 : w'.cell? ⟨M, 0, none⟩ = some (.pointer (some ⟨tb, 0, none⟩)) := (hbA.cell (p := ⟨M, 0, none⟩) (by show M < _; omega)).trans x0
             have y_1 : w'.cell? ⟨tb, 1, none⟩ = some (.slice (some ⟨sb, so, none⟩) n c9) := (hbA.cell (p := ⟨tb, 1, none⟩) htW).trans x2
             have y0 : w'.cell? ⟨sb, so + j * 8, none⟩ = some (.string s.t.name) := (hbA.cell (p := ⟨sb, so + j * 8, none⟩) hsb).trans S0.out
             have y1 : w'.cell? ⟨sb, so + j * 8 + 1, none⟩ = some (.int .i64 s.t.az) := (hbA.cell (p := ⟨sb, so + j * 8 + 1, none⟩) hsb).trans S1.out
             have y2 : w'.cell? ⟨sb, so + j * 8 + 2, none⟩ = some (.int .i64 s.t.ht) := (hbA.cell (p := ⟨sb, so + j * 8 + 2, none⟩) hsb).trans S2.out
             have y3 : w'.cell? ⟨sb, so + j * 8 + 3, none⟩ = some (.int .i64 s.t.fr) := (hbA.cell (p := ⟨sb, so + j * 8 + 3, none⟩) hsb).trans S3.out
             have y4 : w'.cell? ⟨sb, so + j * 8 + 4, none⟩ = some (.int .i64 s.t.to) := (hbA.cell (p := ⟨sb, so + j * 8 + 4, none⟩) hsb).trans S4.out
             have y5 : w'.cell? ⟨sb, so + j * 8 + 5, none⟩ = some (.int .i64 s.t.dw) := (hbA.cell (p := ⟨sb, so + j * 8 + 5, none⟩) hsb).trans S5.out
             have y6 : w'.cell? ⟨sb, so + j * 8 + 6, none⟩ = some (.slice s.A s.n s.c) := (hbA.cell (p := ⟨sb, so + j * 8 + 6, none⟩) hsb).trans S6.out
             have y7 : w'.cell? ⟨sb, so + j * 8 + 7, none⟩ = some (.slice s.A' s.n s.c') := (hbA.cell (p := ⟨sb, so + j * 8 + 7, none⟩) hsb).trans S7.out
             clear hx hk hD has
             go_simp
             try rfl
           simp only [Act.put, List.setIfInBounds_toArray, List.set_cons_zero, List.set_cons_succ])
        first
        | (refine Fx.WM.skip 7 (by rfl) (by kernel_rfl) (by kernel_rfl) (by kernel_rfl) (by rfl) (fun g f w h => As.same h (by decide)) ?_; simp only [Act.put, List.setIfInBounds_toArray, List.set_cons_zero, List.set_cons_succ])
        | (refine Fx.WM.val_ 7 ?_ (by rfl) (by kernel_rfl) (by kernel_rfl) (by kernel_rfl) (by rfl) ?_ (fun g f w h => As.same h (by decide)) ?_
           rotate_left
           · intro g f w' hx hD hk
             obtain has := id hD
             have hbA : Below Wq.heap.size Wq w' := HBR.out.trans (has.below (fun q hq => by have := (own_lt HOR.out hq).1; omega) (Nat.le_refl _) hs6)
             have y_0 : w'.cell? ⟨M, 0, none⟩ = some (.pointer (some ⟨tb, 0, none⟩)) := (hbA.cell (p := ⟨M, 0, none⟩) (by show M < _; omega)).trans x0
             have y_1 : w'.cell? ⟨tb, 1, none⟩ = some (.slice (some ⟨sb, so, none⟩) n c9) := (hbA.cell (p := ⟨tb, 1, none⟩) htW).trans x2
             have y0 : w'.cell? ⟨sb, so + j * 8, none⟩ = some (.string s.t.name) := (hbA.cell (p := ⟨sb, so + j * 8, none⟩) hsb).trans S0.out
             have y1 : w'.cell? ⟨sb, so + j * 8 + 1, none⟩ = some (.int .i64 s.t.az) := (hbA.cell (p := ⟨sb, so + j * 8 + 1, none⟩) hsb).trans S1.out
             have y2 : w'.cell? ⟨sb, so + j * 8 + 2, none⟩ = some (.int .i64 s.t.ht) := (hbA.cell (p := ⟨sb, so + j * 8 + 2, none⟩) hsb).trans S2.out
             have y3 : w'.cell? ⟨sb, so + j * 8 + 3, none⟩ = some (.int .i64 s.t.fr) := (hbA.cell (p := ⟨sb, so + j * 8 + 3, none⟩) hsb).trans S3.out
             have y4 : w'.cell? ⟨sb, so + j * 8 + 4, none⟩ = some (.int .i64 s.t.to) := (hbA.cell (p := ⟨sb, so + j * 8 + 4, none⟩) hsb).trans S4.out
             have y5 : w'.cell? ⟨sb, so + j * 8 + 5, none⟩ = some (.int .i64 s.t.dw) := (hbA.cell (p := ⟨sb, so + j * 8 + 5, none⟩) hsb).trans S5.out
             have y6 : w'.cell? ⟨sb, so + j * 8 + 6, none⟩ = some (.slice s.A s.n s.c) := (hbA.cell (p := ⟨sb, so + j * 8 + 6, none⟩) hsb).trans S6.out
             have y7 : w'.cell? ⟨sb, so + j * 8 + 7, none⟩ = some (.slice s.A' s.n s.c') := (hbA.cell (p := ⟨sb, so + j * 8 + 7, none⟩) hsb).trans S7.out
             clear hx hk hD has
             go_simp
             try rfl
           simp only [Act.put, List.setIfInBounds_toArray, List.set_cons_zero, List.set_cons_succ])
        first
        | (refine Fx.WM.skip 8 (by rfl) (by kernel_rfl) (by kernel_rfl) (by kernel_rfl) (by rfl) (fun g f w h => As.same h (by decide)) ?_; simp only [Act.put, List.setIfInBounds_toArray, List.set_cons_zero, List.set_cons_succ])
        | (refine Fx.WM.val_ 8 ?_ (by rfl) (by kernel_rfl) (by kernel_rfl) (by kernel_rfl) (by rfl) ?_ (fun g f w h => As.same h (by decide)) ?_
           rotate_left
           · intro g f w' hx hD hk
             obtain has := id hD
             have hbA : Below Wq.heap.size Wq w' := HBR.out.trans (has.below (fun q hq => by have := (own_lt HOR.out hq).1; omega) (Nat.le_refl _) hs6)
             have y_0 : w'.cell? ⟨M, 0, none⟩ = some (.pointer (some ⟨tb, 0, none⟩)) := (hbA.cell (p := ⟨M, 0, none⟩) (by show M < _; omega)).trans x0
             have y_1 : w'.cell? ⟨tb, 1, none⟩ = some (.slice (some ⟨sb, so, none⟩) n c9) := (hbA.cell (p := ⟨tb, 1, none⟩) htW).trans x2
             have y0 : w'.cell? ⟨sb, so + j * 8, none⟩ = some (.string s.t.name) := (hbA.cell (p := ⟨sb, so + j * 8, none⟩) hsb).trans S0.out
             have y1 : w'.cell? ⟨sb, so + j * 8 + 1, none⟩ = some (.int .i64 s.t.az) := (hbA.cell (p := ⟨sb, so + j * 8 + 1, none⟩) hsb).trans S1.out
             have y2 : w'.cell? ⟨sb, so + j * 8 + 2, none⟩ = some (.int .i64 s.t.ht) := (hbA.cell (p := ⟨sb, so + j * 8 + 2, none⟩) hsb).trans S2.out
             have y3 : w'.cell? ⟨sb, so + j * 8 + 3, none⟩ = some (.int .i64 s.t.fr) := (hbA.cell (p := ⟨sb, so + j * 8 + 3, none⟩) hsb).trans S3.out
             have y4 : w'.cell? ⟨sb, so + j * 8 + 4, none⟩ = some (.int .i64 s.t.to) := (hbA.cell (p := ⟨sb, so + j * 8 + 4, none⟩) hsb).trans S4.out
             have y5 : w'.cell? ⟨sb, so + j * 8 + 5, none⟩ = some (.int .i64 s.t.dw) := (hbA.cell (p := ⟨sb, so + j * 8 + 5, none⟩) hsb).trans S5.out
             have y6 : w'.cell? ⟨sb, so + j * 8 + 6, none⟩ = some (.slice s.A s.n s.c) := (hbA.cell (p := ⟨sb, so + j * 8 + 6, none⟩) hsb).trans S6.out
             have y7 : w'.cell? ⟨sb, so + j * 8 + 7, none⟩ = some (.slice s.A' s.n s.c') := (hbA.cell (p := ⟨sb, so + j * 8 + 7, none⟩) hsb).trans S7.out
             clear hx hk hD has
             go_simp
             try rfl
           simp only [Act.put, List.setIfInBounds_toArray, List.set_cons_zero, List.set_cons_succ])
        first
        | (refine Fx.WM.skip 9 (by rfl) (by kernel_rfl) (by kernel_rfl) (by kernel_rfl) (by rfl) (fun g f w h => As.same h (by decide)) ?_; simp only [Act.put, List.setIfInBounds_toArray, List.set_cons_zero, List.set_cons_succ])
        | (refine Fx.WM.val_ 9 ?_ (by rfl) (by kernel_rfl) (by kernel_rfl) (by kernel_rfl) (by rfl) ?_ (fun g f w h => As.same h (by decide)) ?_
           rotate_left
           · intro g f w' hx hD hk
             obtain has := id hD
             have hbA : Below Wq.heap.size Wq w' := HBR.out.trans (has.below (fun q hq => by have := (own_lt HOR.out hq).1; omega) (Nat.le_refl _) hs6)
             have y_0 : w'.cell? ⟨M, 0, none⟩ = some (.pointer (some ⟨tb, 0, none⟩)) := (hbA.cell (p := ⟨M, 0, none⟩) (by show M < _; omega)).trans x0
             have y_1 : w'.cell? ⟨tb, 1, none⟩ = some (.slice (some ⟨sb, so, none⟩) n c9) := (hbA.cell (p := ⟨tb, 1, none⟩) htW).trans x2
             have y0 : w'.cell? ⟨sb, so + j * 8, none⟩ = some (.string s.t.name) := (hbA.cell (p := ⟨sb, so + j * 8, none⟩) hsb).trans S0.out
             have y1 : w'.cell? ⟨sb, so + j * 8 + 1, none⟩ = some (.int .i64 s.t.az) := (hbA.cell (p := ⟨sb, so + j * 8 + 1, none⟩) hsb).trans S1.out
             have y2 : w'.cell? ⟨sb, so + j * 8 + 2, none⟩ = some (.int .i64 s.t.ht) := (hbA.cell (p := ⟨sb, so + j * 8 + 2, none⟩) hsb).trans S2.out
             have y3 : w'.cell? ⟨sb, so + j * 8 + 3, none⟩ = some (.int .i64 s.t.fr) := (hbA.cell (p := ⟨sb, so + j * 8 + 3, none⟩) hsb).trans S3.out
             have y4 : w'.cell? ⟨sb, so + j * 8 + 4, none⟩ = some (.int .i64 s.t.to) := (hbA.cell (p := ⟨sb, so + j * 8 + 4, none⟩) hsb).trans S4.out
             have y5 : w'.cell? ⟨sb, so + j * 8 + 5, none⟩ = some (.int .i64 s.t.dw) := (hbA.cell (p := ⟨sb, so + j * 8 + 5, none⟩) hsb).trans S5.out
             have y6 : w'.cell? ⟨sb, so + j * 8 + 6, none⟩ = some (.slice s.A s.n s.c) := (hbA.cell (p := ⟨sb, so + j * 8 + 6, none⟩) hsb).trans S6.out
             have y7 : w'.cell? ⟨sb, so + j * 8 + 7, none⟩ = some (.slice s.A' s.n s.c') := (hbA.cell (p := ⟨sb, so + j * 8 + 7, none⟩) hsb).trans S7.out
             clear hx hk hD has
             go_simp
             try rfl
           simp only [Act.put, List.setIfInBounds_toArray, List.set_cons_zero, List.set_cons_succ])
        first
        | (refine Fx.WM.skip 10 (by rfl) (by kernel_rfl) (by kernel_rfl) (by kernel_rfl) (by rfl) (fun g f w h => As.same h (by decide)) ?_; simp only [Act.put, List.setIfInBounds_toArray, List.set_cons_zero, List.set_cons_succ])
        | (refine Fx.WM.val_ 10 ?_ (by rfl) (by kernel_rfl) (by kernel_rfl) (by kernel_rfl) (by rfl) ?_ (fun g f w h => As.same h (by decide)) ?_
           rotate_left
           · intro g f w' hx hD hk
             obtain has := id hD
             have hbA : Below Wq.heap.size Wq w' := HBR.out.trans (has.below (fun q hq => by have := (own_lt HOR.out hq).1; omega) (Nat.le_refl _) hs6)
             have y_0 : w'.cell? ⟨M, 0, none⟩ = some (.pointer (some ⟨tb, 0, none⟩)) := (hbA.cell (p := ⟨M, 0, none⟩) (by show M < _; omega)).trans x0
             have y_1 : w'.cell? ⟨tb, 1, none⟩ = some (.slice (some ⟨sb, so, none⟩) n c9) := (hbA.cell (p := ⟨tb, 1, none⟩) htW).trans x2
             have y0 : w'.cell? ⟨sb, so + j * 8, none⟩ = some (.string s.t.name) := (hbA.cell (p := ⟨sb, so + j * 8, none⟩) hsb).trans S0.out
             have y1 : w'.cell? ⟨sb, so + j * 8 + 1, none⟩ = some (.int .i64 s.t.az) := (hbA.cell (p := ⟨sb, so + j * 8 + 1, none⟩) hsb).trans S1.out
             have y2 : w'.cell? ⟨sb, so + j * 8 + 2, none⟩ = some (.int .i64 s.t.ht) := (hbA.cell (p := ⟨sb, so + j * 8 + 2, none⟩) hsb).trans S2.out
             have y3 : w'.cell? ⟨sb, so + j * 8 + 3, none⟩ = some (.int .i64 s.t.fr) := (hbA.cell (p := ⟨sb, so + j * 8 + 3, none⟩) hsb).trans S3.out
             have y4 : w'.cell? ⟨sb, so + j * 8 + 4, none⟩ = some (.int .i64 s.t.to) := (hbA.cell (p := ⟨sb, so + j * 8 + 4, none⟩) hsb).trans S4.out
             have y5 : w'.cell? ⟨sb, so + j * 8 + 5, none⟩ = some (.int .i64 s.t.dw) := (hbA.cell (p := ⟨sb, so + j * 8 + 5, none⟩) hsb).trans S5.out
             have y6 : w'.cell? ⟨sb, so + j * 8 + 6, none⟩ = some (.slice s.A s.n s.c) := (hbA.cell (p := ⟨sb, so + j * 8 + 6, none⟩) hsb).trans S6.out
             have y7 : w'.cell? ⟨sb, so + j * 8 + 7, none⟩ = some (.slice s.A' s.n s.c') := (hbA.cell (p := ⟨sb, so + j * 8 + 7, none⟩) hsb).trans S7.out
             clear hx hk hD has
             go_simp
             try rfl
           simp only [Act.put, List.setIfInBounds_toArray, List.set_cons_zero, List.set_cons_succ])
        first
        | (refine Fx.WM.skip 11 (by rfl) (by kernel_rfl) (by kernel_rfl) (by kernel_rfl) (by rfl) (fun g f w h => As.same h (by decide)) ?_; simp only [Act.put, List.setIfInBounds_toArray, List.set_cons_zero, List.set_cons_succ])
        | (refine Fx.WM.val_ 11 ?_ (by rfl) (by kernel_rfl) (by kernel_rfl) (by kernel_rfl) (by rfl) ?_ (fun g f w h => As.same h (by decide)) ?_
           rotate_left
           · intro g f w' hx hD hk
             obtain has := id hD
             have hbA : Below Wq.heap.size Wq w' := HBR.out.trans (has.below (fun q hq => by have := (own_lt HOR.out hq).1; omega) (Nat.le_refl _) hs6)
             have y_0 : w'.cell? ⟨M, 0, none⟩ = some (.pointer (some ⟨tb, 0, none⟩)) := (hbA.cell (p := ⟨M, 0, none⟩) (by show M < _; omega)).trans x0
             have y_1 : w'.cell? ⟨tb, 1, none⟩ = some (.slice (some ⟨sb, so, none⟩) n c9) := (hbA.cell (p := ⟨tb, 1, none⟩) htW).trans x2
             have y0 : w'.cell? ⟨sb, so + j * 8, none⟩ = some (.string s.t.name) := (hbA.cell (p := ⟨sb, so + j * 8, none⟩) hsb).trans S0.out
             have y1 : w'.cell? ⟨sb, so + j * 8 + 1, none⟩ = some (.int .i64 s.t.az) := (hbA.cell (p := ⟨sb, so + j * 8 + 1, none⟩) hsb).trans S1.out
             have y2 : w'.cell? ⟨sb, so + j * 8 + 2, none⟩ = some (.int .i64 s.t.ht) := (hbA.cell (p := ⟨sb, so + j * 8 + 2, none⟩) hsb).trans S2.out
             have y3 : w'.cell? ⟨sb, so + j * 8 + 3, none⟩ = some (.int .i64 s.t.fr) := (hbA.cell (p := ⟨sb, so + j * 8 + 3, none⟩) hsb).trans S3.out
             have y4 : w'.cell? ⟨sb, so + j * 8 + 4, none⟩ = some (.int .i64 s.t.to) := (hbA.cell (p := ⟨sb, so + j * 8 + 4, none⟩) hsb).trans S4.out
             have y5 : w'.cell? ⟨sb, so + j * 8 + 5, none⟩ = some (.int .i64 s.t.dw) := (hbA.cell (p := ⟨sb, so + j * 8 + 5, none⟩) hsb).trans S5.out
             have y6 : w'.cell? ⟨sb, so + j * 8 + 6, none⟩ = some (.slice s.A s.n s.c) := (hbA.cell (p := ⟨sb, so + j * 8 + 6, none⟩) hsb).trans S6.out
             have y7 : w'.cell? ⟨sb, so + j * 8 + 7, none⟩ = some (.slice s.A' s.n s.c') := (hbA.cell (p := ⟨sb, so + j * 8 + 7, none⟩) hsb).trans S7.out
             clear hx hk hD has
             go_simp
             try rfl
           simp only [Act.put, List.setIfInBounds_toArray, List.set_cons_zero, List.set_cons_succ])
        refine Fx.WM.choose 12 (by rfl) (by kernel_rfl) (by rfl) ?_ ?_
        · skip
          refine Fx.Chooses.make (by rfl) ?_
          intro f w' hD hk
          refine ⟨(some ⟨w'.heap.size, 0, none⟩, 0), w'.alloc (.cells #[.string s.t.name, .int .i64 s.t.az, .int .i64 s.t.ht, .int .i64 s.t.fr, .int .i64 s.t.to, .int .i64 s.t.dw, .slice s.A s.n s.c, .slice s.A' s.n s.c'] 73), ?_, ?_⟩
          · clear hk hD
            go_simp
            try rfl
          · exact As.mk_lit hD (by decide) (by decide)
        intro x
        simp only [Act.put, List.setIfInBounds_toArray, List.set_cons_zero, List.set_cons_succ]
        refine Fx.WM.choose 13 (by rfl) (by kernel_rfl) (by rfl) ?_ ?_
        · skip
          refine Fx.Chooses.make (by rfl) ?_
          intro f w' hD hk
          obtain ⟨y', w2', hrun, hD2⟩ := As.app (P := Try.prog) (c := 1) hD Try.underlying69 info_stop rfl (by omega) (by simp [Value.oneCell']) rfl (hs7) (by unfold maxLen; omega) (by omega) (x := x) (by rfl) (by rfl) (by decide) (by decide) (hk.2.1 16 (by kernel_rfl))
          exact ⟨y', w2', exec_append _ _ _ rfl hrun, hD2⟩
        intro y
        simp only [Act.put, List.setIfInBounds_toArray, List.set_cons_zero, List.set_cons_succ]
        first
        | (refine Fx.WM.skip 14 (by rfl) (by kernel_rfl) (by kernel_rfl) (by kernel_rfl) (by rfl) (fun g f w h => As.same h (by decide)) ?_; simp only [Act.put, List.setIfInBounds_toArray, List.set_cons_zero, List.set_cons_succ])
        | (refine Fx.WM.val_ 14 ?_ (by rfl) (by kernel_rfl) (by kernel_rfl) (by kernel_rfl) (by rfl) ?_ (fun g f w h => As.same h (by decide)) ?_
           rotate_left
           · intro g f w' hx hD hk
             obtain has := id hD
             have hbA : Below Wq.heap.size Wq w' := HBR.out.trans (has.below (fun q hq => by have := (own_lt HOR.out hq).1; omega) (Nat.le_refl _) hs6)
             have y_0 : w'.cell? ⟨M, 0, none⟩ = some (.pointer (some ⟨tb, 0, none⟩)) := (hbA.cell (p := ⟨M, 0, none⟩) (by show M < _; omega)).trans x0
             have y_1 : w'.cell? ⟨tb, 1, none⟩ = some (.slice (some ⟨sb, so, none⟩) n c9) := (hbA.cell (p := ⟨tb, 1, none⟩) htW).trans x2
             have y0 : w'.cell? ⟨sb, so + j * 8, none⟩ = some (.string s.t.name) := (hbA.cell (p := ⟨sb, so + j * 8, none⟩) hsb).trans S0.out
             have y1 : w'.cell? ⟨sb, so + j * 8 + 1, none⟩ = some (.int .i64 s.t.az) := (hbA.cell (p := ⟨sb, so + j * 8 + 1, none⟩) hsb).trans S1.out
             have y2 : w'.cell? ⟨sb, so + j * 8 + 2, none⟩ = some (.int .i64 s.t.ht) := (hbA.cell (p := ⟨sb, so + j * 8 + 2, none⟩) hsb).trans S2.out
             have y3 : w'.cell? ⟨sb, so + j * 8 + 3, none⟩ = some (.int .i64 s.t.fr) := (hbA.cell (p := ⟨sb, so + j * 8 + 3, none⟩) hsb).trans S3.out
             have y4 : w'.cell? ⟨sb, so + j * 8 + 4, none⟩ = some (.int .i64 s.t.to) := (hbA.cell (p := ⟨sb, so + j * 8 + 4, none⟩) hsb).trans S4.out
             have y5 : w'.cell? ⟨sb, so + j * 8 + 5, none⟩ = some (.int .i64 s.t.dw) := (hbA.cell (p := ⟨sb, so + j * 8 + 5, none⟩) hsb).trans S5.out
             have y6 : w'.cell? ⟨sb, so + j * 8 + 6, none⟩ = some (.slice s.A s.n s.c) := (hbA.cell (p := ⟨sb, so + j * 8 + 6, none⟩) hsb).trans S6.out
             have y7 : w'.cell? ⟨sb, so + j * 8 + 7, none⟩ = some (.slice s.A' s.n s.c') := (hbA.cell (p := ⟨sb, so + j * 8 + 7, none⟩) hsb).trans S7.out
             clear hx hk hD has
             go_simp
             try rfl
           simp only [Act.put, List.setIfInBounds_toArray, List.set_cons_zero, List.set_cons_succ])
        first
        | (refine Fx.WM.skip 15 (by rfl) (by kernel_rfl) (by kernel_rfl) (by kernel_rfl) (by rfl) (fun g f w h => As.same h (by decide)) ?_; simp only [Act.put, List.setIfInBounds_toArray, List.set_cons_zero, List.set_cons_succ])
        | (refine Fx.WM.val_ 15 ?_ (by rfl) (by kernel_rfl) (by kernel_rfl) (by kernel_rfl) (by rfl) ?_ (fun g f w h => As.same h (by decide)) ?_
           rotate_left
           · intro g f w' hx hD hk
             obtain has := id hD
             have hbA : Below Wq.heap.size Wq w' := HBR.out.trans (has.below (fun q hq => by have := (own_lt HOR.out hq).1; omega) (Nat.le_refl _) hs6)
             have y_0 : w'.cell? ⟨M, 0, none⟩ = some (.pointer (some ⟨tb, 0, none⟩)) := (hbA.cell (p := ⟨M, 0, none⟩) (by show M < _; omega)).trans x0
             have y_1 : w'.cell? ⟨tb, 1, none⟩ = some (.slice (some ⟨sb, so, none⟩) n c9) := (hbA.cell (p := ⟨tb, 1, none⟩) htW).trans x2
             have y0 : w'.cell? ⟨sb, so + j * 8, none⟩ = some (.string s.t.name) := (hbA.cell (p := ⟨sb, so + j * 8, none⟩) hsb).trans S0.out
             have y1 : w'.cell? ⟨sb, so + j * 8 + 1, none⟩ = some (.int .i64 s.t.az) := (hbA.cell (p := ⟨sb, so + j * 8 + 1, none⟩) hsb).trans S1.out
             have y2 : w'.cell? ⟨sb, so + j * 8 + 2, none⟩ = some (.int .i64 s.t.ht) := (hbA.cell (p := ⟨sb, so + j * 8 + 2, none⟩) hsb).trans S2.out
             have y3 : w'.cell? ⟨sb, so + j * 8 + 3, none⟩ = some (.int .i64 s.t.fr) := (hbA.cell (p := ⟨sb, so + j * 8 + 3, none⟩) hsb).trans S3.out
             have y4 : w'.cell? ⟨sb, so + j * 8 + 4, none⟩ = some (.int .i64 s.t.to) := (hbA.cell (p := ⟨sb, so + j * 8 + 4, none⟩) hsb).trans S4.out
             have y5 : w'.cell? ⟨sb, so + j * 8 + 5, none⟩ = some (.int .i64 s.t.dw) := (hbA.cell (p := ⟨sb, so + j * 8 + 5, none⟩) hsb).trans S5.out
             have y6 : w'.cell? ⟨sb, so + j * 8 + 6, none⟩ = some (.slice s.A s.n s.c) := (hbA.cell (p := ⟨sb, so + j * 8 + 6, none⟩) hsb).trans S6.out
             have y7 : w'.cell? ⟨sb, so + j * 8 + 7, none⟩ = some (.slice s.A' s.n s.c') := (hbA.cell (p := ⟨sb, so + j * 8 + 7, none⟩) hsb).trans S7.out
             clear hx hk hD has
             go_simp
             try rfl
           simp only [Act.put, List.setIfInBounds_toArray, List.set_cons_zero, List.set_cons_succ])
        refine Fx.WM.eff 16 undef (by rfl) (by kernel_rfl) (by kernel_rfl) (by kernel_rfl) (by rfl) ?_ ?_
        · intro g f w' hx hD hk
          have hst : f 16 = false := hk.1
          obtain ⟨qf, pf⟩ := As.cell hD hst 1
          refine Fx.gives_skip (w' := (w'.setCell ⟨Wq.heap.size, 1, none⟩ (.slice y.1 (k + 1) y.2))) ?_ ?_
          · clear hx hk hD hst
            go_simp
            try rfl
          · exact As.store hD (hx 13 _ (by rfl)) hk.1
        simp only [Act.put, List.setIfInBounds_toArray, List.set_cons_zero, List.set_cons_succ]
        refine Fx.WM.nil (by kernel_rfl) ?_
        intro w7 has
        obtain ⟨hoA, hfb⟩ := As.ends has (y := y) (by rfl) (by rfl)
        have HB7 := Lib.hid (HBR.out.trans (has.below (fun q hq => by have := (own_lt HOR.out hq).1; omega) (Nat.le_refl _) hs6))
        have HO7 := Lib.hid hoA
        have HF7 := Lib.hid hfb
        clear hoA hfb has hownS hblkS hneS x0 x2 d0
        gi_wp2
        go_roundw
        case rel =>
          refine ⟨k + 1, .slice y.1 (k + 1) y.2, by omega, by go_num, HB7.out, HF7.out, ?_⟩
          rw [HPS.out, stpCells_snoc]
          exact HO7.out
        case measure => simp [intOf]; omega
      · obtain rfl : n = k := by omega
        obtain ⟨Ax, cx, rfl, hrx⟩ := own_reads HOR.out
        rw [show xo.take n = xo by rw [← HXL.out, List.take_length]] at hrx
        have hpl : (permT l xo).length = n := by rw [perm_len (by rw [HLN.out]; exact HORD.out.2), HXL.out]
        have hta : TourAt m day pos (permT l xo) Wq.heap.size Ax cx (permG S xo) w6 := by
          refine ⟨by rw [hpl]; exact HKR.out, by rw [hpl]; exact hrx, ?_, fun s hs => (HTW.out.lay HBR.out).ok s (permG_mem hs)⟩
          rw [permG_map, HTW.out.ts]
          rfl
        have hRL : RightL m day pos (permT l xo) := (RightL.of HE.out).perm (by rw [HLN.out]; exact HORD.out)
        obtain ⟨v', hv'⟩ : ∃ v', costO m day pos l xo = v' := ⟨_, rfl⟩
        have HTA2 := Lib.hid hta
        have HRL := Lib.hid hRL
        have HV' := Lib.hid hv'
        clear hta hRL hv' hrx hpl
        gi_wp2_with fail
        refine ⟨trivial, CallsIn.inRound _ (callsIn_wide.2 ((pchoose_any m day pos (permT l xo) Wq.heap.size Ax cx (permG S xo) _ HTA2.out HRL.out.mnt0 HRL.out.pos0 HRL.out.ne HRL.out.len).mono ?_))⟩
        rintro e w8 ⟨At, ct, Xp, cp, tsP, ks, rfl, hb8, -⟩
        rw [show leastC m day pos (permT l xo) = v' from HV'.out]
        have hb8' := HBR.out.trans (hb8.mono hs6)
        obtain ⟨bA, bk, bc, bx, bt, g1, g2, g3, hm_⟩ := HBST.out
        have z2 : w8.cell? ⟨M + 1 + 1, 0, none⟩ = some (.int .i64 bx) := (g2.below hb8' g2.lt).cell 0
        have z3 : w8.cell? ⟨M + 1 + 1 + 1, 0, none⟩ = some (.bool bt) := (g3.below hb8' g3.lt).cell 0
        have HB8 := Lib.hid hb8'
        have HG1 := Lib.hid g1
        have HG2 := Lib.hid g2
        have HG3 := Lib.hid g3
        have hs8 := hb8'.size
        have hs82 : M + 1 + 1 < w8.heap.size := by omega
        have hs83 : M + 1 + 1 + 1 < w8.heap.size := by omega
        obtain ⟨st, hst_⟩ : ∃ st, foldO (costO m day pos l) none (pre.map (·.1)) = st := ⟨_, rfl⟩
        rw [hst_] at hm_
        have HSTF := Lib.hid hst_
        clear hb8 hb8' g1 g2 g3 hst_
        cases st with
        | none =>
          obtain ⟨rfl, rfl, rfl, rfl, rfl⟩ := hm_
          have HNEW := Lib.hid (show stepO (costO m day pos l) (foldO (costO m day pos l) none (pre.map (·.1))) xo = some (xo, v') by
            rw [HSTF.out]
            show some (xo, costO m day pos l xo) = _
            rw [HV'.out])
          gi_wp2_with fail
          generalize hW9 : World.alloc w8 _ = w9
          have hb9 : Below Wq.heap.size Wq w9 := HB8.out.trans (by rw [← hW9]; exact (Below.refl _ _).alloc hs8 _)
          have HB9 := Lib.hid hb9
          have HRD := Lib.hid (own_reads2 (own_below HOWN.out hb9 (Nat.le_refl _)))
          clear hb9 hW9
          refine ⟨trivial, CallsIn.inRound _ (callsIn_wide.2 ((cloneo_any xA n xc _ (ordI xo) _ HRD.out (Nat.le_refl _) (by omega)).mono ?_))⟩
          rintro e w10 ⟨cA, cc, rfl, hb10, -, hco⟩
          have hb10' := HB9.out.trans (hb10.mono HB9.out.size)
          have k1 := HG1.out.below hb10' HG1.out.lt
          have k2 := HG2.out.below hb10' HG2.out.lt
          have k3 := HG3.out.below hb10' HG3.out.lt
          have y1 : w10.cell? ⟨M + 1, 0, none⟩ = some _ := k1.cell 0
          have y2 : w10.cell? ⟨M + 1 + 1, 0, none⟩ = some _ := k2.cell 0
          have y3 : w10.cell? ⟨M + 1 + 1 + 1, 0, none⟩ = some _ := k3.cell 0
          have f1 : w10.frozen? ⟨M + 1, 0, none⟩ = false := k1.frozen 0
          have f2 : w10.frozen? ⟨M + 1 + 1, 0, none⟩ = false := k2.frozen 0
          have f3 : w10.frozen? ⟨M + 1 + 1 + 1, 0, none⟩ = false := k3.frozen 0
          have HB10 := Lib.hid hb10'
          have HCO := Lib.hid (own_mono hco HB9.out.size)
          clear hb10 hb10' k1 k2 k3 hco
          gi_wp2
          obtain ⟨q1, q2⟩ := bst_new (v := v') HB10.out hWM HG1.out HG2.out HG3.out HCO.out HXL.out (r := OrdX.blk n (xo, (xA, xc))) (fun q hq => (own_lt HOWN.out hq).2)
          exact body_end HS5.out ⟨H1.out, HBST.out, HRQ.out⟩ q1 (by rw [HNEW.out]; exact q2)
        | some b =>
          obtain ⟨b1, b2⟩ := b
          obtain ⟨rfl, hbx, hbk, hob, hne⟩ := hm_
          simp only at hbx hbk
          subst hbx
          obtain ⟨bb, hbb⟩ : ∃ bb, decide (v' < bx) = bb := ⟨_, rfl⟩
          clear hob hne hbk
          cases bb
          · have HN := Lib.hid (of_decide_eq_false hbb)
            gi_wp2
            generalize hW9 : World.alloc w8 _ = w9
            have hb9 : Below Wq.heap.size Wq w9 := HB8.out.trans (by rw [← hW9]; exact (Below.refl _ _).alloc hs8 _)
            refine body_end HS5.out ⟨H1.out, HBST.out, HRQ.out⟩ (Tch.of_below hb9) ?_
            rw [show stepO (costO m day pos l) (foldO (costO m day pos l) none (pre.map (·.1))) xo = foldO (costO m day pos l) none (pre.map (·.1)) by
              rw [HSTF.out]
              show (if costO m day pos l xo < bx then some (xo, costO m day pos l xo) else some (b1, bx)) = _
              rw [HV'.out, if_neg (by have := HN.out; omega)]]
            exact HBST.out.tch (Tch.of_below hb9 : Tch (fun _ => False) Wq w9) (fun _ h => h.elim) (fun _ h => h.elim) (fun _ _ h => h)
          have HNEW := Lib.hid (show stepO (costO m day pos l) (foldO (costO m day pos l) none (pre.map (·.1))) xo = some (xo, v') by
            rw [HSTF.out]
            show (if costO m day pos l xo < bx then some (xo, costO m day pos l xo) else some (b1, bx)) = _
            rw [HV'.out, if_pos (of_decide_eq_true hbb)])
          gi_wp2_with fail
          generalize hW9 : World.alloc w8 _ = w9
          have hb9 : Below Wq.heap.size Wq w9 := HB8.out.trans (by rw [← hW9]; exact (Below.refl _ _).alloc hs8 _)
          have HB9 := Lib.hid hb9
          have HRD := Lib.hid (own_reads2 (own_below HOWN.out hb9 (Nat.le_refl _)))
          clear hb9 hW9
          refine ⟨trivial, CallsIn.inRound _ (callsIn_wide.2 ((cloneo_any xA n xc _ (ordI xo) _ HRD.out (Nat.le_refl _) (by omega)).mono ?_))⟩
          rintro e w10 ⟨cA, cc, rfl, hb10, -, hco⟩
          have hb10' := HB9.out.trans (hb10.mono HB9.out.size)
          have k1 := HG1.out.below hb10' HG1.out.lt
          have k2 := HG2.out.below hb10' HG2.out.lt
          have k3 := HG3.out.below hb10' HG3.out.lt
          have y1 : w10.cell? ⟨M + 1, 0, none⟩ = some _ := k1.cell 0
          have y2 : w10.cell? ⟨M + 1 + 1, 0, none⟩ = some _ := k2.cell 0
          have y3 : w10.cell? ⟨M + 1 + 1 + 1, 0, none⟩ = some _ := k3.cell 0
          have f1 : w10.frozen? ⟨M + 1, 0, none⟩ = false := k1.frozen 0
          have f2 : w10.frozen? ⟨M + 1 + 1, 0, none⟩ = false := k2.frozen 0
          have f3 : w10.frozen? ⟨M + 1 + 1 + 1, 0, none⟩ = false := k3.frozen 0
          have HB10 := Lib.hid hb10'
          have HCO := Lib.hid (own_mono hco HB9.out.size)
          clear hb10 hb10' k1 k2 k3 hco
          gi_wp2
          obtain ⟨q1, q2⟩ := bst_new (v := v') HB10.out hWM HG1.out HG2.out HG3.out HCO.out HXL.out (r := OrdX.blk n (xo, (xA, xc))) (fun q hq => (own_lt HOWN.out hq).2)
          exact body_end HS5.out ⟨H1.out, HBST.out, HRQ.out⟩ q1 (by rw [HNEW.out]; exact q2)
  case hdone =>
    rintro xs W q ⟨r, hc⟩ hlt hK
    have hc2 := HSTB.out _ _ r _ _ hc ((tch_put (w5.heap.size + 1) W q).mono fun i _ h => .inl h) (.inl rfl)
    have hwlt : w5.heap.size + 1 < (W.putObj (w5.heap.size + 1) q).heap.size := by simpa using hlt
    obtain ⟨W', hW'⟩ : ∃ W', W.putObj (w5.heap.size + 1) q = W' := ⟨_, rfl⟩
    rw [hW'] at hc2 hK hwlt ⊢
    clear hc hlt hW'
    obtain ⟨h1, hbst, -⟩ := hc2
    rw [HFF.out] at hbst
    obtain ⟨oA, k, oc, x, t, g1, g2, g3, rfl, hx, hk, hob, -⟩ := hbst
    simp only at hx hk hob
    rw [HOL.out] at hk
    subst hx hk
    have y1 : W'.cell? ⟨M + 1, 0, none⟩ = some (.slice oA k oc) := g1.cell 0
    have y2 : W'.cell? ⟨M + 1 + 1, 0, none⟩ = some (.int .i64 x) := g2.cell 0
    have hmk : Fx.MarksAt w5.heap.size [w5.heap.size] W' := (Fx.MarksAt.nil _ W').cons (Nat.le_refl _) hK (by simp)
    have HMK := Lib.hid hmk
    have H1 := Lib.hid h1
    have HOB := Lib.hid hob
    clear hmk h1 hob g1 g2 g3 hK
    go_wp2_with fail
    obtain ⟨W9, hW9⟩ : ∃ W0, W0 = W'.drewN 1 := ⟨_, rfl⟩
    have m0 : W9.cell? ⟨M + 1, 0, none⟩ = some (.slice oA k oc) := by rw [hW9]; exact y1
    have m1 : W9.cell? ⟨M + 1 + 1, 0, none⟩ = some (.int .i64 (x)) := by rw [hW9]; exact y2
    refine Fx.region (fun f w' => w' = W9 ∧ True) (by kernel_rfl) (by kernel_rfl) ?_ ?_
    · intro f hf0
      exact ⟨hW9.symm, trivial⟩
    have HQ_W9 := Lib.hid hW9
    clear hW9
    repeat (first
      | (refine Fx.skip_ (by rfl) (fun f w h => h) ?_; simp only [Act.put, List.setIfInBounds_toArray, List.set_cons_zero, List.set_cons_succ])
      | (refine Fx.val_ ?_ (by rfl) ?_ (fun f w h => h) ?_
         rotate_left
         · intro f w' hD hk
           obtain ⟨jw, jt⟩ := id hD
           have q0 : w'.cell? ⟨M + 1, 0, none⟩ = some (.slice oA k oc) := by rw [jw]; exact m0
           have q1 : w'.cell? ⟨M + 1 + 1, 0, none⟩ = some (.int .i64 (x)) := by rw [jw]; exact m1
           clear hk hD jw jt
           go_simp
           try rfl
         simp only [Act.put, List.setIfInBounds_toArray, List.set_cons_zero, List.set_cons_succ]))
    refine Fx.nil_ ?_
    intro f W9_ hall hD
    obtain ⟨hjw, -⟩ := hD
    have hjw := hjw.symm
    subst hjw
    clear hall
    have hmk9 : Fx.MarksAt w5.heap.size [w5.heap.size] W9 := by rw [HQ_W9.out]; exact HMK.out
    have hb9 : Below w.heap.size w W9 := by
      rw [HQ_W9.out]
      refine below_drewN ?_ 1
      have h2 : Below M w5 W' := H1.out.below (fun q hq => by omega) (by rw [HS5.out]; omega)
      exact HB2.out.trans ((HB25.out.trans (h2.mono (Nat.le_of_eq HM.out))).mono HB2.out.size)
    have ho9 : W9.ownsRow (M + 10) 3 1 (.slice oA k oc) k ((ordI o).map (.int .i64)) := by rw [HQ_W9.out]; exact own_drewN HOB.out 1
    have HMK9 := Lib.hid hmk9
    have HB9 := Lib.hid hb9
    have HO9 := Lib.hid ho9
    clear hmk9 hb9 ho9 y1 y2
    go_wp2_with fail
    refine Fx.leaves_marks [w5.heap.size] W9 HMK9.out fun w' q1 q2 q3 q4 q5 => ?_
    have ho : w'.ownsRow (M + 10) 3 1 (.slice oA k oc) k ((ordI o).map (.int .i64)) := own_same HO9.out (fun g hg => q1 g (own_lt HO9.out hg).2 (fun E hE => by
      obtain rfl : E = w5.heap.size := by simpa using hE
      have := (own_lt HO9.out hg).1
      rw [HS5.out]
      omega))
    have hb : Below w.heap.size w w' := ⟨q2.trans HB9.out.os, q3.trans HB9.out.tape, q4.trans HB9.out.output, by rw [q5]; exact HB9.out.size, fun i hi => (q1 i (by have := HB9.out.size; omega) (fun E hE => by
      obtain rfl : E = w5.heap.size := by simpa using hE
      have := HB2.out.size
      have := HM.out
      rw [HS5.out]
      omega)).trans (HB9.out.block i hi)⟩
    exact ⟨.tuple #[.slice oA k oc, .int .i64 x, .int .i64 0], by simp [results, Try.results6, go_sem], ⟨oA, oc, rfl, hb, own_reads2 ho, own_cap ho⟩⟩
end Go.Proofs.Ytclnffpfbngjoaa

end
