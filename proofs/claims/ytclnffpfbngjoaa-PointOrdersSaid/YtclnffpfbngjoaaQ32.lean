import Derived.Test.YtclnffpfbngjoaaQ30
import Derived.Test.YtclnffpfbngjoaaQ16
import Derived.Test.YtclnffpfbngjoaaQ31
import Derived.Test.YtclnffpfbngjoaaQ25
import Derived.RangeFuncNested
import Derived.RangeFuncBound
import Derived.RangeFuncCalls
import Derived.RangeFuncLeaves
import Derived.RangeFuncBox
import Derived.Shelf.Abstract
import Derived.Shelf.RegionOpen
import Derived.WalkKit
import Derived.OwnWalkIn
import Derived.TacticsInMore
import Derived.LoopNIn
import Derived.LoopIn
import Derived.Test.YtclnffpfbngjoaaQ4

section
/- Contracts of the orders of so many numbers: the program's iterator. -/
namespace Go.Proofs.Ytclnffpfbngjoaa
open Go Go.RowKit Go.Shelf

attribute [local go_sem] Oper.semAt_some

theorem eq_nil_into (A : Option Addr) (n c : Nat) (w : World) : (Op.equalIn 10000 31 (.slice A n c) (.slice none 0 0)).run Try.prog w = .ok A.isNone w := by
  show (Op.equalIn (9999 + 1) _ _ _).run _ w = _
  rw [Op.equalIn.eq_def]
  cases A <;> simp [Sem.run_bind, run_underlying Try.underlying31]
@[go_sem ↓ high] theorem eql_nil_into (A : Option Addr) (n c : Nat) (w : World) : (binOp .eql 31 (.slice A n c) (.slice none 0 0)).run Try.prog w = .ok (.bool A.isNone) w := by
  simp only [binOp]
  simp [Op.equal, Op.maxDepth, eq_nil_into]
set_option maxRecDepth 100000 in
theorem cloneo_any (A : Option Addr) (n c N : Nat) (l : List Int) (w : World) (hx : Reads w N 1 A n (l.map (.int .i64))) (hN : N ≤ w.heap.size) (hn : n ≤ 100000) :
    Calls Try.prog 22 #[.slice A n c] w (CopyPost w 3 1 n (l.map (.int .i64))) := by
  cases A with
  | none =>
    have hn0 : n = 0 := by
      rcases Nat.eq_zero_or_pos n with h | h
      · exact h
      · obtain ⟨_, _, e, _⟩ := hx.2 h
        cases e
    subst hn0
    have hl : l.map (Value.int .i64) = [] := List.length_eq_zero_iff.1 (by simpa using hx.1)
    have HL := Lib.hid hl
    clear hx hl
    go_enter Try.func22, Try.ntmps22
    go_wp2
    go_ret
    exact ⟨none, 0, rfl, Below.refl _ _, by rw [HL.out]; exact Reads.none_, by rw [HL.out]; exact World.ownsRow_nil _ _ _ _⟩
  | some a =>
    obtain ⟨v', W2, hrun, ho, hb⟩ := copy_run (P := Try.prog) 31 31 3 _ 1 8 Try.underlying31 info_int rfl (by omega) w N (some a) n c (l.map (.int .i64)) hx hN (by simp [Value.oneCell']) (by unfold maxLen; omega) (by omega)
    have HRUN := Lib.hid hrun
    have HO := Lib.hid ho
    have HB := Lib.hid hb
    clear hrun ho hb hx
    go_enter Try.func22, Try.ntmps22
    go_wp2_with (first | (at_builtin; refine wpList_app _ W2 v' rfl _ _ _ rfl _ _ rfl rfl HRUN.out ?_))
    go_ret
    exact CopyPost.of HO.out HB.out

set_option maxRecDepth 100000 in
theorem hasord_is (A : Option Addr) (n c N : Nat) (o : List Nat) (i : Nat) (t : Bool) (ht : decide (i ∈ o) = t) (w : World) (hx : Reads w N 1 A n ((ordI o).map (.int .i64))) (hn : n ≤ 1000000) :
    Calls Try.prog 48 #[.slice A n c, .int .i64 (i : Int)] w fun e w' => e = .returned (.bool t) ∧ w = w' := by
  have HX := Lib.hid hx
  have hm := ordI_mem o i
  rw [ht] at hm
  have HM := Lib.hid hm
  clear ht hx hm
  cases t
  · go_enter Try.func48, Try.ntmps48
    go_wp2_with fail
    refine (pindex_no A n c N (ordI o) (i : Int) (of_decide_eq_false HM.out) _ HX.out (by omega)).mono ?_
    rintro e w' ⟨rfl, rfl⟩
    go_wp2
    go_ret
    exact ⟨rfl, rfl⟩
  · go_enter Try.func48, Try.ntmps48
    go_wp2_with fail
    refine (pindex_yes A n c N (ordI o) (i : Int) (of_decide_eq_true HM.out) _ HX.out (by omega)).mono ?_
    rintro e w' ⟨⟨q, rfl, -⟩, rfl⟩
    have hq : (0 : Int) ≤ (q : Int) := by omega
    go_wp2
    go_ret
    exact ⟨rfl, rfl⟩

theorem tch_set (q i : Nat) (W : World) (u : Value) : Tch (fun g => g = q) W (W.setCell ⟨q, i, none⟩ u) := (Tch.refl (fun g => g = q) W).setCell (p := ⟨q, i, none⟩) (.inl rfl) u
theorem ord_addr {w : World} {base n c : Nat} {A : Option Addr} {e : TypeId} {xs : List Value} (h : w.ownsRow base e 1 (.slice A n c) n xs) (hn : 0 < n) : ∃ g, A = some ⟨g, 0, none⟩ ∧ n ≤ c ∧ base ≤ g ∧ g < w.heap.size := by
  rcases h.2 with ⟨h1, h2⟩ | ⟨g, cap, cur, h1, h2, h3, h4, h5, h6, h7⟩
  · omega
  · injection h1 with h1 _ h1c
    subst h1 h1c
    exact ⟨g, rfl, h4, h2, (Array.getElem?_eq_some_iff.1 h3).1⟩
/-- The last number is cut off. -/
theorem ord_cut {w : World} {base n c : Nat} {A : Option Addr} {e : TypeId} {xs : List Value} {x : Value} (h : w.ownsRow base e 1 (.slice A (n + 1) c) (n + 1) (xs ++ [x])) : w.ownsRow base e 1 (.slice A n c) n xs := by
  have hl : xs.length = n := by have := h.1; rw [List.length_append] at this; simpa using this
  refine ⟨by omega, .inr ?_⟩
  rcases h.2 with ⟨h1, h2⟩ | ⟨g, cap, cur, h1, h2, h3, h4, h5, h6, h7⟩
  · omega
  · injection h1 with h1 _ h1c
    subst h1 h1c
    refine ⟨g, c, cur, rfl, h2, h3, by omega, h5, h6, ?_⟩
    have e : cur.toList.take (n * 1) = (cur.toList.take ((n + 1) * 1)).take (n * 1) := by rw [List.take_take]; congr 1; omega
    rw [e, h7, Nat.mul_one, ← hl]
    simp
theorem ord_app (Bd : Nat) (A : Option Addr) (k c : Nat) (xs : List Value) (z : Int) (w : World) (ho : w.ownsRow Bd 3 1 (.slice A k c) k xs) (hB : Bd ≤ w.heap.size) (hk : k ≤ 100000) :
    ∃ A' c' W2, (Builtin.append_ #[31, 31] 31 #[.slice A k c, .slice (some ⟨w.heap.size, 0, none⟩) 1 1]).run Try.prog (w.alloc (.cells #[.int .i64 z] 3)) = .ok (.slice A' (k + 1) c') W2 ∧ W2.ownsRow Bd 3 1 (.slice A' (k + 1) c') (k + 1) (xs ++ [.int .i64 z]) ∧ Tch (fun q => (Value.slice A k c).ownBlock = some q) w W2 ∧
      ((Value.slice A' (k + 1) c').ownBlock = (Value.slice A k c).ownBlock ∨ ∃ q, (Value.slice A' (k + 1) c').ownBlock = some q ∧ w.heap.size ≤ q) := by
  obtain ⟨i0, hi0, hz0, hz1, hz2⟩ := info_parts info_int
  have hbW : Below w.heap.size w (w.alloc (.cells #[.int .i64 z] 3)) := (Below.refl _ _).alloc (Nat.le_refl _) _
  obtain ⟨v', W2, hrun, o2', hg2, hv⟩ := run_append_any (P := Try.prog) (w.alloc (.cells #[.int .i64 z] 3)) Bd 31 31 3 i0 _ 1 8 Try.underlying31 hi0 hz0 hz1 hz2 rfl (by omega) _ k _ (ho.alloc _) (w.alloc (.cells #[.int .i64 z] 3)).heap.size (some ⟨w.heap.size, 0, none⟩) 1 1 [.int .i64 z] (Blk.reads (Blk.new _ _ _) rfl) (by simp [Value.oneCell']) (by unfold maxLen; omega) (by omega) (Nat.le_trans hB hbW.size)
  obtain ⟨A', c', rfl, -⟩ := own_reads o2'
  refine ⟨A', c', W2, hrun, o2', (Tch.of_below hbW).grown hg2 (fun q hq => .inl hq), ?_⟩
  rcases hv with h | h
  · exact .inl h
  · exact .inr ⟨_, h, by simp⟩

section
variable (nb b : Nat)
/-- The boxes of the iterator: its yield, itself. -/
structure GrowAt (lp : Nat) (W : World) : Prop where
  yl : Blk W (b + 2) 103 #[.func (.yield lp) #[] #[]]
  gr : Blk W (b + 4) 29 #[.func (.func 47) #[] #[.pointer (some ⟨b + 3, 0, none⟩), .pointer (some ⟨nb, 0, none⟩), .pointer (some ⟨b + 2, 0, none⟩), .pointer (some ⟨b + 4, 0, none⟩)]]
/-- The order under way, in its box. -/
def OrdBox (o : List Nat) (r : Option Nat) (W : World) : Prop := ∃ A c, Blk W (b + 3) 31 #[.slice A o.length c] ∧ W.ownsRow (b + 5) 3 1 (.slice A o.length c) o.length ((ordI o).map (.int .i64)) ∧ r = (Value.slice A o.length c).ownBlock
end
theorem GrowAt.tch {nb b lp : Nat} {X : Nat → Prop} {W W' : World} (h : GrowAt nb b lp W) (ht : Tch X W W') (h0 : ¬ X (b + 2)) (h2 : ¬ X (b + 4)) : GrowAt nb b lp W' := ⟨ht.blk h.yl h0, ht.blk h.gr h2⟩
theorem blk_kp {B q : Nat} {T : TypeId} {cs : Array Value} {W W' : World} (hk : Blk W q T cs) (h : KpB B W W') (hq : B ≤ q) : Blk W' q T cs := (h.2 q hq hk.lt).trans hk
theorem GrowAt.kp {nb b lp : Nat} {W W' : World} (h : GrowAt nb b lp W) (hk : KpB (b + 2) W W') : GrowAt nb b lp W' := ⟨blk_kp h.yl hk (Nat.le_refl _), blk_kp h.gr hk (by omega)⟩
theorem OrdBox.kp {b : Nat} {o : List Nat} {r : Option Nat} {W W' : World} (h : OrdBox b o r W) (hk : KpB (b + 2) W W') : OrdBox b o r W' := by
  obtain ⟨A, c, h1, h2, h3⟩ := h
  exact ⟨A, c, blk_kp h1 hk (by omega), own_same h2 fun q hq => hk.2 q (by have := (own_lt h2 hq).1; omega) (own_lt h2 hq).2, h3⟩
/-- What the loop's machinery holds. -/
def LpAt (b : Nat) (L : Obj) (W : World) : Prop := W.heap[b + 1]? = some L ∧ W.heap[b]? = some (.deferred (some []))
theorem LpAt.tch {b : Nat} {L : Obj} {X : Nat → Prop} {W W' : World} (h : LpAt b L W) (ht : Tch X W W') (h0 : ¬ X b) (h1 : ¬ X (b + 1)) : LpAt b L W' :=
  ⟨(ht.block _ (Array.getElem?_eq_some_iff.1 h.1).1 h1).trans h.1, (ht.block _ (Array.getElem?_eq_some_iff.1 h.2).1 h0).trans h.2⟩
/-- What the caller holds on to is untouched by what the iterator does between two rounds. -/
def StbC (b : Nat) (C : List (List Nat) → Option Nat → World → Prop) : Prop :=
  ∀ pre r r' W W', C pre r W → Tch (fun q => q = b + 1 ∨ q = b + 3 ∨ r = some q) W W' → (r' = r ∨ ∃ q, r' = some q ∧ W.heap.size ≤ q ∧ b + 5 ≤ q) → C pre r' W'
abbrev OrdX := List Nat × Pick
def OrdX.blk (n : Nat) (x : OrdX) : Option Nat := (Value.slice x.2.1 n x.2.2).ownBlock
def encO (n : Nat) (x : OrdX) : Array Value := #[.slice x.2.1 n x.2.2]
def OrdI (b n : Nat) (C : List (List Nat) → Option Nat → World → Prop) (pre : List OrdX) (x : OrdX) (W : World) : Prop :=
  C (pre.map (·.1)) (x.blk n) W ∧ W.ownsRow (b + 5) 3 1 (.slice x.2.1 n x.2.2) n ((ordI x.1).map (.int .i64)) ∧ OrdAt n 0 x.1 ∧ b + 5 ≤ W.heap.size
def OrdI' (n : Nat) (C : List (List Nat) → Option Nat → World → Prop) (pre : List OrdX) (x : OrdX) (W : World) : Prop := C (pre.map (·.1) ++ [x.1]) (x.blk n) W

/-- What grow leaves. -/
def GrowPost (n nb b : Nat) (L : Obj) (C : List (List Nat) → Option Nat → World → Prop) (pre : List (List Nat)) (o : List Nat) (f : Nat) (e : Ending) (W' : World) : Prop :=
  e = .returned (.bool true) ∧ ∃ r, GrowAt nb b (b + 1) W' ∧ OrdBox b o r W' ∧ C (pre ++ leavesT n f o) r W' ∧ LpAt b L W'
def GrowC (n nb b : Nat) (L : Obj) (C : List (List Nat) → Option Nat → World → Prop) (f : Nat) : Prop :=
  ∀ (o : List Nat) (pre : List (List Nat)) (r : Option Nat) (W : World), OrdAt n f o → GrowAt nb b (b + 1) W → OrdBox b o r W → C pre r W → LpAt b L W →
    Calls Try.prog 47 #[.pointer (some ⟨b + 3, 0, none⟩), .pointer (some ⟨nb, 0, none⟩), .pointer (some ⟨b + 2, 0, none⟩), .pointer (some ⟨b + 4, 0, none⟩)] W (GrowPost n nb b L C pre o f)

set_option maxRecDepth 100000 in
set_option maxHeartbeats 2000000 in
theorem grow_leaf (n nb b : Nat) (L : Obj) (C : List (List Nat) → Option Nat → World → Prop) (N : Nat) (hn : n ≤ 20) (hCn : ∀ pre r W, C pre r W → W.cell? ⟨nb, 0, none⟩ = some (.int .i64 (n : Int)))
    (hY : ∀ pre x W, OrdI b n C pre x W → W.heap[b + 1]? = some L → W.heap[b]? = some (.deferred (some [])) → YieldAt Fence.wide N Try.prog (b + 1) (encO n x) W fun e W' => e = .returned (.bool true) ∧ OrdI' n C pre x W' ∧ KpB (b + 2) W W' ∧ W'.heap[b + 1]? = some L ∧ W'.heap[b]? = some (.deferred (some []))) :
    GrowC n nb b L C 0 := by
  intro o pre r W hO hg ho hc hl
  obtain ⟨A, c, hk, hr, rfl⟩ := ho
  have hol : o.length = n := by have := hO.1; omega
  rw [hol] at hk hr hc
  have hx : OrdI b n C (pre.map fun o => (o, (none, 0))) (o, (A, c)) W := ⟨by rw [show (pre.map fun o => ((o, (none, 0)) : OrdX)).map (·.1) = pre by rw [List.map_map]; exact List.map_id' _]; exact hc, hr, hO, hg.gr.lt⟩
  obtain ⟨fn, tmps, assign, body, hy, hR⟩ := yieldAt_any (b := 9) (hY _ _ W hx hl.1 hl.2)
  have c0 : W.cell? ⟨b + 3, 0, none⟩ = some (.slice A n c) := hk.cell 0
  have c1 := hCn _ _ _ hc
  have c2 : W.cell? ⟨b + 2, 0, none⟩ = some (.func (.yield (b + 1)) #[] #[]) := hg.yl.cell 0
  have HK := Lib.hid hk
  have HR0 := Lib.hid hr
  have HG := Lib.hid hg
  have HR := Lib.hid hR
  have HOL := Lib.hid hol
  clear hk hr hx hR hol hO hc hl hg hY hCn
  refine callsIn_wide.1 (callsIn_of_wp (n := 10) Try.func47 rfl trivial ?_ rfl)
  simp only [Try.ntmps47, List.size_toArray, List.length_cons, List.length_nil, Nat.reduceAdd, Nat.reduceSub, Array.replicate_succ, Array.replicate_zero, List.push_toArray, List.append_toArray, List.nil_append, List.cons_append]
  unfold encO at hy
  simp only at hy
  gi_wp2
  refine HR.out.mono ?_
  rintro e W3 ⟨rfl, hi, hk3, h1, h2⟩
  have HI := Lib.hid hi
  have HK3 := Lib.hid hk3
  have HL := Lib.hid (show LpAt b L W3 from ⟨h1, h2⟩)
  clear hi hk3 h1 h2 hy HR
  gi_wp2
  go_ret
  have hi := HI.out
  unfold OrdI' at hi
  rw [show (pre.map fun o => ((o, (none, 0)) : OrdX)).map (·.1) = pre by rw [List.map_map]; exact List.map_id' _] at hi
  refine ⟨rfl, _, HG.out.kp HK3.out, OrdBox.kp ⟨A, c, by rw [HOL.out]; exact HK.out, by rw [HOL.out]; exact HR0.out, rfl⟩ HK3.out, ?_, HL.out⟩
  rw [HOL.out]
  exact hi

set_option maxRecDepth 100000 in
set_option maxHeartbeats 4000000 in
theorem grow_step (n nb b : Nat) (L : Obj) (C : List (List Nat) → Option Nat → World → Prop) (hn : n ≤ 20) (hCn : ∀ pre r W, C pre r W → W.cell? ⟨nb, 0, none⟩ = some (.int .i64 (n : Int))) (hst : StbC b C) (f : Nat) (hih : GrowC n nb b L C f) : GrowC n nb b L C (f + 1) := by
  intro o pre r W hO hg ho hc hl
  have hent : ∀ args w, (callFunc 47 args).run Try.prog w = .ok (.enter 47 args) w := enters_of Try.func47 (by kernel_rfl) rfl
  have HO := Lib.hid hO
  have HG := Lib.hid hg
  have HB := Lib.hid ho
  have HC := Lib.hid hc
  have HL := Lib.hid hl
  have HST := Lib.hid hst
  have HCN := Lib.hid hCn
  have HIH := Lib.hid hih
  obtain ⟨k, hk⟩ : ∃ k, o.length = k := ⟨_, rfl⟩
  have hkn : k < n := by have := hO.1; omega
  have e0 : ((k : Int) == (n : Int)) = false := by rw [beq_eq_false_iff_ne]; omega
  obtain ⟨A, c, hb, hr, -⟩ := ho
  rw [hk] at hb
  have c0 : W.cell? ⟨b + 3, 0, none⟩ = some (.slice A k c) := hb.cell 0
  have c1 := hCn _ _ _ hc
  have HKL := Lib.hid hk
  clear hO hg hc hl hst hCn hih hk hb hr
  go_enter Try.func47, Try.ntmps47
  go_wp2
  go_loopw [14] (fun v wr => ∃ (i : Nat) (r : Option Nat), i ≤ n ∧ v = .int .i64 i ∧ GrowAt nb b (b + 1) wr ∧ OrdBox b o r wr ∧ C (pre ++ partsT n f o i) r wr ∧ LpAt b L wr) (fun v _ => n - (intOf v).toNat)
  case atStart => exact ⟨0, r, by omega, rfl, HG.out, HB.out, by rw [parts_zero, List.append_nil]; exact HC.out, HL.out⟩
  case round =>
    obtain ⟨i, r2, hi, rfl, hg2, hb2, hc2, hl2⟩ := hrel
    obtain ⟨w2, hnm⟩ : ∃ z : World, z = wr := ⟨_, rfl⟩
    subst hnm
    have HG2 := Lib.hid hg2
    have HB2 := Lib.hid hb2
    have HC2 := Lib.hid hc2
    have HL2 := Lib.hid hl2
    clear hg2 hc2 hl2 c0 c1
    by_cases hlt : i < n
    rotate_left
    · obtain rfl : i = n := by omega
      clear hb2
      go_wp2
      go_ret
      exact ⟨rfl, r2, HG2.out, HB2.out, HC2.out, HL2.out⟩
    have hii : (i : Int) < (n : Int) := by omega
    have ei := IntWalk.i64_in ((i : Int) + 1) ⟨by omega, by omega⟩
    obtain ⟨A, c, hb, hr, er⟩ := hb2
    rw [HKL.out] at hb hr er
    have HR2 := Lib.hid hr
    have HER := Lib.hid er
    have HBK := Lib.hid hb
    have c0 : w2.cell? ⟨b + 3, 0, none⟩ = some (.slice A k c) := hb.cell 0
    obtain ⟨tt, htt⟩ : ∃ tt, decide (i ∈ o) = tt := ⟨_, rfl⟩
    have HTT := Lib.hid htt
    have hb3 := hb.lt
    clear hr er hb htt
    go_wp2_with fail
    refine (hasord_is A k c _ o i tt HTT.out _ (own_reads2 HR2.out) (by omega)).mono ?_
    rintro e w' ⟨rfl, rfl⟩
    cases tt
    rotate_left
    · go_wp2
      go_roundw
      case rel => exact ⟨i + 1, r2, by omega, by go_num, HG2.out, HB2.out, by rw [parts_has (of_decide_eq_true HTT.out)]; exact HC2.out, HL2.out⟩
      case measure => simp [intOf]; omega
    have hs5 : b + 5 ≤ w2.heap.size := by have := HG2.out.gr.lt; omega
    obtain ⟨A', c', W2, hrun, hr3, ht3, hv3⟩ := ord_app (b + 5) A k c _ (i : Int) w2 HR2.out hs5 (by omega)
    have HRUN := Lib.hid hrun
    have hne : ¬ (Value.slice A k c).ownBlock = some (b + 3) := fun e => by have := (own_lt HR2.out e).1; omega
    have hb4 := ht3.blk HBK.out hne
    have q0 : W2.cell? ⟨b + 3, 0, none⟩ = some (.slice A k c) := hb4.cell 0
    have q1 : W2.frozen? ⟨b + 3, 0, none⟩ = false := hb4.frozen 0
    have q2 := hb4.lt
    have hX2 : ∀ q, q ≤ b + 4 → ¬ (Value.slice A k c).ownBlock = some q := fun q hq e => by have := (own_lt HR2.out e).1; omega
    have hg4 := HG2.out.tch ht3 (hX2 _ (by omega)) (hX2 _ (by omega))
    have hl4 := HL2.out.tch ht3 (hX2 _ (by omega)) (hX2 _ (by omega))
    have q3 : W2.cell? ⟨b + 4, 0, none⟩ = some (.func (.func 47) #[] #[.pointer (some ⟨b + 3, 0, none⟩), .pointer (some ⟨nb, 0, none⟩), .pointer (some ⟨b + 2, 0, none⟩), .pointer (some ⟨b + 4, 0, none⟩)]) := hg4.gr.cell 0
    obtain ⟨W3, hW3⟩ : ∃ W3, W2.setCell ⟨b + 3, 0, none⟩ (.slice A' (k + 1) c') = W3 := ⟨_, rfl⟩
    have hts : Tch (fun q => q = b + 3) W2 W3 := by rw [← hW3]; exact tch_set _ _ _ _
    have ht23 : Tch (fun q => q = b + 1 ∨ q = b + 3 ∨ r2 = some q) w2 W3 := (ht3.mono fun q _ h => .inr (.inr (by rw [HER.out]; exact h))).then_ hts fun q _ h => .inr (.inl h)
    have hne3 : (Value.slice A' (k + 1) c').ownBlock ≠ some (b + 3) := fun e => by have := (own_lt hr3 e).1; omega
    have hb3' : OrdBox b (o ++ [i]) (Value.slice A' (k + 1) c').ownBlock W3 := by
      have hl3 : (o ++ [i]).length = k + 1 := by rw [List.length_append, HKL.out]; rfl
      refine ⟨A', c', ?_, ?_, by rw [hl3]⟩
      · rw [hl3, ← hW3]; exact hb4.set_ 0 _
      · rw [hl3, ordI_snoc, ← hW3]; exact own_set hr3 hne3 _
    have hc3 := HST.out _ _ (Value.slice A' (k + 1) c').ownBlock _ _ HC2.out ht23 (by rw [HER.out]; exact hv3.imp id fun ⟨q, h1, h2⟩ => ⟨q, h1, h2, by omega⟩)
    have HB3 := Lib.hid hb3'
    have HC3 := Lib.hid hc3
    have HG3 := Lib.hid (hg4.tch hts (by show ¬ b + 2 = b + 3; omega) (by show ¬ b + 4 = b + 3; omega))
    have HL3 := Lib.hid (hl4.tch hts (by show ¬ b = b + 3; omega) (by show ¬ b + 1 = b + 3; omega))
    have HW3 := Lib.hid hW3
    clear hrun hr3 ht3 hv3 hne hb4 hX2 hg4 hl4 hW3 hts ht23 hne3 hb3' hc3
    go_wp2_with (first | (at_builtin; refine wpList_app _ W2 _ rfl _ _ _ rfl _ _ rfl rfl HRUN.out ?_))
    rw [HW3.out]
    refine (HIH.out (o ++ [i]) (pre ++ partsT n f o i) _ W3 (HO.out.snoc hlt) HG3.out HB3.out HC3.out HL3.out).mono ?_
    rintro e w4 ⟨rfl, r4, hg4, hb4, hc4, hl4⟩
    obtain ⟨A4, c4, hk4, hr4, er4⟩ := hb4
    have hl3 : (o ++ [i]).length = k + 1 := by rw [List.length_append, HKL.out]; rfl
    rw [hl3] at hk4 hr4 er4
    rw [ordI_snoc] at hr4
    obtain ⟨g4, rfl, hkc, hg0, hg1⟩ := ord_addr hr4 (by omega)
    have p0 : w4.cell? ⟨b + 3, 0, none⟩ = some (.slice (some ⟨g4, 0, none⟩) (k + 1) c4) := hk4.cell 0
    have p1 : w4.frozen? ⟨b + 3, 0, none⟩ = false := hk4.frozen 0
    have p2 := hk4.lt
    have v1 : IntKind.i64.wrap ((k : Int) + 1 - 1) = (k : Int) := by rw [IntWalk.i64_in _ ⟨by omega, by omega⟩]; omega
    have HK4 := Lib.hid hk4
    have HR4 := Lib.hid hr4
    have HG4 := Lib.hid hg4
    have HC4 := Lib.hid hc4
    have HL4 := Lib.hid hl4
    have HE4 := Lib.hid er4
    clear hk4 hr4 hg4 hc4 hl4 er4 hl3 q0 q1 q2 q3 c0
    go_wp2
    go_roundw
    case rel =>
      have hts := tch_set (b + 3) 0 w4 (.slice (some ⟨g4, 0, none⟩) k c4)
      have hr5 := ord_cut HR4.out
      have hne : (Value.slice (some ⟨g4, 0, none⟩) k c4).ownBlock ≠ some (b + 3) := fun e => by have := (own_lt hr5 e).1; omega
      refine ⟨i + 1, r4, by omega, by go_num, HG4.out.tch hts (by show ¬ b + 2 = b + 3; omega) (by show ¬ b + 4 = b + 3; omega), ⟨some ⟨g4, 0, none⟩, c4, ?_, ?_, ?_⟩, ?_, HL4.out.tch hts (by show ¬ b = b + 3; omega) (by show ¬ b + 1 = b + 3; omega)⟩
      · rw [HKL.out]; exact HK4.out.set_ 0 _
      · rw [HKL.out]; exact own_set hr5 hne _
      · rw [HKL.out]; exact HE4.out
      · rw [parts_new (of_decide_eq_false HTT.out), ← List.append_assoc]; exact HST.out _ _ _ _ _ HC4.out (hts.mono fun q _ h => .inr (.inl h)) (.inl rfl)
    case measure => simp [intOf]; omega

theorem grow_any (n nb b : Nat) (L : Obj) (C : List (List Nat) → Option Nat → World → Prop) (N : Nat) (hn : n ≤ 20) (hCn : ∀ pre r W, C pre r W → W.cell? ⟨nb, 0, none⟩ = some (.int .i64 (n : Int))) (hst : StbC b C)
    (hY : ∀ pre x W, OrdI b n C pre x W → W.heap[b + 1]? = some L → W.heap[b]? = some (.deferred (some [])) → YieldAt Fence.wide N Try.prog (b + 1) (encO n x) W fun e W' => e = .returned (.bool true) ∧ OrdI' n C pre x W' ∧ KpB (b + 2) W W' ∧ W'.heap[b + 1]? = some L ∧ W'.heap[b]? = some (.deferred (some []))) :
    ∀ f, GrowC n nb b L C f
  | 0 => grow_leaf n nb b L C N hn hCn hY
  | f + 1 => grow_step n nb b L C hn hCn hst f (grow_any n nb b L C N hn hCn hst hY f)

theorem orders_any (n : Int) (w : World) : Calls Try.prog 20 #[.int .i64 n] w fun e w' => e = .returned (.func (.func 46) #[] #[.pointer (some ⟨w.heap.size, 0, none⟩)]) ∧ w' = w.alloc (.cells #[.int .i64 n] 3) := by
  have hmf : ∀ (fn : Fn) (first cap : Array Value) (w : World), (Instr.makeFunc fn first cap).run Try.prog w = .ok (.func fn first cap) w := fun _ _ _ _ => rfl
  go_enter Try.func20, Try.ntmps20
  go_wp2
  go_ret
  exact ⟨rfl, rfl⟩

@[go_sem] theorem run_store_fun (fn : Fn) (x y : Array Value) (P : Program) (w : World) (a : Addr) (m : Mode) : (store a (.func fn x y) m).run P w = stored P w a (.func fn x y) m := run_store P w a _ m rfl

set_option maxRecDepth 100000 in
set_option maxHeartbeats 2000000 in
theorem orders1_is (n nb b : Nat) (L : Obj) (C : List (List Nat) → Option Nat → World → Prop) (hst : StbC b C) (hg : GrowC n nb b L C n) (W0 : World) (hs : W0.heap.size = b + 2) (hc : C [] none W0) (hl : LpAt b L W0) :
    Calls Try.prog 46 #[.func (.yield (b + 1)) #[] #[], .pointer (some ⟨nb, 0, none⟩)] W0 fun e W' => (∃ v, e = .returned v) ∧ (∃ r, C (leavesT n n []) r W') ∧ LpAt b L W' := by
  have hmf : ∀ (fn : Fn) (first cap : Array Value) (w : World), (Instr.makeFunc fn first cap).run Try.prog w = .ok (.func fn first cap) w := fun _ _ _ _ => rfl
  have hent : ∀ args w, (callFunc 47 args).run Try.prog w = .ok (.enter 47 args) w := enters_of Try.func47 (by kernel_rfl) rfl
  have HST := Lib.hid hst
  have HGC := Lib.hid hg
  have HC := Lib.hid hc
  have HL := Lib.hid hl
  have HS := Lib.hid hs
  clear hst hg hc hl hs
  go_enter Try.func46, Try.ntmps46
  go_wp2_with fail
  obtain ⟨z, hz⟩ : ∃ z, W0.heap.size = z := ⟨_, rfl⟩
  rw [hz]
  obtain rfl : b + 2 = z := by rw [← hz]; exact HS.out.symm
  generalize hW : World.alloc _ _ = W1
  have hb1 : Below W0.heap.size W0 W1 := by rw [← hW]; exact ((((Below.refl _ _).alloc (Nat.le_refl _) _).alloc (by simp) _).alloc (by simp; omega) _)
  have hy1 : Blk W1 (b + 2) 103 #[.func (.yield (b + 1)) #[] #[]] := by rw [← hW]; exact ((Blk.at_ W0 hz _ _).alloc _).alloc _
  have ho1 : Blk W1 (b + 3) 31 #[.slice none 0 0] := by rw [← hW]; exact (Blk.at_ _ (by simp [hz]) _ _).alloc _
  have hg1 : Blk W1 (b + 4) 29 #[.func (.func 47) #[] #[.pointer (some ⟨b + 3, 0, none⟩), .pointer (some ⟨nb, 0, none⟩), .pointer (some ⟨b + 2, 0, none⟩), .pointer (some ⟨b + 4, 0, none⟩)]] := by rw [← hW]; exact Blk.at_ _ (by simp [hz]) _ _
  have ht1 : Tch (fun _ => False) W0 W1 := Tch.of_below hb1
  refine (HGC.out [] [] none W1 ⟨by simp, by simp⟩ ⟨hy1, hg1⟩ ⟨none, 0, ho1, World.ownsRow_nil _ _ _ _, rfl⟩ (HST.out _ _ none _ _ HC.out (ht1.mono fun _ _ h => h.elim) (.inl rfl)) (HL.out.tch ht1 id id)).mono ?_
  rintro e w4 ⟨rfl, r4, -, -, hc4, hl4⟩
  have HC4 := Lib.hid hc4
  have HL4 := Lib.hid hl4
  clear hc4 hl4 hW hb1 hy1 ho1 hg1 ht1 hz
  go_wp2
  go_end0
  exact ⟨⟨_, rfl⟩, ⟨r4, HC4.out⟩, HL4.out⟩

/-- WHAT THE ITERATOR OWES. -/
theorem orders_owes (n nb N : Nat) (hn : n ≤ 20) (w : World) (C : List (List Nat) → Option Nat → World → Prop) (hCn : ∀ pre r W, C pre r W → W.cell? ⟨nb, 0, none⟩ = some (.int .i64 (n : Int))) (hst : StbC w.heap.size C) (h0 : ∀ L, C [] none ((w.alloc (.deferred (some []))).alloc L)) :
    IterOwes N Try.prog 46 #[.pointer (some ⟨nb, 0, none⟩)] (encO n) w (OrdI w.heap.size n C) (OrdI' n C) (fun _ W => ∃ r, C (leavesT n n []) r W) := by
  intro L hL hY
  have hg := grow_any n nb w.heap.size L C N hn hCn hst (fun pre x W hi h1 h2 => hY pre x W hi h1 h2) n
  refine (orders1_is n nb w.heap.size L C hst hg _ (by simp) (h0 L) ⟨?_, ?_⟩).mono ?_
  · show ((w.heap.push _).push L)[w.heap.size + 1]? = some L
    rw [Array.getElem?_push, if_pos (by simp)]
  · show ((w.heap.push (.deferred (some []))).push L)[w.heap.size]? = some (.deferred (some []))
    rw [Array.getElem?_push, if_neg (by simp), Array.getElem?_push, if_pos rfl]
  · rintro e W' ⟨h1, h2, h3⟩
    exact ⟨h1, [], h2, h3.1, h3.2⟩
end Go.Proofs.Ytclnffpfbngjoaa

end

section
/- The rule for a region whose order is left open and in which several operations choose, in a round of a range over a function. -/
namespace Go.Proofs.Ytclnffpfbngjoaa.Fx
open Go Go.RowKit

section
variable {P : Program} {ops : Array Oper} {md : Region.Mode} {X : Type}

theorem GivesX.wpIn {r n : Nat} {o : Oper} {a : Act} {w : World} {R : Value → World → Prop} {K : Act → World → Prop} {Q : Exit → Act → World → Prop} (hd : ∀ c, o.op ≠ .defer c) (h : GivesX P o a w R) (hk : ∀ v w', R v w' → K (a.put o.dst v) w') : o.wpIn (Fence.wide.inRound r) n P a w K Q := by
  unfold Oper.wpIn
  refine ⟨fun f _ => trivial, ?_⟩
  rw [Oper.semAt_eq _ _ _ hd]
  unfold GivesX at h
  generalize (execOp a.eval o).run P w = q at *
  cases q with
  | halt x w' => exact h.elim
  | ok m w' =>
    cases m
    case value u => exact hk _ _ h
    case enter f args =>
      refine ⟨(fun h => by cases h), CallsIn.inRound r (callsIn_wide.2 (Calls.mono h fun e w'' he => ?_))⟩
      obtain ⟨v, rfl, hr⟩ := he
      exact hk _ _ hr
    all_goals exact h.elim

theorem wpAnyIn_of_anyM {r m : Nat} {C : (Nat → Option X) → Array Bool → World → Prop} {val : Nat → X → Value} {Q : (Nat → Option X) → Array Bool → Act → Prop} {Q' : Exit → Act → World → Prop} (hd : ∀ (i : Nat) (o : Oper), ops[i]? = some o → ∀ c, o.op ≠ .defer c) (hQ : ∀ g L a w, C g L w → Q g L a → Q' .normal a w) :
    ∀ (n : Nat) (g : Nat → Option X) (L : Array Bool) (a : Act) (w : World), C g L w → anyM P md ops C val Q n g L a → wpAnyIn (Fence.wide.inRound r) m P md ops Q' n L a w
  | 0, _, _, _, _, hc, h => ⟨h.1, hQ _ _ _ _ hc h.2⟩
  | n + 1, g, L, a, w, hc, h => ⟨fun h0 => hQ _ _ _ _ hc (h.1 h0), fun i hi => by
      obtain ⟨o, ho, hcs⟩ := h.2 i hi
      unfold wpOpIn
      simp only [ho]
      rcases hcs with ⟨v, hs, hn⟩ | ⟨-, hs, hn⟩
      · rcases hs with ⟨h1, h2⟩ | ⟨h1, h2, h3⟩
        · rw [if_pos h1]
          exact (h2 L w hc hi).wpIn (hd i o ho) fun w' hw' => wpAnyIn_of_anyM hd hQ n _ _ _ w' hw' hn
        · rw [if_neg (by rw [h1]; exact Bool.false_ne_true)]
          subst h2
          exact ⟨fun f _ => trivial, wpAnyIn_of_anyM hd hQ n _ _ _ w (h3 L w hc hi) hn⟩
      · rw [if_pos hs.1]
        exact (hs.2 L w hc hi).wpIn (hd i o ho) fun v w' ⟨x, hv, hw'⟩ => by subst hv; exact wpAnyIn_of_anyM hd hQ n _ _ _ w' hw' (hn x)⟩

/-- THE RULE, in a round. -/
theorem regionMIn {r m id : Nat} {Q : Exit → Act → World → Prop} {a : Act} {w : World} {l : List Oper} (D : World → (Nat → Option X) → (Nat → Bool) → World → Prop) (val : Nat → X → Value) (hm : P.follows .mixedOrders = true) (hnd : noDefer l = true)
    (h0 : ∀ f, (∀ j, f j = false) → D w (fun _ => none) f (w.drewN 1))
    (h : WM P .any l.toArray (D w) val (Q .normal) l.length (fun _ => none) (Array.replicate l.length false) a) : (Code.region id l.toArray true).wpIn (Fence.wide.inRound r) m P Q a w := by
  have hz : Array.replicate l.length false = Array.replicate l.toArray.size false := by simp
  unfold WM at h
  rw [hz] at h
  refine wpIn_region_any hm (wpAnyIn_of_anyM (C := fun g L w' => Closed .any l.toArray L ∧ D w g (fun j => L.getD j false) w') (val := val)
    (Q := fun g L a' => ∀ w', D w g (fun j => L.getD j false) w' → Q .normal a' w') (fun i o ho => noDefer_spec hnd (by simpa using ho)) (fun g L a w hc hq => hq w hc.2) _ (fun _ => none) _ _ _ ⟨Closed.start _ _, h0 _ (fun j => ?_)⟩ (by simpa using h))
  simp only [Array.getD_eq_getD_getElem?, Array.getElem?_replicate]; split <;> rfl
end
end Go.Proofs.Ytclnffpfbngjoaa.Fx

end
