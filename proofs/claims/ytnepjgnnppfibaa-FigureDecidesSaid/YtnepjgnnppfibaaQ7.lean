import Derived.Test.YtnepjgnnppfibaaQ6
import Derived.RangeFuncNested
import Derived.RangeFuncBound
import Derived.RangeFuncCalls
import Derived.RangeFuncLeaves
import Derived.RangeFuncBox
import Derived.Shelf.Abstract
import Derived.Shelf.RegionOpen
import Derived.WalkKit
import Derived.OwnWalkIn
import Derived.TacticsInMore
import Derived.LoopNIn
import Derived.LoopIn
import Derived.Test.YtnepjgnnppfibaaQ5

section
/- Contracts of chapter 6: the iterator over pairs of zones. -/
namespace Go.Proofs.Ytnepjgnnppfibaa
open Go Go.RowKit Go.Shelf

attribute [local go_sem] Oper.semAt_some

/-- A pair of different zones. -/
abbrev Pr (n : Nat) := { x : Nat × Nat // x.1 < n ∧ x.2 < n ∧ x.1 ≠ x.2 }
def prs {n : Nat} (xs : List (Pr n)) : List (Nat × Nat) := xs.map (·.1)
theorem prs_snoc {n : Nat} (xs : List (Pr n)) (x : Pr n) : prs (xs ++ [x]) = prs xs ++ [x.1] := by simp [prs]
theorem prs_len {n : Nat} (xs : List (Pr n)) : (prs xs).length = xs.length := by simp [prs]
def encP {n : Nat} (x : Pr n) : Array Value := #[.int .i64 (x.1.1 : Int), .int .i64 (x.1.2 : Int)]
/-- Block b is as it was. -/
def KpZ (b : Nat) (A B : World) : Prop := B.heap[b]? = A.heap[b]?
theorem kpZ_t {b : Nat} {A B C : World} (h : KpZ b A B) (k : KpZ b B C) : KpZ b A C := k.trans h
theorem kpZ_b {b : Nat} {w : World} (hb : b < w.heap.size) (W : World) (l : Nat) (o o' : Obj) (hl : w.heap.size ≤ l) (_ : W.heap[l]? = some o) (_ : o.isCells = false) (_ : o.isWalk = false) : KpZ b W (W.putObj l o') :=
  World.putObj_heap_other (by omega)
theorem kpZ_cell {b : Nat} {A B : World} {v : Value} (h : KpZ b A B) (hv : A.cell? ⟨b, 0, none⟩ = some v) : B.cell? ⟨b, 0, none⟩ = some v := (World.cell?_of_block (a := ⟨b, 0, none⟩) h).trans hv

theorem keeps_below {B : Nat} {W W' : World} (h : Below W.heap.size W W') : KeepsFrom B W W' := ⟨h.size, fun k o _ hk _ => (h.block k (Array.getElem?_eq_some_iff.1 hk).1).trans hk⟩
theorem keeps_drewN (B : Nat) (W : World) (n : Nat) : KeepsFrom B W (W.drewN n) := ⟨Nat.le_refl _, fun _ _ _ h _ => h⟩
theorem keeps_set (B : Nat) (W : World) (p : Addr) (u : Value) : KeepsFrom B W (W.setCell p u) := (KeepsOthers.setCell W p u).from B
theorem grown_below {n g : Nat} {W W' : World} (h : W.grownBy W' (some g)) (hn : n ≤ W.heap.size) (hg : n ≤ g) : Below n W W' :=
  (Below.refl n W).grown h hn (fun k hk => by have := Option.some.inj hk; omega)
theorem kpZ_below {b : Nat} {W W' : World} (h : Below W.heap.size W W') (hb : b < W.heap.size) : KpZ b W W' := h.block b hb
theorem kpZ_set {b : Nat} {W : World} {p : Addr} (h : b ≠ p.block) (u : Value) : KpZ b W (W.setCell p u) := Below.heap_setCell W p u b h

/-- Behind a range over a function: its mark is taken away. -/
theorem leave_below {n D : Nat} {w W w' : World} (hb : Below n w W) (hn : n ≤ D) (hs : n ≤ w.heap.size) (q1 : ∀ k, k < W.heap.size → (∀ E ∈ [D], k ≠ E) → w'.heap[k]? = W.heap[k]?) (q2 : w'.os = W.os) (q3 : w'.tape = W.tape) (q4 : w'.output = W.output) (q5 : w'.heap.size = W.heap.size) : Below n w w' :=
  ⟨q2.trans hb.os, q3.trans hb.tape, q4.trans hb.output, by rw [q5]; exact hb.size, fun i hi => (q1 i (by have := hb.size; omega) (fun E hE => by obtain rfl : E = D := (by simpa using hE); omega)).trans (hb.block i hi)⟩
theorem leave_blk {D g : Nat} {T : TypeId} {cs : Array Value} {W w' : World} (hk : Blk W g T cs) (hg : g ≠ D) (q1 : ∀ k, k < W.heap.size → (∀ E ∈ [D], k ≠ E) → w'.heap[k]? = W.heap[k]?) : Blk w' g T cs :=
  (q1 g hk.lt (fun E hE => by obtain rfl : E = D := (by simpa using hE); exact hg)).trans hk
theorem marks_set {B D : Nat} {W : World} (h : Fx.MarksAt B [D] W) {p : Addr} (hp : p.block < B) (u : Value) : Fx.MarksAt B [D] (W.setCell p u) :=
  h.keep fun E hE _ => Below.heap_setCell W p u E (by omega)

set_option maxRecDepth 100000 in
set_option maxHeartbeats 2000000 in
theorem pairs1_in (n : Nat) (hn : n ≤ 100) (lp Bz m : Nat) (J Jx : List (Pr n) → World → Prop)
    (hY : ∀ pre (x : Pr n) W, J pre W → pre.length < 20000 → YieldAt Fence.wide (m - 1) Try.prog lp (encP x) W fun e W' =>
      (e = .returned (.bool true) ∧ J (pre ++ [x]) W' ∧ KpZ Bz W W') ∨ (e = .returned (.bool false) ∧ Jx (pre ++ [x]) W'))
    (W : World) (hz : W.cell? ⟨Bz, 0, none⟩ = some (.int .i64 (n : Int))) (h0 : J [] W) :
    CallsIn Fence.wide m Try.prog 119 #[.func (.yield lp) #[] #[], .pointer (some ⟨Bz, 0, none⟩)] W fun e W' => (∃ v, e = .returned v) ∧
      ((∃ ys, prs ys = pairsL n ∧ J ys W') ∨ (∃ pre, prs pre <+: pairsL n ∧ Jx pre W')) := by
  refine callsIn_of_wp Try.func119 rfl trivial ?_ rfl
  simp only [Try.ntmps119, List.size_toArray, List.length_cons, List.length_nil, Nat.reduceAdd, Nat.reduceSub, Array.replicate_succ, Array.replicate_zero, List.push_toArray, List.append_toArray, List.nil_append, List.cons_append]
  gi_wp2
  gi_loopw [6] (fun v wr => ∃ (i : Nat) (pre : List (Pr n)), i ≤ n ∧ v = .int .i64 i ∧ prs pre = preP n i 0 ∧ J pre wr ∧ KpZ Bz W wr) (fun v _ => n - (intOf v).toNat)
  case atStart => exact ⟨0, [], by omega, rfl, rfl, h0, rfl⟩
  case round =>
    obtain ⟨i, pre, hi, rfl, hp, hJ, hb⟩ := hrel
    have HP := Lib.hid hp
    have HJ := Lib.hid hJ
    have HY := Lib.hid hY
    have HB := Lib.hid hb
    have hz1 := kpZ_cell hb hz
    clear hp hJ hY hb
    obtain ⟨wo, hnm⟩ : ∃ z : World, z = wr := ⟨_, rfl⟩
    subst hnm
    by_cases hlt : i < n
    · have hii : (i : Int) < (n : Int) := by omega
      gi_wp2
      gi_loopw [10] (fun v wr => ∃ (k : Nat) (pre : List (Pr n)), k ≤ n ∧ v = .int .i64 k ∧ prs pre = preP n i k ∧ J pre wr ∧ KpZ Bz W wr) (fun v _ => n - (intOf v).toNat)
      case atStart => exact ⟨0, pre, by omega, rfl, HP.out, HJ.out, HB.out⟩
      case round =>
        obtain ⟨k, pre2, hk, rfl, hp2, hJ2, hb2⟩ := hrel
        have HP2 := Lib.hid hp2
        have HB2 := Lib.hid hb2
        have hz2 := kpZ_cell hb2 hz
        clear hp2 hb2
        by_cases hlt2 : k < n
        · have hkk : (k : Int) < (n : Int) := by omega
          by_cases hne : i = k
          · subst hne
            have e1 : ((i : Int) != (i : Int)) = false := by simp
            have HJ2 := Lib.hid hJ2
            clear hJ2
            gi_wp2
            refine ⟨fun f h => (by cases h), ?_⟩
            gi_wp2
            go_roundw
            case rel => exact ⟨i + 1, pre2, by omega, by go_num, by rw [preP_same]; exact HP2.out, HJ2.out, HB2.out⟩
            case measure => simp [intOf]; omega
          · have e1 : ((i : Int) != (k : Int)) = true := by simp; omega
            have hlen : pre2.length < 20000 := by
              have h1 := preP_len (n := n) (i := i) (k := k) (by omega) hn (by omega)
              rw [← HP2.out, prs_len] at h1
              omega
            obtain ⟨fn, tmps, assign, body, hy, hR⟩ := HY.out pre2 ⟨(i, k), hlt, hlt2, hne⟩ wr hJ2 hlen
            have hsn : prs (pre2 ++ [(⟨(i, k), hlt, hlt2, hne⟩ : Pr n)]) = preP n i (k + 1) := by rw [prs_snoc, HP2.out, preP_succ hne]
            have HSN := Lib.hid hsn
            have HR := Lib.hid hR
            clear hJ2 hsn hR
            unfold encP at hy
            gi_wp2
            refine ⟨fun h => (by cases h), ?_⟩
            refine HR.out.mono ?_
            rintro e W3 (⟨rfl, hJ3, hb3⟩ | ⟨rfl, hx3⟩)
            · have HJ3 := Lib.hid hJ3
              have hz3 := kpZ_cell hb3 hz2
              have HB3 := Lib.hid (kpZ_t HB2.out hb3)
              clear hJ3 hb3
              gi_wp2
              go_roundw
              case rel => exact ⟨k + 1, _, by omega, by go_num, HSN.out, HJ3.out, HB3.out⟩
              case measure => simp [intOf]; omega
            · have HX3 := Lib.hid hx3
              clear hx3
              gi_wp2
              refine bodyPost_ret (results_none rfl _ _ _) rfl ?_
              exact ⟨⟨_, rfl⟩, .inr ⟨_, by rw [HSN.out]; exact preP_pre hlt (by omega), HX3.out⟩⟩
        · obtain rfl : k = n := by omega
          have HJ2 := Lib.hid hJ2
          clear hJ2
          gi_wp2
          go_roundw
          case rel => exact ⟨i + 1, pre2, by omega, by go_num, by rw [preP_row]; exact HP2.out, HJ2.out, HB2.out⟩
          case measure => simp [intOf]; omega
    · obtain rfl : i = n := by omega
      gi_wp2
      go_end0
      exact ⟨⟨_, rfl⟩, .inl ⟨pre, by rw [HP.out, preP_all], HJ.out⟩⟩

theorem pairs_any (n : Int) (w : World) : Calls Try.prog 86 #[.int .i64 n] w fun e w' => e = .returned (.func (.func 119) #[] #[.pointer (some ⟨w.heap.size, 0, none⟩)]) ∧ w' = w.alloc (.cells #[.int .i64 n] 3) := by
  have hmf : ∀ (fn : Fn) (first cap : Array Value) (w : World), (Instr.makeFunc fn first cap).run Try.prog w = .ok (.func fn first cap) w := fun _ _ _ _ => rfl
  go_enter Try.func86, Try.ntmps86
  go_wp2
  go_ret
  exact ⟨rfl, rfl⟩

/-- What the iterator gives: all pairs of different zones. -/
theorem pairs_stops (n : Nat) (hn : n ≤ 100) (Bz m : Nat) (w : World) (h1 : Bz < w.heap.size) (hz : w.cell? ⟨Bz, 0, none⟩ = some (.int .i64 (n : Int))) :
    SeqStopsK Fence.wide m Try.prog 119 #[.pointer (some ⟨Bz, 0, none⟩)] (fun x : Pr n => encP x) (KpZ Bz) (fun ys => prs ys = pairsL n) (fun pre => prs pre <+: pairsL n) 20000 w := fun lp J Jx W hW _ _ hY h0 =>
  pairs1_in n hn lp Bz m J Jx hY W ((hW.cell (p := ⟨Bz, 0, none⟩) h1).trans hz) h0
end Go.Proofs.Ytnepjgnnppfibaa

end

section
/- The contract of the judgement of an enclosure. -/
namespace Go.Proofs.Ytnepjgnnppfibaa
open Go Go.RowKit Go.Shelf

attribute [local go_sem] Oper.semAt_some

theorem getD_of {α : Type} {l : List α} {i : Nat} {x d : α} (h : l[i]? = some x) : l.getD i d = x := by rw [List.getD_eq_getElem?_getD, h]; rfl
/-- What the judgement has found so far. -/
def ansV (l : List (Int × Int)) (p s : Int) (xs : List (Nat × Nat)) : Int := if xs.any (fun x => openB l p s x.1 x.2) then 0 else 1
theorem ans_snoc {l : List (Int × Int)} {p s : Int} {xs : List (Nat × Nat)} {x : Nat × Nat} : ansV l p s (xs ++ [x]) = if openB l p s x.1 x.2 then 0 else ansV l p s xs := by
  unfold ansV
  rw [List.any_append]
  cases h : openB l p s x.1 x.2 <;> simp only [List.any_cons, List.any_nil, h, Bool.or_false, Bool.or_true, if_true, Bool.false_eq_true, if_false]
theorem judge_ref {l : List (Int × Int)} {p s v : Int} {i k : Nat} (hv : judgeF l p s = (v, (i, k))) {pre : List (Nat × Nat)} {x : Nat × Nat} (hp : pre <+: pairsL l.length) (h0 : HitP (refB l p s) pre x) : v = -1 ∧ i = x.1 ∧ k = x.2 := by
  unfold judgeF at hv
  rw [h0.first hp] at hv
  simp only [Prod.mk.injEq] at hv
  obtain ⟨h1, h2⟩ := hv
  exact ⟨h1.symm, by rw [h2], by rw [h2]⟩
theorem judge_no {l : List (Int × Int)} {p s v : Int} {i k : Nat} (hv : judgeF l p s = (v, (i, k))) (h0 : NoP (refB l p s) (pairsL l.length)) : v = ansV l p s (pairsL l.length) ∧ i = 0 ∧ k = 0 := by
  unfold judgeF at hv
  rw [firstP_none h0] at hv
  simp only [Prod.mk.injEq] at hv
  obtain ⟨h1, h2, h3⟩ := hv
  exact ⟨h1.symm, h2.symm, h3.symm⟩

set_option maxRecDepth 100000 in
set_option maxHeartbeats 4000000 in
theorem judge_is (A : Option Addr) (n c : Nat) (l : List (Int × Int)) (p s : Int) (hE : judgeErr l p s = 0) (v : Int) (i k : Nat) (hv : judgeF l p s = (v, (i, k))) (w : World) (hx : Reads w w.heap.size 2 A n (cells2 l)) :
    Calls Try.prog 82 #[.agg #[.int .i64 p, .int .i64 s], .slice A n c] w fun e w' => e = .returned (.tuple #[.int .i64 v, .agg #[.int .i64 (i : Int), .int .i64 (k : Int)]]) ∧ Below w.heap.size w w' := by
  have hl := hx.len2
  obtain ⟨hE1, hE2⟩ := judgeErr_ok hE
  obtain ⟨n1, n2, hr⟩ := encl_ok hE1
  obtain ⟨t1, t2, t3, t4⟩ := tol_ok hE2
  rw [hl] at n1 n2
  have HX := Lib.hid hx
  have HV := Lib.hid hv
  have HL := Lib.hid hl
  have HRG := Lib.hid hr
  clear hx hE hv hl hE1 hE2 hr
  refine callsIn_wide.1 (callsIn_of_wp_marks (n := 10) Try.func82 rfl trivial (wpIn_wide.2 ?_) rfl)
  simp only [Try.ntmps82, List.size_toArray, List.length_cons, List.length_nil, Nat.reduceAdd, Nat.reduceSub, Array.replicate_succ, Array.replicate_zero, List.push_toArray, List.append_toArray, List.nil_append, List.cons_append]
  go_wp2_with fail
  refine (pairs_any _ _).mono ?_
  rintro e w2 ⟨rfl, hw2⟩
  subst hw2
  generalize hwn : ((((((w.alloc (.cells #[.int .i64 (p), .int .i64 (s)] 125)).alloc (.cells #[.slice A n c] 36)).alloc (.cells #[.int .i64 (0)] 3)).alloc (.cells #[.int .i64 (0), .int .i64 (0)] 39)).alloc (.cells #[.int .i64 (1)] 3)).alloc (.cells #[.int .i64 ((n : Int))] 3)) = w1
  have hbn : Below w.heap.size w w1 := by rw [← hwn]; repeat' (first | exact Below.refl _ _ | refine below_drewN ?_ _ | refine Below.drew ?_ | refine Below.alloc ?_ (by first | omega | (simp; done) | (simp; omega) | (simp [World.setCell]; omega)) _ | refine Below.setCell ?_ (by first | omega | (simp; done) | (simp; omega)) _)
  have HB1 := Lib.hid (show Below w.heap.size w w1 from hbn)
  have K0_1 := Lib.hid (show Blk w1 (w.heap.size) 125 #[.int .i64 (p), .int .i64 (s)] by rw [← hwn]; repeat' (first | exact Blk.at_ _ (by first | rfl | (simp; done) | (simp; omega)) _ _ | refine Blk.drewN ?_ _ | refine Blk.drew ?_ | refine Blk.alloc ?_ _ | refine Blk.far ?_ (by first | omega | (simp; done) | (simp; omega)) _ | assumption))
  have K1_1 := Lib.hid (show Blk w1 (w.heap.size + 1) 36 #[.slice A n c] by rw [← hwn]; repeat' (first | exact Blk.at_ _ (by first | rfl | (simp; done) | (simp; omega)) _ _ | refine Blk.drewN ?_ _ | refine Blk.drew ?_ | refine Blk.alloc ?_ _ | refine Blk.far ?_ (by first | omega | (simp; done) | (simp; omega)) _ | assumption))
  have K2_1 := Lib.hid (show Blk w1 (w.heap.size + 1 + 1) 3 #[.int .i64 (0)] by rw [← hwn]; repeat' (first | exact Blk.at_ _ (by first | rfl | (simp; done) | (simp; omega)) _ _ | refine Blk.drewN ?_ _ | refine Blk.drew ?_ | refine Blk.alloc ?_ _ | refine Blk.far ?_ (by first | omega | (simp; done) | (simp; omega)) _ | assumption))
  have K3_1 := Lib.hid (show Blk w1 (w.heap.size + 1 + 1 + 1) 39 #[.int .i64 (0), .int .i64 (0)] by rw [← hwn]; repeat' (first | exact Blk.at_ _ (by first | rfl | (simp; done) | (simp; omega)) _ _ | refine Blk.drewN ?_ _ | refine Blk.drew ?_ | refine Blk.alloc ?_ _ | refine Blk.far ?_ (by first | omega | (simp; done) | (simp; omega)) _ | assumption))
  have K4_1 := Lib.hid (show Blk w1 (w.heap.size + 1 + 1 + 1 + 1) 3 #[.int .i64 (1)] by rw [← hwn]; repeat' (first | exact Blk.at_ _ (by first | rfl | (simp; done) | (simp; omega)) _ _ | refine Blk.drewN ?_ _ | refine Blk.drew ?_ | refine Blk.alloc ?_ _ | refine Blk.far ?_ (by first | omega | (simp; done) | (simp; omega)) _ | assumption))
  have K5_1 := Lib.hid (show Blk w1 (w.heap.size + 1 + 1 + 1 + 1 + 1) 3 #[.int .i64 ((n : Int))] by rw [← hwn]; repeat' (first | exact Blk.at_ _ (by first | rfl | (simp; done) | (simp; omega)) _ _ | refine Blk.drewN ?_ _ | refine Blk.drew ?_ | refine Blk.alloc ?_ _ | refine Blk.far ?_ (by first | omega | (simp; done) | (simp; omega)) _ | assumption))
  have HN1 := Lib.hid hbn
  have hz1 := hbn.size
  clear hwn hbn
  have l0_1 : w.heap.size < w1.heap.size := K0_1.out.lt
  have z0_0_1 : w1.cell? ⟨w.heap.size, 0, none⟩ = some (.int .i64 (p)) := K0_1.out.cell 0
  have z0_1_1 : w1.cell? ⟨w.heap.size, 1, none⟩ = some (.int .i64 (s)) := K0_1.out.cell 1
  have l1_1 : w.heap.size + 1 < w1.heap.size := K1_1.out.lt
  have z1_0_1 : w1.cell? ⟨w.heap.size + 1, 0, none⟩ = some (.slice A n c) := K1_1.out.cell 0
  have l2_1 : w.heap.size + 1 + 1 < w1.heap.size := K2_1.out.lt
  have z2_0_1 : w1.cell? ⟨w.heap.size + 1 + 1, 0, none⟩ = some (.int .i64 (0)) := K2_1.out.cell 0
  have l3_1 : w.heap.size + 1 + 1 + 1 < w1.heap.size := K3_1.out.lt
  have z3_0_1 : w1.cell? ⟨w.heap.size + 1 + 1 + 1, 0, none⟩ = some (.int .i64 (0)) := K3_1.out.cell 0
  have z3_1_1 : w1.cell? ⟨w.heap.size + 1 + 1 + 1, 1, none⟩ = some (.int .i64 (0)) := K3_1.out.cell 1
  have l4_1 : w.heap.size + 1 + 1 + 1 + 1 < w1.heap.size := K4_1.out.lt
  have z4_0_1 : w1.cell? ⟨w.heap.size + 1 + 1 + 1 + 1, 0, none⟩ = some (.int .i64 (1)) := K4_1.out.cell 0
  have l5_1 : w.heap.size + 1 + 1 + 1 + 1 + 1 < w1.heap.size := K5_1.out.lt
  have z5_0_1 : w1.cell? ⟨w.heap.size + 1 + 1 + 1 + 1 + 1, 0, none⟩ = some (.int .i64 ((n : Int))) := K5_1.out.cell 0
  have hs1 := HB1.out.size
  go_wp2_with fail
  refine (wpIn_wide (n := 10)).1 ?_
  refine wpIn_rangeFunc_ownG (F := Fence.wide) rfl (by decide) (gf := 119) (lb := #[.pointer (some ⟨w.heap.size + 1 + 1 + 1 + 1 + 1, 0, none⟩)]) rfl trivial (enters_of Try.func119 (by kernel_rfl) rfl)
    (pairs_stops n (by omega) (w.heap.size + 1 + 1 + 1 + 1 + 1) 9 w1 l5_1 z5_0_1)
    kpZ_t (kpZ_b l5_1) (Below.refl _ _) (fun _ => rfl)
    (fun (pre : List (Pr n)) W => (NoP (refB l p s) (prs pre) ∧ w1.grownBy W (some (w.heap.size + 1 + 1 + 1 + 1))) ∧ W.heap[w.heap.size + 1 + 1 + 1 + 1]? = some (.cells #[.int .i64 (ansV l p s (prs pre))] 3 (0, 0)))
    (fun cd (pre : List (Pr n)) W => (((cd = .ret ∧ HitP (refB l p s) (prs pre) (lastP (prs pre))) ∧ Below w.heap.size w1 W) ∧ W.heap[w.heap.size + 1 + 1]? = some (.cells #[.int .i64 (-1)] 3 (0, 0))) ∧ W.heap[w.heap.size + 1 + 1 + 1]? = some (.cells #[.int .i64 ((lastP (prs pre)).1 : Int), .int .i64 ((lastP (prs pre)).2 : Int)] 39 (0, 0)))
    (OwnFrom.and (OwnFrom.and (ownFrom_pure _ _) (Fx.ownFrom_grown (Nat.le_refl _))) Fx.ownFrom_cells)
    (fun cd => OwnFrom.and (OwnFrom.and (OwnFrom.and (ownFrom_pure _ _) (ownFrom_below (by omega) (by omega))) Fx.ownFrom_cells) Fx.ownFrom_cells)
    ⟨⟨NoP.nil _, World.grownBy.refl _ _⟩, by exact K4_1.out⟩
    (fun x => { tmps := #[.agg #[.int .i64 p, .int .i64 s], .slice A n c, .pointer (some ⟨w.heap.size, 0, none⟩), .pointer (some ⟨w.heap.size + 1, 0, none⟩), .pointer (some ⟨w.heap.size + 1 + 1, 0, none⟩), .pointer (some ⟨w.heap.size + 1 + 1 + 1, 0, none⟩), .pointer (some ⟨w.heap.size + 1 + 1 + 1 + 1, 0, none⟩), .int .i64 (x.1.1 : Int), .int .i64 (x.1.2 : Int), undef, .slice A n c, .int .i64 (n : Int), .func (.func 119) #[] #[.pointer (some ⟨w.heap.size + 1 + 1 + 1 + 1 + 1, 0, none⟩)], .int .i64 (x.1.1 : Int), .int .i64 (x.1.2 : Int)] ++ Array.replicate 35 undef, defers := [] }) ?assign ?body ?done ?stop
  case assign =>
    intro l' x W K hK
    unfold encP
    simp only [Array.replicate_succ, Array.replicate_zero, List.push_toArray, List.append_toArray, List.nil_append, List.cons_append] at hK
    gi_wp2
    exact hK
  case body =>
    rintro l' pre ⟨⟨i0, k0⟩, hi, hk, hne⟩ W ⟨⟨hno, hgr⟩, hans⟩ hlt
    simp only [Array.replicate_succ, Array.replicate_zero, List.push_toArray, List.append_toArray, List.nil_append, List.cons_append]
    have hne : ∀ {g : Nat}, g ≠ w.heap.size + 1 + 1 + 1 + 1 → some g ≠ some (w.heap.size + 1 + 1 + 1 + 1) := fun h e => h (Option.some.inj e)
    have hB0 : Below w.heap.size w W := HB1.out.grown hgr (by omega) (fun g hg => by have := Option.some.inj hg; omega)
    have d0 := K0_1.out.grown hgr (hne (by omega))
    have d0_0 := d0.cell 0
    have d0_1 := d0.cell 1
    obtain ⟨b, hb⟩ : ∃ b, bndF p s i0 k0 = b := ⟨_, rfl⟩
    have hbi := bnd_in (i := i0) (k := k0) t1 t2 t3 (s := s)
    rw [hb] at hbi
    have HBD := Lib.hid hb
    have HGR := Lib.hid hgr
    have HANS := Lib.hid hans
    have HNO := Lib.hid hno
    have HB0 := Lib.hid hB0
    clear hgr hans hb hno d0 hB0
    gi_wp2_with fail
    refine ⟨trivial, CallsIn.inRound _ (callsIn_wide.2 ((bound_is p s i0 k0 b HBD.out _ t1 t2 t3 t4 (by omega) (by omega)).mono ?_))⟩
    rintro e W1 ⟨rfl, hb1⟩
    have hgr1 := Fx.grown_trans_ HGR.out (only_of_below hb1 _)
    have hB1 : Below w.heap.size w W1 := HB0.out.trans (hb1.mono HB0.out.size)
    have d1 := (K1_1.out.grown hgr1 (hne (by omega))).cell 0
    have k2 := K2_1.out.grown hgr1 (hne (by omega))
    have k3 := K3_1.out.grown hgr1 (hne (by omega))
    have k4 : Blk W1 (w.heap.size + 1 + 1 + 1 + 1) 3 #[.int .i64 (ansV l p s (prs pre))] := Blk.below HANS.out hb1 (Blk.lt HANS.out)
    have hrd : Reads W1 w.heap.size 2 A n (cells2 l) := HX.out.below hB1
    obtain ⟨xb, xo, pi, hA, hxb, hpi, ci0, ci1⟩ := hrd.pair hi
    obtain ⟨yb, yo, pk, hA2, hyb, hpk, ck0, ck1⟩ := hrd.pair hk
    subst hA
    obtain ⟨rfl, rfl⟩ : xb = yb ∧ xo = yo := by simpa using hA2
    obtain ⟨pi1, pi2⟩ := pi
    obtain ⟨pk1, pk2⟩ := pk
    simp only at ci0 ci1 ck0 ck1
    have r1 := HRG.out _ (List.mem_of_getElem? hpi)
    have r2 := HRG.out _ (List.mem_of_getElem? hpk)
    simp only at r1 r2
    have e1 := IntWalk.i64_in (pi1 - pk2) ⟨by omega, by omega⟩
    have e2 := IntWalk.i64_in (pi2 - pk1) ⟨by omega, by omega⟩
    have hrf : refB l p s i0 k0 = decide (b < pi1 - pk2) := by unfold refB; rw [getD_of hpi, getD_of hpk, HBD.out]
    have hop : openB l p s i0 k0 = decide (b < pi2 - pk1) := by unfold openB; rw [getD_of hpi, getD_of hpk, HBD.out]
    have hii : (i0 : Int) < (n : Int) := by omega
    have hkk : (k0 : Int) < (n : Int) := by omega
    have HRF := Lib.hid hrf
    have HOP := Lib.hid hop
    have HGR1 := Lib.hid hgr1
    have HB1b := Lib.hid hb1
    have HK2 := Lib.hid k2
    have HK3 := Lib.hid k3
    have HK4 := Lib.hid k4
    clear hA2 hpi hpk hrf hop hgr1 hrd hB1 k2 k3 k4 hb1
    gi_wp2_with fail
    obtain ⟨W2, hW2⟩ : ∃ W0, W0 = W1.drewN 1 := ⟨_, rfl⟩
    have m0 : W2.cell? ⟨w.heap.size + 1, 0, none⟩ = some (.slice (some ⟨xb, xo, none⟩) n c) := by rw [hW2]; exact d1
    have m1 : W2.cell? ⟨xb, xo + i0 * 2, none⟩ = some (.int .i64 (pi1)) := by rw [hW2]; exact ci0
    have m2 : W2.cell? ⟨xb, xo + k0 * 2 + 1, none⟩ = some (.int .i64 (pk2)) := by rw [hW2]; exact ck1
    refine Fx.regionIn (fun f w' => w' = W2 ∧ True) (by kernel_rfl) (by kernel_rfl) (by kernel_rfl) ?_ ?_
    · intro f hf0
      exact ⟨hW2.symm, trivial⟩
    have HQ_W2 := Lib.hid hW2
    clear hW2
    repeat (first
      | (refine Fx.skip_ (by rfl) (fun f w h => h) ?_; simp only [Act.put, List.setIfInBounds_toArray, List.set_cons_zero, List.set_cons_succ])
      | (refine Fx.val_ ?_ (by rfl) ?_ (fun f w h => h) ?_
         rotate_left
         · intro f w' hD hk
           obtain ⟨jw, jt⟩ := id hD
           have q0 : w'.cell? ⟨w.heap.size + 1, 0, none⟩ = some (.slice (some ⟨xb, xo, none⟩) n c) := by rw [jw]; exact m0
           have q1 : w'.cell? ⟨xb, xo + i0 * 2, none⟩ = some (.int .i64 (pi1)) := by rw [jw]; exact m1
           have q2 : w'.cell? ⟨xb, xo + k0 * 2 + 1, none⟩ = some (.int .i64 (pk2)) := by rw [jw]; exact m2
           clear hk hD jw jt
           go_simp
           try rfl
         simp only [Act.put, List.setIfInBounds_toArray, List.set_cons_zero, List.set_cons_succ]))
    refine Fx.nil_ ?_
    intro f W2_ hall hD
    obtain ⟨hjw, -⟩ := hD
    have hjw := hjw.symm
    subst hjw
    clear hall
    by_cases hd : b < pi1 - pk2
    · have hd' : decide (b < pi1 - pk2) = true := by simpa using hd
      have k2 : Blk W2 (w.heap.size + 1 + 1) 3 #[.int .i64 0] := by rw [HQ_W2.out]; exact Blk.drewN HK2.out 1
      have k3 : Blk W2 (w.heap.size + 1 + 1 + 1) 39 #[.int .i64 0, .int .i64 0] := by rw [HQ_W2.out]; exact Blk.drewN HK3.out 1
      have y2 := k2.cell 0
      have f2 := k2.frozen 0
      have y30 := k3.cell 0
      have y31 := k3.cell 1
      have f30 := k3.frozen 0
      have f31 := k3.frozen 1
      have HK2' := Lib.hid k2
      have HK3' := Lib.hid k3
      clear k2 k3
      gi_wp2_with fail
      refine ⟨?_, ⟨⟨⟨rfl, ?_⟩, ?_⟩, ?_⟩, ?_⟩
      · rw [HQ_W2.out]
        exact ((((keeps_below HB1b.out).trans (keeps_drewN _ _ _)).trans (keeps_set _ _ _ _)).trans (keeps_set _ _ _ _)).trans (keeps_set _ _ _ _)
      · rw [prs_snoc, lastP_snoc]
        exact HNO.out.hit (by rw [HRF.out]; exact hd')
      · have h0 : Below w.heap.size w1 W2 := by rw [HQ_W2.out]; exact below_drewN (grown_below HGR1.out (by omega) (by omega)) 1
        exact ((h0.setCell (p := ⟨w.heap.size + 1 + 1, 0, none⟩) (by show _ ≤ w.heap.size + 1 + 1; omega) _).setCell (p := ⟨w.heap.size + 1 + 1 + 1, 0, none⟩) (by show _ ≤ w.heap.size + 1 + 1 + 1; omega) _).setCell (p := ⟨w.heap.size + 1 + 1 + 1, 1, none⟩) (by show _ ≤ w.heap.size + 1 + 1 + 1; omega) _
      · have h0 := HK2'.out.set_ 0 (.int .i64 (-1))
        exact (h0.far (p := ⟨w.heap.size + 1 + 1 + 1, 0, none⟩) (by show w.heap.size + 1 + 1 ≠ w.heap.size + 1 + 1 + 1; omega) _).far (p := ⟨w.heap.size + 1 + 1 + 1, 1, none⟩) (by show w.heap.size + 1 + 1 ≠ w.heap.size + 1 + 1 + 1; omega) _
      · rw [prs_snoc, lastP_snoc]
        have h0 := HK3'.out.far (p := ⟨w.heap.size + 1 + 1, 0, none⟩) (by show w.heap.size + 1 + 1 + 1 ≠ w.heap.size + 1 + 1; omega) (.int .i64 (-1))
        exact (h0.set_ 0 (.int .i64 (i0 : Int))).set_ 1 (.int .i64 (k0 : Int))
    have hd' : decide (b < pi1 - pk2) = false := by simpa using hd
    have hns := HNO.out.snoc (x := (i0, k0)) (by rw [HRF.out]; exact hd')
    have d1' : W2.cell? ⟨w.heap.size + 1, 0, none⟩ = some (.slice (some ⟨xb, xo, none⟩) n c) := by rw [HQ_W2.out]; exact d1
    have ci1' : W2.cell? ⟨xb, xo + i0 * 2 + 1, none⟩ = some (.int .i64 pi2) := by rw [HQ_W2.out]; exact ci1
    have ck0' : W2.cell? ⟨xb, xo + k0 * 2, none⟩ = some (.int .i64 pk1) := by rw [HQ_W2.out]; exact ck0
    have HNS := Lib.hid hns
    clear hns
    gi_wp2_with fail
    obtain ⟨W3, hW3⟩ : ∃ W0, W0 = W2.drewN 1 := ⟨_, rfl⟩
    have m0 : W3.cell? ⟨w.heap.size + 1, 0, none⟩ = some (.slice (some ⟨xb, xo, none⟩) n c) := by rw [hW3]; exact d1'
    have m1 : W3.cell? ⟨xb, xo + i0 * 2 + 1, none⟩ = some (.int .i64 (pi2)) := by rw [hW3]; exact ci1'
    have m2 : W3.cell? ⟨xb, xo + k0 * 2, none⟩ = some (.int .i64 (pk1)) := by rw [hW3]; exact ck0'
    refine Fx.regionIn (fun f w' => w' = W3 ∧ True) (by kernel_rfl) (by kernel_rfl) (by kernel_rfl) ?_ ?_
    · intro f hf0
      exact ⟨hW3.symm, trivial⟩
    have HQ_W3 := Lib.hid hW3
    clear hW3
    repeat (first
      | (refine Fx.skip_ (by rfl) (fun f w h => h) ?_; simp only [Act.put, List.setIfInBounds_toArray, List.set_cons_zero, List.set_cons_succ])
      | (refine Fx.val_ ?_ (by rfl) ?_ (fun f w h => h) ?_
         rotate_left
         · intro f w' hD hk
           obtain ⟨jw, jt⟩ := id hD
           have q0 : w'.cell? ⟨w.heap.size + 1, 0, none⟩ = some (.slice (some ⟨xb, xo, none⟩) n c) := by rw [jw]; exact m0
           have q1 : w'.cell? ⟨xb, xo + i0 * 2 + 1, none⟩ = some (.int .i64 (pi2)) := by rw [jw]; exact m1
           have q2 : w'.cell? ⟨xb, xo + k0 * 2, none⟩ = some (.int .i64 (pk1)) := by rw [jw]; exact m2
           clear hk hD jw jt
           go_simp
           try rfl
         simp only [Act.put, List.setIfInBounds_toArray, List.set_cons_zero, List.set_cons_succ]))
    refine Fx.nil_ ?_
    intro f W3_ hall hD
    obtain ⟨hjw, -⟩ := hD
    have hjw := hjw.symm
    subst hjw
    clear hall
    have hg3 : w1.grownBy W3 (some (w.heap.size + 1 + 1 + 1 + 1)) := by rw [HQ_W3.out, HQ_W2.out]; exact only_drewN (only_drewN HGR1.out 1) 1
    have hkf : KeepsFrom w1.heap.size W W3 := by rw [HQ_W3.out, HQ_W2.out]; exact ((keeps_below HB1b.out).trans (keeps_drewN _ _ _)).trans (keeps_drewN _ _ _)
    have hkp : KpZ (w.heap.size + 1 + 1 + 1 + 1 + 1) W W3 := by rw [HQ_W3.out, HQ_W2.out]; exact kpZ_t (kpZ_below HB1b.out (by have := HGR.out.size; omega)) rfl
    have k4 : Blk W3 (w.heap.size + 1 + 1 + 1 + 1) 3 #[.int .i64 (ansV l p s (prs pre))] := by rw [HQ_W3.out, HQ_W2.out]; exact Blk.drewN (Blk.drewN HK4.out 1) 1
    have HG3 := Lib.hid hg3
    have HKF := Lib.hid hkf
    have HKP := Lib.hid hkp
    have HK4 := Lib.hid k4
    have y4 := k4.cell 0
    have f4 := k4.frozen 0
    clear hg3 hkf hkp k4
    by_cases ho : b < pi2 - pk1
    · have ho' : decide (b < pi2 - pk1) = true := by simpa using ho
      gi_wp2_with fail
      refine ⟨HKF.out.trans (keeps_set _ _ _ _), kpZ_t HKP.out (kpZ_set (p := ⟨w.heap.size + 1 + 1 + 1 + 1, 0, none⟩) (by show w.heap.size + 1 + 1 + 1 + 1 + 1 ≠ w.heap.size + 1 + 1 + 1 + 1; omega) _), ⟨?_, only_setCell HG3.out (.inl rfl) _⟩, ?_⟩
      · rw [prs_snoc]; exact HNS.out
      · rw [prs_snoc, ans_snoc, HOP.out, ho', if_pos rfl]
        exact HK4.out.set_ 0 _
    · have ho' : decide (b < pi2 - pk1) = false := by simpa using ho
      gi_wp2_with fail
      refine ⟨HKF.out, HKP.out, ⟨?_, HG3.out⟩, ?_⟩
      · rw [prs_snoc]; exact HNS.out
      · rw [prs_snoc, ans_snoc, HOP.out, ho', if_neg (by simp)]
        exact HK4.out
  case stop =>
    rintro D cd pre W hD hsp ⟨⟨⟨⟨rfl, hit⟩, hb⟩, hk2⟩, hk3⟩ hK
    obtain ⟨rfl, h2, h3⟩ := judge_ref HV.out (by rw [HL.out]; exact hsp) hit
    have hmk : Fx.MarksAt w1.heap.size [D] W := (Fx.MarksAt.nil _ W).cons hD hK (by simp)
    have hb' := HB1.out.trans hb
    clear hb hit hK
    gi_wp2_with fail
    refine Fx.leaves_marks [D] W hmk fun w' q1 q2 q3 q4 q5 => ?_
    have b2 := leave_blk hk2 (by omega) q1
    have b3 := leave_blk hk3 (by omega) q1
    have y2 := b2.cell 0
    have y30 := b3.cell 0
    have y31 := b3.cell 1
    have l2 := b2.lt
    have l3 := b3.lt
    exact ⟨.tuple #[.int .i64 (-1), .agg #[.int .i64 ((lastP (prs pre)).1 : Int), .int .i64 ((lastP (prs pre)).2 : Int)]], by simp [results, Try.results82, go_sem, y2, y30, y31, l2, l3], by rw [h2, h3], leave_below hb' (by omega) (Nat.le_refl _) q1 q2 q3 q4 q5⟩
  case done =>
    rintro D ys W hD hys ⟨⟨hno, hgr⟩, hans⟩ hK
    rw [hys] at hno hans
    have hne : ∀ {g : Nat}, g ≠ w.heap.size + 1 + 1 + 1 + 1 → some g ≠ some (w.heap.size + 1 + 1 + 1 + 1) := fun h e => h (Option.some.inj e)
    have hmk : Fx.MarksAt w1.heap.size [D] W := (Fx.MarksAt.nil _ W).cons hD hK (by simp)
    have k2 := K2_1.out.grown hgr (hne (by omega))
    have k3 := K3_1.out.grown hgr (hne (by omega))
    have y2 := k2.cell 0
    have f2 := k2.frozen 0
    have y30 := k3.cell 0
    have y31 := k3.cell 1
    have f30 := k3.frozen 0
    have f31 := k3.frozen 1
    have y4 := Blk.cell hans 0
    have HK2 := Lib.hid k2
    have HK3 := Lib.hid k3
    have HGR := Lib.hid hgr
    have HNO := Lib.hid hno
    have HMK := Lib.hid hmk
    clear k2 k3 hgr hno hans hmk hys hK
    obtain ⟨rfl, rfl, rfl⟩ := judge_no HV.out (by rw [HL.out]; exact HNO.out)
    go_wp2_with fail
    refine Fx.leaves_marks [D] _ (marks_set (marks_set (marks_set HMK.out (p := ⟨w.heap.size + 1 + 1, 0, none⟩) (by omega) _) (p := ⟨w.heap.size + 1 + 1 + 1, 0, none⟩) (by omega) _) (p := ⟨w.heap.size + 1 + 1 + 1, 1, none⟩) (by omega) _) fun w' q1 q2 q3 q4 q5 => ?_
    have b2 := leave_blk (((HK2.out.set_ 0 (.int .i64 (ansV l p s (pairsL n)))).far (p := ⟨w.heap.size + 1 + 1 + 1, 0, none⟩) (by show w.heap.size + 1 + 1 ≠ w.heap.size + 1 + 1 + 1; omega) (.int .i64 0)).far (p := ⟨w.heap.size + 1 + 1 + 1, 1, none⟩) (by show w.heap.size + 1 + 1 ≠ w.heap.size + 1 + 1 + 1; omega) (.int .i64 0)) (by omega) q1
    have b3 := leave_blk (((HK3.out.far (p := ⟨w.heap.size + 1 + 1, 0, none⟩) (by show w.heap.size + 1 + 1 + 1 ≠ w.heap.size + 1 + 1; omega) (.int .i64 (ansV l p s (pairsL n)))).set_ 0 (.int .i64 0)).set_ 1 (.int .i64 0)) (by omega) q1
    have y2 := b2.cell 0
    have y30 := b3.cell 0
    have y31 := b3.cell 1
    simp only [List.setIfInBounds_toArray, List.set_cons_zero, List.set_cons_succ] at y2 y30 y31
    have l2 := b2.lt
    have l3 := b3.lt
    have hB0 : Below w.heap.size w W := HB1.out.trans (grown_below HGR.out (by omega) (by omega))
    have hB1 := ((hB0.setCell (p := ⟨w.heap.size + 1 + 1, 0, none⟩) (by show _ ≤ w.heap.size + 1 + 1; omega) (.int .i64 (ansV l p s (pairsL n)))).setCell (p := ⟨w.heap.size + 1 + 1 + 1, 0, none⟩) (by show _ ≤ w.heap.size + 1 + 1 + 1; omega) (.int .i64 0)).setCell (p := ⟨w.heap.size + 1 + 1 + 1, 1, none⟩) (by show _ ≤ w.heap.size + 1 + 1 + 1; omega) (.int .i64 0)
    exact ⟨.tuple #[.int .i64 (ansV l p s (pairsL n)), .agg #[.int .i64 0, .int .i64 0]], by simp [results, Try.results82, go_sem, y2, y30, y31, l2, l3], by rw [HL.out]; rfl, leave_below hB1 (by omega) (Nat.le_refl _) q1 q2 q3 q4 q5⟩
end Go.Proofs.Ytnepjgnnppfibaa

end

section
/- The class of worlds of a region whose order is left open, in which one list is appended to and the new list is stored into a cell: 's.f = append(s.f, x)'. -/
namespace Go.Proofs.Ytnepjgnnppfibaa
open Go Go.RowKit

def rowL (g : Option Pick) (xs us : List Value) : List Value := match g with | some _ => xs ++ us | none => xs

/-- The list is appended to by operation pa, whose element us lies in memory that operation sb makes; operation st stores it into cell ix of block fb. -/
structure As (B : Nat) (e : TypeId) (sz : Nat) (va : Value) (n : Nat) (xs us : List Value) (sb pa st : Nat) (fb : Nat) (ft : TypeId) (cs : Array Value) (ix : Nat) (W : World) (g : Nat → Option Pick) (f : Nat → Bool) (w' : World) : Prop where
  os : w'.os = W.os
  tape : w'.tape = W.tape
  output : w'.output = W.output
  size : W.heap.size ≤ w'.heap.size
  keep : ∀ i, i < W.heap.size → va.ownBlock ≠ some i → i ≠ fb → w'.heap[i]? = W.heap[i]?
  fld : f st = false → Blk w' fb ft cs
  fld' : f st = true → Blk w' fb ft (cs.setIfInBounds ix (rowV (g pa) va n))
  own : w'.ownsRow B e sz (rowV (g pa) va n) (rowN (g pa) n) (rowL (g pa) xs us)
  ownf : (rowV (g pa) va n).ownBlock ≠ some fb
  flt : fb < W.heap.size
  lit : ∀ x, g sb = some x → g pa = none → ∃ b, x.1 = some ⟨b, 0, none⟩ ∧ W.heap.size ≤ b ∧ Blk w' b e us.toArray ∧ va.ownBlock ≠ some b

section
variable {B : Nat} {e : TypeId} {sz : Nat} {va : Value} {n : Nat} {xs us : List Value} {sb pa st : Nat} {fb : Nat} {ft : TypeId} {cs : Array Value} {ix : Nat} {W w' w'' : World} {g : Nat → Option Pick} {f : Nat → Bool}

theorem As.start (ho : W.ownsRow B e sz va n xs) (hf : Blk W fb ft cs) (hne : va.ownBlock ≠ some fb) (h0 : f st = false) (k : Nat) : As B e sz va n xs us sb pa st fb ft cs ix W (fun _ => none) f (W.drewN k) :=
  ⟨rfl, rfl, rfl, Nat.le_refl _, fun _ _ _ _ => rfl, fun _ => hf, fun h => (by rw [h0] at h; cases h), ho, hne, hf.lt, fun x h => by cases h⟩
theorem As.same {k : Nat} (h : As B e sz va n xs us sb pa st fb ft cs ix W g f w') (hk : k ≠ st) : As B e sz va n xs us sb pa st fb ft cs ix W g (Fx.add f k) w' :=
  ⟨h.os, h.tape, h.output, h.size, h.keep, fun q => h.fld (by rwa [add_ne' hk] at q), fun q => h.fld' (by rwa [add_ne' hk] at q), h.own, h.ownf, h.flt, h.lit⟩
theorem As.call {k : Nat} (h : As B e sz va n xs us sb pa st fb ft cs ix W g f w') (hb : Below w'.heap.size w' w'') (hk : k ≠ st) : As B e sz va n xs us sb pa st fb ft cs ix W g (Fx.add f k) w'' := by
  have hbl : ∀ i, i < w'.heap.size → w''.heap[i]? = w'.heap[i]? := fun i hi => hb.block i hi
  refine ⟨hb.os.trans h.os, hb.tape.trans h.tape, hb.output.trans h.output, Nat.le_trans h.size hb.size, fun i hi k1 k2 => (hbl i (Nat.lt_of_lt_of_le hi h.size)).trans (h.keep i hi k1 k2), fun q => ?_, fun q => ?_, own_below h.own hb (Nat.le_refl _), h.ownf, h.flt, fun x hx hn => ?_⟩
  · rw [add_ne' hk] at q; exact step_blk' hb (h.fld q)
  · rw [add_ne' hk] at q; exact step_blk' hb (h.fld' q)
  · obtain ⟨b, h1, h2, h3, h4⟩ := h.lit x hx hn
    exact ⟨b, h1, h2, step_blk' hb h3, h4⟩
where
  step_blk' {q : Nat} {t : TypeId} {c : Array Value} {w1 w2 : World} (hb : Below w1.heap.size w1 w2) (h : Blk w1 q t c) : Blk w2 q t c := h.below hb h.lt
theorem As.store {y : Pick} (h : As B e sz va n xs us sb pa st fb ft cs ix W g f w') (hy : g pa = some y) (hst : f st = false) : As B e sz va n xs us sb pa st fb ft cs ix W g (Fx.add f st) (w'.setCell ⟨fb, ix, none⟩ (.slice y.1 (n + 1) y.2)) := by
  have hk := h.fld hst
  have ho := h.own
  have hof := h.ownf
  refine ⟨h.os, h.tape, h.output, by simpa [World.setCell] using h.size, fun i hi k1 k2 => (Below.heap_setCell w' _ _ i k2).trans (h.keep i hi k1 k2), fun q => (by rw [add_same] at q; cases q), fun _ => ?_, own_set ho hof _, hof, h.flt, fun x hx hn => (by rw [hy] at hn; cases hn)⟩
  rw [hy]
  exact hk.set_ ix _
theorem As.cell (h : As B e sz va n xs us sb pa st fb ft cs ix W g f w') (hst : f st = false) (j : Nat) : w'.cell? ⟨fb, j, none⟩ = cs[j]? ∧ w'.frozen? ⟨fb, j, none⟩ = false := ⟨(h.fld hst).cell j, (h.fld hst).frozen j⟩
theorem As.blk (h : As B e sz va n xs us sb pa st fb ft cs ix W g f w') {q : Nat} {t : TypeId} {c : Array Value} (hq : Blk W q t c) (h1 : va.ownBlock ≠ some q) (h2 : q ≠ fb) : Blk w' q t c := (h.keep q hq.lt h1 h2).trans hq
/-- All below a bound is as it was, if the list and the cell lie behind it. -/
theorem As.below {N : Nat} (h : As B e sz va n xs us sb pa st fb ft cs ix W g f w') (hA : ∀ q, va.ownBlock = some q → N ≤ q) (hf : N ≤ fb) (hle : N ≤ W.heap.size) : Below N W w' :=
  ⟨h.os, h.tape, h.output, h.size, fun i hi => h.keep i (by omega) (fun e => by have := hA i e; omega) (by omega)⟩
theorem As.ends {y : Pick} (h : As B e sz va n xs us sb pa st fb ft cs ix W g f w') (hy : g pa = some y) (hst : f st = true) :
    w'.ownsRow B e sz (.slice y.1 (n + 1) y.2) (n + 1) (xs ++ us) ∧ Blk w' fb ft (cs.setIfInBounds ix (.slice y.1 (n + 1) y.2)) := by
  have h1 := h.own
  have h2 := h.fld' hst
  simp only [hy, rowV, rowN, rowL] at h1 h2
  exact ⟨h1, h2⟩
end

end Go.Proofs.Ytnepjgnnppfibaa

end

section
/- The contract of the opening of a tour. -/
namespace Go.Proofs.Ytnepjgnnppfibaa
open Go Go.RowKit

/-- A stop of a tour: the target, and where its turns and positions lie. -/
structure Stp where
  t : Tgt
  A : Option Addr
  n : Nat
  c : Nat
  A' : Option Addr
  c' : Nat
def Stp.cells (s : Stp) : List Value := s.t.cells ++ [.slice s.A s.n s.c, .slice s.A' s.n s.c']
def stpCells (l : List Stp) : List Value := l.flatMap Stp.cells
def turnsV (m : Mnt) (day : Int) (t : Tgt) : List Int := (turnsF m t day).1
def posV (m : Mnt) (day : Int) (t : Tgt) : List Int := posL (appF m t day).1 (turnsV m day t)
/-- The turns and the positions of a stop, in memory of their own. -/
def StpOwn (w : World) (N : Nat) (m : Mnt) (day : Int) (s : Stp) : Prop :=
  w.ownsRow N 3 1 (.slice s.A s.n s.c) s.n ((turnsV m day s.t).map (.int .i64)) ∧ w.ownsRow N 3 1 (.slice s.A' s.n s.c') s.n ((posV m day s.t).map (.int .i64))
def StpOk (w : World) (m : Mnt) (day : Int) (s : Stp) : Prop :=
  Reads w w.heap.size 1 s.A s.n ((turnsV m day s.t).map (.int .i64)) ∧ Reads w w.heap.size 1 s.A' s.n ((posV m day s.t).map (.int .i64))
def stepErr (m : Mnt) (day : Int) (l : List Tgt) (i : Nat) (t : Tgt) : Int := if nextErr (l.take i) t ≠ 0 then nextErr (l.take i) t else (turnsF m t day).2
def firstStep {α : Type} (f : Nat → α → Int) : Nat → List α → Int × Int
  | _, [] => (0, 0)
  | i, t :: r => if f i t ≠ 0 then ((i : Int), f i t) else firstStep f (i + 1) r
/-- The number of the first target with an error, and the error. -/
def tourF (m : Mnt) (l : List Tgt) (day pos : Int) : Int × Int :=
  if mntErr m ≠ 0 then (0, mntErr m) else if dayErr day ≠ 0 then (0, dayErr day) else if withinB pos m.ls m.ms = false then (0, 2) else if 20 < l.length then (0, 8) else firstStep (stepErr m day l) 0 l

theorem StpOwn.below {w w' : World} {N : Nat} {m : Mnt} {day : Int} {s : Stp} (h : StpOwn w N m day s) (hb : Below w.heap.size w w') : StpOwn w' N m day s := ⟨own_below h.1 hb (Nat.le_refl _), own_below h.2 hb (Nat.le_refl _)⟩
theorem StpOwn.ok {w : World} {N : Nat} {m : Mnt} {day : Int} {s : Stp} (h : StpOwn w N m day s) : StpOk w m day s := ⟨own_reads2 h.1, own_reads2 h.2⟩

def OpenBad (i E : Int) (w : World) (e : Ending) (w' : World) : Prop := e = .returned (.tuple #[.pointer none, .int .i64 i, .int .i64 E]) ∧ Below w.heap.size w w'
end Go.Proofs.Ytnepjgnnppfibaa

end
