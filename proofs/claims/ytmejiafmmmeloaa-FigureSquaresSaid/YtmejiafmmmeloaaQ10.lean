import Derived.Test.YtmejiafmmmeloaaQ7
import Derived.Test.YtmejiafmmmeloaaQ8
import Derived.RangeFuncNested
import Derived.RangeFuncBound
import Derived.RangeFuncCalls
import Derived.RangeFuncLeaves
import Derived.RangeFuncBox
import Derived.Shelf.Abstract
import Derived.Shelf.RegionOpen
import Derived.WalkKit
import Derived.OwnWalkIn
import Derived.TacticsInMore
import Derived.LoopNIn
import Derived.LoopIn

section
/- Contracts of chapter 6: the iterator over pairs of zones. -/
namespace Go.Proofs.Ytmejiafmmmeloaa
open Go Go.RowKit Go.Shelf

attribute [local go_sem] Oper.semAt_some

/-- A pair of different zones. -/
abbrev Pr (n : Nat) := { x : Nat × Nat // x.1 < n ∧ x.2 < n ∧ x.1 ≠ x.2 }
def prs {n : Nat} (xs : List (Pr n)) : List (Nat × Nat) := xs.map (·.1)
theorem prs_snoc {n : Nat} (xs : List (Pr n)) (x : Pr n) : prs (xs ++ [x]) = prs xs ++ [x.1] := by simp [prs]
theorem prs_len {n : Nat} (xs : List (Pr n)) : (prs xs).length = xs.length := by simp [prs]
def encP {n : Nat} (x : Pr n) : Array Value := #[.int .i64 (x.1.1 : Int), .int .i64 (x.1.2 : Int)]
/-- Block b is as it was. -/
def KpZ (b : Nat) (A B : World) : Prop := B.heap[b]? = A.heap[b]?
theorem kpZ_t {b : Nat} {A B C : World} (h : KpZ b A B) (k : KpZ b B C) : KpZ b A C := k.trans h
theorem kpZ_b {b : Nat} {w : World} (hb : b < w.heap.size) (W : World) (l : Nat) (o o' : Obj) (hl : w.heap.size ≤ l) (_ : W.heap[l]? = some o) (_ : o.isCells = false) (_ : o.isWalk = false) : KpZ b W (W.putObj l o') :=
  World.putObj_heap_other (by omega)
theorem kpZ_cell {b : Nat} {A B : World} {v : Value} (h : KpZ b A B) (hv : A.cell? ⟨b, 0, none⟩ = some v) : B.cell? ⟨b, 0, none⟩ = some v := (World.cell?_of_block (a := ⟨b, 0, none⟩) h).trans hv

theorem keeps_below {B : Nat} {W W' : World} (h : Below W.heap.size W W') : KeepsFrom B W W' := ⟨h.size, fun k o _ hk _ => (h.block k (Array.getElem?_eq_some_iff.1 hk).1).trans hk⟩
theorem keeps_drewN (B : Nat) (W : World) (n : Nat) : KeepsFrom B W (W.drewN n) := ⟨Nat.le_refl _, fun _ _ _ h _ => h⟩
theorem keeps_set (B : Nat) (W : World) (p : Addr) (u : Value) : KeepsFrom B W (W.setCell p u) := (KeepsOthers.setCell W p u).from B
theorem grown_below {n g : Nat} {W W' : World} (h : W.grownBy W' (some g)) (hn : n ≤ W.heap.size) (hg : n ≤ g) : Below n W W' :=
  (Below.refl n W).grown h hn (fun k hk => by have := Option.some.inj hk; omega)
theorem kpZ_below {b : Nat} {W W' : World} (h : Below W.heap.size W W') (hb : b < W.heap.size) : KpZ b W W' := h.block b hb
theorem kpZ_set {b : Nat} {W : World} {p : Addr} (h : b ≠ p.block) (u : Value) : KpZ b W (W.setCell p u) := Below.heap_setCell W p u b h

/-- Behind a range over a function: its mark is taken away. -/
theorem leave_below {n D : Nat} {w W w' : World} (hb : Below n w W) (hn : n ≤ D) (hs : n ≤ w.heap.size) (q1 : ∀ k, k < W.heap.size → (∀ E ∈ [D], k ≠ E) → w'.heap[k]? = W.heap[k]?) (q2 : w'.os = W.os) (q3 : w'.tape = W.tape) (q4 : w'.output = W.output) (q5 : w'.heap.size = W.heap.size) : Below n w w' :=
  ⟨q2.trans hb.os, q3.trans hb.tape, q4.trans hb.output, by rw [q5]; exact hb.size, fun i hi => (q1 i (by have := hb.size; omega) (fun E hE => by obtain rfl : E = D := (by simpa using hE); omega)).trans (hb.block i hi)⟩
theorem leave_blk {D g : Nat} {T : TypeId} {cs : Array Value} {W w' : World} (hk : Blk W g T cs) (hg : g ≠ D) (q1 : ∀ k, k < W.heap.size → (∀ E ∈ [D], k ≠ E) → w'.heap[k]? = W.heap[k]?) : Blk w' g T cs :=
  (q1 g hk.lt (fun E hE => by obtain rfl : E = D := (by simpa using hE); exact hg)).trans hk
theorem marks_set {B D : Nat} {W : World} (h : Fx.MarksAt B [D] W) {p : Addr} (hp : p.block < B) (u : Value) : Fx.MarksAt B [D] (W.setCell p u) :=
  h.keep fun E hE _ => Below.heap_setCell W p u E (by omega)

set_option maxRecDepth 100000 in
set_option maxHeartbeats 2000000 in
theorem pairs1_in (n : Nat) (hn : n ≤ 100) (lp Bz m : Nat) (J Jx : List (Pr n) → World → Prop)
    (hY : ∀ pre (x : Pr n) W, J pre W → pre.length < 20000 → YieldAt Fence.wide (m - 1) Try.prog lp (encP x) W fun e W' =>
      (e = .returned (.bool true) ∧ J (pre ++ [x]) W' ∧ KpZ Bz W W') ∨ (e = .returned (.bool false) ∧ Jx (pre ++ [x]) W'))
    (W : World) (hz : W.cell? ⟨Bz, 0, none⟩ = some (.int .i64 (n : Int))) (h0 : J [] W) :
    CallsIn Fence.wide m Try.prog 55 #[.func (.yield lp) #[] #[], .pointer (some ⟨Bz, 0, none⟩)] W fun e W' => (∃ v, e = .returned v) ∧
      ((∃ ys, prs ys = pairsL n ∧ J ys W') ∨ (∃ pre, prs pre <+: pairsL n ∧ Jx pre W')) := by
  refine callsIn_of_wp Try.func55 rfl trivial ?_ rfl
  simp only [Try.ntmps55, List.size_toArray, List.length_cons, List.length_nil, Nat.reduceAdd, Nat.reduceSub, Array.replicate_succ, Array.replicate_zero, List.push_toArray, List.append_toArray, List.nil_append, List.cons_append]
  gi_wp2
  gi_loopw [6] (fun v wr => ∃ (i : Nat) (pre : List (Pr n)), i ≤ n ∧ v = .int .i64 i ∧ prs pre = preP n i 0 ∧ J pre wr ∧ KpZ Bz W wr) (fun v _ => n - (intOf v).toNat)
  case atStart => exact ⟨0, [], by omega, rfl, rfl, h0, rfl⟩
  case round =>
    obtain ⟨i, pre, hi, rfl, hp, hJ, hb⟩ := hrel
    have HP := Lib.hid hp
    have HJ := Lib.hid hJ
    have HY := Lib.hid hY
    have HB := Lib.hid hb
    have hz1 := kpZ_cell hb hz
    clear hp hJ hY hb
    obtain ⟨wo, hnm⟩ : ∃ z : World, z = wr := ⟨_, rfl⟩
    subst hnm
    by_cases hlt : i < n
    · have hii : (i : Int) < (n : Int) := by omega
      gi_wp2
      gi_loopw [10] (fun v wr => ∃ (k : Nat) (pre : List (Pr n)), k ≤ n ∧ v = .int .i64 k ∧ prs pre = preP n i k ∧ J pre wr ∧ KpZ Bz W wr) (fun v _ => n - (intOf v).toNat)
      case atStart => exact ⟨0, pre, by omega, rfl, HP.out, HJ.out, HB.out⟩
      case round =>
        obtain ⟨k, pre2, hk, rfl, hp2, hJ2, hb2⟩ := hrel
        have HP2 := Lib.hid hp2
        have HB2 := Lib.hid hb2
        have hz2 := kpZ_cell hb2 hz
        clear hp2 hb2
        by_cases hlt2 : k < n
        · have hkk : (k : Int) < (n : Int) := by omega
          by_cases hne : i = k
          · subst hne
            have e1 : ((i : Int) != (i : Int)) = false := by simp
            have HJ2 := Lib.hid hJ2
            clear hJ2
            gi_wp2
            refine ⟨fun f h => (by cases h), ?_⟩
            gi_wp2
            go_roundw
            case rel => exact ⟨i + 1, pre2, by omega, by go_num, by rw [preP_same]; exact HP2.out, HJ2.out, HB2.out⟩
            case measure => simp [intOf]; omega
          · have e1 : ((i : Int) != (k : Int)) = true := by simp; omega
            have hlen : pre2.length < 20000 := by
              have h1 := preP_len (n := n) (i := i) (k := k) (by omega) hn (by omega)
              rw [← HP2.out, prs_len] at h1
              omega
            obtain ⟨fn, tmps, assign, body, hy, hR⟩ := HY.out pre2 ⟨(i, k), hlt, hlt2, hne⟩ wr hJ2 hlen
            have hsn : prs (pre2 ++ [(⟨(i, k), hlt, hlt2, hne⟩ : Pr n)]) = preP n i (k + 1) := by rw [prs_snoc, HP2.out, preP_succ hne]
            have HSN := Lib.hid hsn
            have HR := Lib.hid hR
            clear hJ2 hsn hR
            unfold encP at hy
            gi_wp2
            refine ⟨fun h => (by cases h), ?_⟩
            refine HR.out.mono ?_
            rintro e W3 (⟨rfl, hJ3, hb3⟩ | ⟨rfl, hx3⟩)
            · have HJ3 := Lib.hid hJ3
              have hz3 := kpZ_cell hb3 hz2
              have HB3 := Lib.hid (kpZ_t HB2.out hb3)
              clear hJ3 hb3
              gi_wp2
              go_roundw
              case rel => exact ⟨k + 1, _, by omega, by go_num, HSN.out, HJ3.out, HB3.out⟩
              case measure => simp [intOf]; omega
            · have HX3 := Lib.hid hx3
              clear hx3
              gi_wp2
              refine bodyPost_ret (results_none rfl _ _ _) rfl ?_
              exact ⟨⟨_, rfl⟩, .inr ⟨_, by rw [HSN.out]; exact preP_pre hlt (by omega), HX3.out⟩⟩
        · obtain rfl : k = n := by omega
          have HJ2 := Lib.hid hJ2
          clear hJ2
          gi_wp2
          go_roundw
          case rel => exact ⟨i + 1, pre2, by omega, by go_num, by rw [preP_row]; exact HP2.out, HJ2.out, HB2.out⟩
          case measure => simp [intOf]; omega
    · obtain rfl : i = n := by omega
      gi_wp2
      go_end0
      exact ⟨⟨_, rfl⟩, .inl ⟨pre, by rw [HP.out, preP_all], HJ.out⟩⟩

theorem pairs_any (n : Int) (w : World) : Calls Try.prog 45 #[.int .i64 n] w fun e w' => e = .returned (.func (.func 55) #[] #[.pointer (some ⟨w.heap.size, 0, none⟩)]) ∧ w' = w.alloc (.cells #[.int .i64 n] 3) := by
  have hmf : ∀ (fn : Fn) (first cap : Array Value) (w : World), (Instr.makeFunc fn first cap).run Try.prog w = .ok (.func fn first cap) w := fun _ _ _ _ => rfl
  go_enter Try.func45, Try.ntmps45
  go_wp2
  go_ret
  exact ⟨rfl, rfl⟩

/-- What the iterator gives: all pairs of different zones. -/
theorem pairs_stops (n : Nat) (hn : n ≤ 100) (Bz m : Nat) (w : World) (h1 : Bz < w.heap.size) (hz : w.cell? ⟨Bz, 0, none⟩ = some (.int .i64 (n : Int))) :
    SeqStopsK Fence.wide m Try.prog 55 #[.pointer (some ⟨Bz, 0, none⟩)] (fun x : Pr n => encP x) (KpZ Bz) (fun ys => prs ys = pairsL n) (fun pre => prs pre <+: pairsL n) 20000 w := fun lp J Jx W hW _ _ hY h0 =>
  pairs1_in n hn lp Bz m J Jx hY W ((hW.cell (p := ⟨Bz, 0, none⟩) h1).trans hz) h0
end Go.Proofs.Ytmejiafmmmeloaa

end
