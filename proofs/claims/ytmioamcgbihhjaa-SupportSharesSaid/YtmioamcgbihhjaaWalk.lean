/- The contracts of the iterator over the points below a thing. -/
import Derived.RangeFuncNested
import Derived.RangeFuncBound
import Derived.RangeFuncCalls
import Derived.RangeFuncLeaves
import Derived.RangeFuncBox
import Derived.Shelf.Abstract
import Derived.Shelf.RegionOpen
import Derived.WalkKit
import Derived.OwnWalkIn
import Derived.TacticsInMore
import Derived.LoopNIn
import Derived.LoopIn
import Derived.Maps.OwnIn
import Derived.Maps.AppendAt
import Derived.Test.YtmioamcgbihhjaaDepth
namespace Go.Proofs.Ytmioamcgbihhjaa
open Go.RowKit Go.Shelf Go.Maps

attribute [local go_sem] Oper.semAt_some

section
variable {F : Fence} {nF : Nat} {P : Program} {k t e : TypeId} {b n : Nat} {M : ByteArray → Option Value} {ops : Array Oper} {rest : List Oper} {o : Oper} {a : Act} {Q : Exit → Act → World → Prop}
theorem wpListIn_look (w : World) (hg : o.guard = none) (m x : Operand) (t : TypeId) (hop : o.op = Op.lookup t m x true) (hk : P.underlying k = some .string) (ht : P.underlying t = some (.map k e)) {z : Value} (hz : (zeroValue e).run P w = .ok z w)
    (hM : MapIs P k w b n M) (hm : a.eval m = .map (some b)) (s : ByteArray) (hx : a.eval x = .string s) (hs : s.size ≤ maxLen)
    (hK : wpListIn F nF P ops Q rest (a.put o.dst (.tuple #[(M s).getD z, .bool (M s).isSome])) w) : wpListIn F nF P ops Q (o :: rest) a w := by
  refine wpListIn_plain hg fun K' hK' => ?_
  have hrun := hM.look hk ht hz s hs
  unfold Oper.wpIn
  refine ⟨by simp [Oper.about, hop], ?_⟩
  rw [Oper.semAt_plain F _ _ (by rw [hop]; intro c hc'; cases hc')]
  simp [execOp, hop, hm, hx, hrun, Result.andThen]
  exact hK' _ _ hK

theorem wpListIn_get (w : World) (hg : o.guard = none) (m x : Operand) (t : TypeId) (hop : o.op = Op.lookup t m x false) (hk : P.underlying k = some .string) (ht : P.underlying t = some (.map k e)) {z : Value} (hz : (zeroValue e).run P w = .ok z w)
    (hM : MapIs P k w b n M) (hm : a.eval m = .map (some b)) (s : ByteArray) (hx : a.eval x = .string s) (hs : s.size ≤ maxLen)
    (hK : wpListIn F nF P ops Q rest (a.put o.dst ((M s).getD z)) w) : wpListIn F nF P ops Q (o :: rest) a w := by
  refine wpListIn_plain hg fun K' hK' => ?_
  have hrun := hM.get hk ht hz s hs
  unfold Oper.wpIn
  refine ⟨by simp [Oper.about, hop], ?_⟩
  rw [Oper.semAt_plain F _ _ (by rw [hop]; intro c hc'; cases hc')]
  simp [execOp, hop, hm, hx, hrun, Result.andThen]
  exact hK' _ _ hK
end

theorem RoundIn.anyD {F : Fence} (hd : F.depth = none) {m m' : Nat} {P : Program} {l : Nat} {f : FuncId} {tmps : Array Value} {assign body : Code} {w : World} {R : Ending → World → Prop}
    (h : RoundIn F m P l f tmps assign body w R) : RoundIn F m' P l f tmps assign body w R := ⟨h.1, fun c cs _ => h.2 c cs (fun d h => by rw [hd] at h; cases h)⟩
theorem YieldAt.anyD {F : Fence} (hd : F.depth = none) {m : Nat} (m' : Nat) {P : Program} {l : Nat} {args : Array Value} {W : World} {R : Ending → World → Prop} (h : YieldAt F m P l args W R) : YieldAt F m' P l args W R := by
  obtain ⟨fn, tmps, assign, body, hy, hR⟩ := h
  exact ⟨fn, tmps, assign, body, hy, RoundIn.anyD hd hR⟩

/-- A text that is not too long. -/
abbrev Txt := { s : ByteArray // s.size ≤ maxLen }
def txts (xs : List Txt) : List ByteArray := xs.map (·.1)

/-- A tree lies in blocks below n₀. -/
structure TreeAt (l : List Rk) (A : Option Addr) (n c tb mb : Nat) (top : Int) (n₀ : Nat) (w : World) : Prop where
  reads : Reads w n₀ 5 A n (rkCells l)
  tree : Blk w tb 138 #[.slice A n c, .map (some mb), .int .i64 top]
  tlt : tb < n₀
  map : MapIs Try.prog 9 w mb n (idxM l)
  mlt : mb < n₀

theorem TreeAt.below {l : List Rk} {A : Option Addr} {n c tb mb : Nat} {top : Int} {n₀ : Nat} {w w' : World} (h : TreeAt l A n c tb mb top n₀ w) (hb : Below n₀ w w') : TreeAt l A n c tb mb top n₀ w' :=
  ⟨h.reads.below hb, h.tree.below hb h.tlt, h.tlt, h.map.below hb h.mlt, h.mlt⟩
theorem TreeAt.more {l : List Rk} {A : Option Addr} {n c tb mb : Nat} {top : Int} {n₀ n₁ : Nat} {w : World} (h : TreeAt l A n c tb mb top n₀ w) (hn : n₀ ≤ n₁) : TreeAt l A n c tb mb top n₁ w :=
  ⟨h.reads.more hn, h.tree, by have := h.tlt; omega, h.map, by have := h.mlt; omega⟩

theorem pts_leaf {l : List Rk} {f : Nat} {s : ByteArray} (h : idxOf l s = none) : pts l f s = some [s] := by
  cases f <;> simp [pts, h]

theorem txts_app {xs : List Txt} {a b : List ByteArray} (h : txts xs = a ++ b) : ∃ x1 x2, xs = x1 ++ x2 ∧ txts x1 = a ∧ txts x2 = b := by
  obtain ⟨x1, x2, e, h1, h2⟩ := List.map_eq_append_iff.1 h
  exact ⟨x1, x2, e, h1, h2⟩

def encT (x : Txt) : Value := .string x.1

set_option maxRecDepth 100000 in
set_option maxHeartbeats 4000000 in
theorem walk_in (l : List Rk) (hfits : ∀ r ∈ l, r.Fits) (A : Option Addr) (n c tb mb : Nat) (top : Int) (n₀ : Nat) (hn : n ≤ 1000000) (lp N : Nat) (J Jx : List Txt → World → Prop)
    (hY : ∀ m pre (x : Txt) W, J pre W → pre.length < N → YieldAt Fence.wide m Try.prog lp #[.string x.1] W fun e W' =>
      (e = .returned (.bool true) ∧ J (pre ++ [x]) W' ∧ Below n₀ W W') ∨ (e = .returned (.bool false) ∧ Jx (pre ++ [x]) W')) :
    ∀ (f : Nat) (name : ByteArray) (xs : List Txt) (m : Nat) (pre : List Txt) (W : World), name.size ≤ maxLen → pts l f name = some (txts xs) → TreeAt l A n c tb mb top n₀ W → J pre W → pre.length + xs.length ≤ N →
      CallsIn Fence.wide m Try.prog 134 #[.pointer (some ⟨tb, 0, none⟩), .string name, .func (.yield lp) #[] #[]] W fun e W' =>
        (e = .returned (.bool true) ∧ J (pre ++ xs) W' ∧ Below n₀ W W') ∨ (e = .returned (.bool false) ∧ ∃ q, q <+: xs ∧ Jx (pre ++ q) W') := by
  have hdd : ∀ k : Nat, (Fence.wide.depth.isSome = true → 1 ≤ k) := fun k h => by cases h
  have hfn : Fence.wide.fn 134 := trivial
  have leaf : ∀ (f : Nat) (name : ByteArray) (xs : List Txt) (m : Nat) (pre : List Txt) (W : World), name.size ≤ maxLen → idxOf l name = none → pts l f name = some (txts xs) → TreeAt l A n c tb mb top n₀ W → J pre W → pre.length + xs.length ≤ N →
      CallsIn Fence.wide m Try.prog 134 #[.pointer (some ⟨tb, 0, none⟩), .string name, .func (.yield lp) #[] #[]] W fun e W' =>
        (e = .returned (.bool true) ∧ J (pre ++ xs) W' ∧ Below n₀ W W') ∨ (e = .returned (.bool false) ∧ ∃ q, q <+: xs ∧ Jx (pre ++ q) W') := by
    intro f name xs m pre W hnm hi hp ht hJ hN
    rw [pts_leaf hi] at hp
    obtain ⟨x, rfl, hx⟩ : ∃ x : Txt, xs = [x] ∧ x.1 = name := by
      have h1 : txts xs = [name] := (Option.some.inj hp).symm
      obtain ⟨x, t, e, h2, h3⟩ := List.map_eq_cons_iff.1 h1
      refine ⟨x, ?_, h2⟩
      rw [e, List.map_eq_nil_iff.1 h3]
    obtain ⟨xn, xl⟩ := x
    obtain rfl : xn = name := hx
    have hu : idxM l xn = none := by unfold idxM; rw [hi]; rfl
    have hu2 : ((idxM l xn).getD (.int .i64 0)) = .int .i64 0 := by rw [hu]; rfl
    have hu3 : (idxM l xn).isSome = false := by rw [hu]; rfl
    obtain ⟨fn, tmps, assign, body, hy, hR⟩ := hY (m - 1) pre ⟨xn, xl⟩ W hJ (by simp at hN; omega)
    have t1 : W.cell? ⟨tb, 1, none⟩ = some (.map (some mb)) := ht.tree.cell 1
    have hmap := ht.map
    clear hp hN hu hY
    refine callsIn_of_wp Try.func134 rfl trivial ?_ rfl
    simp only [Try.ntmps134, List.size_toArray, List.length_cons, List.length_nil, Nat.reduceAdd, Nat.reduceSub, Array.replicate_succ, Array.replicate_zero, List.push_toArray, List.append_toArray, List.nil_append, List.cons_append]
    gi_wp2_with (first
              | (gi_at_lookup; refine wpListIn_look _ rfl _ _ _ rfl Try.underlying9 Try.underlying136 (zero_int _) hmap rfl _ rfl hnm ?_; simp only [hu2, hu3])
              | ((try refine ⟨hdd _, ?_⟩); refine hR.mono ?_; clear hR; rintro e W2 (⟨rfl, hJ2, hb2⟩ | ⟨rfl, hx2⟩)))
    · go_ret
      exact .inl ⟨rfl, hJ2, hb2⟩
    · go_ret
      exact .inr ⟨rfl, [⟨xn, xl⟩], List.prefix_refl _, hx2⟩
  intro f
  induction f with
  | zero =>
    intro name xs m pre W hnm hp
    have hi : idxOf l name = none := by
      unfold pts at hp
      cases hx : idxOf l name with
      | none => rfl
      | some i => rw [hx] at hp; cases hp
    exact leaf 0 name xs m pre W hnm hi hp
  | succ f ih =>
    intro name xs m pre W hnm hp ht hJ hN
    cases hi : idxOf l name with
    | none => exact leaf (f + 1) name xs m pre W hnm hi hp ht hJ hN
    | some i =>
      clear leaf
      unfold pts at hp
      rw [hi] at hp
      simp only at hp
      cases hr : l[i]? with
      | none => rw [hr] at hp; cases hp
      | some r =>
        rw [hr] at hp
        simp only at hp
        cases ha : pts l f r.left with
        | none => rw [ha] at hp; cases hp
        | some pa =>
          cases hb : pts l f r.right with
          | none => rw [ha, hb] at hp; cases hp
          | some pb =>
            rw [ha, hb] at hp
            obtain ⟨xa, xb, rfl, h1, h2⟩ := txts_app (Option.some.inj hp).symm
            subst h1 h2
            rw [List.length_append] at hN
            have hfit := hfits r (List.mem_of_getElem? hr)
            have hin : i < n := by
              have := (List.getElem?_eq_some_iff.1 hr).1
              rw [ht.reads.len5] at this; exact this
            obtain ⟨zb, zo, r', rfl, hzb, hr', -, c1, c2, -, -⟩ := ht.reads.rk hin
            obtain rfl := Option.some.inj (hr'.symm.trans hr)
            have hu0 : idxM l name = some (.int .i64 (i : Int)) := by unfold idxM; rw [hi]; rfl
            have hu2 : ((idxM l name).getD (.int .i64 0)) = .int .i64 (i : Int) := by rw [hu0]; rfl
            have hu3 : (idxM l name).isSome = true := by rw [hu0]; rfl
            have t1 : W.cell? ⟨tb, 1, none⟩ = some (.map (some mb)) := ht.tree.cell 1
            have t0 : W.cell? ⟨tb, 0, none⟩ = some (.slice (some ⟨zb, zo, none⟩) n c) := ht.tree.cell 0
            have hmap := ht.map
            have HT := Lib.hid ht
            have ih1 := (ih r'.left xa (m - 1) pre W hfit.left ha ht hJ (by omega)).mono (R' := fun e W1 =>
              (e = .returned (.bool true) ∧ W1.cell? ⟨tb, 0, none⟩ = some (.slice (some ⟨zb, zo, none⟩) n c) ∧ W1.cell? ⟨zb, zo + i * 5 + 2, none⟩ = some (.string r'.right) ∧ Below n₀ W W1 ∧
                CallsIn Fence.wide (m - 1) Try.prog 134 #[.pointer (some ⟨tb, 0, none⟩), .string r'.right, .func (.yield lp) #[] #[]] W1 fun e W' =>
                  (e = .returned (.bool true) ∧ J (pre ++ xa ++ xb) W' ∧ Below n₀ W1 W') ∨ (e = .returned (.bool false) ∧ ∃ q, q <+: xb ∧ Jx (pre ++ xa ++ q) W')) ∨
              (e = .returned (.bool false) ∧ ∃ q, q <+: xa ∧ Jx (pre ++ q) W1))
              (fun e W1 h => h.elim (fun ⟨he, hj, hb1⟩ => .inl ⟨he, ((ht.below hb1).tree).cell 0, (hb1.cell (p := ⟨zb, zo + i * 5 + 2, none⟩) hzb).trans c2, hb1,
                ih r'.right xb (m - 1) (pre ++ xa) W1 hfit.right hb (ht.below hb1) hj (by simp; omega)⟩) .inr)
            clear ih hY ht hr hr' hi ha hb hp hu0 hfit
            refine callsIn_of_wp Try.func134 rfl trivial ?_ rfl
            simp only [Try.ntmps134, List.size_toArray, List.length_cons, List.length_nil, Nat.reduceAdd, Nat.reduceSub, Array.replicate_succ, Array.replicate_zero, List.push_toArray, List.append_toArray, List.nil_append, List.cons_append]
            gi_wp2_with (first
              | (gi_at_lookup; refine wpListIn_look _ rfl _ _ _ rfl Try.underlying9 Try.underlying136 (zero_int _) hmap rfl _ rfl hnm ?_; simp only [hu2, hu3])
              | ((try refine ⟨hdd _, ?_⟩); gi_at_call 134; refine ih1.mono ?_; clear ih1; rintro e W1 (⟨rfl, d0, d2, hb1, ih2⟩ | ⟨rfl, q, hq, hx1⟩))
              | ((try refine ⟨hdd _, ?_⟩); gi_at_call 134; refine ih2.mono ?_; clear ih2; rintro e W3 (⟨rfl, hJ3, hb3⟩ | ⟨rfl, q, hq, hx3⟩)))
            · go_ret
              exact .inl ⟨rfl, by simpa [List.append_assoc] using hJ3, hb1.trans hb3⟩
            · go_ret
              exact .inr ⟨rfl, xa ++ q, by simpa using hq, by simpa [List.append_assoc] using hx3⟩
            · go_ret
              exact .inr ⟨rfl, q, hq.trans (by simp), hx1⟩

set_option maxHeartbeats 1000000 in
theorem below1_in (l : List Rk) (hfits : ∀ r ∈ l, r.Fits) (A : Option Addr) (n c tb mb : Nat) (top : Int) (n₀ : Nat) (hn : n ≤ 1000000) (lp Bt Bn : Nat) (f : Nat) (name : ByteArray) (xs : List Txt) (hnm : name.size ≤ maxLen) (hp : pts l f name = some (txts xs)) (m : Nat) (J Jx : List Txt → World → Prop)
    (hY : ∀ pre (x : Txt) W, J pre W → pre.length < xs.length → YieldAt Fence.wide (m - 1) Try.prog lp #[.string x.1] W fun e W' =>
      (e = .returned (.bool true) ∧ J (pre ++ [x]) W' ∧ Below n₀ W W') ∨ (e = .returned (.bool false) ∧ Jx (pre ++ [x]) W'))
    (W : World) (hBt : W.cell? ⟨Bt, 0, none⟩ = some (.pointer (some ⟨tb, 0, none⟩))) (hBn : W.cell? ⟨Bn, 0, none⟩ = some (.string name)) (hT : TreeAt l A n c tb mb top n₀ W) (h0 : J [] W) :
    CallsIn Fence.wide m Try.prog 133 #[.func (.yield lp) #[] #[], .pointer (some ⟨Bt, 0, none⟩), .pointer (some ⟨Bn, 0, none⟩)] W fun e W' => (∃ v, e = .returned v) ∧
      ((∃ ys, ys = xs ∧ J ys W') ∨ (∃ pre, pre <+: xs ∧ Jx pre W')) := by
  have hdd : ∀ k : Nat, (Fence.wide.depth.isSome = true → 1 ≤ k) := fun k h => by cases h
  have hfn : Fence.wide.fn 134 := trivial
  have hw := walk_in l hfits A n c tb mb top n₀ hn lp xs.length J Jx (fun m' pre x W hj hl => YieldAt.anyD rfl m' (hY pre x W hj hl)) f name xs (m - 1) [] W hnm hp hT h0 (by simp)
  clear hY hT
  refine callsIn_of_wp Try.func133 rfl trivial ?_ rfl
  simp only [Try.ntmps133, List.size_toArray, List.length_cons, List.length_nil, Nat.reduceAdd, Nat.reduceSub, Array.replicate_succ, Array.replicate_zero, List.push_toArray, List.append_toArray, List.nil_append, List.cons_append]
  gi_wp2_with ((try refine ⟨hdd _, ?_⟩); gi_at_call 134; refine hw.mono ?_; clear hw; rintro e W1 (⟨rfl, hJ1, _⟩ | ⟨rfl, q, hq, hx⟩))
  · go_end0
    exact ⟨⟨_, rfl⟩, .inl ⟨_, rfl, by simpa using hJ1⟩⟩
  · go_end0
    exact ⟨⟨_, rfl⟩, .inr ⟨q, hq, by simpa using hx⟩⟩

set_option maxHeartbeats 1000000 in
theorem below_any (t : Option Addr) (name : ByteArray) (w : World) :
    Calls Try.prog 123 #[.pointer t, .string name] w fun e w' => e = .returned (.func (.func 133) #[] #[.pointer (some ⟨w.heap.size, 0, none⟩), .pointer (some ⟨w.heap.size + 1, 0, none⟩)]) ∧
      w' = (w.alloc (.cells #[.pointer t] 133)).alloc (.cells #[.string name] 9) := by
  go_enter Try.func123, Try.ntmps123
  go_wp2
  go_ret
  exact ⟨rfl, rfl⟩

/-- What the iterator gives: the points below a thing. -/
theorem below_stops (l : List Rk) (hfits : ∀ r ∈ l, r.Fits) (A : Option Addr) (n c tb mb : Nat) (top : Int) (n₀ : Nat) (hn : n ≤ 1000000) (Bt Bn : Nat) (f : Nat) (name : ByteArray) (xs : List Txt) (hnm : name.size ≤ maxLen) (hp : pts l f name = some (txts xs)) (m : Nat) (w : World)
    (h1 : Bt < w.heap.size) (h2 : Bn < w.heap.size) (h3 : n₀ ≤ w.heap.size) (hBt : w.cell? ⟨Bt, 0, none⟩ = some (.pointer (some ⟨tb, 0, none⟩))) (hBn : w.cell? ⟨Bn, 0, none⟩ = some (.string name)) (hT : TreeAt l A n c tb mb top n₀ w) :
    SeqStopsK Fence.wide m Try.prog 133 #[.pointer (some ⟨Bt, 0, none⟩), .pointer (some ⟨Bn, 0, none⟩)] (fun x : Txt => #[Value.string x.1]) (Below n₀) (fun ys => ys = xs) (fun pre => pre <+: xs) xs.length w := fun lp J Jx W hW _ _ hY h0 =>
  below1_in l hfits A n c tb mb top n₀ hn lp Bt Bn f name xs hnm hp m J Jx hY W ((hW.cell (p := ⟨Bt, 0, none⟩) h1).trans hBt) ((hW.cell (p := ⟨Bn, 0, none⟩) h2).trans hBn) (hT.below (hW.mono h3)) h0

end Go.Proofs.Ytmioamcgbihhjaa
