import Derived.RangeFuncNested
import Derived.RangeFuncBound
import Derived.RangeFuncCalls
import Derived.RangeFuncLeaves
import Derived.RangeFuncBox
import Derived.Shelf.Abstract
import Derived.Shelf.RegionOpen
import Derived.WalkKit
import Derived.OwnWalkIn
import Derived.TacticsInMore
import Derived.LoopNIn
import Derived.LoopIn
import Derived.Maps.OwnIn
import Derived.Maps.AppendAt
import Derived.Test.YtoiconebcmneiabQ13
import Derived.Test.YtoiconebcmneiabQ12
import Derived.Test.YtoiconebcmneiabQ9

section
/- The contracts of the iterator over the points below a thing. -/
namespace Go.Proofs.Ytoiconebcmneiab
open Go.RowKit Go.Shelf Go.Maps

attribute [local go_sem] Oper.semAt_some

section
variable {F : Fence} {nF : Nat} {P : Program} {k t e : TypeId} {b n : Nat} {M : ByteArray → Option Value} {ops : Array Oper} {rest : List Oper} {o : Oper} {a : Act} {Q : Exit → Act → World → Prop}
theorem wpListIn_look (w : World) (hg : o.guard = none) (m x : Operand) (t : TypeId) (hop : o.op = Op.lookup t m x true) (hk : P.underlying k = some .string) (ht : P.underlying t = some (.map k e)) {z : Value} (hz : (zeroValue e).run P w = .ok z w)
    (hM : MapIs P k w b n M) (hm : a.eval m = .map (some b)) (s : ByteArray) (hx : a.eval x = .string s) (hs : s.size ≤ maxLen)
    (hK : wpListIn F nF P ops Q rest (a.put o.dst (.tuple #[(M s).getD z, .bool (M s).isSome])) w) : wpListIn F nF P ops Q (o :: rest) a w := by
  refine wpListIn_plain hg fun K' hK' => ?_
  have hrun := hM.look hk ht hz s hs
  unfold Oper.wpIn
  refine ⟨by simp [Oper.about, hop], ?_⟩
  rw [Oper.semAt_plain F _ _ (by rw [hop]; intro c hc'; cases hc')]
  simp [execOp, hop, hm, hx, hrun, Result.andThen]
  exact hK' _ _ hK

theorem wpListIn_get (w : World) (hg : o.guard = none) (m x : Operand) (t : TypeId) (hop : o.op = Op.lookup t m x false) (hk : P.underlying k = some .string) (ht : P.underlying t = some (.map k e)) {z : Value} (hz : (zeroValue e).run P w = .ok z w)
    (hM : MapIs P k w b n M) (hm : a.eval m = .map (some b)) (s : ByteArray) (hx : a.eval x = .string s) (hs : s.size ≤ maxLen)
    (hK : wpListIn F nF P ops Q rest (a.put o.dst ((M s).getD z)) w) : wpListIn F nF P ops Q (o :: rest) a w := by
  refine wpListIn_plain hg fun K' hK' => ?_
  have hrun := hM.get hk ht hz s hs
  unfold Oper.wpIn
  refine ⟨by simp [Oper.about, hop], ?_⟩
  rw [Oper.semAt_plain F _ _ (by rw [hop]; intro c hc'; cases hc')]
  simp [execOp, hop, hm, hx, hrun, Result.andThen]
  exact hK' _ _ hK
end

theorem RoundIn.anyD {F : Fence} (hd : F.depth = none) {m m' : Nat} {P : Program} {l : Nat} {f : FuncId} {tmps : Array Value} {assign body : Code} {w : World} {R : Ending → World → Prop}
    (h : RoundIn F m P l f tmps assign body w R) : RoundIn F m' P l f tmps assign body w R := ⟨h.1, fun c cs _ => h.2 c cs (fun d h => by rw [hd] at h; cases h)⟩
theorem YieldAt.anyD {F : Fence} (hd : F.depth = none) {m : Nat} (m' : Nat) {P : Program} {l : Nat} {args : Array Value} {W : World} {R : Ending → World → Prop} (h : YieldAt F m P l args W R) : YieldAt F m' P l args W R := by
  obtain ⟨fn, tmps, assign, body, hy, hR⟩ := h
  exact ⟨fn, tmps, assign, body, hy, RoundIn.anyD hd hR⟩

/-- A text that is not too long. -/
abbrev Txt := { s : ByteArray // s.size ≤ maxLen }
def txts (xs : List Txt) : List ByteArray := xs.map (·.1)

/-- A tree lies in blocks below n₀. -/
structure TreeAt (l : List Rk) (A : Option Addr) (n c tb mb : Nat) (top : Int) (n₀ : Nat) (w : World) : Prop where
  reads : Reads w n₀ 5 A n (rkCells l)
  tree : Blk w tb 131 #[.slice A n c, .map (some mb), .int .i64 top]
  tlt : tb < n₀
  map : MapIs Try.prog 9 w mb n (idxM l)
  mlt : mb < n₀

theorem TreeAt.below {l : List Rk} {A : Option Addr} {n c tb mb : Nat} {top : Int} {n₀ : Nat} {w w' : World} (h : TreeAt l A n c tb mb top n₀ w) (hb : Below n₀ w w') : TreeAt l A n c tb mb top n₀ w' :=
  ⟨h.reads.below hb, h.tree.below hb h.tlt, h.tlt, h.map.below hb h.mlt, h.mlt⟩
theorem TreeAt.more {l : List Rk} {A : Option Addr} {n c tb mb : Nat} {top : Int} {n₀ n₁ : Nat} {w : World} (h : TreeAt l A n c tb mb top n₀ w) (hn : n₀ ≤ n₁) : TreeAt l A n c tb mb top n₁ w :=
  ⟨h.reads.more hn, h.tree, by have := h.tlt; omega, h.map, by have := h.mlt; omega⟩

theorem pts_leaf {l : List Rk} {f : Nat} {s : ByteArray} (h : idxOf l s = none) : pts l f s = some [s] := by
  cases f <;> simp [pts, h]

theorem txts_app {xs : List Txt} {a b : List ByteArray} (h : txts xs = a ++ b) : ∃ x1 x2, xs = x1 ++ x2 ∧ txts x1 = a ∧ txts x2 = b := by
  obtain ⟨x1, x2, e, h1, h2⟩ := List.map_eq_append_iff.1 h
  exact ⟨x1, x2, e, h1, h2⟩

def encT (x : Txt) : Value := .string x.1

set_option maxRecDepth 100000 in
set_option maxHeartbeats 4000000 in
theorem walk_in (l : List Rk) (hfits : ∀ r ∈ l, r.Fits) (A : Option Addr) (n c tb mb : Nat) (top : Int) (n₀ : Nat) (hn : n ≤ 1000000) (lp N : Nat) (J Jx : List Txt → World → Prop)
    (hY : ∀ m pre (x : Txt) W, J pre W → pre.length < N → YieldAt Fence.wide m Try.prog lp #[.string x.1] W fun e W' =>
      (e = .returned (.bool true) ∧ J (pre ++ [x]) W' ∧ Below n₀ W W') ∨ (e = .returned (.bool false) ∧ Jx (pre ++ [x]) W')) :
    ∀ (f : Nat) (name : ByteArray) (xs : List Txt) (m : Nat) (pre : List Txt) (W : World), name.size ≤ maxLen → pts l f name = some (txts xs) → TreeAt l A n c tb mb top n₀ W → J pre W → pre.length + xs.length ≤ N →
      CallsIn Fence.wide m Try.prog 105 #[.pointer (some ⟨tb, 0, none⟩), .string name, .func (.yield lp) #[] #[]] W fun e W' =>
        (e = .returned (.bool true) ∧ J (pre ++ xs) W' ∧ Below n₀ W W') ∨ (e = .returned (.bool false) ∧ ∃ q, q <+: xs ∧ Jx (pre ++ q) W') := by
  have hdd : ∀ k : Nat, (Fence.wide.depth.isSome = true → 1 ≤ k) := fun k h => by cases h
  have hfn : Fence.wide.fn 105 := trivial
  have leaf : ∀ (f : Nat) (name : ByteArray) (xs : List Txt) (m : Nat) (pre : List Txt) (W : World), name.size ≤ maxLen → idxOf l name = none → pts l f name = some (txts xs) → TreeAt l A n c tb mb top n₀ W → J pre W → pre.length + xs.length ≤ N →
      CallsIn Fence.wide m Try.prog 105 #[.pointer (some ⟨tb, 0, none⟩), .string name, .func (.yield lp) #[] #[]] W fun e W' =>
        (e = .returned (.bool true) ∧ J (pre ++ xs) W' ∧ Below n₀ W W') ∨ (e = .returned (.bool false) ∧ ∃ q, q <+: xs ∧ Jx (pre ++ q) W') := by
    intro f name xs m pre W hnm hi hp ht hJ hN
    rw [pts_leaf hi] at hp
    obtain ⟨x, rfl, hx⟩ : ∃ x : Txt, xs = [x] ∧ x.1 = name := by
      have h1 : txts xs = [name] := (Option.some.inj hp).symm
      obtain ⟨x, t, e, h2, h3⟩ := List.map_eq_cons_iff.1 h1
      refine ⟨x, ?_, h2⟩
      rw [e, List.map_eq_nil_iff.1 h3]
    obtain ⟨xn, xl⟩ := x
    obtain rfl : xn = name := hx
    have hu : idxM l xn = none := by unfold idxM; rw [hi]; rfl
    have hu2 : ((idxM l xn).getD (.int .i64 0)) = .int .i64 0 := by rw [hu]; rfl
    have hu3 : (idxM l xn).isSome = false := by rw [hu]; rfl
    obtain ⟨fn, tmps, assign, body, hy, hR⟩ := hY (m - 1) pre ⟨xn, xl⟩ W hJ (by simp at hN; omega)
    have t1 : W.cell? ⟨tb, 1, none⟩ = some (.map (some mb)) := ht.tree.cell 1
    have hmap := ht.map
    clear hp hN hu hY
    refine callsIn_of_wp Try.func105 rfl trivial ?_ rfl
    simp only [Try.ntmps105, List.size_toArray, List.length_cons, List.length_nil, Nat.reduceAdd, Nat.reduceSub, Array.replicate_succ, Array.replicate_zero, List.push_toArray, List.append_toArray, List.nil_append, List.cons_append]
    gi_wp2_with (first
              | (gi_at_lookup; refine wpListIn_look _ rfl _ _ _ rfl Try.underlying9 Try.underlying129 (zero_int _) hmap rfl _ rfl hnm ?_; simp only [hu2, hu3])
              | ((try refine ⟨hdd _, ?_⟩); refine hR.mono ?_; clear hR; rintro e W2 (⟨rfl, hJ2, hb2⟩ | ⟨rfl, hx2⟩)))
    · go_ret
      exact .inl ⟨rfl, hJ2, hb2⟩
    · go_ret
      exact .inr ⟨rfl, [⟨xn, xl⟩], List.prefix_refl _, hx2⟩
  intro f
  induction f with
  | zero =>
    intro name xs m pre W hnm hp
    have hi : idxOf l name = none := by
      unfold pts at hp
      cases hx : idxOf l name with
      | none => rfl
      | some i => rw [hx] at hp; cases hp
    exact leaf 0 name xs m pre W hnm hi hp
  | succ f ih =>
    intro name xs m pre W hnm hp ht hJ hN
    cases hi : idxOf l name with
    | none => exact leaf (f + 1) name xs m pre W hnm hi hp ht hJ hN
    | some i =>
      clear leaf
      unfold pts at hp
      rw [hi] at hp
      simp only at hp
      cases hr : l[i]? with
      | none => rw [hr] at hp; cases hp
      | some r =>
        rw [hr] at hp
        simp only at hp
        cases ha : pts l f r.left with
        | none => rw [ha] at hp; cases hp
        | some pa =>
          cases hb : pts l f r.right with
          | none => rw [ha, hb] at hp; cases hp
          | some pb =>
            rw [ha, hb] at hp
            obtain ⟨xa, xb, rfl, h1, h2⟩ := txts_app (Option.some.inj hp).symm
            subst h1 h2
            rw [List.length_append] at hN
            have hfit := hfits r (List.mem_of_getElem? hr)
            have hin : i < n := by
              have := (List.getElem?_eq_some_iff.1 hr).1
              rw [ht.reads.len5] at this; exact this
            obtain ⟨zb, zo, r', rfl, hzb, hr', -, c1, c2, -, -⟩ := ht.reads.rk hin
            obtain rfl := Option.some.inj (hr'.symm.trans hr)
            have hu0 : idxM l name = some (.int .i64 (i : Int)) := by unfold idxM; rw [hi]; rfl
            have hu2 : ((idxM l name).getD (.int .i64 0)) = .int .i64 (i : Int) := by rw [hu0]; rfl
            have hu3 : (idxM l name).isSome = true := by rw [hu0]; rfl
            have t1 : W.cell? ⟨tb, 1, none⟩ = some (.map (some mb)) := ht.tree.cell 1
            have t0 : W.cell? ⟨tb, 0, none⟩ = some (.slice (some ⟨zb, zo, none⟩) n c) := ht.tree.cell 0
            have hmap := ht.map
            have HT := Lib.hid ht
            have ih1 := (ih r'.left xa (m - 1) pre W hfit.left ha ht hJ (by omega)).mono (R' := fun e W1 =>
              (e = .returned (.bool true) ∧ W1.cell? ⟨tb, 0, none⟩ = some (.slice (some ⟨zb, zo, none⟩) n c) ∧ W1.cell? ⟨zb, zo + i * 5 + 2, none⟩ = some (.string r'.right) ∧ Below n₀ W W1 ∧
                CallsIn Fence.wide (m - 1) Try.prog 105 #[.pointer (some ⟨tb, 0, none⟩), .string r'.right, .func (.yield lp) #[] #[]] W1 fun e W' =>
                  (e = .returned (.bool true) ∧ J (pre ++ xa ++ xb) W' ∧ Below n₀ W1 W') ∨ (e = .returned (.bool false) ∧ ∃ q, q <+: xb ∧ Jx (pre ++ xa ++ q) W')) ∨
              (e = .returned (.bool false) ∧ ∃ q, q <+: xa ∧ Jx (pre ++ q) W1))
              (fun e W1 h => h.elim (fun ⟨he, hj, hb1⟩ => .inl ⟨he, ((ht.below hb1).tree).cell 0, (hb1.cell (p := ⟨zb, zo + i * 5 + 2, none⟩) hzb).trans c2, hb1,
                ih r'.right xb (m - 1) (pre ++ xa) W1 hfit.right hb (ht.below hb1) hj (by simp; omega)⟩) .inr)
            clear ih hY ht hr hr' hi ha hb hp hu0 hfit
            refine callsIn_of_wp Try.func105 rfl trivial ?_ rfl
            simp only [Try.ntmps105, List.size_toArray, List.length_cons, List.length_nil, Nat.reduceAdd, Nat.reduceSub, Array.replicate_succ, Array.replicate_zero, List.push_toArray, List.append_toArray, List.nil_append, List.cons_append]
            gi_wp2_with (first
              | (gi_at_lookup; refine wpListIn_look _ rfl _ _ _ rfl Try.underlying9 Try.underlying129 (zero_int _) hmap rfl _ rfl hnm ?_; simp only [hu2, hu3])
              | ((try refine ⟨hdd _, ?_⟩); gi_at_call 105; refine ih1.mono ?_; clear ih1; rintro e W1 (⟨rfl, d0, d2, hb1, ih2⟩ | ⟨rfl, q, hq, hx1⟩))
              | ((try refine ⟨hdd _, ?_⟩); gi_at_call 105; refine ih2.mono ?_; clear ih2; rintro e W3 (⟨rfl, hJ3, hb3⟩ | ⟨rfl, q, hq, hx3⟩)))
            · go_ret
              exact .inl ⟨rfl, by simpa [List.append_assoc] using hJ3, hb1.trans hb3⟩
            · go_ret
              exact .inr ⟨rfl, xa ++ q, by simpa using hq, by simpa [List.append_assoc] using hx3⟩
            · go_ret
              exact .inr ⟨rfl, q, hq.trans (by simp), hx1⟩

set_option maxHeartbeats 1000000 in
theorem below1_in (l : List Rk) (hfits : ∀ r ∈ l, r.Fits) (A : Option Addr) (n c tb mb : Nat) (top : Int) (n₀ : Nat) (hn : n ≤ 1000000) (lp Bt Bn : Nat) (f : Nat) (name : ByteArray) (xs : List Txt) (hnm : name.size ≤ maxLen) (hp : pts l f name = some (txts xs)) (m : Nat) (J Jx : List Txt → World → Prop)
    (hY : ∀ pre (x : Txt) W, J pre W → pre.length < xs.length → YieldAt Fence.wide (m - 1) Try.prog lp #[.string x.1] W fun e W' =>
      (e = .returned (.bool true) ∧ J (pre ++ [x]) W' ∧ Below n₀ W W') ∨ (e = .returned (.bool false) ∧ Jx (pre ++ [x]) W'))
    (W : World) (hBt : W.cell? ⟨Bt, 0, none⟩ = some (.pointer (some ⟨tb, 0, none⟩))) (hBn : W.cell? ⟨Bn, 0, none⟩ = some (.string name)) (hT : TreeAt l A n c tb mb top n₀ W) (h0 : J [] W) :
    CallsIn Fence.wide m Try.prog 104 #[.func (.yield lp) #[] #[], .pointer (some ⟨Bt, 0, none⟩), .pointer (some ⟨Bn, 0, none⟩)] W fun e W' => (∃ v, e = .returned v) ∧
      ((∃ ys, ys = xs ∧ J ys W') ∨ (∃ pre, pre <+: xs ∧ Jx pre W')) := by
  have hdd : ∀ k : Nat, (Fence.wide.depth.isSome = true → 1 ≤ k) := fun k h => by cases h
  have hfn : Fence.wide.fn 105 := trivial
  have hw := walk_in l hfits A n c tb mb top n₀ hn lp xs.length J Jx (fun m' pre x W hj hl => YieldAt.anyD rfl m' (hY pre x W hj hl)) f name xs (m - 1) [] W hnm hp hT h0 (by simp)
  clear hY hT
  refine callsIn_of_wp Try.func104 rfl trivial ?_ rfl
  simp only [Try.ntmps104, List.size_toArray, List.length_cons, List.length_nil, Nat.reduceAdd, Nat.reduceSub, Array.replicate_succ, Array.replicate_zero, List.push_toArray, List.append_toArray, List.nil_append, List.cons_append]
  gi_wp2_with ((try refine ⟨hdd _, ?_⟩); gi_at_call 105; refine hw.mono ?_; clear hw; rintro e W1 (⟨rfl, hJ1, _⟩ | ⟨rfl, q, hq, hx⟩))
  · go_end0
    exact ⟨⟨_, rfl⟩, .inl ⟨_, rfl, by simpa using hJ1⟩⟩
  · go_end0
    exact ⟨⟨_, rfl⟩, .inr ⟨q, hq, by simpa using hx⟩⟩

set_option maxHeartbeats 1000000 in
theorem below_any (t : Option Addr) (name : ByteArray) (w : World) :
    Calls Try.prog 89 #[.pointer t, .string name] w fun e w' => e = .returned (.func (.func 104) #[] #[.pointer (some ⟨w.heap.size, 0, none⟩), .pointer (some ⟨w.heap.size + 1, 0, none⟩)]) ∧
      w' = (w.alloc (.cells #[.pointer t] 91)).alloc (.cells #[.string name] 9) := by
  go_enter Try.func89, Try.ntmps89
  go_wp2
  go_ret
  exact ⟨rfl, rfl⟩

/-- What the iterator gives: the points below a thing. -/
theorem below_stops (l : List Rk) (hfits : ∀ r ∈ l, r.Fits) (A : Option Addr) (n c tb mb : Nat) (top : Int) (n₀ : Nat) (hn : n ≤ 1000000) (Bt Bn : Nat) (f : Nat) (name : ByteArray) (xs : List Txt) (hnm : name.size ≤ maxLen) (hp : pts l f name = some (txts xs)) (m : Nat) (w : World)
    (h1 : Bt < w.heap.size) (h2 : Bn < w.heap.size) (h3 : n₀ ≤ w.heap.size) (hBt : w.cell? ⟨Bt, 0, none⟩ = some (.pointer (some ⟨tb, 0, none⟩))) (hBn : w.cell? ⟨Bn, 0, none⟩ = some (.string name)) (hT : TreeAt l A n c tb mb top n₀ w) :
    SeqStopsK Fence.wide m Try.prog 104 #[.pointer (some ⟨Bt, 0, none⟩), .pointer (some ⟨Bn, 0, none⟩)] (fun x : Txt => #[Value.string x.1]) (Below n₀) (fun ys => ys = xs) (fun pre => pre <+: xs) xs.length w := fun lp J Jx W hW _ _ hY h0 =>
  below1_in l hfits A n c tb mb top n₀ hn lp Bt Bn f name xs hnm hp m J Jx hY W ((hW.cell (p := ⟨Bt, 0, none⟩) h1).trans hBt) ((hW.cell (p := ⟨Bn, 0, none⟩) h2).trans hBn) (hT.below (hW.mono h3)) h0

end Go.Proofs.Ytoiconebcmneiab

end

section
/- The contracts of the collection of what an iterator gives, and of the points of a tree. -/
namespace Go.Proofs.Ytoiconebcmneiab
open Go.RowKit Go.Shelf Go.Maps

attribute [local go_sem] Oper.semAt_some

theorem info_str : (Try.prog.info? 9).map (fun i => (i.zero, i.size, i.bytes)) = some (some (.string ByteArray.empty), 1, 16) := by kernel_rfl

/-- An iterator over texts. -/
def Gives (gf : Nat) (lb : Array Value) (n₀ : Nat) (xs : List Txt) (w : World) : Prop :=
  ∀ m, SeqStopsK Fence.wide m Try.prog gf lb (fun x : Txt => #[Value.string x.1]) (Below n₀) (fun ys => ys = xs) (fun pre => pre <+: xs) xs.length w

set_option maxRecDepth 100000 in
set_option maxHeartbeats 4000000 in
theorem appendSeq_any (gf : Nat) (lb : Array Value) (eg : ∀ args w, (callFunc gf args).run Try.prog w = .ok (.enter gf args) w) (xs : List Txt) (hlen : xs.length ≤ 1000000) (w : World) (hseq : Gives gf lb w.heap.size xs w) :
    CallsIn Fence.wide 10 Try.prog 107 #[.slice none 0 0, .func (.func gf) #[] lb] w fun e W' => ∃ v, e = .returned v ∧ W'.ownsRow w.heap.size 9 1 v xs.length (xs.map encT) ∧ Below w.heap.size w W' := by
  obtain ⟨i0, hi, hz0, hz1, hz2⟩ := info_parts info_str
  refine callsIn_of_wp_marks Try.func107 rfl trivial ?_ rfl
  simp only [Try.ntmps107, List.size_toArray, List.length_cons, List.length_nil, Nat.reduceAdd, Nat.reduceSub, Array.replicate_succ, Array.replicate_zero, List.push_toArray, List.append_toArray, List.nil_append, List.cons_append]
  gi_wp2
  have bO := Boxed.new w 77 (.slice none 0 0)
  have hB0 : Below w.heap.size w (w.alloc (.cells #[.slice none 0 0] 77)) := (Below.refl _ w).alloc (Nat.le_refl _) _
  refine wpIn_rangeFunc_ownG rfl (by decide) (gf := gf) (lb := lb) rfl trivial eg
    (hseq 9) belowK_t (belowK_b (by simp)) hB0 (fun _ => rfl)
    (fun (pre : List Txt) W => (∃ v, Boxed W w.heap.size 77 v ∧ W.ownsRow w.heap.size 9 1 v pre.length (pre.map encT) ∧ True) ∧ Below w.heap.size w W)
    (fun _ _ _ => False)
    (OwnFrom.and (Own.from (holdsRow_own w.heap.size w.heap.size 77 9 1 (fun (pre : List Txt) => pre.length) (fun (pre : List Txt) => pre.map encT) (fun _ _ => True)) _) (ownFrom_below (Nat.le_refl _) (by simp)))
    (fun _ _ _ _ _ hs _ _ => hs)
    ⟨⟨_, bO, World.ownsRow_nil _ _ _ _, trivial⟩, hB0⟩
    (fun x => { tmps := #[.slice none 0 0, .func (.func gf) #[] lb, .pointer (some ⟨w.heap.size, 0, none⟩), undef, .slice none 0 0, .string x.1, .func (.func gf) #[] lb, .string x.1, undef, undef, undef, undef, undef], defers := [] }) ?assign ?body ?done ?stop
  case assign =>
    intro l x W K hK
    gi_wp2
    exact hK
  case body =>
    rintro l pre x W ⟨⟨v, hv, hrow, -⟩, hB⟩ hlt
    have hc := hv.cell
    gi_wp2_with (gi_at_builtin; refine wpListIn_append_own _ rfl _ _ 77 rfl w.heap.size 9 i0 (.string ByteArray.empty) 1 16 Try.underlying77 hi hz0 hz1 hz2 rfl (by decide) _ _ _ rfl (hrow.alloc _) ⟨W.heap.size, 0, none⟩ 1 1 [encT x] rfl rfl (cell_one_new _ _ _) (by simp [encT, Value.oneCell']) (by unfold maxLen; omega) (by omega) (by have := hB.size; simp; omega) ?_; intro v' w1 hown' hgrow _; obtain ⟨g', cap', rfl⟩ := ownsRow_succ hown'; obtain ⟨hv1, hv2, hr2, hk2, hb2⟩ := hv.appended (by decide) hrow hB.size (Nat.le_refl _) hown' hgrow; have hc1 := hv1.cell; have hf1 := hv1.frozen)
    exact ⟨hk2.from _, hb2, ⟨_, hv2, by simpa using hr2, trivial⟩, hB.trans hb2⟩
  case done =>
    rintro D ys W hD rfl ⟨⟨v, hv, hrow, -⟩, hB⟩ hK
    have hc := hv.cell
    gi_wp2
    refine ⟨by simp, .inl ⟨_, _, rfl, run_takeDeferred hK, ?_⟩⟩
    exact ⟨_, results_tmp rfl _ _ _, v, rfl, ownsRow_putObj hrow _ hK rfl, hB.trans (belowK_b (w := w) (Nat.le_refl _) W D _ _ (by simp at hD; omega) hK rfl rfl)⟩
  case stop =>
    rintro D c pre W _ _ h _
    exact h.elim

theorem collect_any (gf : Nat) (lb : Array Value) (eg : ∀ args w, (callFunc gf args).run Try.prog w = .ok (.enter gf args) w) (xs : List Txt) (hlen : xs.length ≤ 1000000) (w : World) (hseq : Gives gf lb w.heap.size xs w) :
    Calls Try.prog 92 #[.func (.func gf) #[] lb] w fun e W' => ∃ v, e = .returned v ∧ W'.ownsRow w.heap.size 9 1 v xs.length (xs.map encT) ∧ Below w.heap.size w W' := by
  have ha := callsIn_wide.1 (appendSeq_any gf lb eg xs hlen w hseq)
  clear hseq
  go_enter Try.func92, Try.ntmps92
  go_wp2_with fail
  refine ha.mono ?_
  rintro e w1 ⟨v, rfl, h1, h2⟩
  go_wp2
  go_ret
  exact ⟨_, rfl, h1, h2⟩

end Go.Proofs.Ytoiconebcmneiab

end

section
/- The contracts of the points of a tree, and of what asks for a number for each point. -/
namespace Go.Proofs.Ytoiconebcmneiab
open Go.RowKit

theorem txts_of {ps : List ByteArray} (h : ∀ x ∈ ps, x.size ≤ maxLen) : ∃ xs : List Txt, txts xs = ps := by
  induction ps with
  | nil => exact ⟨[], rfl⟩
  | cons x t ih =>
    obtain ⟨xs, hx⟩ := ih fun y hy => h y (by simp [hy])
    exact ⟨⟨x, h x (by simp)⟩ :: xs, by simp [txts] at *; exact hx⟩

theorem pts_small {l : List Rk} (hfits : ∀ r ∈ l, r.Fits) : ∀ (f : Nat) (s : ByteArray) (ps : List ByteArray), s.size ≤ maxLen → pts l f s = some ps → ∀ x ∈ ps, x.size ≤ maxLen := by
  intro f
  induction f with
  | zero =>
    intro s ps hs hp x hx
    unfold pts at hp
    cases hi : idxOf l s with
    | none => rw [hi] at hp; obtain rfl := Option.some.inj hp; simp at hx; rw [hx]; exact hs
    | some i => rw [hi] at hp; cases hp
  | succ f ih =>
    intro s ps hs hp x hx
    unfold pts at hp
    cases hi : idxOf l s with
    | none => rw [hi] at hp; obtain rfl := Option.some.inj hp; simp at hx; rw [hx]; exact hs
    | some i =>
      rw [hi] at hp
      simp only at hp
      cases hr : l[i]? with
      | none => rw [hr] at hp; cases hp
      | some r =>
        rw [hr] at hp
        simp only at hp
        have hfit := hfits r (List.mem_of_getElem? hr)
        cases ha : pts l f r.left with
        | none => rw [ha] at hp; cases hp
        | some a =>
          cases hb : pts l f r.right with
          | none => rw [ha, hb] at hp; cases hp
          | some b =>
            rw [ha, hb] at hp
            obtain rfl := Option.some.inj hp
            rcases List.mem_append.1 hx with hx | hx
            · exact ih _ _ hfit.left ha x hx
            · exact ih _ _ hfit.right hb x hx

theorem pts_len {l : List Rk} : ∀ (f : Nat) (s : ByteArray) (ps : List ByteArray), pts l f s = some ps → 1 ≤ ps.length ∧ ps.length ≤ 2 ^ f := by
  intro f
  induction f with
  | zero =>
    intro s ps hp
    unfold pts at hp
    cases hi : idxOf l s with
    | none => rw [hi] at hp; obtain rfl := Option.some.inj hp; simp
    | some i => rw [hi] at hp; cases hp
  | succ f ih =>
    intro s ps hp
    have h2 : 2 ^ (f + 1) = 2 ^ f + 2 ^ f := by rw [Nat.pow_succ]; omega
    have h1 : 1 ≤ 2 ^ f := Nat.one_le_two_pow
    unfold pts at hp
    cases hi : idxOf l s with
    | none => rw [hi] at hp; obtain rfl := Option.some.inj hp; simp; omega
    | some i =>
      rw [hi] at hp
      simp only at hp
      cases hr : l[i]? with
      | none => rw [hr] at hp; cases hp
      | some r =>
        rw [hr] at hp
        simp only at hp
        cases ha : pts l f r.left with
        | none => rw [ha] at hp; cases hp
        | some a =>
          cases hb : pts l f r.right with
          | none => rw [ha, hb] at hp; cases hp
          | some b =>
            rw [ha, hb] at hp
            obtain rfl := Option.some.inj hp
            have q1 := ih _ _ ha
            have q2 := ih _ _ hb
            rw [List.length_append]
            omega

theorem own_slice {w : World} {base : Nat} {e : TypeId} {size n : Nat} {v : Value} {xs : List Value} (h : w.ownsRow base e size v n xs) : ∃ A c, v = .slice A n c ∧ n ≤ c := by
  rcases h.2 with ⟨rfl, rfl⟩ | ⟨g, cap, cur, rfl, _, _, hc, _⟩
  · exact ⟨none, 0, rfl, Nat.le_refl _⟩
  · exact ⟨_, cap, rfl, hc⟩

theorem topName_get {l : List Rk} (htop : topOf l < l.length) : ∃ r, l[topOf l]? = some r ∧ topName l = r.name := by
  refine ⟨l[topOf l], List.getElem?_eq_getElem htop, ?_⟩
  unfold topName
  rw [List.getElem?_eq_getElem htop]
  rfl

set_option maxRecDepth 100000 in
set_option maxHeartbeats 4000000 in
theorem points_any (l : List Rk) (hfits : ∀ r ∈ l, r.Fits) (A : Option Addr) (n c tb mb : Nat) (w : World) (hn : n ≤ 1000000) (hT : TreeAt l A n c tb mb (topOf l : Int) w.heap.size w) (htop : topOf l < l.length) (ps : List ByteArray) (hp : ptsOf l = some ps) (hps : ps.length ≤ 1000000) :
    Calls Try.prog 67 #[.pointer (some ⟨tb, 0, none⟩)] w fun e w' => Below w.heap.size w w' ∧ ∃ A' c', e = .returned (.slice A' ps.length c') ∧ w'.ownsRow w.heap.size 9 1 (.slice A' ps.length c') ps.length (strs ps) := by
  obtain ⟨r, hr, hnm⟩ := topName_get htop
  have hfit := hfits r (List.mem_of_getElem? hr)
  unfold ptsOf at hp
  rw [hnm] at hp
  obtain ⟨xs, hxs⟩ := txts_of (pts_small hfits _ _ _ hfit.name hp)
  subst hxs
  have hln := hT.reads.len5
  obtain ⟨T, hTT⟩ : ∃ T, topOf l = T := ⟨_, rfl⟩
  rw [hTT] at hT htop hr
  have htn : T < n := by omega
  obtain ⟨xb, xo, r', rfl, hxb, hr', c0, -, -, -, -⟩ := hT.reads.rk htn
  obtain rfl := Option.some.inj (hr'.symm.trans hr)
  have t0 : w.cell? ⟨tb, 0, none⟩ = some (.slice (some ⟨xb, xo, none⟩) n c) := hT.tree.cell 0
  have t2 : w.cell? ⟨tb, 2, none⟩ = some (.int .i64 (T : Int)) := hT.tree.cell 2
  have htb := hT.tlt
  have hlen : (txts xs).length = xs.length := by simp [txts]
  have hstr : strs (txts xs) = xs.map encT := by simp [strs, txts, encT, Function.comp_def]
  have HC : ∀ w', w' = ((w.drewN 1).alloc (.cells #[.pointer (some ⟨tb, 0, none⟩)] 91)).alloc (.cells #[.string r'.name] 9) →
      Calls Try.prog 92 #[.func (.func 104) #[] #[.pointer (some ⟨w.heap.size, 0, none⟩), .pointer (some ⟨w.heap.size + 1, 0, none⟩)]] w' fun e W' =>
        ∃ x : Option Addr × Nat, e = .returned (.slice x.1 (txts xs).length x.2) ∧ Below w.heap.size w W' ∧ W'.ownsRow w.heap.size 9 1 (.slice x.1 (txts xs).length x.2) (txts xs).length (strs (txts xs)) := by
    have hz : (w.drewN 1).heap.size = w.heap.size := rfl
    rintro w' rfl
    have hb : Below w.heap.size w (((w.drewN 1).alloc (.cells #[.pointer (some ⟨tb, 0, none⟩)] 91)).alloc (.cells #[.string r'.name] 9)) :=
      (Below.alloc (below_drewN (Below.refl _ _) 1) (by simp [hz]) _).alloc (by simp [hz]) _
    have k1 : Blk ((w.drewN 1).alloc (.cells #[.pointer (some ⟨tb, 0, none⟩)] 91)) w.heap.size 91 #[.pointer (some ⟨tb, 0, none⟩)] := Blk.at_ _ rfl _ _
    have k2 : Blk (((w.drewN 1).alloc (.cells #[.pointer (some ⟨tb, 0, none⟩)] 91)).alloc (.cells #[.string r'.name] 9)) (w.heap.size + 1) 9 #[.string r'.name] := Blk.at_ _ (by simp [hz]) _ _
    have hg : ∀ m, SeqStopsK Fence.wide m Try.prog _ _ _ _ _ _ _ _ := fun m => below_stops l hfits _ n c tb mb (T : Int) _ hn w.heap.size (w.heap.size + 1) l.length r'.name xs hfit.name hp m _
      (by simp [hz]; omega) (by simp [hz]) (Nat.le_refl _) ((k1.alloc _).cell 0) (k2.cell 0) ((hT.below hb).more hb.size)
    refine (collect_any 104 _ (enters_of Try.func104 (by kernel_rfl) rfl) xs (by omega) _ hg).mono ?_
    rintro e W' ⟨v, rfl, ho, hB⟩
    rw [← hlen, ← hstr] at ho
    obtain ⟨A', c', rfl, -⟩ := own_slice ho
    exact ⟨(A', c'), rfl, hb.trans (hB.mono hb.size), own_base hb.size ho⟩
  have HCC := Lib.hid HC
  clear HC hT hp hstr
  go_enter Try.func67, Try.ntmps67
  go_wp2
  have hPOST : (∀ (g : Option (Option Addr × Nat)) (f : Nat → Bool) (w' : World) (e : Ending) (w'' : World), (Below w.heap.size w w' ∧ (f 12 = false → w' = w.drewN 1) ∧ (f 12 = true → f 13 = false → w' = ((w.drewN 1).alloc (.cells #[.pointer (some ⟨tb, 0, none⟩)] 91)).alloc (.cells #[.string r'.name] 9)) ∧ (∀ x, g = some x → w'.ownsRow w.heap.size 9 1 (.slice x.1 (txts xs).length x.2) (txts xs).length (strs (txts xs)))) →
      f 12 = false → e = .returned (.func (.func 104) #[] #[.pointer (some ⟨w'.heap.size, 0, none⟩), .pointer (some ⟨w'.heap.size + 1, 0, none⟩)]) → w'' = (w'.alloc (.cells #[.pointer (some ⟨tb, 0, none⟩)] 91)).alloc (.cells #[.string r'.name] 9) →
      e = .returned (.func (.func 104) #[] #[.pointer (some ⟨w.heap.size, 0, none⟩), .pointer (some ⟨w.heap.size + 1, 0, none⟩)]) ∧ (Below w.heap.size w w'' ∧ (Fx.add f 12 12 = false → w'' = w.drewN 1) ∧ (Fx.add f 12 12 = true → Fx.add f 12 13 = false → w'' = ((w.drewN 1).alloc (.cells #[.pointer (some ⟨tb, 0, none⟩)] 91)).alloc (.cells #[.string r'.name] 9)) ∧ (∀ x, g = some x → w''.ownsRow w.heap.size 9 1 (.slice x.1 (txts xs).length x.2) (txts xs).length (strs (txts xs))))) := by
    rintro g f w' e w'' ⟨hb, h1, h2, h3⟩ hf he hw
    obtain rfl := h1 hf
    subst hw
    refine ⟨he, ?_, fun h => by simp [Fx.add] at h, fun _ _ => rfl, fun x hx => ((h3 x hx).alloc _).alloc _⟩
    exact (Below.alloc hb hb.size _).alloc (by have := hb.size; first | (simp; done) | (simp; omega)) _
  have HPOST := Lib.hid hPOST
  clear hPOST hlen
  refine Fx.regionG (fun _ g f w' => Below w.heap.size w w' ∧ (f 12 = false → w' = w.drewN 1) ∧ (f 12 = true → f 13 = false → w' = ((w.drewN 1).alloc (.cells #[.pointer (some ⟨tb, 0, none⟩)] 91)).alloc (.cells #[.string r'.name] 9)) ∧ (∀ x, g = some x → w'.ownsRow w.heap.size 9 1 (.slice x.1 (txts xs).length x.2) (txts xs).length (strs (txts xs)))) (fun x : Option Addr × Nat => .slice x.1 (txts xs).length x.2) 13 (by kernel_rfl) (by kernel_rfl) (by kernel_rfl) ?_ ?_
  · intro f hf0
    exact ⟨below_drewN (Below.refl _ _) 1, fun _ => rfl, fun h => (by rw [hf0 12] at h; cases h), fun x h => by cases h⟩
  repeat (first
    | (refine Fx.skipE_ (by rfl) (fun g f w h => h) ?_; simp only [Act.put, List.setIfInBounds_toArray, List.set_cons_zero, List.set_cons_succ])
    | (refine Fx.valE_ ?_ (by rfl) ?_ (fun g f w h => h) ?_
       rotate_left
       · intro g f w' hD hk
         obtain ⟨hb, h1, h2, h3⟩ := id hD
         have y0 := (hb.cell (p := ⟨tb, 0, none⟩) htb).trans t0
         have y2 := (hb.cell (p := ⟨tb, 2, none⟩) htb).trans t2
         have yx := (hb.cell (p := ⟨xb, xo + T * 5, none⟩) (by assumption)).trans c0
         clear hk hD hb h1 h2 h3
         go_simp
         try rfl
       simp only [Act.put, List.setIfInBounds_toArray, List.set_cons_zero, List.set_cons_succ]))
  refine Fx.callvE_ (.func (.func 104) #[] #[.pointer (some ⟨w.heap.size, 0, none⟩), .pointer (some ⟨w.heap.size + 1, 0, none⟩)]) ?_ ?_ (by rfl) ?_ ?_ ?_
  rotate_left 2
  · intro w'
    go_simp
    refine ⟨?_, ?_⟩ <;> rfl
  · intro g f w' hD hk
    exact (below_any (some ⟨tb, 0, none⟩) r'.name w').mono fun e w'' ⟨he, hw⟩ => HPOST.out g f w' e w'' hD hk.1 he hw
  simp only [Act.put, List.setIfInBounds_toArray, List.set_cons_zero, List.set_cons_succ]
  repeat (first
    | (refine Fx.skipE_ (by rfl) (fun g f w h => h) ?_; simp only [Act.put, List.setIfInBounds_toArray, List.set_cons_zero, List.set_cons_succ])
    | (refine Fx.valE_ ?_ (by rfl) ?_ (fun g f w h => h) ?_
       rotate_left
       · intro g f w' hD hk
         obtain ⟨hb, h1, h2, h3⟩ := id hD
         have y0 := (hb.cell (p := ⟨tb, 0, none⟩) htb).trans t0
         have y2 := (hb.cell (p := ⟨tb, 2, none⟩) htb).trans t2
         have yx := (hb.cell (p := ⟨xb, xo + T * 5, none⟩) (by assumption)).trans c0
         clear hk hD hb h1 h2 h3
         go_simp
         try rfl
       simp only [Act.put, List.setIfInBounds_toArray, List.set_cons_zero, List.set_cons_succ]))
  refine Fx.callE_ ?_ ?_ (by rfl) (by rfl) ?_ ?_ ?_
  rotate_left 2
  · intro w'
    go_simp
    refine ⟨?_, ?_⟩ <;> rfl
  · intro f w' hD hk
    exact (HCC.out w' (hD.2.2.1 (hk.2.2.1 12 (by kernel_rfl)) hk.1)).mono fun e w'' ⟨x, he, h1, h2⟩ => ⟨x, he, h1, fun h => (by simp [Fx.add] at h; exact absurd (hk.2.2.1 12 (by kernel_rfl)) (by simp [h])), fun _ h => (by simp [Fx.add] at h), fun y hy => by cases hy; exact h2⟩
  intro x
  simp only [Act.put, List.setIfInBounds_toArray, List.set_cons_zero, List.set_cons_succ]
  repeat (first
    | (refine Fx.skip_ (by rfl) (fun f w h => h) ?_; simp only [Act.put, List.setIfInBounds_toArray, List.set_cons_zero, List.set_cons_succ])
    | (refine Fx.val_ ?_ (by rfl) ?_ (fun f w h => h) ?_
       rotate_left
       · intro f w' hD hk
         obtain ⟨hb, h1, h2, h3⟩ := id hD
         have y0 := (hb.cell (p := ⟨tb, 0, none⟩) htb).trans t0
         have y2 := (hb.cell (p := ⟨tb, 2, none⟩) htb).trans t2
         have yx := (hb.cell (p := ⟨xb, xo + T * 5, none⟩) (by assumption)).trans c0
         clear hk hD hb h1 h2 h3
         go_simp
         try rfl
       simp only [Act.put, List.setIfInBounds_toArray, List.set_cons_zero, List.set_cons_succ]))
  refine Fx.nil_ ?_
  intro f w1 hall hD
  obtain ⟨hb, h1, h2, h3⟩ := hD
  try clear hall
  have ho := h3 x rfl
  clear h1 h2 h3
  go_wp2
  go_ret
  exact ⟨hb, x.1, x.2, rfl, ho⟩

theorem TreeAt.of {l : List Rk} {A : Option Addr} {n c N tb mb : Nat} {top : Int} {w : World} (hx : Reads w N 5 A n (rkCells l)) (hN : N ≤ w.heap.size) (ht : Blk w tb 131 #[.slice A n c, .map (some mb), .int .i64 top]) (hm : MapIs Try.prog 9 w mb n (idxM l)) :
    TreeAt l A n c tb mb top w.heap.size w := ⟨hx.more hN, ht, ht.lt, hm, hm.lt⟩

def PointsPost (l : List Rk) (base : Nat) (w : World) (e : Ending) (w' : World) : Prop :=
  Below w.heap.size w w' ∧ (openErr l ≠ 0 → e = .returned (.tuple #[.slice none 0 0, .int .i64 (openErr l)])) ∧
  (openErr l = 0 → ∀ ps, ptsOf l = some ps → ∃ A c, e = .returned (.tuple #[.slice A ps.length c, .int .i64 0]) ∧ w'.ownsRow base 9 1 (.slice A ps.length c) ps.length (strs ps))




end Go.Proofs.Ytoiconebcmneiab

end

section
/- The plain law of shares: the points of a tree are different from each other. -/
namespace Go.Proofs.Ytoiconebcmneiab
open Go.RowKit

theorem pts_up {l : List Rk} (hn : (borneAll l).Nodup) : ∀ (f : Nat) (s : ByteArray) (ps : List ByteArray), pts l f s = some ps → ∀ x ∈ ps, ∃ d, upN l d x = some s := by
  intro f
  induction f with
  | zero =>
    intro s ps hp x hx
    unfold pts at hp
    cases hi : idxOf l s with
    | none => rw [hi] at hp; obtain rfl := Option.some.inj hp; simp at hx; exact ⟨0, by rw [hx]; rfl⟩
    | some i => rw [hi] at hp; cases hp
  | succ f ih =>
    intro s ps hp x hx
    unfold pts at hp
    cases hi : idxOf l s with
    | none => rw [hi] at hp; obtain rfl := Option.some.inj hp; simp at hx; exact ⟨0, by rw [hx]; rfl⟩
    | some i =>
      obtain ⟨r0, hr0, hs0⟩ := idx_get hi
      rw [hi] at hp
      simp only at hp
      cases hr : l[i]? with
      | none => rw [hr] at hp; cases hp
      | some r =>
        rw [hr] at hp
        simp only at hp
        obtain rfl := Option.some.inj (hr0.symm.trans hr)
        cases ha : pts l f r0.left with
        | none => rw [ha] at hp; cases hp
        | some a =>
          cases hb : pts l f r0.right with
          | none => rw [ha, hb] at hp; cases hp
          | some b =>
            rw [ha, hb] at hp
            obtain rfl := Option.some.inj hp
            rcases List.mem_append.1 hx with hx | hx
            · obtain ⟨d, hd⟩ := ih _ _ ha x hx
              refine ⟨d + 1, ?_⟩
              show (upN l d x).bind (upOf l) = _
              rw [hd, ← hs0]
              exact up_of_child hn hr (.inl rfl)
            · obtain ⟨d, hd⟩ := ih _ _ hb x hx
              refine ⟨d + 1, ?_⟩
              show (upN l d x).bind (upOf l) = _
              rw [hd, ← hs0]
              exact up_of_child hn hr (.inr rfl)

theorem borne_ne {l : List Rk} (hn : (borneAll l).Nodup) {i : Nat} {r : Rk} (hr : l[i]? = some r) : r.left ≠ r.right := by
  intro e
  induction l generalizing i with
  | nil => simp at hr
  | cons x l ih =>
    have e2 : borneAll (x :: l) = [x.left, x.right] ++ borneAll l := rfl
    rw [e2, List.nodup_append] at hn
    cases i with
    | zero => simp at hr; subst hr; have := hn.1; simp at this; exact this e
    | succ i => exact ih hn.2.1 (by simpa using hr)

theorem pts_nodup {l : List Rk} (hn : (borneAll l).Nodup) (hc : l.any (fun r => climbs l (l.length + 1) r.name) = false) : ∀ (f : Nat) (s : ByteArray) (ps : List ByteArray), pts l f s = some ps → ps.Nodup := by
  intro f
  induction f with
  | zero =>
    intro s ps hp
    unfold pts at hp
    cases hi : idxOf l s with
    | none => rw [hi] at hp; obtain rfl := Option.some.inj hp; simp
    | some i => rw [hi] at hp; cases hp
  | succ f ih =>
    intro s ps hp
    unfold pts at hp
    cases hi : idxOf l s with
    | none => rw [hi] at hp; obtain rfl := Option.some.inj hp; simp
    | some i =>
      rw [hi] at hp
      simp only at hp
      cases hr : l[i]? with
      | none => rw [hr] at hp; cases hp
      | some r =>
        rw [hr] at hp
        simp only at hp
        cases ha : pts l f r.left with
        | none => rw [ha] at hp; cases hp
        | some a =>
          cases hb : pts l f r.right with
          | none => rw [ha, hb] at hp; cases hp
          | some b =>
            rw [ha, hb] at hp
            obtain rfl := Option.some.inj hp
            refine List.nodup_append.2 ⟨ih _ _ ha, ih _ _ hb, fun x hx y hy => ?_⟩
            rintro rfl
            have hu1 : upN l 1 r.left = some r.name := up_of_child hn hr (.inl rfl)
            have hu2 : upN l 1 r.right = some r.name := up_of_child hn hr (.inr rfl)
            have hno : ∀ k, upN l (k + 1) r.name ≠ some r.name := fun k hk => by
              have := circ_yes (List.mem_of_getElem? hr) ⟨k + 1, by omega, Nat.le_refl _, hk⟩
              rw [hc] at this
              cases this
            -- from one side up to the other: round
            have key : ∀ (p q : ByteArray) (d1 k : Nat), upN l d1 x = some p → upN l (d1 + k) x = some q → upN l 1 p = some r.name → upN l 1 q = some r.name → p ≠ q → False := by
              intro p q d1 k h1 h2 u1 u2 hne
              rw [upN_add l d1 k x p h1] at h2
              cases k with
              | zero => exact hne (Option.some.inj h2)
              | succ k =>
                rw [show k + 1 = 1 + k by omega, upN_add l 1 k p _ u1] at h2
                refine hno k ?_
                rw [upN_add l k 1 _ q h2]
                exact u2
            obtain ⟨d1, h1⟩ := pts_up hn _ _ _ ha x hx
            obtain ⟨d2, h2⟩ := pts_up hn _ _ _ hb x hy
            have hne := borne_ne hn hr
            rcases Nat.le_total d1 d2 with h | h
            · exact key _ _ d1 (d2 - d1) h1 (by rw [show d1 + (d2 - d1) = d2 by omega]; exact h2) hu1 hu2 hne
            · exact key _ _ d2 (d1 - d2) h2 (by rw [show d2 + (d1 - d2) = d1 by omega]; exact h1) hu2 hu1 (Ne.symm hne)

theorem points_nodup {l : List Rk} (h : openErr l = 0) {ps : List ByteArray} (hp : ptsOf l = some ps) : ps.Nodup := by
  obtain ⟨-, -, -, hn, hc, -⟩ := open_zero h
  exact pts_nodup hn hc _ _ _ hp

theorem cells2_set (l : List (Int × Int)) : ∀ (i : Nat) (a b : Int), ((cells2 l).set (i * 2) (.int .i64 a)).set (i * 2 + 1) (.int .i64 b) = cells2 (l.set i (a, b)) := by
  induction l with
  | nil => intro i a b; simp [cells2]
  | cons p l ih =>
    intro i a b
    have e : cells2 (p :: l) = .int .i64 p.1 :: .int .i64 p.2 :: cells2 l := rfl
    cases i with
    | zero => rfl
    | succ i =>
      rw [e, show (i + 1) * 2 = i * 2 + 1 + 1 by omega]
      simp only [List.set_cons_succ]
      rw [ih]
      rfl

theorem set_mid {α : Type} (o1 om o2 : List α) (x : α) (h : om.length = 1) : (o1 ++ om ++ o2).set o1.length x = o1 ++ [x] ++ o2 := by
  match om, h with
  | [y], _ => rw [List.append_assoc, List.set_append_right _ _ (Nat.le_refl _), Nat.sub_self]; simp

/-- A list cut in three. -/
theorem cut3 {α : Type} (zs : List α) (a b : Nat) : zs = zs.take a ++ (zs.drop a).take b ++ zs.drop (a + b) := by
  rw [List.append_assoc, ← List.drop_drop, List.take_append_drop, List.take_append_drop]

end Go.Proofs.Ytoiconebcmneiab

end
