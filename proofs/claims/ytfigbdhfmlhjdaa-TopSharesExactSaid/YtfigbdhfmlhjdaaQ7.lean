import Derived.Test.YtfigbdhfmlhjdaaQ6
import Derived.RangeFuncNested
import Derived.RangeFuncBound
import Derived.RangeFuncCalls
import Derived.RangeFuncLeaves
import Derived.RangeFuncBox
import Derived.Shelf.Abstract
import Derived.Shelf.RegionOpen
import Derived.WalkKit
import Derived.OwnWalkIn
import Derived.TacticsInMore
import Derived.LoopNIn
import Derived.LoopIn
import Derived.Maps.OwnIn
import Derived.Maps.AppendAt

section
/- The plain law of trees: a tree whose ways up all end has just one top; a way up that does not end comes back. -/
namespace Go.Proofs.Ytfigbdhfmlhjdaa
open Go.RowKit

/-- So many steps up. -/
def upN (l : List Rk) : Nat → ByteArray → Option ByteArray
  | 0, s => some s
  | k + 1, s => (upN l k s).bind (upOf l)

theorem upN_add (l : List Rk) (i : Nat) : ∀ (j : Nat) (s t : ByteArray), upN l i s = some t → upN l (i + j) s = upN l j t
  | 0, s, t, h => h
  | j + 1, s, t, h => by
    show (upN l (i + j) s).bind (upOf l) = (upN l j t).bind (upOf l)
    rw [upN_add l i j s t h]

theorem upN_less {l : List Rk} {s : ByteArray} : ∀ {j : Nat} (i : Nat), upN l (i + j) s ≠ none → upN l i s ≠ none
  | 0, i, h => h
  | j + 1, i, h => upN_less (j := j) i fun e => h (by show (upN l (i + j) s).bind _ = none; rw [e]; rfl)

/-- A thing comes back to itself within so many steps up. -/
def Circ (l : List Rk) (s : ByteArray) (k : Nat) : Prop := ∃ j, 1 ≤ j ∧ j ≤ k ∧ upN l j s = some s

theorem climbs_upN {l : List Rk} : ∀ (f : Nat) (s : ByteArray), climbs l f s = true → upN l (f + 1) s ≠ none
  | 0, s, h => by
    intro e
    cases hb : bearerOf l s with
    | none => simp [climbs, hb] at h
    | some i =>
      obtain ⟨r, hr, -⟩ := bearer_get hb
      have : upN l 1 s = some r.name := by show upOf l s = _; unfold upOf; rw [hb]; simp [hr]
      rw [this] at e
      cases e
  | f + 1, s, h => by
    cases hb : bearerOf l s with
    | none => simp [climbs, hb] at h
    | some i =>
      obtain ⟨r, hr, -⟩ := bearer_get hb
      have hu : upN l 1 s = some r.name := by show upOf l s = _; unfold upOf; rw [hb]; simp [hr]
      have h' : climbs l f r.name = true := by simpa [climbs, hb, hr] using h
      rw [show f + 1 + 1 = 1 + (f + 1) by omega, upN_add l 1 (f + 1) s r.name hu]
      exact climbs_upN f r.name h'

theorem upOf_rk {l : List Rk} {s t : ByteArray} (h : upOf l s = some t) : ∃ r ∈ l, r.name = t := by
  unfold upOf at h
  cases hb : bearerOf l s with
  | none => rw [hb] at h; cases h
  | some i =>
    rw [hb] at h
    simp only [Option.bind_some] at h
    cases hr : l[i]? with
    | none => rw [hr] at h; cases h
    | some r => rw [hr] at h; exact ⟨r, List.mem_of_getElem? hr, Option.some.inj h⟩

theorem upN_rk {l : List Rk} {s : ByteArray} (hs : ∃ r ∈ l, r.name = s) : ∀ {k : Nat} {t : ByteArray}, upN l k s = some t → ∃ r ∈ l, r.name = t
  | 0, t, h => by obtain rfl := Option.some.inj h; exact hs
  | k + 1, t, h => by
    have h' : (upN l k s).bind (upOf l) = some t := h
    cases hk : upN l k s with
    | none => rw [hk] at h'; cases h'
    | some u => rw [hk] at h'; exact upOf_rk h'

/-- Who climbs for long is above a circle. -/
theorem circ_of_climbs {l : List Rk} {r : Rk} (hr : r ∈ l) (h : climbs l (l.length + 1) r.name = true) : ∃ x ∈ l, Circ l x.name (l.length + 1) := by
  have hn := climbs_upN _ _ h
  have hall : ∀ k, k ≤ l.length → ∃ t, upN l k r.name = some t := fun k hk => by
    cases hx : upN l k r.name with
    | some t => exact ⟨t, rfl⟩
    | none => exact absurd hx (upN_less (j := l.length + 1 + 1 - k) k (by rw [show k + (l.length + 1 + 1 - k) = l.length + 1 + 1 by omega]; exact hn))
  let p : List ByteArray := (List.range (l.length + 1)).map fun k => (upN l k r.name).getD r.name
  have hp : p.length = l.length + 1 := by simp [p]
  have hget : ∀ k t, k ≤ l.length → upN l k r.name = some t → p[k]? = some t := fun k t hk ht => by
    simp only [p]
    rw [List.getElem?_map, List.getElem?_range (by omega)]
    simp [ht]
  have hdup : ¬ p.Nodup := fun hd => by
    have := nodup_le (q := l.map (·.name)) hd fun x hx => by
      obtain ⟨k, hk⟩ := List.getElem?_of_mem hx
      have hkl : k < p.length := (List.getElem?_eq_some_iff.1 hk).1
      obtain ⟨t, ht⟩ := hall k (by omega)
      rw [hget k t (by omega) ht] at hk
      obtain rfl := Option.some.inj hk
      obtain ⟨y, hy, e⟩ := upN_rk ⟨r, hr, rfl⟩ ht
      exact List.mem_map.2 ⟨y, hy, e⟩
    rw [hp, List.length_map] at this
    omega
  have hex : ∃ i j : Nat, ∃ x, i < j ∧ j ≤ l.length ∧ p[i]? = some x ∧ p[j]? = some x := by
    refine Classical.byContradiction fun hno => hdup ?_
    refine List.pairwise_iff_getElem.2 fun i j hi hj hij e => hno ⟨i, j, p[i], hij, by omega, List.getElem?_eq_getElem hi, ?_⟩
    rw [List.getElem?_eq_getElem hj, e]
  obtain ⟨i, j, x, hij, hjl, hi, hj⟩ := hex
  obtain ⟨a, ha⟩ := hall i (by omega)
  obtain ⟨b, hb⟩ := hall j hjl
  rw [hget i a (by omega) ha] at hi
  rw [hget j b hjl hb] at hj
  obtain rfl := Option.some.inj hi
  obtain rfl := Option.some.inj hj
  obtain ⟨y, hy, rfl⟩ := upN_rk ⟨r, hr, rfl⟩ ha
  refine ⟨y, hy, j - i, by omega, by omega, ?_⟩
  rw [← hb, show j = i + (j - i) by omega, upN_add l i (j - i) _ _ ha]
  congr 1
  omega

theorem climbs_of_circ {l : List Rk} {s : ByteArray} {k : Nat} (h : Circ l s k) (f : Nat) : climbs l f s = true := by
  obtain ⟨j, h1, -, hj⟩ := h
  have hper : ∀ m, ∃ t, upN l m s = some t := fun m => by
    have hmul : ∀ q, upN l (j * q) s = some s := fun q => by
      induction q with
      | zero => rfl
      | succ q ih => rw [Nat.mul_succ, upN_add l (j * q) j s s ih]; exact hj
    have hle : m ≤ j * m := Nat.le_mul_of_pos_left m (by omega)
    cases hx : upN l m s with
    | some t => exact ⟨t, rfl⟩
    | none => exact absurd hx (upN_less (j := j * m - m) m (by rw [show m + (j * m - m) = j * m by omega, hmul]; exact fun e => by cases e))
  refine climbs_circle (fun u => ∃ m, upN l m s = some u) (fun u ⟨m, hm⟩ => ?_) f s ⟨0, rfl⟩
  obtain ⟨t, ht⟩ := hper (m + 1)
  refine ⟨t, ?_, m + 1, ht⟩
  have : (upN l m s).bind (upOf l) = some t := ht
  rw [hm] at this
  exact this

theorem circ_no {l : List Rk} (h : ∀ r ∈ l, ¬ Circ l r.name (l.length + 1)) : l.any (fun r => climbs l (l.length + 1) r.name) = false := by
  rw [List.any_eq_false]
  intro r hr hc
  obtain ⟨x, hx, hci⟩ := circ_of_climbs hr hc
  exact h x hx hci
theorem circ_yes {l : List Rk} {r : Rk} {k : Nat} (hr : r ∈ l) (h : Circ l r.name k) : l.any (fun r => climbs l (l.length + 1) r.name) = true :=
  List.any_eq_true.2 ⟨r, hr, climbs_of_circ h _⟩

theorem Circ.more {l : List Rk} {s : ByteArray} {k : Nat} (hn : ¬ Circ l s k) {t : ByteArray} (hu : upN l (k + 1) s = some t) (ht : t ≠ s) : ¬ Circ l s (k + 1) := by
  rintro ⟨j, h1, h2, h3⟩
  rcases Nat.lt_or_ge k j with h | h
  · obtain rfl : j = k + 1 := by omega
    rw [hu] at h3
    exact ht (Option.some.inj h3)
  · exact hn ⟨j, h1, h, h3⟩
theorem Circ.ended {l : List Rk} {s : ByteArray} {k : Nat} (hn : ¬ Circ l s k) (hu : upN l (k + 1) s = none) (m : Nat) : ¬ Circ l s m := by
  rintro ⟨j, h1, h2, h3⟩
  rcases Nat.lt_or_ge k j with h | h
  · exact upN_less (l := l) (s := s) (j := j - (k + 1)) (k + 1) (by rw [show k + 1 + (j - (k + 1)) = j by omega, h3]; exact fun e => by cases e) hu
  · exact hn ⟨j, h1, h, h3⟩
theorem circ_zero (l : List Rk) (s : ByteArray) : ¬ Circ l s 0 := by
  rintro ⟨j, h1, h2, -⟩
  omega

theorem bearer_mem {l : List Rk} {s : ByteArray} : (bearerOf l s).isNone = !hasB (borneAll l) s := by
  cases hb : bearerOf l s with
  | none =>
    have := List.findIdx?_eq_none_iff.1 hb
    have hn : s ∉ borneAll l := fun hm => by
      unfold borneAll at hm
      rw [List.mem_flatMap] at hm
      obtain ⟨r, hr, hs⟩ := hm
      have := this r hr
      simp at this hs
      rcases hs with e | e
      · exact this.1 e.symm
      · exact this.2 e.symm
    simp [hasB_false.2 hn]
  | some i =>
    obtain ⟨r, hr, hs⟩ := bearer_get hb
    have hm : s ∈ borneAll l := by
      unfold borneAll
      rw [List.mem_flatMap]
      refine ⟨r, List.mem_of_getElem? hr, ?_⟩
      rcases hs with rfl | rfl <;> simp
    simp [hasB_true.2 hm]

theorem isTop_mem {l : List Rk} {i : Nat} {r : Rk} (h : l[i]? = some r) : isTop l i = !hasB (borneAll l) r.name := by
  unfold isTop
  rw [h]
  exact bearer_mem

theorem top_exists {l : List Rk} : ∀ (f : Nat) (i : Nat) (r : Rk), l[i]? = some r → climbs l f r.name = false → ∃ k, k < l.length ∧ isTop l k = true
  | 0, i, r, hr, h => by
    refine ⟨i, (List.getElem?_eq_some_iff.1 hr).1, ?_⟩
    unfold isTop
    rw [hr]
    cases hb : bearerOf l r.name with
    | none => simp [hb]
    | some j => simp [climbs, hb] at h
  | f + 1, i, r, hr, h => by
    cases hb : bearerOf l r.name with
    | none =>
      refine ⟨i, (List.getElem?_eq_some_iff.1 hr).1, ?_⟩
      unfold isTop
      rw [hr]
      simp [hb]
    | some j =>
      obtain ⟨r', hr', -⟩ := bearer_get hb
      exact top_exists f j r' hr' (by simpa [climbs, hb, hr'] using h)

theorem tops_one {l : List Rk} (h : openErr l = 0) : ∃ k, k < l.length ∧ isTop l k = true ∧ topOf l = k ∧ ∀ j, j < l.length → isTop l j = true → j = k := by
  obtain ⟨h0, h1, h2, hn, h4, h5⟩ := open_zero h
  have hx : ∃ r, l[0]? = some r := ⟨l[0]'(by omega), List.getElem?_eq_getElem (by omega)⟩
  obtain ⟨r, hr⟩ := hx
  have hc : climbs l (l.length + 1) r.name = false := by simpa using List.any_eq_false.1 h4 r (List.mem_of_getElem? hr)
  obtain ⟨k, hk, hT⟩ := top_exists _ _ _ hr hc
  have mem : ∀ j, j < l.length → isTop l j = true → j ∈ topsOf l := fun j hj hjT => by
    unfold topsOf topsTo
    exact List.mem_filter.2 ⟨List.mem_range.2 hj, hjT⟩
  have hk' := mem k hk hT
  obtain ⟨x, hx⟩ : ∃ x, topsOf l = [x] := by
    match ht : topsOf l with
    | [] => rw [ht] at hk'; cases hk'
    | [x] => exact ⟨x, rfl⟩
    | x :: y :: t => rw [ht] at h5; simp at h5
  rw [hx] at hk'
  have hkx : k = x := by simpa using hk'
  subst hkx
  refine ⟨k, hk, hT, by unfold topOf; rw [hx]; rfl, fun j hj hjT => ?_⟩
  have := mem j hj hjT
  rw [hx] at this
  simpa using this

end Go.Proofs.Ytfigbdhfmlhjdaa

end

section
/- The contracts of the iterator over the points below a thing. -/
namespace Go.Proofs.Ytfigbdhfmlhjdaa
open Go.RowKit Go.Shelf Go.Maps

attribute [local go_sem] Oper.semAt_some

section
variable {F : Fence} {nF : Nat} {P : Program} {k t e : TypeId} {b n : Nat} {M : ByteArray → Option Value} {ops : Array Oper} {rest : List Oper} {o : Oper} {a : Act} {Q : Exit → Act → World → Prop}
theorem wpListIn_look (w : World) (hg : o.guard = none) (m x : Operand) (t : TypeId) (hop : o.op = Op.lookup t m x true) (hk : P.underlying k = some .string) (ht : P.underlying t = some (.map k e)) {z : Value} (hz : (zeroValue e).run P w = .ok z w)
    (hM : MapIs P k w b n M) (hm : a.eval m = .map (some b)) (s : ByteArray) (hx : a.eval x = .string s) (hs : s.size ≤ maxLen)
    (hK : wpListIn F nF P ops Q rest (a.put o.dst (.tuple #[(M s).getD z, .bool (M s).isSome])) w) : wpListIn F nF P ops Q (o :: rest) a w := by
  refine wpListIn_plain hg fun K' hK' => ?_
  have hrun := hM.look hk ht hz s hs
  unfold Oper.wpIn
  refine ⟨by simp [Oper.about, hop], ?_⟩
  rw [Oper.semAt_plain F _ _ (by rw [hop]; intro c hc'; cases hc')]
  simp [execOp, hop, hm, hx, hrun, Result.andThen]
  exact hK' _ _ hK

end

theorem RoundIn.anyD {F : Fence} (hd : F.depth = none) {m m' : Nat} {P : Program} {l : Nat} {f : FuncId} {tmps : Array Value} {assign body : Code} {w : World} {R : Ending → World → Prop}
    (h : RoundIn F m P l f tmps assign body w R) : RoundIn F m' P l f tmps assign body w R := ⟨h.1, fun c cs _ => h.2 c cs (fun d h => by rw [hd] at h; cases h)⟩
theorem YieldAt.anyD {F : Fence} (hd : F.depth = none) {m : Nat} (m' : Nat) {P : Program} {l : Nat} {args : Array Value} {W : World} {R : Ending → World → Prop} (h : YieldAt F m P l args W R) : YieldAt F m' P l args W R := by
  obtain ⟨fn, tmps, assign, body, hy, hR⟩ := h
  exact ⟨fn, tmps, assign, body, hy, RoundIn.anyD hd hR⟩

/-- A text that is not too long. -/
abbrev Txt := { s : ByteArray // s.size ≤ maxLen }
def txts (xs : List Txt) : List ByteArray := xs.map (·.1)

/-- A tree lies in blocks below n₀. -/
structure TreeAt (l : List Rk) (A : Option Addr) (n c tb mb : Nat) (top : Int) (n₀ : Nat) (w : World) : Prop where
  reads : Reads w n₀ 5 A n (rkCells l)
  tree : Blk w tb 100 #[.slice A n c, .map (some mb), .int .i64 top]
  tlt : tb < n₀
  map : MapIs Try.prog 9 w mb n (idxM l)
  mlt : mb < n₀

theorem TreeAt.below {l : List Rk} {A : Option Addr} {n c tb mb : Nat} {top : Int} {n₀ : Nat} {w w' : World} (h : TreeAt l A n c tb mb top n₀ w) (hb : Below n₀ w w') : TreeAt l A n c tb mb top n₀ w' :=
  ⟨h.reads.below hb, h.tree.below hb h.tlt, h.tlt, h.map.below hb h.mlt, h.mlt⟩
theorem TreeAt.more {l : List Rk} {A : Option Addr} {n c tb mb : Nat} {top : Int} {n₀ n₁ : Nat} {w : World} (h : TreeAt l A n c tb mb top n₀ w) (hn : n₀ ≤ n₁) : TreeAt l A n c tb mb top n₁ w :=
  ⟨h.reads.more hn, h.tree, by have := h.tlt; omega, h.map, by have := h.mlt; omega⟩

theorem pts_leaf {l : List Rk} {f : Nat} {s : ByteArray} (h : idxOf l s = none) : pts l f s = some [s] := by
  cases f <;> simp [pts, h]

theorem txts_app {xs : List Txt} {a b : List ByteArray} (h : txts xs = a ++ b) : ∃ x1 x2, xs = x1 ++ x2 ∧ txts x1 = a ∧ txts x2 = b := by
  obtain ⟨x1, x2, e, h1, h2⟩ := List.map_eq_append_iff.1 h
  exact ⟨x1, x2, e, h1, h2⟩

def encT (x : Txt) : Value := .string x.1

set_option maxRecDepth 100000 in
set_option maxHeartbeats 4000000 in
theorem walk_in (l : List Rk) (hfits : ∀ r ∈ l, r.Fits) (A : Option Addr) (n c tb mb : Nat) (top : Int) (n₀ : Nat) (hn : n ≤ 1000000) (lp N : Nat) (J Jx : List Txt → World → Prop)
    (hY : ∀ m pre (x : Txt) W, J pre W → pre.length < N → YieldAt Fence.wide m Try.prog lp #[.string x.1] W fun e W' =>
      (e = .returned (.bool true) ∧ J (pre ++ [x]) W' ∧ Below n₀ W W') ∨ (e = .returned (.bool false) ∧ Jx (pre ++ [x]) W')) :
    ∀ (f : Nat) (name : ByteArray) (xs : List Txt) (m : Nat) (pre : List Txt) (W : World), name.size ≤ maxLen → pts l f name = some (txts xs) → TreeAt l A n c tb mb top n₀ W → J pre W → pre.length + xs.length ≤ N →
      CallsIn Fence.wide m Try.prog 73 #[.pointer (some ⟨tb, 0, none⟩), .string name, .func (.yield lp) #[] #[]] W fun e W' =>
        (e = .returned (.bool true) ∧ J (pre ++ xs) W' ∧ Below n₀ W W') ∨ (e = .returned (.bool false) ∧ ∃ q, q <+: xs ∧ Jx (pre ++ q) W') := by
  have hdd : ∀ k : Nat, (Fence.wide.depth.isSome = true → 1 ≤ k) := fun k h => by cases h
  have hfn : Fence.wide.fn 73 := trivial
  have leaf : ∀ (f : Nat) (name : ByteArray) (xs : List Txt) (m : Nat) (pre : List Txt) (W : World), name.size ≤ maxLen → idxOf l name = none → pts l f name = some (txts xs) → TreeAt l A n c tb mb top n₀ W → J pre W → pre.length + xs.length ≤ N →
      CallsIn Fence.wide m Try.prog 73 #[.pointer (some ⟨tb, 0, none⟩), .string name, .func (.yield lp) #[] #[]] W fun e W' =>
        (e = .returned (.bool true) ∧ J (pre ++ xs) W' ∧ Below n₀ W W') ∨ (e = .returned (.bool false) ∧ ∃ q, q <+: xs ∧ Jx (pre ++ q) W') := by
    intro f name xs m pre W hnm hi hp ht hJ hN
    rw [pts_leaf hi] at hp
    obtain ⟨x, rfl, hx⟩ : ∃ x : Txt, xs = [x] ∧ x.1 = name := by
      have h1 : txts xs = [name] := (Option.some.inj hp).symm
      obtain ⟨x, t, e, h2, h3⟩ := List.map_eq_cons_iff.1 h1
      refine ⟨x, ?_, h2⟩
      rw [e, List.map_eq_nil_iff.1 h3]
    obtain ⟨xn, xl⟩ := x
    obtain rfl : xn = name := hx
    have hu : idxM l xn = none := by unfold idxM; rw [hi]; rfl
    have hu2 : ((idxM l xn).getD (.int .i64 0)) = .int .i64 0 := by rw [hu]; rfl
    have hu3 : (idxM l xn).isSome = false := by rw [hu]; rfl
    obtain ⟨fn, tmps, assign, body, hy, hR⟩ := hY (m - 1) pre ⟨xn, xl⟩ W hJ (by simp at hN; omega)
    have t1 : W.cell? ⟨tb, 1, none⟩ = some (.map (some mb)) := ht.tree.cell 1
    have hmap := ht.map
    clear hp hN hu hY
    refine callsIn_of_wp Try.func73 rfl trivial ?_ rfl
    simp only [Try.ntmps73, List.size_toArray, List.length_cons, List.length_nil, Nat.reduceAdd, Nat.reduceSub, Array.replicate_succ, Array.replicate_zero, List.push_toArray, List.append_toArray, List.nil_append, List.cons_append]
    gi_wp2_with (first
              | (gi_at_lookup; refine wpListIn_look _ rfl _ _ _ rfl Try.underlying9 Try.underlying98 (zero_int _) hmap rfl _ rfl hnm ?_; simp only [hu2, hu3])
              | ((try refine ⟨hdd _, ?_⟩); refine hR.mono ?_; clear hR; rintro e W2 (⟨rfl, hJ2, hb2⟩ | ⟨rfl, hx2⟩)))
    · go_ret
      exact .inl ⟨rfl, hJ2, hb2⟩
    · go_ret
      exact .inr ⟨rfl, [⟨xn, xl⟩], List.prefix_refl _, hx2⟩
  intro f
  induction f with
  | zero =>
    intro name xs m pre W hnm hp
    have hi : idxOf l name = none := by
      unfold pts at hp
      cases hx : idxOf l name with
      | none => rfl
      | some i => rw [hx] at hp; cases hp
    exact leaf 0 name xs m pre W hnm hi hp
  | succ f ih =>
    intro name xs m pre W hnm hp ht hJ hN
    cases hi : idxOf l name with
    | none => exact leaf (f + 1) name xs m pre W hnm hi hp ht hJ hN
    | some i =>
      clear leaf
      unfold pts at hp
      rw [hi] at hp
      simp only at hp
      cases hr : l[i]? with
      | none => rw [hr] at hp; cases hp
      | some r =>
        rw [hr] at hp
        simp only at hp
        cases ha : pts l f r.left with
        | none => rw [ha] at hp; cases hp
        | some pa =>
          cases hb : pts l f r.right with
          | none => rw [ha, hb] at hp; cases hp
          | some pb =>
            rw [ha, hb] at hp
            obtain ⟨xa, xb, rfl, h1, h2⟩ := txts_app (Option.some.inj hp).symm
            subst h1 h2
            rw [List.length_append] at hN
            have hfit := hfits r (List.mem_of_getElem? hr)
            have hin : i < n := by
              have := (List.getElem?_eq_some_iff.1 hr).1
              rw [ht.reads.len5] at this; exact this
            obtain ⟨zb, zo, r', rfl, hzb, hr', -, c1, c2, -, -⟩ := ht.reads.rk hin
            obtain rfl := Option.some.inj (hr'.symm.trans hr)
            have hu0 : idxM l name = some (.int .i64 (i : Int)) := by unfold idxM; rw [hi]; rfl
            have hu2 : ((idxM l name).getD (.int .i64 0)) = .int .i64 (i : Int) := by rw [hu0]; rfl
            have hu3 : (idxM l name).isSome = true := by rw [hu0]; rfl
            have t1 : W.cell? ⟨tb, 1, none⟩ = some (.map (some mb)) := ht.tree.cell 1
            have t0 : W.cell? ⟨tb, 0, none⟩ = some (.slice (some ⟨zb, zo, none⟩) n c) := ht.tree.cell 0
            have hmap := ht.map
            have HT := Lib.hid ht
            have ih1 := (ih r'.left xa (m - 1) pre W hfit.left ha ht hJ (by omega)).mono (R' := fun e W1 =>
              (e = .returned (.bool true) ∧ W1.cell? ⟨tb, 0, none⟩ = some (.slice (some ⟨zb, zo, none⟩) n c) ∧ W1.cell? ⟨zb, zo + i * 5 + 2, none⟩ = some (.string r'.right) ∧ Below n₀ W W1 ∧
                CallsIn Fence.wide (m - 1) Try.prog 73 #[.pointer (some ⟨tb, 0, none⟩), .string r'.right, .func (.yield lp) #[] #[]] W1 fun e W' =>
                  (e = .returned (.bool true) ∧ J (pre ++ xa ++ xb) W' ∧ Below n₀ W1 W') ∨ (e = .returned (.bool false) ∧ ∃ q, q <+: xb ∧ Jx (pre ++ xa ++ q) W')) ∨
              (e = .returned (.bool false) ∧ ∃ q, q <+: xa ∧ Jx (pre ++ q) W1))
              (fun e W1 h => h.elim (fun ⟨he, hj, hb1⟩ => .inl ⟨he, ((ht.below hb1).tree).cell 0, (hb1.cell (p := ⟨zb, zo + i * 5 + 2, none⟩) hzb).trans c2, hb1,
                ih r'.right xb (m - 1) (pre ++ xa) W1 hfit.right hb (ht.below hb1) hj (by simp; omega)⟩) .inr)
            clear ih hY ht hr hr' hi ha hb hp hu0 hfit
            refine callsIn_of_wp Try.func73 rfl trivial ?_ rfl
            simp only [Try.ntmps73, List.size_toArray, List.length_cons, List.length_nil, Nat.reduceAdd, Nat.reduceSub, Array.replicate_succ, Array.replicate_zero, List.push_toArray, List.append_toArray, List.nil_append, List.cons_append]
            gi_wp2_with (first
              | (gi_at_lookup; refine wpListIn_look _ rfl _ _ _ rfl Try.underlying9 Try.underlying98 (zero_int _) hmap rfl _ rfl hnm ?_; simp only [hu2, hu3])
              | ((try refine ⟨hdd _, ?_⟩); gi_at_call 73; refine ih1.mono ?_; clear ih1; rintro e W1 (⟨rfl, d0, d2, hb1, ih2⟩ | ⟨rfl, q, hq, hx1⟩))
              | ((try refine ⟨hdd _, ?_⟩); gi_at_call 73; refine ih2.mono ?_; clear ih2; rintro e W3 (⟨rfl, hJ3, hb3⟩ | ⟨rfl, q, hq, hx3⟩)))
            · go_ret
              exact .inl ⟨rfl, by simpa [List.append_assoc] using hJ3, hb1.trans hb3⟩
            · go_ret
              exact .inr ⟨rfl, xa ++ q, by simpa using hq, by simpa [List.append_assoc] using hx3⟩
            · go_ret
              exact .inr ⟨rfl, q, hq.trans (by simp), hx1⟩

set_option maxHeartbeats 1000000 in
theorem below1_in (l : List Rk) (hfits : ∀ r ∈ l, r.Fits) (A : Option Addr) (n c tb mb : Nat) (top : Int) (n₀ : Nat) (hn : n ≤ 1000000) (lp Bt Bn : Nat) (f : Nat) (name : ByteArray) (xs : List Txt) (hnm : name.size ≤ maxLen) (hp : pts l f name = some (txts xs)) (m : Nat) (J Jx : List Txt → World → Prop)
    (hY : ∀ pre (x : Txt) W, J pre W → pre.length < xs.length → YieldAt Fence.wide (m - 1) Try.prog lp #[.string x.1] W fun e W' =>
      (e = .returned (.bool true) ∧ J (pre ++ [x]) W' ∧ Below n₀ W W') ∨ (e = .returned (.bool false) ∧ Jx (pre ++ [x]) W'))
    (W : World) (hBt : W.cell? ⟨Bt, 0, none⟩ = some (.pointer (some ⟨tb, 0, none⟩))) (hBn : W.cell? ⟨Bn, 0, none⟩ = some (.string name)) (hT : TreeAt l A n c tb mb top n₀ W) (h0 : J [] W) :
    CallsIn Fence.wide m Try.prog 72 #[.func (.yield lp) #[] #[], .pointer (some ⟨Bt, 0, none⟩), .pointer (some ⟨Bn, 0, none⟩)] W fun e W' => (∃ v, e = .returned v) ∧
      ((∃ ys, ys = xs ∧ J ys W') ∨ (∃ pre, pre <+: xs ∧ Jx pre W')) := by
  have hdd : ∀ k : Nat, (Fence.wide.depth.isSome = true → 1 ≤ k) := fun k h => by cases h
  have hfn : Fence.wide.fn 73 := trivial
  have hw := walk_in l hfits A n c tb mb top n₀ hn lp xs.length J Jx (fun m' pre x W hj hl => YieldAt.anyD rfl m' (hY pre x W hj hl)) f name xs (m - 1) [] W hnm hp hT h0 (by simp)
  clear hY hT
  refine callsIn_of_wp Try.func72 rfl trivial ?_ rfl
  simp only [Try.ntmps72, List.size_toArray, List.length_cons, List.length_nil, Nat.reduceAdd, Nat.reduceSub, Array.replicate_succ, Array.replicate_zero, List.push_toArray, List.append_toArray, List.nil_append, List.cons_append]
  gi_wp2_with ((try refine ⟨hdd _, ?_⟩); gi_at_call 73; refine hw.mono ?_; clear hw; rintro e W1 (⟨rfl, hJ1, _⟩ | ⟨rfl, q, hq, hx⟩))
  · go_end0
    exact ⟨⟨_, rfl⟩, .inl ⟨_, rfl, by simpa using hJ1⟩⟩
  · go_end0
    exact ⟨⟨_, rfl⟩, .inr ⟨q, hq, by simpa using hx⟩⟩

set_option maxHeartbeats 1000000 in
theorem below_any (t : Option Addr) (name : ByteArray) (w : World) :
    Calls Try.prog 52 #[.pointer t, .string name] w fun e w' => e = .returned (.func (.func 72) #[] #[.pointer (some ⟨w.heap.size, 0, none⟩), .pointer (some ⟨w.heap.size + 1, 0, none⟩)]) ∧
      w' = (w.alloc (.cells #[.pointer t] 66)).alloc (.cells #[.string name] 9) := by
  go_enter Try.func52, Try.ntmps52
  go_wp2
  go_ret
  exact ⟨rfl, rfl⟩

/-- What the iterator gives: the points below a thing. -/
theorem below_stops (l : List Rk) (hfits : ∀ r ∈ l, r.Fits) (A : Option Addr) (n c tb mb : Nat) (top : Int) (n₀ : Nat) (hn : n ≤ 1000000) (Bt Bn : Nat) (f : Nat) (name : ByteArray) (xs : List Txt) (hnm : name.size ≤ maxLen) (hp : pts l f name = some (txts xs)) (m : Nat) (w : World)
    (h1 : Bt < w.heap.size) (h2 : Bn < w.heap.size) (h3 : n₀ ≤ w.heap.size) (hBt : w.cell? ⟨Bt, 0, none⟩ = some (.pointer (some ⟨tb, 0, none⟩))) (hBn : w.cell? ⟨Bn, 0, none⟩ = some (.string name)) (hT : TreeAt l A n c tb mb top n₀ w) :
    SeqStopsK Fence.wide m Try.prog 72 #[.pointer (some ⟨Bt, 0, none⟩), .pointer (some ⟨Bn, 0, none⟩)] (fun x : Txt => #[Value.string x.1]) (Below n₀) (fun ys => ys = xs) (fun pre => pre <+: xs) xs.length w := fun lp J Jx W hW _ _ hY h0 =>
  below1_in l hfits A n c tb mb top n₀ hn lp Bt Bn f name xs hnm hp m J Jx hY W ((hW.cell (p := ⟨Bt, 0, none⟩) h1).trans hBt) ((hW.cell (p := ⟨Bn, 0, none⟩) h2).trans hBn) (hT.below (hW.mono h3)) h0

end Go.Proofs.Ytfigbdhfmlhjdaa

end
