import Derived.Test.YtgamepmipoociaaQ3
import Derived.Test.YtgamepmipoociaaQ4
import Derived.Test.YtgamepmipoociaaQ10
import Derived.Test.YtgamepmipoociaaQ2
import Derived.Test.YtgamepmipoociaaQ5
import Derived.RangeFuncNested
import Derived.RangeFuncBound
import Derived.RangeFuncCalls
import Derived.RangeFuncLeaves
import Derived.RangeFuncBox
import Derived.Shelf.Abstract
import Derived.Shelf.RegionOpen
import Derived.WalkKit
import Derived.OwnWalkIn
import Derived.TacticsInMore
import Derived.LoopNIn
import Derived.LoopIn
import Derived.Maps.OwnIn
import Derived.Maps.AppendAt

section
/- The contracts of all shares of a tree, and of Shares. -/
namespace Go.Proofs.Ytgamepmipoociaa
open Go.RowKit

/-- The name of the top. -/
def topName (l : List Rk) : ByteArray := ((l[topOf l]?).map (·.name)).getD ByteArray.empty
def sharesOf (l : List Rk) : Option (List (Int × Int)) := sh l l.length (topName l) 1 1

def AllPost (l : List Rk) (base : Nat) (w : World) (e : Ending) (w' : World) : Prop :=
  Below w.heap.size w w' ∧ ∃ v', e = .returned (.tuple #[v', .bool (sharesOf l).isSome]) ∧ ∀ ys, sharesOf l = some ys → w'.ownsRow base 72 2 v' ys.length (cells2 ys)

theorem below_iff_block {B : Nat} {w w' : World} (h : Below B w w') {B' : Nat} (hB : B' ≤ B) : Below B' w w' := h.mono hB


theorem rk_zero_arms {ex : Bool} {r : Rk} (h : rkErr ex r = 0) : 1 ≤ r.al ∧ r.al ≤ 10000 ∧ 1 ≤ r.ar ∧ r.ar ≤ 10000 := by
  unfold rkErr at h
  split at h
  · exact absurd h (by decide)
  · split at h
    · exact absurd h (by decide)
    · split at h
      · exact absurd h (by decide)
      · split at h
        · exact absurd h (by decide)
        · rename_i hw
          have h1 : withinB r.al 1 10000 = true := by cases hx : withinB r.al 1 10000 <;> simp_all
          have h2 : withinB r.ar 1 10000 = true := by cases hx : withinB r.ar 1 10000 <;> simp_all
          rw [withinB_iff] at h1 h2
          exact ⟨h1.1, h1.2, h2.1, h2.2⟩

theorem err1_mem : ∀ (l seen : List Rk), err1 seen l = 0 → ∀ r ∈ l, ∃ ex, rkErr ex r = 0
  | [], _, _, r, hr => by cases hr
  | x :: l, seen, h, r, hr => by
    unfold err1 at h
    split at h
    · rename_i h0
      rcases List.mem_cons.1 hr with e | e
      · exact ⟨_, e ▸ h0⟩
      · exact err1_mem l _ h r e
    · rename_i h0
      exact absurd h h0

theorem open_zero {l : List Rk} (h : openErr l = 0) : l.length ≠ 0 ∧ l.length ≤ 40 ∧ err1 [] l = 0 ∧ (borneAll l).Nodup ∧ l.any (fun r => climbs l (l.length + 1) r.name) = false ∧ (topsOf l).length ≤ 1 := by
  unfold openErr at h
  by_cases h0 : l.length = 0
  · rw [if_pos h0] at h; exact absurd h (by decide)
  rw [if_neg h0] at h
  by_cases h1 : 40 < l.length
  · rw [if_pos h1] at h; exact absurd h (by decide)
  rw [if_neg h1] at h
  by_cases h2 : err1 [] l ≠ 0
  · rw [if_pos h2] at h; exact absurd h h2
  rw [if_neg h2] at h
  by_cases h3 : ¬ (borneAll l).Nodup
  · rw [if_pos h3] at h; exact absurd h (by decide)
  rw [if_neg h3] at h
  by_cases h4 : l.any (fun r => climbs l (l.length + 1) r.name) = true
  · rw [if_pos h4] at h; exact absurd h (by decide)
  rw [if_neg h4] at h
  by_cases h5 : 1 < (topsOf l).length
  · rw [if_pos h5] at h; exact absurd h (by decide)
  exact ⟨h0, by omega, Decidable.not_not.1 h2, Decidable.not_not.1 h3, by simpa using h4, by omega⟩

theorem arms_of {l : List Rk} (h : openErr l = 0) : ArmsOK l := by
  intro r hr
  obtain ⟨ex, he⟩ := err1_mem l [] (open_zero h).2.2.1 r hr
  exact rk_zero_arms he

theorem topOf_lt {l : List Rk} (h : l.length ≠ 0) : topOf l < l.length := by
  unfold topOf
  cases hx : (topsOf l).getLast? with
  | none => simpa using by omega
  | some k =>
    have hm := List.mem_of_getLast? hx
    unfold topsOf topsTo at hm
    have := (List.mem_filter.1 hm).1
    simpa using this

/-- What lies below the top, as the tree of a list has it. -/
def ptsOf (l : List Rk) : Option (List ByteArray) := pts l l.length (topName l)

def SharesPost (l : List Rk) (base : Nat) (w : World) (e : Ending) (w' : World) : Prop :=
  Below w.heap.size w w' ∧ (openErr l ≠ 0 → e = .returned (.tuple #[.slice none 0 0, .int .i64 (openErr l)])) ∧
  (openErr l = 0 → sharesOf l = none → e = .returned (.tuple #[.slice none 0 0, .int .i64 8])) ∧
  (openErr l = 0 → ∀ ys, sharesOf l = some ys → ∃ v, e = .returned (.tuple #[v, .int .i64 0]) ∧ w'.ownsRow base 72 2 v ys.length (cells2 ys))






end Go.Proofs.Ytgamepmipoociaa

end

section
/- A tree without a cycle has no deep branch: what lies below its top is found. -/
namespace Go.Proofs.Ytgamepmipoociaa
open Go.RowKit

theorem nodup_le {α : Type} [DecidableEq α] : ∀ {p q : List α}, p.Nodup → (∀ x ∈ p, x ∈ q) → p.length ≤ q.length
  | [], _, _, _ => by simp
  | a :: t, q, hn, hs => by
    have ha := hs a (by simp)
    have hn' := List.nodup_cons.1 hn
    have h1 : t.length ≤ (q.erase a).length := nodup_le hn'.2 fun x hx => by
      have hne : x ≠ a := fun e => hn'.1 (e ▸ hx)
      exact (List.mem_erase_of_ne hne).2 (hs x (by simp [hx]))
    rw [List.length_erase_of_mem ha] at h1
    have : 0 < q.length := List.length_pos_of_mem ha
    simp only [List.length_cons]
    omega

/-- The rocker that bears a thing, by its name. -/
def upOf (l : List Rk) (s : ByteArray) : Option ByteArray := (bearerOf l s).bind fun i => (l[i]?).map (·.name)

theorem bearer_get {l : List Rk} {s : ByteArray} {i : Nat} (h : bearerOf l s = some i) : ∃ r, l[i]? = some r ∧ (r.left = s ∨ r.right = s) := by
  unfold bearerOf at h
  obtain ⟨hi, hp, -⟩ := List.findIdx?_eq_some_iff_getElem.1 h
  exact ⟨l[i], List.getElem?_eq_getElem hi, by simpa using hp⟩

theorem climbs_up {l : List Rk} {s t : ByteArray} (h : upOf l s = some t) (f : Nat) : climbs l (f + 1) s = climbs l f t ∧ climbs l 0 s = true := by
  unfold upOf at h
  cases hb : bearerOf l s with
  | none => rw [hb] at h; cases h
  | some i =>
    rw [hb] at h
    simp only [Option.bind_some] at h
    simp only [climbs, hb, h]
    exact ⟨rfl, rfl⟩

/-- From a circle one climbs as long as one likes. -/
theorem climbs_circle {l : List Rk} (S : ByteArray → Prop) (h : ∀ s, S s → ∃ t, upOf l s = some t ∧ S t) : ∀ (f : Nat) (s : ByteArray), S s → climbs l f s = true
  | 0, s, hs => by obtain ⟨t, ht, -⟩ := h s hs; exact (climbs_up ht 0).2
  | f + 1, s, hs => by
    obtain ⟨t, ht, hS⟩ := h s hs
    rw [(climbs_up ht f).1]
    exact climbs_circle S h f t hS

theorem bear_one {s : ByteArray} : ∀ {l : List Rk} {i j : Nat} {r r' : Rk}, (borneAll l).Nodup → l[i]? = some r → l[j]? = some r' → (r.left = s ∨ r.right = s) → (r'.left = s ∨ r'.right = s) → i = j
  | x :: l, i, j, r, r', hn, hi, hj, h1, h2 => by
    have e : borneAll (x :: l) = [x.left, x.right] ++ borneAll l := rfl
    rw [e, List.nodup_append] at hn
    have mem : ∀ {k : Nat} {q : Rk}, l[k]? = some q → (q.left = s ∨ q.right = s) → s ∈ borneAll l := fun hk hq => by
      unfold borneAll
      rw [List.mem_flatMap]
      refine ⟨_, List.mem_of_getElem? hk, ?_⟩
      rcases hq with rfl | rfl <;> simp
    cases i with
    | zero =>
      cases j with
      | zero => rfl
      | succ j =>
        simp at hi
        subst hi
        exact absurd rfl (hn.2.2 s (by rcases h1 with rfl | rfl <;> simp) s (mem (by simpa using hj) h2))
    | succ i =>
      cases j with
      | zero =>
        simp at hj
        subst hj
        exact absurd rfl (hn.2.2 s (by rcases h2 with rfl | rfl <;> simp) s (mem (by simpa using hi) h1))
      | succ j =>
        have hi' : l[i]? = some r := by simpa using hi
        have hj' : l[j]? = some r' := by simpa using hj
        have := bear_one hn.2.1 hi' hj' h1 h2
        omega
  | [], i, j, r, r', _, hi, _, _, _ => by simp at hi

theorem up_of_child {l : List Rk} (hn : (borneAll l).Nodup) {i : Nat} {r : Rk} {s : ByteArray} (hi : l[i]? = some r) (hs : r.left = s ∨ r.right = s) : upOf l s = some r.name := by
  cases hb : bearerOf l s with
  | none =>
    unfold bearerOf at hb
    have := List.findIdx?_eq_none_iff.1 hb r (List.mem_of_getElem? hi)
    simp at this
    rcases hs with h | h
    · exact absurd h this.1
    · exact absurd h this.2
  | some j =>
    obtain ⟨r', hj, hs'⟩ := bearer_get hb
    have e := bear_one hn hi hj hs hs'
    subst e
    unfold upOf
    rw [hb]
    simp [hi]

theorem idx_get {l : List Rk} {s : ByteArray} {i : Nat} (h : idxOf l s = some i) : ∃ r, l[i]? = some r ∧ r.name = s := by
  unfold idxOf at h
  obtain ⟨hi, hp, -⟩ := List.findIdx?_eq_some_iff_getElem.1 h
  exact ⟨l[i], List.getElem?_eq_getElem hi, by simpa using hp⟩

/-- A way down that is too long, from its end up. -/
structure WayUp (l : List Rk) (p : List ByteArray) (s : ByteArray) : Prop where
  last : p.getLast? = some s
  up : ∀ k a b, p[k]? = some a → p[k + 1]? = some b → upOf l a = some b
  rk : ∀ x ∈ p, ∃ r ∈ l, r.name = x

theorem WayUp.snoc {l : List Rk} {p : List ByteArray} {s t : ByteArray} (h : WayUp l p s) (hu : upOf l s = some t) (ht : ∃ r ∈ l, r.name = t) : WayUp l (p ++ [t]) t := by
  refine ⟨by simp, fun k a b ha hb => ?_, fun x hx => ?_⟩
  · rcases Nat.lt_trichotomy (k + 1) p.length with hk | hk | hk
    · rw [List.getElem?_append_left (by omega)] at ha
      rw [List.getElem?_append_left hk] at hb
      exact h.up k a b ha hb
    · rw [List.getElem?_append_left (by omega)] at ha
      rw [List.getElem?_append_right (by omega)] at hb
      have e1 : b = t := by rw [hk, Nat.sub_self] at hb; simpa using hb.symm
      have e2 : a = s := by
        have := h.last
        rw [List.getLast?_eq_getElem?, show p.length - 1 = k by omega, ha] at this
        exact Option.some.inj this
      rw [e1, e2]
      exact hu
    · rw [List.getElem?_eq_none (by simp; omega)] at hb
      cases hb
  · rcases List.mem_append.1 hx with hx | hx
    · exact h.rk x hx
    · simp at hx; exact hx ▸ ht

theorem pts_none {l : List Rk} (hn : (borneAll l).Nodup) : ∀ (f : Nat) (s : ByteArray), pts l f s = none → ∃ p, p.length = f + 1 ∧ WayUp l p s
  | 0, s, h => by
    unfold pts at h
    cases hi : idxOf l s with
    | none => rw [hi] at h; cases h
    | some i =>
      obtain ⟨r, hr, hs⟩ := idx_get hi
      refine ⟨[s], rfl, by simp, fun k a b ha hb => ?_, fun x hx => ?_⟩
      · simp at hb
      · simp at hx; exact ⟨r, List.mem_of_getElem? hr, hs.trans hx.symm⟩
  | f + 1, s, h => by
    unfold pts at h
    cases hi : idxOf l s with
    | none => rw [hi] at h; cases h
    | some i =>
      obtain ⟨r, hr, hs⟩ := idx_get hi
      rw [hi] at h
      simp only [hr] at h
      have hmem : ∃ r ∈ l, r.name = s := ⟨r, List.mem_of_getElem? hr, hs⟩
      cases h1 : pts l f r.left with
      | none =>
        obtain ⟨p, hp, hw⟩ := pts_none hn f r.left h1
        exact ⟨p ++ [s], by simp [hp], hw.snoc (hs ▸ up_of_child hn hr (.inl rfl)) hmem⟩
      | some a =>
        cases h2 : pts l f r.right with
        | none =>
          obtain ⟨p, hp, hw⟩ := pts_none hn f r.right h2
          exact ⟨p ++ [s], by simp [hp], hw.snoc (hs ▸ up_of_child hn hr (.inr rfl)) hmem⟩
        | some b => rw [h1, h2] at h; cases h

theorem pts_ok {l : List Rk} (h : openErr l = 0) (s : ByteArray) : pts l l.length s ≠ none := by
  intro hp
  obtain ⟨h0, h1, h2, hn, h4, h5⟩ := open_zero h
  obtain ⟨p, hlen, hw⟩ := pts_none hn _ _ hp
  have hdup : ¬ p.Nodup := fun hd => by
    have := nodup_le (q := l.map (·.name)) hd fun x hx => by
      obtain ⟨r, hr, e⟩ := hw.rk x hx
      exact List.mem_map.2 ⟨r, hr, e⟩
    rw [hlen, List.length_map] at this
    omega
  have hex : ∃ i j : Nat, ∃ x, i < j ∧ p[i]? = some x ∧ p[j]? = some x := by
    refine Classical.byContradiction fun hno => hdup ?_
    refine List.pairwise_iff_getElem.2 fun i j hi hj hij e => hno ⟨i, j, p[i], hij, List.getElem?_eq_getElem hi, ?_⟩
    rw [List.getElem?_eq_getElem hj, e]
  obtain ⟨i, j, x, hij, hi, hj⟩ := hex
  have hc := climbs_circle (l := l) (fun s => ∃ k, i ≤ k ∧ k < j ∧ p[k]? = some s) (fun s ⟨k, k1, k2, k3⟩ => by
    have hjl : j < p.length := (List.getElem?_eq_some_iff.1 hj).1
    have hk1 : p[k + 1]? = some (p[k + 1]'(by omega)) := List.getElem?_eq_getElem (by omega)
    refine ⟨_, hw.up k _ _ k3 hk1, ?_⟩
    by_cases e : k + 1 = j
    · refine ⟨i, Nat.le_refl _, hij, ?_⟩
      rw [hi, ← hj, ← hk1, e]
    · exact ⟨k + 1, by omega, by omega, hk1⟩) (l.length + 1) x ⟨i, Nat.le_refl _, hij, hi⟩
  obtain ⟨r, hr, e⟩ := hw.rk x (List.mem_of_getElem? hi)
  have := List.any_eq_false.1 h4 r hr
  rw [e] at this
  exact this hc

end Go.Proofs.Ytgamepmipoociaa

end

section
/- The plain law of trees: a tree whose ways up all end has just one top; a way up that does not end comes back. -/
namespace Go.Proofs.Ytgamepmipoociaa
open Go.RowKit

/-- So many steps up. -/
def upN (l : List Rk) : Nat → ByteArray → Option ByteArray
  | 0, s => some s
  | k + 1, s => (upN l k s).bind (upOf l)

theorem upN_add (l : List Rk) (i : Nat) : ∀ (j : Nat) (s t : ByteArray), upN l i s = some t → upN l (i + j) s = upN l j t
  | 0, s, t, h => h
  | j + 1, s, t, h => by
    show (upN l (i + j) s).bind (upOf l) = (upN l j t).bind (upOf l)
    rw [upN_add l i j s t h]

theorem upN_less {l : List Rk} {s : ByteArray} : ∀ {j : Nat} (i : Nat), upN l (i + j) s ≠ none → upN l i s ≠ none
  | 0, i, h => h
  | j + 1, i, h => upN_less (j := j) i fun e => h (by show (upN l (i + j) s).bind _ = none; rw [e]; rfl)

/-- A thing comes back to itself within so many steps up. -/
def Circ (l : List Rk) (s : ByteArray) (k : Nat) : Prop := ∃ j, 1 ≤ j ∧ j ≤ k ∧ upN l j s = some s

theorem climbs_upN {l : List Rk} : ∀ (f : Nat) (s : ByteArray), climbs l f s = true → upN l (f + 1) s ≠ none
  | 0, s, h => by
    intro e
    cases hb : bearerOf l s with
    | none => simp [climbs, hb] at h
    | some i =>
      obtain ⟨r, hr, -⟩ := bearer_get hb
      have : upN l 1 s = some r.name := by show upOf l s = _; unfold upOf; rw [hb]; simp [hr]
      rw [this] at e
      cases e
  | f + 1, s, h => by
    cases hb : bearerOf l s with
    | none => simp [climbs, hb] at h
    | some i =>
      obtain ⟨r, hr, -⟩ := bearer_get hb
      have hu : upN l 1 s = some r.name := by show upOf l s = _; unfold upOf; rw [hb]; simp [hr]
      have h' : climbs l f r.name = true := by simpa [climbs, hb, hr] using h
      rw [show f + 1 + 1 = 1 + (f + 1) by omega, upN_add l 1 (f + 1) s r.name hu]
      exact climbs_upN f r.name h'

theorem upOf_rk {l : List Rk} {s t : ByteArray} (h : upOf l s = some t) : ∃ r ∈ l, r.name = t := by
  unfold upOf at h
  cases hb : bearerOf l s with
  | none => rw [hb] at h; cases h
  | some i =>
    rw [hb] at h
    simp only [Option.bind_some] at h
    cases hr : l[i]? with
    | none => rw [hr] at h; cases h
    | some r => rw [hr] at h; exact ⟨r, List.mem_of_getElem? hr, Option.some.inj h⟩

theorem upN_rk {l : List Rk} {s : ByteArray} (hs : ∃ r ∈ l, r.name = s) : ∀ {k : Nat} {t : ByteArray}, upN l k s = some t → ∃ r ∈ l, r.name = t
  | 0, t, h => by obtain rfl := Option.some.inj h; exact hs
  | k + 1, t, h => by
    have h' : (upN l k s).bind (upOf l) = some t := h
    cases hk : upN l k s with
    | none => rw [hk] at h'; cases h'
    | some u => rw [hk] at h'; exact upOf_rk h'

/-- Who climbs for long is above a circle. -/
theorem circ_of_climbs {l : List Rk} {r : Rk} (hr : r ∈ l) (h : climbs l (l.length + 1) r.name = true) : ∃ x ∈ l, Circ l x.name (l.length + 1) := by
  have hn := climbs_upN _ _ h
  have hall : ∀ k, k ≤ l.length → ∃ t, upN l k r.name = some t := fun k hk => by
    cases hx : upN l k r.name with
    | some t => exact ⟨t, rfl⟩
    | none => exact absurd hx (upN_less (j := l.length + 1 + 1 - k) k (by rw [show k + (l.length + 1 + 1 - k) = l.length + 1 + 1 by omega]; exact hn))
  let p : List ByteArray := (List.range (l.length + 1)).map fun k => (upN l k r.name).getD r.name
  have hp : p.length = l.length + 1 := by simp [p]
  have hget : ∀ k t, k ≤ l.length → upN l k r.name = some t → p[k]? = some t := fun k t hk ht => by
    simp only [p]
    rw [List.getElem?_map, List.getElem?_range (by omega)]
    simp [ht]
  have hdup : ¬ p.Nodup := fun hd => by
    have := nodup_le (q := l.map (·.name)) hd fun x hx => by
      obtain ⟨k, hk⟩ := List.getElem?_of_mem hx
      have hkl : k < p.length := (List.getElem?_eq_some_iff.1 hk).1
      obtain ⟨t, ht⟩ := hall k (by omega)
      rw [hget k t (by omega) ht] at hk
      obtain rfl := Option.some.inj hk
      obtain ⟨y, hy, e⟩ := upN_rk ⟨r, hr, rfl⟩ ht
      exact List.mem_map.2 ⟨y, hy, e⟩
    rw [hp, List.length_map] at this
    omega
  have hex : ∃ i j : Nat, ∃ x, i < j ∧ j ≤ l.length ∧ p[i]? = some x ∧ p[j]? = some x := by
    refine Classical.byContradiction fun hno => hdup ?_
    refine List.pairwise_iff_getElem.2 fun i j hi hj hij e => hno ⟨i, j, p[i], hij, by omega, List.getElem?_eq_getElem hi, ?_⟩
    rw [List.getElem?_eq_getElem hj, e]
  obtain ⟨i, j, x, hij, hjl, hi, hj⟩ := hex
  obtain ⟨a, ha⟩ := hall i (by omega)
  obtain ⟨b, hb⟩ := hall j hjl
  rw [hget i a (by omega) ha] at hi
  rw [hget j b hjl hb] at hj
  obtain rfl := Option.some.inj hi
  obtain rfl := Option.some.inj hj
  obtain ⟨y, hy, rfl⟩ := upN_rk ⟨r, hr, rfl⟩ ha
  refine ⟨y, hy, j - i, by omega, by omega, ?_⟩
  rw [← hb, show j = i + (j - i) by omega, upN_add l i (j - i) _ _ ha]
  congr 1
  omega

theorem climbs_of_circ {l : List Rk} {s : ByteArray} {k : Nat} (h : Circ l s k) (f : Nat) : climbs l f s = true := by
  obtain ⟨j, h1, -, hj⟩ := h
  have hper : ∀ m, ∃ t, upN l m s = some t := fun m => by
    have hmul : ∀ q, upN l (j * q) s = some s := fun q => by
      induction q with
      | zero => rfl
      | succ q ih => rw [Nat.mul_succ, upN_add l (j * q) j s s ih]; exact hj
    have hle : m ≤ j * m := Nat.le_mul_of_pos_left m (by omega)
    cases hx : upN l m s with
    | some t => exact ⟨t, rfl⟩
    | none => exact absurd hx (upN_less (j := j * m - m) m (by rw [show m + (j * m - m) = j * m by omega, hmul]; exact fun e => by cases e))
  refine climbs_circle (fun u => ∃ m, upN l m s = some u) (fun u ⟨m, hm⟩ => ?_) f s ⟨0, rfl⟩
  obtain ⟨t, ht⟩ := hper (m + 1)
  refine ⟨t, ?_, m + 1, ht⟩
  have : (upN l m s).bind (upOf l) = some t := ht
  rw [hm] at this
  exact this

theorem circ_no {l : List Rk} (h : ∀ r ∈ l, ¬ Circ l r.name (l.length + 1)) : l.any (fun r => climbs l (l.length + 1) r.name) = false := by
  rw [List.any_eq_false]
  intro r hr hc
  obtain ⟨x, hx, hci⟩ := circ_of_climbs hr hc
  exact h x hx hci
theorem circ_yes {l : List Rk} {r : Rk} {k : Nat} (hr : r ∈ l) (h : Circ l r.name k) : l.any (fun r => climbs l (l.length + 1) r.name) = true :=
  List.any_eq_true.2 ⟨r, hr, climbs_of_circ h _⟩

theorem Circ.more {l : List Rk} {s : ByteArray} {k : Nat} (hn : ¬ Circ l s k) {t : ByteArray} (hu : upN l (k + 1) s = some t) (ht : t ≠ s) : ¬ Circ l s (k + 1) := by
  rintro ⟨j, h1, h2, h3⟩
  rcases Nat.lt_or_ge k j with h | h
  · obtain rfl : j = k + 1 := by omega
    rw [hu] at h3
    exact ht (Option.some.inj h3)
  · exact hn ⟨j, h1, h, h3⟩
theorem Circ.ended {l : List Rk} {s : ByteArray} {k : Nat} (hn : ¬ Circ l s k) (hu : upN l (k + 1) s = none) (m : Nat) : ¬ Circ l s m := by
  rintro ⟨j, h1, h2, h3⟩
  rcases Nat.lt_or_ge k j with h | h
  · exact upN_less (l := l) (s := s) (j := j - (k + 1)) (k + 1) (by rw [show k + 1 + (j - (k + 1)) = j by omega, h3]; exact fun e => by cases e) hu
  · exact hn ⟨j, h1, h, h3⟩
theorem circ_zero (l : List Rk) (s : ByteArray) : ¬ Circ l s 0 := by
  rintro ⟨j, h1, h2, -⟩
  omega

theorem bearer_mem {l : List Rk} {s : ByteArray} : (bearerOf l s).isNone = !hasB (borneAll l) s := by
  cases hb : bearerOf l s with
  | none =>
    have := List.findIdx?_eq_none_iff.1 hb
    have hn : s ∉ borneAll l := fun hm => by
      unfold borneAll at hm
      rw [List.mem_flatMap] at hm
      obtain ⟨r, hr, hs⟩ := hm
      have := this r hr
      simp at this hs
      rcases hs with e | e
      · exact this.1 e.symm
      · exact this.2 e.symm
    simp [hasB_false.2 hn]
  | some i =>
    obtain ⟨r, hr, hs⟩ := bearer_get hb
    have hm : s ∈ borneAll l := by
      unfold borneAll
      rw [List.mem_flatMap]
      refine ⟨r, List.mem_of_getElem? hr, ?_⟩
      rcases hs with rfl | rfl <;> simp
    simp [hasB_true.2 hm]

theorem isTop_mem {l : List Rk} {i : Nat} {r : Rk} (h : l[i]? = some r) : isTop l i = !hasB (borneAll l) r.name := by
  unfold isTop
  rw [h]
  exact bearer_mem

theorem top_exists {l : List Rk} : ∀ (f : Nat) (i : Nat) (r : Rk), l[i]? = some r → climbs l f r.name = false → ∃ k, k < l.length ∧ isTop l k = true
  | 0, i, r, hr, h => by
    refine ⟨i, (List.getElem?_eq_some_iff.1 hr).1, ?_⟩
    unfold isTop
    rw [hr]
    cases hb : bearerOf l r.name with
    | none => simp [hb]
    | some j => simp [climbs, hb] at h
  | f + 1, i, r, hr, h => by
    cases hb : bearerOf l r.name with
    | none =>
      refine ⟨i, (List.getElem?_eq_some_iff.1 hr).1, ?_⟩
      unfold isTop
      rw [hr]
      simp [hb]
    | some j =>
      obtain ⟨r', hr', -⟩ := bearer_get hb
      exact top_exists f j r' hr' (by simpa [climbs, hb, hr'] using h)

theorem tops_one {l : List Rk} (h : openErr l = 0) : ∃ k, k < l.length ∧ isTop l k = true ∧ topOf l = k ∧ ∀ j, j < l.length → isTop l j = true → j = k := by
  obtain ⟨h0, h1, h2, hn, h4, h5⟩ := open_zero h
  have hx : ∃ r, l[0]? = some r := ⟨l[0]'(by omega), List.getElem?_eq_getElem (by omega)⟩
  obtain ⟨r, hr⟩ := hx
  have hc : climbs l (l.length + 1) r.name = false := by simpa using List.any_eq_false.1 h4 r (List.mem_of_getElem? hr)
  obtain ⟨k, hk, hT⟩ := top_exists _ _ _ hr hc
  have mem : ∀ j, j < l.length → isTop l j = true → j ∈ topsOf l := fun j hj hjT => by
    unfold topsOf topsTo
    exact List.mem_filter.2 ⟨List.mem_range.2 hj, hjT⟩
  have hk' := mem k hk hT
  obtain ⟨x, hx⟩ : ∃ x, topsOf l = [x] := by
    match ht : topsOf l with
    | [] => rw [ht] at hk'; cases hk'
    | [x] => exact ⟨x, rfl⟩
    | x :: y :: t => rw [ht] at h5; simp at h5
  rw [hx] at hk'
  have hkx : k = x := by simpa using hk'
  subst hkx
  refine ⟨k, hk, hT, by unfold topOf; rw [hx]; rfl, fun j hj hjT => ?_⟩
  have := mem j hj hjT
  rw [hx] at this
  simpa using this

end Go.Proofs.Ytgamepmipoociaa

end

section
/- Contracts of the reference's list of borne names, of its check of a tree, of its top. -/
namespace Go.Proofs.Ytgamepmipoociaa
open Go.RowKit

theorem info_str2 : (Try.prog.info? 9).map (fun i => (i.zero, i.size, i.bytes)) = some (some (.string ByteArray.empty), 1, 16) := by kernel_rfl

theorem own_reads_cap {w : World} {base n size : Nat} {e : TypeId} {v : Value} {xs : List Value} (h : w.ownsRow base e size v n xs) : ∃ A c, v = .slice A n c ∧ n ≤ c ∧ Reads w w.heap.size size A n xs := by
  obtain ⟨A, c, rfl, hr⟩ := own_reads h
  refine ⟨A, c, rfl, ?_, hr⟩
  rcases h.2 with ⟨h1, h2⟩ | ⟨g, cap, cur, h1, _, _, hc, _⟩
  · injection h1 with _ h3 h4; omega
  · injection h1 with _ h3 h4; omega
theorem borne_succ {l : List Rk} {k : Nat} {r : Rk} (h : l[k]? = some r) : borneAll (l.take (k + 1)) = borneAll (l.take k) ++ [r.left, r.right] := by
  unfold borneAll
  rw [List.take_add_one, h]
  simp
theorem borne_len (l : List Rk) : (borneAll l).length = 2 * l.length := by
  rw [← pairsFrom_fst 0, List.length_map, pairsFrom_length]


end Go.Proofs.Ytgamepmipoociaa

end

section
/- The contract of the reference's check of a tree. -/
namespace Go.Proofs.Ytgamepmipoociaa
open Go.RowKit

theorem rkCells_take (l : List Rk) : ∀ k : Nat, (rkCells l).take (k * 5) = rkCells (l.take k) := by
  induction l with
  | nil => intro k; simp [rkCells]
  | cons r l ih =>
    intro k
    cases k with
    | zero => simp [rkCells]
    | succ k =>
      have e : rkCells (r :: l) = r.cells ++ rkCells l := rfl
      have e2 : rkCells ((r :: l).take (k + 1)) = r.cells ++ rkCells (l.take k) := rfl
      rw [e, e2, ← ih k, List.take_append, show r.cells.length = 5 from rfl, show (k + 1) * 5 - 5 = k * 5 by omega, List.take_of_length_le (by show 5 ≤ _; omega)]
theorem strs_take (xs : List ByteArray) (k : Nat) : (strs xs).take (k * 1) = strs (xs.take k) := by
  unfold strs; rw [Nat.mul_one, List.map_take]

theorem findI_some {l : List Rk} {s : ByteArray} : (idxM l s).isSome = decide (0 ≤ findI l s) := by
  unfold idxM findI
  cases idxOf l s <;> simp

theorem open_err1 {l : List Rk} (h0 : l.length ≠ 0) (h1 : l.length ≤ 40) {E : Int} (h : err1 [] l = E) (hE : E ≠ 0) : openErr l = E := by
  unfold openErr
  rw [if_neg h0, if_neg (by omega), h, if_pos hE]
theorem open_clash {l : List Rk} (h0 : l.length ≠ 0) (h1 : l.length ≤ 40) (h : err1 [] l = 0) (hE : ¬ (borneAll l).Nodup) : openErr l = 13 := by
  unfold openErr
  rw [if_neg h0, if_neg (by omega), h, if_neg (by simp), if_pos hE]
theorem open_cycle {l : List Rk} (h0 : l.length ≠ 0) (h1 : l.length ≤ 40) (h : err1 [] l = 0) (hE : (borneAll l).Nodup) (hc : l.any (fun r => climbs l (l.length + 1) r.name) = true) : openErr l = 21 := by
  unfold openErr
  rw [if_neg h0, if_neg (by omega), h, if_neg (by simp), if_neg (by simpa using hE), if_pos hc]
theorem open_tops {l : List Rk} (h0 : l.length ≠ 0) (h1 : l.length ≤ 40) (h : err1 [] l = 0) (hE : (borneAll l).Nodup) (hc : l.any (fun r => climbs l (l.length + 1) r.name) = false) : openErr l = if 1 < (topsOf l).length then 25 else 0 := by
  unfold openErr
  rw [if_neg h0, if_neg (by omega), h, if_neg (by simp), if_neg (by simpa using hE), if_neg (by rw [hc]; simp)]

theorem err1_none {l : List Rk} (h : ∀ j, j < l.length → ∀ r, l[j]? = some r → rkErr (idxM (l.take j) r.name).isSome r = 0) : err1 [] l = 0 := by
  rw [err1_at (k := l.length) (fun j hj => h j hj), List.drop_of_length_le (Nat.le_refl _), err1]

/-- What bears a thing, as the search up to a place knows it. -/
def AbvAt (l : List Rk) (nm : ByteArray) (q : Nat) (ab : ByteArray) : Prop :=
  (∃ j r, j < q ∧ l[j]? = some r ∧ (r.left = nm ∨ r.right = nm) ∧ ab = r.name) ∨ ((∀ j, j < q → ∀ r, l[j]? = some r → ¬ (r.left = nm ∨ r.right = nm)) ∧ ab = ByteArray.empty)
theorem AbvAt.zero (l : List Rk) (nm : ByteArray) : AbvAt l nm 0 ByteArray.empty := .inr ⟨fun j hj => by omega, rfl⟩
theorem AbvAt.hit {l : List Rk} {nm : ByteArray} {q : Nat} {r : Rk} (hr : l[q]? = some r) (h : r.left = nm ∨ r.right = nm) : AbvAt l nm (q + 1) r.name := .inl ⟨q, r, by omega, hr, h, rfl⟩
theorem AbvAt.miss {l : List Rk} {nm : ByteArray} {q : Nat} {r : Rk} {ab : ByteArray} (ha : AbvAt l nm q ab) (hr : l[q]? = some r) (h : ¬ (r.left = nm ∨ r.right = nm)) : AbvAt l nm (q + 1) ab := by
  rcases ha with ⟨j, r', hj, h1, h2, h3⟩ | ⟨h1, h2⟩
  · exact .inl ⟨j, r', by omega, h1, h2, h3⟩
  · refine .inr ⟨fun j hj r' hr' => ?_, h2⟩
    rcases Nat.lt_succ_iff_lt_or_eq.1 hj with hj | hj
    · exact h1 j hj r' hr'
    · subst hj
      obtain rfl := Option.some.inj (hr'.symm.trans hr)
      exact h
theorem AbvAt.done {l : List Rk} {nm : ByteArray} {ab : ByteArray} (ha : AbvAt l nm l.length ab) (hn : (borneAll l).Nodup) : (upOf l nm = some ab ∧ ∃ r ∈ l, r.name = ab) ∨ (upOf l nm = none ∧ ab = ByteArray.empty) := by
  rcases ha with ⟨j, r', hj, h1, h2, rfl⟩ | ⟨h1, h2⟩
  · exact .inl ⟨up_of_child hn h1 h2, r', List.mem_of_getElem? h1, rfl⟩
  · refine .inr ⟨?_, h2⟩
    unfold upOf
    cases hb : bearerOf l nm with
    | none => rfl
    | some i =>
      obtain ⟨r, hr, hs⟩ := bearer_get hb
      exact absurd hs (h1 i (List.getElem?_eq_some_iff.1 hr).1 r hr)

theorem name_of_err1 {l : List Rk} (h : err1 [] l = 0) {r : Rk} (hr : r ∈ l) : nameB r.name = true := by
  obtain ⟨ex, he⟩ := err1_mem l [] h r hr
  unfold rkErr at he
  cases hn : nameB r.name
  · rw [hn] at he; simp at he
  · rfl


end Go.Proofs.Ytgamepmipoociaa

end

section
/- Contracts of the reference's top, of the points below a name, of all points. -/
namespace Go.Proofs.Ytgamepmipoociaa
open Go.RowKit

theorem top_name {l : List Rk} (h : openErr l = 0) {k : Nat} {r : Rk} (hr : l[k]? = some r) (hb : hasB (borneAll l) r.name = false) : topName l = r.name := by
  obtain ⟨j, hj, hT, htop, hone⟩ := tops_one h
  have hk : k < l.length := (List.getElem?_eq_some_iff.1 hr).1
  have hkT : isTop l k = true := by rw [isTop_mem hr, hb]; rfl
  have e := hone k hk hkT
  subst e
  unfold topName
  rw [htop, hr]
  rfl


/-- What operation c yields is owned, until operation s (an append, a store) comes. -/
def OwnM (base : Nat) (e : TypeId) (size n : Nat) (xs : List Value) (c s : Nat) (g : Nat → Option Pick) (f : Nat → Bool) (w' : World) : Prop := ∀ x, g c = some x → f s = false → w'.ownsRow base e size (.slice x.1 n x.2) n xs
section
variable {base size n c s i k : Nat} {e : TypeId} {xs : List Value} {g : Nat → Option Pick} {f : Nat → Bool} {w' w'' : World} {x : Pick}
theorem OwnM.start : OwnM base e size n xs c s (fun _ => none) f w' := fun x h => by cases h
theorem OwnM.step (h : OwnM base e size n xs c s g f w') (hb : Below w'.heap.size w' w'') (hk : k ≠ s) : OwnM base e size n xs c s g (Fx.add f k) w'' := fun x hx hf => by
  rw [add_ne' hk] at hf
  exact own_below (h x hx hf) hb (Nat.le_refl _)
theorem OwnM.other (h : OwnM base e size n xs c s g f w') (hc : c ≠ i) : OwnM base e size n xs c s (Fx.upd g i x) f w' := fun y hy => h y (by rwa [upd_ne hc] at hy)
theorem OwnM.new (h : w'.ownsRow base e size (.slice x.1 n x.2) n xs) : OwnM base e size n xs c s (Fx.upd g c x) f w' := fun y hy _ => by rw [Fx.upd_same] at hy; cases hy; exact h
theorem OwnM.stored : OwnM base e size n xs c s g (Fx.add f s) w'' := fun x _ hf => by rw [add_same] at hf; cases hf
end

theorem one_strs (ps : List ByteArray) : ∀ u ∈ strs ps, u.oneCell' = true := by
  intro u hu
  obtain ⟨x, -, rfl⟩ := List.mem_map.1 hu
  rfl

def BelowPost (ps : List ByteArray) (w : World) (e : Ending) (w' : World) : Prop :=
  Below w.heap.size w w' ∧ ∃ A' c', e = .returned (.slice A' ps.length c') ∧ w'.ownsRow w.heap.size 9 1 (.slice A' ps.length c') ps.length (strs ps)



end Go.Proofs.Ytgamepmipoociaa

end

section
/- The contracts of the iterator over the points below a thing. -/
namespace Go.Proofs.Ytgamepmipoociaa
open Go.RowKit Go.Shelf Go.Maps

attribute [local go_sem] Oper.semAt_some

section
variable {F : Fence} {nF : Nat} {P : Program} {k t e : TypeId} {b n : Nat} {M : ByteArray → Option Value} {ops : Array Oper} {rest : List Oper} {o : Oper} {a : Act} {Q : Exit → Act → World → Prop}
theorem wpListIn_look (w : World) (hg : o.guard = none) (m x : Operand) (t : TypeId) (hop : o.op = Op.lookup t m x true) (hk : P.underlying k = some .string) (ht : P.underlying t = some (.map k e)) {z : Value} (hz : (zeroValue e).run P w = .ok z w)
    (hM : MapIs P k w b n M) (hm : a.eval m = .map (some b)) (s : ByteArray) (hx : a.eval x = .string s) (hs : s.size ≤ maxLen)
    (hK : wpListIn F nF P ops Q rest (a.put o.dst (.tuple #[(M s).getD z, .bool (M s).isSome])) w) : wpListIn F nF P ops Q (o :: rest) a w := by
  refine wpListIn_plain hg fun K' hK' => ?_
  have hrun := hM.look hk ht hz s hs
  unfold Oper.wpIn
  refine ⟨by simp [Oper.about, hop], ?_⟩
  rw [Oper.semAt_plain F _ _ (by rw [hop]; intro c hc'; cases hc')]
  simp [execOp, hop, hm, hx, hrun, Result.andThen]
  exact hK' _ _ hK

theorem wpListIn_get (w : World) (hg : o.guard = none) (m x : Operand) (t : TypeId) (hop : o.op = Op.lookup t m x false) (hk : P.underlying k = some .string) (ht : P.underlying t = some (.map k e)) {z : Value} (hz : (zeroValue e).run P w = .ok z w)
    (hM : MapIs P k w b n M) (hm : a.eval m = .map (some b)) (s : ByteArray) (hx : a.eval x = .string s) (hs : s.size ≤ maxLen)
    (hK : wpListIn F nF P ops Q rest (a.put o.dst ((M s).getD z)) w) : wpListIn F nF P ops Q (o :: rest) a w := by
  refine wpListIn_plain hg fun K' hK' => ?_
  have hrun := hM.get hk ht hz s hs
  unfold Oper.wpIn
  refine ⟨by simp [Oper.about, hop], ?_⟩
  rw [Oper.semAt_plain F _ _ (by rw [hop]; intro c hc'; cases hc')]
  simp [execOp, hop, hm, hx, hrun, Result.andThen]
  exact hK' _ _ hK
end

theorem RoundIn.anyD {F : Fence} (hd : F.depth = none) {m m' : Nat} {P : Program} {l : Nat} {f : FuncId} {tmps : Array Value} {assign body : Code} {w : World} {R : Ending → World → Prop}
    (h : RoundIn F m P l f tmps assign body w R) : RoundIn F m' P l f tmps assign body w R := ⟨h.1, fun c cs _ => h.2 c cs (fun d h => by rw [hd] at h; cases h)⟩
theorem YieldAt.anyD {F : Fence} (hd : F.depth = none) {m : Nat} (m' : Nat) {P : Program} {l : Nat} {args : Array Value} {W : World} {R : Ending → World → Prop} (h : YieldAt F m P l args W R) : YieldAt F m' P l args W R := by
  obtain ⟨fn, tmps, assign, body, hy, hR⟩ := h
  exact ⟨fn, tmps, assign, body, hy, RoundIn.anyD hd hR⟩

/-- A text that is not too long. -/
abbrev Txt := { s : ByteArray // s.size ≤ maxLen }
def txts (xs : List Txt) : List ByteArray := xs.map (·.1)


theorem pts_leaf {l : List Rk} {f : Nat} {s : ByteArray} (h : idxOf l s = none) : pts l f s = some [s] := by
  cases f <;> simp [pts, h]

theorem txts_app {xs : List Txt} {a b : List ByteArray} (h : txts xs = a ++ b) : ∃ x1 x2, xs = x1 ++ x2 ∧ txts x1 = a ∧ txts x2 = b := by
  obtain ⟨x1, x2, e, h1, h2⟩ := List.map_eq_append_iff.1 h
  exact ⟨x1, x2, e, h1, h2⟩

def encT (x : Txt) : Value := .string x.1





end Go.Proofs.Ytgamepmipoociaa

end

section
/- The contracts of the collection of what an iterator gives, and of the points of a tree. -/
namespace Go.Proofs.Ytgamepmipoociaa
open Go.RowKit Go.Shelf Go.Maps

attribute [local go_sem] Oper.semAt_some

theorem info_str : (Try.prog.info? 9).map (fun i => (i.zero, i.size, i.bytes)) = some (some (.string ByteArray.empty), 1, 16) := by kernel_rfl

/-- An iterator over texts. -/
def Gives (gf : Nat) (lb : Array Value) (n₀ : Nat) (xs : List Txt) (w : World) : Prop :=
  ∀ m, SeqStopsK Fence.wide m Try.prog gf lb (fun x : Txt => #[Value.string x.1]) (Below n₀) (fun ys => ys = xs) (fun pre => pre <+: xs) xs.length w



end Go.Proofs.Ytgamepmipoociaa

end

section
/- The contracts of the points of a tree, and of what asks for a number for each point. -/
namespace Go.Proofs.Ytgamepmipoociaa
open Go.RowKit

theorem txts_of {ps : List ByteArray} (h : ∀ x ∈ ps, x.size ≤ maxLen) : ∃ xs : List Txt, txts xs = ps := by
  induction ps with
  | nil => exact ⟨[], rfl⟩
  | cons x t ih =>
    obtain ⟨xs, hx⟩ := ih fun y hy => h y (by simp [hy])
    exact ⟨⟨x, h x (by simp)⟩ :: xs, by simp [txts] at *; exact hx⟩

theorem pts_small {l : List Rk} (hfits : ∀ r ∈ l, r.Fits) : ∀ (f : Nat) (s : ByteArray) (ps : List ByteArray), s.size ≤ maxLen → pts l f s = some ps → ∀ x ∈ ps, x.size ≤ maxLen := by
  intro f
  induction f with
  | zero =>
    intro s ps hs hp x hx
    unfold pts at hp
    cases hi : idxOf l s with
    | none => rw [hi] at hp; obtain rfl := Option.some.inj hp; simp at hx; rw [hx]; exact hs
    | some i => rw [hi] at hp; cases hp
  | succ f ih =>
    intro s ps hs hp x hx
    unfold pts at hp
    cases hi : idxOf l s with
    | none => rw [hi] at hp; obtain rfl := Option.some.inj hp; simp at hx; rw [hx]; exact hs
    | some i =>
      rw [hi] at hp
      simp only at hp
      cases hr : l[i]? with
      | none => rw [hr] at hp; cases hp
      | some r =>
        rw [hr] at hp
        simp only at hp
        have hfit := hfits r (List.mem_of_getElem? hr)
        cases ha : pts l f r.left with
        | none => rw [ha] at hp; cases hp
        | some a =>
          cases hb : pts l f r.right with
          | none => rw [ha, hb] at hp; cases hp
          | some b =>
            rw [ha, hb] at hp
            obtain rfl := Option.some.inj hp
            rcases List.mem_append.1 hx with hx | hx
            · exact ih _ _ hfit.left ha x hx
            · exact ih _ _ hfit.right hb x hx

theorem pts_len {l : List Rk} : ∀ (f : Nat) (s : ByteArray) (ps : List ByteArray), pts l f s = some ps → 1 ≤ ps.length ∧ ps.length ≤ 2 ^ f := by
  intro f
  induction f with
  | zero =>
    intro s ps hp
    unfold pts at hp
    cases hi : idxOf l s with
    | none => rw [hi] at hp; obtain rfl := Option.some.inj hp; simp
    | some i => rw [hi] at hp; cases hp
  | succ f ih =>
    intro s ps hp
    have h2 : 2 ^ (f + 1) = 2 ^ f + 2 ^ f := by rw [Nat.pow_succ]; omega
    have h1 : 1 ≤ 2 ^ f := Nat.one_le_two_pow
    unfold pts at hp
    cases hi : idxOf l s with
    | none => rw [hi] at hp; obtain rfl := Option.some.inj hp; simp; omega
    | some i =>
      rw [hi] at hp
      simp only at hp
      cases hr : l[i]? with
      | none => rw [hr] at hp; cases hp
      | some r =>
        rw [hr] at hp
        simp only at hp
        cases ha : pts l f r.left with
        | none => rw [ha] at hp; cases hp
        | some a =>
          cases hb : pts l f r.right with
          | none => rw [ha, hb] at hp; cases hp
          | some b =>
            rw [ha, hb] at hp
            obtain rfl := Option.some.inj hp
            have q1 := ih _ _ ha
            have q2 := ih _ _ hb
            rw [List.length_append]
            omega

theorem own_slice {w : World} {base : Nat} {e : TypeId} {size n : Nat} {v : Value} {xs : List Value} (h : w.ownsRow base e size v n xs) : ∃ A c, v = .slice A n c ∧ n ≤ c := by
  rcases h.2 with ⟨rfl, rfl⟩ | ⟨g, cap, cur, rfl, _, _, hc, _⟩
  · exact ⟨none, 0, rfl, Nat.le_refl _⟩
  · exact ⟨_, cap, rfl, hc⟩

theorem topName_get {l : List Rk} (htop : topOf l < l.length) : ∃ r, l[topOf l]? = some r ∧ topName l = r.name := by
  refine ⟨l[topOf l], List.getElem?_eq_getElem htop, ?_⟩
  unfold topName
  rw [List.getElem?_eq_getElem htop]
  rfl



def PointsPost (l : List Rk) (base : Nat) (w : World) (e : Ending) (w' : World) : Prop :=
  Below w.heap.size w w' ∧ (openErr l ≠ 0 → e = .returned (.tuple #[.slice none 0 0, .int .i64 (openErr l)])) ∧
  (openErr l = 0 → ∀ ps, ptsOf l = some ps → ∃ A c, e = .returned (.tuple #[.slice A ps.length c, .int .i64 0]) ∧ w'.ownsRow base 9 1 (.slice A ps.length c) ps.length (strs ps))




end Go.Proofs.Ytgamepmipoociaa

end
