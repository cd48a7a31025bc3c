/- The plain law of trees: a tree whose ways up all end has just one top; a way up that does not end comes back. -/
import Derived.Test.YtmioamcgbihhjaaDepth
import Derived.Test.YtmioamcgbihhjaaRTree1
namespace Go.Proofs.Ytmioamcgbihhjaa
open Go.RowKit

/-- So many steps up. -/
def upN (l : List Rk) : Nat → ByteArray → Option ByteArray
  | 0, s => some s
  | k + 1, s => (upN l k s).bind (upOf l)

theorem upN_add (l : List Rk) (i : Nat) : ∀ (j : Nat) (s t : ByteArray), upN l i s = some t → upN l (i + j) s = upN l j t
  | 0, s, t, h => h
  | j + 1, s, t, h => by
    show (upN l (i + j) s).bind (upOf l) = (upN l j t).bind (upOf l)
    rw [upN_add l i j s t h]

theorem upN_less {l : List Rk} {s : ByteArray} : ∀ {j : Nat} (i : Nat), upN l (i + j) s ≠ none → upN l i s ≠ none
  | 0, i, h => h
  | j + 1, i, h => upN_less (j := j) i fun e => h (by show (upN l (i + j) s).bind _ = none; rw [e]; rfl)

/-- A thing comes back to itself within so many steps up. -/
def Circ (l : List Rk) (s : ByteArray) (k : Nat) : Prop := ∃ j, 1 ≤ j ∧ j ≤ k ∧ upN l j s = some s

theorem climbs_upN {l : List Rk} : ∀ (f : Nat) (s : ByteArray), climbs l f s = true → upN l (f + 1) s ≠ none
  | 0, s, h => by
    intro e
    cases hb : bearerOf l s with
    | none => simp [climbs, hb] at h
    | some i =>
      obtain ⟨r, hr, -⟩ := bearer_get hb
      have : upN l 1 s = some r.name := by show upOf l s = _; unfold upOf; rw [hb]; simp [hr]
      rw [this] at e
      cases e
  | f + 1, s, h => by
    cases hb : bearerOf l s with
    | none => simp [climbs, hb] at h
    | some i =>
      obtain ⟨r, hr, -⟩ := bearer_get hb
      have hu : upN l 1 s = some r.name := by show upOf l s = _; unfold upOf; rw [hb]; simp [hr]
      have h' : climbs l f r.name = true := by simpa [climbs, hb, hr] using h
      rw [show f + 1 + 1 = 1 + (f + 1) by omega, upN_add l 1 (f + 1) s r.name hu]
      exact climbs_upN f r.name h'

theorem upOf_rk {l : List Rk} {s t : ByteArray} (h : upOf l s = some t) : ∃ r ∈ l, r.name = t := by
  unfold upOf at h
  cases hb : bearerOf l s with
  | none => rw [hb] at h; cases h
  | some i =>
    rw [hb] at h
    simp only [Option.bind_some] at h
    cases hr : l[i]? with
    | none => rw [hr] at h; cases h
    | some r => rw [hr] at h; exact ⟨r, List.mem_of_getElem? hr, Option.some.inj h⟩

theorem upN_rk {l : List Rk} {s : ByteArray} (hs : ∃ r ∈ l, r.name = s) : ∀ {k : Nat} {t : ByteArray}, upN l k s = some t → ∃ r ∈ l, r.name = t
  | 0, t, h => by obtain rfl := Option.some.inj h; exact hs
  | k + 1, t, h => by
    have h' : (upN l k s).bind (upOf l) = some t := h
    cases hk : upN l k s with
    | none => rw [hk] at h'; cases h'
    | some u => rw [hk] at h'; exact upOf_rk h'

/-- Who climbs for long is above a circle. -/
theorem circ_of_climbs {l : List Rk} {r : Rk} (hr : r ∈ l) (h : climbs l (l.length + 1) r.name = true) : ∃ x ∈ l, Circ l x.name (l.length + 1) := by
  have hn := climbs_upN _ _ h
  have hall : ∀ k, k ≤ l.length → ∃ t, upN l k r.name = some t := fun k hk => by
    cases hx : upN l k r.name with
    | some t => exact ⟨t, rfl⟩
    | none => exact absurd hx (upN_less (j := l.length + 1 + 1 - k) k (by rw [show k + (l.length + 1 + 1 - k) = l.length + 1 + 1 by omega]; exact hn))
  let p : List ByteArray := (List.range (l.length + 1)).map fun k => (upN l k r.name).getD r.name
  have hp : p.length = l.length + 1 := by simp [p]
  have hget : ∀ k t, k ≤ l.length → upN l k r.name = some t → p[k]? = some t := fun k t hk ht => by
    simp only [p]
    rw [List.getElem?_map, List.getElem?_range (by omega)]
    simp [ht]
  have hdup : ¬ p.Nodup := fun hd => by
    have := nodup_le (q := l.map (·.name)) hd fun x hx => by
      obtain ⟨k, hk⟩ := List.getElem?_of_mem hx
      have hkl : k < p.length := (List.getElem?_eq_some_iff.1 hk).1
      obtain ⟨t, ht⟩ := hall k (by omega)
      rw [hget k t (by omega) ht] at hk
      obtain rfl := Option.some.inj hk
      obtain ⟨y, hy, e⟩ := upN_rk ⟨r, hr, rfl⟩ ht
      exact List.mem_map.2 ⟨y, hy, e⟩
    rw [hp, List.length_map] at this
    omega
  have hex : ∃ i j : Nat, ∃ x, i < j ∧ j ≤ l.length ∧ p[i]? = some x ∧ p[j]? = some x := by
    refine Classical.byContradiction fun hno => hdup ?_
    refine List.pairwise_iff_getElem.2 fun i j hi hj hij e => hno ⟨i, j, p[i], hij, by omega, List.getElem?_eq_getElem hi, ?_⟩
    rw [List.getElem?_eq_getElem hj, e]
  obtain ⟨i, j, x, hij, hjl, hi, hj⟩ := hex
  obtain ⟨a, ha⟩ := hall i (by omega)
  obtain ⟨b, hb⟩ := hall j hjl
  rw [hget i a (by omega) ha] at hi
  rw [hget j b hjl hb] at hj
  obtain rfl := Option.some.inj hi
  obtain rfl := Option.some.inj hj
  obtain ⟨y, hy, rfl⟩ := upN_rk ⟨r, hr, rfl⟩ ha
  refine ⟨y, hy, j - i, by omega, by omega, ?_⟩
  rw [← hb, show j = i + (j - i) by omega, upN_add l i (j - i) _ _ ha]
  congr 1
  omega

theorem climbs_of_circ {l : List Rk} {s : ByteArray} {k : Nat} (h : Circ l s k) (f : Nat) : climbs l f s = true := by
  obtain ⟨j, h1, -, hj⟩ := h
  have hper : ∀ m, ∃ t, upN l m s = some t := fun m => by
    have hmul : ∀ q, upN l (j * q) s = some s := fun q => by
      induction q with
      | zero => rfl
      | succ q ih => rw [Nat.mul_succ, upN_add l (j * q) j s s ih]; exact hj
    have hle : m ≤ j * m := Nat.le_mul_of_pos_left m (by omega)
    cases hx : upN l m s with
    | some t => exact ⟨t, rfl⟩
    | none => exact absurd hx (upN_less (j := j * m - m) m (by rw [show m + (j * m - m) = j * m by omega, hmul]; exact fun e => by cases e))
  refine climbs_circle (fun u => ∃ m, upN l m s = some u) (fun u ⟨m, hm⟩ => ?_) f s ⟨0, rfl⟩
  obtain ⟨t, ht⟩ := hper (m + 1)
  refine ⟨t, ?_, m + 1, ht⟩
  have : (upN l m s).bind (upOf l) = some t := ht
  rw [hm] at this
  exact this

theorem circ_no {l : List Rk} (h : ∀ r ∈ l, ¬ Circ l r.name (l.length + 1)) : l.any (fun r => climbs l (l.length + 1) r.name) = false := by
  rw [List.any_eq_false]
  intro r hr hc
  obtain ⟨x, hx, hci⟩ := circ_of_climbs hr hc
  exact h x hx hci
theorem circ_yes {l : List Rk} {r : Rk} {k : Nat} (hr : r ∈ l) (h : Circ l r.name k) : l.any (fun r => climbs l (l.length + 1) r.name) = true :=
  List.any_eq_true.2 ⟨r, hr, climbs_of_circ h _⟩

theorem Circ.more {l : List Rk} {s : ByteArray} {k : Nat} (hn : ¬ Circ l s k) {t : ByteArray} (hu : upN l (k + 1) s = some t) (ht : t ≠ s) : ¬ Circ l s (k + 1) := by
  rintro ⟨j, h1, h2, h3⟩
  rcases Nat.lt_or_ge k j with h | h
  · obtain rfl : j = k + 1 := by omega
    rw [hu] at h3
    exact ht (Option.some.inj h3)
  · exact hn ⟨j, h1, h, h3⟩
theorem Circ.ended {l : List Rk} {s : ByteArray} {k : Nat} (hn : ¬ Circ l s k) (hu : upN l (k + 1) s = none) (m : Nat) : ¬ Circ l s m := by
  rintro ⟨j, h1, h2, h3⟩
  rcases Nat.lt_or_ge k j with h | h
  · exact upN_less (l := l) (s := s) (j := j - (k + 1)) (k + 1) (by rw [show k + 1 + (j - (k + 1)) = j by omega, h3]; exact fun e => by cases e) hu
  · exact hn ⟨j, h1, h, h3⟩
theorem circ_zero (l : List Rk) (s : ByteArray) : ¬ Circ l s 0 := by
  rintro ⟨j, h1, h2, -⟩
  omega

theorem bearer_mem {l : List Rk} {s : ByteArray} : (bearerOf l s).isNone = !hasB (borneAll l) s := by
  cases hb : bearerOf l s with
  | none =>
    have := List.findIdx?_eq_none_iff.1 hb
    have hn : s ∉ borneAll l := fun hm => by
      unfold borneAll at hm
      rw [List.mem_flatMap] at hm
      obtain ⟨r, hr, hs⟩ := hm
      have := this r hr
      simp at this hs
      rcases hs with e | e
      · exact this.1 e.symm
      · exact this.2 e.symm
    simp [hasB_false.2 hn]
  | some i =>
    obtain ⟨r, hr, hs⟩ := bearer_get hb
    have hm : s ∈ borneAll l := by
      unfold borneAll
      rw [List.mem_flatMap]
      refine ⟨r, List.mem_of_getElem? hr, ?_⟩
      rcases hs with rfl | rfl <;> simp
    simp [hasB_true.2 hm]

theorem isTop_mem {l : List Rk} {i : Nat} {r : Rk} (h : l[i]? = some r) : isTop l i = !hasB (borneAll l) r.name := by
  unfold isTop
  rw [h]
  exact bearer_mem

theorem top_exists {l : List Rk} : ∀ (f : Nat) (i : Nat) (r : Rk), l[i]? = some r → climbs l f r.name = false → ∃ k, k < l.length ∧ isTop l k = true
  | 0, i, r, hr, h => by
    refine ⟨i, (List.getElem?_eq_some_iff.1 hr).1, ?_⟩
    unfold isTop
    rw [hr]
    cases hb : bearerOf l r.name with
    | none => simp [hb]
    | some j => simp [climbs, hb] at h
  | f + 1, i, r, hr, h => by
    cases hb : bearerOf l r.name with
    | none =>
      refine ⟨i, (List.getElem?_eq_some_iff.1 hr).1, ?_⟩
      unfold isTop
      rw [hr]
      simp [hb]
    | some j =>
      obtain ⟨r', hr', -⟩ := bearer_get hb
      exact top_exists f j r' hr' (by simpa [climbs, hb, hr'] using h)

theorem tops_one {l : List Rk} (h : openErr l = 0) : ∃ k, k < l.length ∧ isTop l k = true ∧ topOf l = k ∧ ∀ j, j < l.length → isTop l j = true → j = k := by
  obtain ⟨h0, h1, h2, hn, h4, h5⟩ := open_zero h
  have hx : ∃ r, l[0]? = some r := ⟨l[0]'(by omega), List.getElem?_eq_getElem (by omega)⟩
  obtain ⟨r, hr⟩ := hx
  have hc : climbs l (l.length + 1) r.name = false := by simpa using List.any_eq_false.1 h4 r (List.mem_of_getElem? hr)
  obtain ⟨k, hk, hT⟩ := top_exists _ _ _ hr hc
  have mem : ∀ j, j < l.length → isTop l j = true → j ∈ topsOf l := fun j hj hjT => by
    unfold topsOf topsTo
    exact List.mem_filter.2 ⟨List.mem_range.2 hj, hjT⟩
  have hk' := mem k hk hT
  obtain ⟨x, hx⟩ : ∃ x, topsOf l = [x] := by
    match ht : topsOf l with
    | [] => rw [ht] at hk'; cases hk'
    | [x] => exact ⟨x, rfl⟩
    | x :: y :: t => rw [ht] at h5; simp at h5
  rw [hx] at hk'
  have hkx : k = x := by simpa using hk'
  subst hkx
  refine ⟨k, hk, hT, by unfold topOf; rw [hx]; rfl, fun j hj hjT => ?_⟩
  have := mem j hj hjT
  rw [hx] at this
  simpa using this

end Go.Proofs.Ytmioamcgbihhjaa
