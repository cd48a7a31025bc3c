/- A tree without a cycle has no deep branch: what lies below its top is found. -/
import Derived.Test.YtmioamcgbihhjaaAll
namespace Go.Proofs.Ytmioamcgbihhjaa
open Go.RowKit

theorem nodup_le {α : Type} [DecidableEq α] : ∀ {p q : List α}, p.Nodup → (∀ x ∈ p, x ∈ q) → p.length ≤ q.length
  | [], _, _, _ => by simp
  | a :: t, q, hn, hs => by
    have ha := hs a (by simp)
    have hn' := List.nodup_cons.1 hn
    have h1 : t.length ≤ (q.erase a).length := nodup_le hn'.2 fun x hx => by
      have hne : x ≠ a := fun e => hn'.1 (e ▸ hx)
      exact (List.mem_erase_of_ne hne).2 (hs x (by simp [hx]))
    rw [List.length_erase_of_mem ha] at h1
    have : 0 < q.length := List.length_pos_of_mem ha
    simp only [List.length_cons]
    omega

/-- The rocker that bears a thing, by its name. -/
def upOf (l : List Rk) (s : ByteArray) : Option ByteArray := (bearerOf l s).bind fun i => (l[i]?).map (·.name)

theorem bearer_get {l : List Rk} {s : ByteArray} {i : Nat} (h : bearerOf l s = some i) : ∃ r, l[i]? = some r ∧ (r.left = s ∨ r.right = s) := by
  unfold bearerOf at h
  obtain ⟨hi, hp, -⟩ := List.findIdx?_eq_some_iff_getElem.1 h
  exact ⟨l[i], List.getElem?_eq_getElem hi, by simpa using hp⟩

theorem climbs_up {l : List Rk} {s t : ByteArray} (h : upOf l s = some t) (f : Nat) : climbs l (f + 1) s = climbs l f t ∧ climbs l 0 s = true := by
  unfold upOf at h
  cases hb : bearerOf l s with
  | none => rw [hb] at h; cases h
  | some i =>
    rw [hb] at h
    simp only [Option.bind_some] at h
    simp only [climbs, hb, h]
    exact ⟨rfl, rfl⟩

/-- From a circle one climbs as long as one likes. -/
theorem climbs_circle {l : List Rk} (S : ByteArray → Prop) (h : ∀ s, S s → ∃ t, upOf l s = some t ∧ S t) : ∀ (f : Nat) (s : ByteArray), S s → climbs l f s = true
  | 0, s, hs => by obtain ⟨t, ht, -⟩ := h s hs; exact (climbs_up ht 0).2
  | f + 1, s, hs => by
    obtain ⟨t, ht, hS⟩ := h s hs
    rw [(climbs_up ht f).1]
    exact climbs_circle S h f t hS

theorem bear_one {s : ByteArray} : ∀ {l : List Rk} {i j : Nat} {r r' : Rk}, (borneAll l).Nodup → l[i]? = some r → l[j]? = some r' → (r.left = s ∨ r.right = s) → (r'.left = s ∨ r'.right = s) → i = j
  | x :: l, i, j, r, r', hn, hi, hj, h1, h2 => by
    have e : borneAll (x :: l) = [x.left, x.right] ++ borneAll l := rfl
    rw [e, List.nodup_append] at hn
    have mem : ∀ {k : Nat} {q : Rk}, l[k]? = some q → (q.left = s ∨ q.right = s) → s ∈ borneAll l := fun hk hq => by
      unfold borneAll
      rw [List.mem_flatMap]
      refine ⟨_, List.mem_of_getElem? hk, ?_⟩
      rcases hq with rfl | rfl <;> simp
    cases i with
    | zero =>
      cases j with
      | zero => rfl
      | succ j =>
        simp at hi
        subst hi
        exact absurd rfl (hn.2.2 s (by rcases h1 with rfl | rfl <;> simp) s (mem (by simpa using hj) h2))
    | succ i =>
      cases j with
      | zero =>
        simp at hj
        subst hj
        exact absurd rfl (hn.2.2 s (by rcases h2 with rfl | rfl <;> simp) s (mem (by simpa using hi) h1))
      | succ j =>
        have hi' : l[i]? = some r := by simpa using hi
        have hj' : l[j]? = some r' := by simpa using hj
        have := bear_one hn.2.1 hi' hj' h1 h2
        omega
  | [], i, j, r, r', _, hi, _, _, _ => by simp at hi

theorem up_of_child {l : List Rk} (hn : (borneAll l).Nodup) {i : Nat} {r : Rk} {s : ByteArray} (hi : l[i]? = some r) (hs : r.left = s ∨ r.right = s) : upOf l s = some r.name := by
  cases hb : bearerOf l s with
  | none =>
    unfold bearerOf at hb
    have := List.findIdx?_eq_none_iff.1 hb r (List.mem_of_getElem? hi)
    simp at this
    rcases hs with h | h
    · exact absurd h this.1
    · exact absurd h this.2
  | some j =>
    obtain ⟨r', hj, hs'⟩ := bearer_get hb
    have e := bear_one hn hi hj hs hs'
    subst e
    unfold upOf
    rw [hb]
    simp [hi]

theorem idx_get {l : List Rk} {s : ByteArray} {i : Nat} (h : idxOf l s = some i) : ∃ r, l[i]? = some r ∧ r.name = s := by
  unfold idxOf at h
  obtain ⟨hi, hp, -⟩ := List.findIdx?_eq_some_iff_getElem.1 h
  exact ⟨l[i], List.getElem?_eq_getElem hi, by simpa using hp⟩

/-- A way down that is too long, from its end up. -/
structure WayUp (l : List Rk) (p : List ByteArray) (s : ByteArray) : Prop where
  last : p.getLast? = some s
  up : ∀ k a b, p[k]? = some a → p[k + 1]? = some b → upOf l a = some b
  rk : ∀ x ∈ p, ∃ r ∈ l, r.name = x

theorem WayUp.snoc {l : List Rk} {p : List ByteArray} {s t : ByteArray} (h : WayUp l p s) (hu : upOf l s = some t) (ht : ∃ r ∈ l, r.name = t) : WayUp l (p ++ [t]) t := by
  refine ⟨by simp, fun k a b ha hb => ?_, fun x hx => ?_⟩
  · rcases Nat.lt_trichotomy (k + 1) p.length with hk | hk | hk
    · rw [List.getElem?_append_left (by omega)] at ha
      rw [List.getElem?_append_left hk] at hb
      exact h.up k a b ha hb
    · rw [List.getElem?_append_left (by omega)] at ha
      rw [List.getElem?_append_right (by omega)] at hb
      have e1 : b = t := by rw [hk, Nat.sub_self] at hb; simpa using hb.symm
      have e2 : a = s := by
        have := h.last
        rw [List.getLast?_eq_getElem?, show p.length - 1 = k by omega, ha] at this
        exact Option.some.inj this
      rw [e1, e2]
      exact hu
    · rw [List.getElem?_eq_none (by simp; omega)] at hb
      cases hb
  · rcases List.mem_append.1 hx with hx | hx
    · exact h.rk x hx
    · simp at hx; exact hx ▸ ht

theorem pts_none {l : List Rk} (hn : (borneAll l).Nodup) : ∀ (f : Nat) (s : ByteArray), pts l f s = none → ∃ p, p.length = f + 1 ∧ WayUp l p s
  | 0, s, h => by
    unfold pts at h
    cases hi : idxOf l s with
    | none => rw [hi] at h; cases h
    | some i =>
      obtain ⟨r, hr, hs⟩ := idx_get hi
      refine ⟨[s], rfl, by simp, fun k a b ha hb => ?_, fun x hx => ?_⟩
      · simp at hb
      · simp at hx; exact ⟨r, List.mem_of_getElem? hr, hs.trans hx.symm⟩
  | f + 1, s, h => by
    unfold pts at h
    cases hi : idxOf l s with
    | none => rw [hi] at h; cases h
    | some i =>
      obtain ⟨r, hr, hs⟩ := idx_get hi
      rw [hi] at h
      simp only [hr] at h
      have hmem : ∃ r ∈ l, r.name = s := ⟨r, List.mem_of_getElem? hr, hs⟩
      cases h1 : pts l f r.left with
      | none =>
        obtain ⟨p, hp, hw⟩ := pts_none hn f r.left h1
        exact ⟨p ++ [s], by simp [hp], hw.snoc (hs ▸ up_of_child hn hr (.inl rfl)) hmem⟩
      | some a =>
        cases h2 : pts l f r.right with
        | none =>
          obtain ⟨p, hp, hw⟩ := pts_none hn f r.right h2
          exact ⟨p ++ [s], by simp [hp], hw.snoc (hs ▸ up_of_child hn hr (.inr rfl)) hmem⟩
        | some b => rw [h1, h2] at h; cases h

theorem pts_ok {l : List Rk} (h : openErr l = 0) (s : ByteArray) : pts l l.length s ≠ none := by
  intro hp
  obtain ⟨h0, h1, h2, hn, h4, h5⟩ := open_zero h
  obtain ⟨p, hlen, hw⟩ := pts_none hn _ _ hp
  have hdup : ¬ p.Nodup := fun hd => by
    have := nodup_le (q := l.map (·.name)) hd fun x hx => by
      obtain ⟨r, hr, e⟩ := hw.rk x hx
      exact List.mem_map.2 ⟨r, hr, e⟩
    rw [hlen, List.length_map] at this
    omega
  have hex : ∃ i j : Nat, ∃ x, i < j ∧ p[i]? = some x ∧ p[j]? = some x := by
    refine Classical.byContradiction fun hno => hdup ?_
    refine List.pairwise_iff_getElem.2 fun i j hi hj hij e => hno ⟨i, j, p[i], hij, List.getElem?_eq_getElem hi, ?_⟩
    rw [List.getElem?_eq_getElem hj, e]
  obtain ⟨i, j, x, hij, hi, hj⟩ := hex
  have hc := climbs_circle (l := l) (fun s => ∃ k, i ≤ k ∧ k < j ∧ p[k]? = some s) (fun s ⟨k, k1, k2, k3⟩ => by
    have hjl : j < p.length := (List.getElem?_eq_some_iff.1 hj).1
    have hk1 : p[k + 1]? = some (p[k + 1]'(by omega)) := List.getElem?_eq_getElem (by omega)
    refine ⟨_, hw.up k _ _ k3 hk1, ?_⟩
    by_cases e : k + 1 = j
    · refine ⟨i, Nat.le_refl _, hij, ?_⟩
      rw [hi, ← hj, ← hk1, e]
    · exact ⟨k + 1, by omega, by omega, hk1⟩) (l.length + 1) x ⟨i, Nat.le_refl _, hij, hi⟩
  obtain ⟨r, hr, e⟩ := hw.rk x (List.mem_of_getElem? hi)
  have := List.any_eq_false.1 h4 r hr
  rw [e] at this
  exact this hc

end Go.Proofs.Ytmioamcgbihhjaa
