import Derived.Test.YtgamepmipoociaaQ29

section
/- The plain law of the minutes of a choice. -/
namespace Go.Proofs.Ytgamepmipoociaa
open Go Go.RowKit

/-- When a target begins: from the minute and the position before it. -/
def ceilQ (n s : Int) : Int := -((-n) / s)
def begT (sp : Int) (s : Int × Int) (p : Tgt × Int) : Int := if s.1 + ceilQ (wayF s.2 p.2) sp < p.1.fr then p.1.fr else s.1 + ceilQ (wayF s.2 p.2) sp
def stepT (sp : Int) (s : Int × Int) (p : Tgt × Int) : Int × Int := (begT sp s p + p.1.dw, p.2)
def stT (sp : Int) (s0 : Int × Int) (Z : List (Tgt × Int)) (k : Nat) : Int × Int := (Z.take k).foldl (stepT sp) s0
theorem stT_zero (sp : Int) (s0 : Int × Int) (Z : List (Tgt × Int)) : stT sp s0 Z 0 = s0 := rfl
theorem stT_succ {sp : Int} {s0 : Int × Int} {Z : List (Tgt × Int)} {k : Nat} {p : Tgt × Int} (h : Z[k]? = some p) : stT sp s0 Z (k + 1) = stepT sp (stT sp s0 Z k) p := by
  unfold stT; rw [List.take_add_one, h]; simp
def begL (sp : Int) (s0 : Int × Int) (Z : List (Tgt × Int)) (k : Nat) : List Int := (List.range k).map fun j => match Z[j]? with
  | some p => begT sp (stT sp s0 Z j) p
  | none => 0
theorem begL_succ {sp : Int} {s0 : Int × Int} {Z : List (Tgt × Int)} {k : Nat} {p : Tgt × Int} (h : Z[k]? = some p) : begL sp s0 Z (k + 1) = begL sp s0 Z k ++ [begT sp (stT sp s0 Z k) p] := by
  unfold begL; rw [List.range_succ, List.map_append]; simp [h]
theorem begL_len (sp : Int) (s0 : Int × Int) (Z : List (Tgt × Int)) (k : Nat) : (begL sp s0 Z k).length = k := by simp [begL]
theorem begL_at {sp : Int} {s0 : Int × Int} {Z : List (Tgt × Int)} {k j : Nat} {p : Tgt × Int} (hj : j < k) (h : Z[j]? = some p) : (begL sp s0 Z k)[j]? = some (begT sp (stT sp s0 Z j) p) := by
  unfold begL
  rw [List.getElem?_map, List.getElem?_range hj]
  simp [h]
def lateE (sp : Int) (s0 : Int × Int) (Z : List (Tgt × Int)) (j : Nat) (p : Tgt × Int) : Int := if p.1.to < (stepT sp (stT sp s0 Z j) p).1 then 18 else 0
/-- The minutes, the number of the first late target, the error. -/
def timesQ (sp : Int) (s0 : Int × Int) (Z : List (Tgt × Int)) : (List Int × Int) × Int :=
  if (firstStep (lateE sp s0 Z) 0 Z).2 ≠ 0 then (([], (firstStep (lateE sp s0 Z) 0 Z).1), (firstStep (lateE sp s0 Z) 0 Z).2) else ((begL sp s0 Z Z.length, 0), 0)
theorem times_stop {sp : Int} {s0 : Int × Int} {Z : List (Tgt × Int)} {k : Nat} {p : Tgt × Int} (hp : ∀ j q, j < k → Z[j]? = some q → lateE sp s0 Z j q = 0) (hk : Z[k]? = some p) (hl : p.1.to < (stepT sp (stT sp s0 Z k) p).1) : timesQ sp s0 Z = (([], (k : Int)), 18) := by
  have e : lateE sp s0 Z k p = 18 := by unfold lateE; rw [if_pos hl]
  have h := firstStep_stop hp hk (by rw [e]; decide)
  unfold timesQ
  rw [h, e, if_pos (by simp)]
theorem times_all {sp : Int} {s0 : Int × Int} {Z : List (Tgt × Int)} (hp : ∀ j q, j < Z.length → Z[j]? = some q → lateE sp s0 Z j q = 0) : timesQ sp s0 Z = ((begL sp s0 Z Z.length, 0), 0) := by
  unfold timesQ
  rw [firstStep_all hp, if_neg (by simp)]
theorem ceilQ_in {n s : Int} (hn : 0 ≤ n ∧ n ≤ 200000000000) (hs : 1 ≤ s) : 0 ≤ ceilQ n s ∧ ceilQ n s ≤ 200000000000 := by
  unfold ceilQ
  have h1 : (-n) / s ≤ 0 := Int.ediv_le_of_le_mul (by omega) (by omega)
  have h2 : -n ≤ (-n) / s := by
    have := Int.le_ediv_of_mul_le (show 0 < s by omega) (show (-n) * s ≤ -n by
      have := Int.mul_le_mul_of_nonneg_left hs hn.1
      rw [Int.neg_mul]; omega)
    exact this
  omega
theorem way_in {a b : Int} (ha : PosR a) (hb : PosR b) : 0 ≤ wayF a b ∧ wayF a b ≤ 200000000000 := by unfold wayF PosR at *; omega
/-- A beginning is not earlier than the minute before it. -/
theorem begT_in {sp : Int} {s : Int × Int} {p : Tgt × Int} (hs : 1 ≤ sp) (h1 : PosR s.2) (h2 : PosR p.2) (hf : 0 ≤ p.1.fr ∧ p.1.fr ≤ 10000000) (hm : 0 ≤ s.1 ∧ s.1 ≤ 20000000) : s.1 ≤ begT sp s p ∧ 0 ≤ begT sp s p ∧ begT sp s p ≤ 300000000000 := by
  have hw := way_in h1 h2
  have hc := ceilQ_in hw hs
  unfold begT
  split <;> omega
theorem begT_mono {sp : Int} {s s' : Int × Int} {p : Tgt × Int} (h1 : s.1 ≤ s'.1) (h2 : s.2 = s'.2) : begT sp s p ≤ begT sp s' p := by
  unfold begT
  rw [h2]
  split <;> split <;> omega
theorem stT_mono {sp : Int} {s0 s0' : Int × Int} {Z : List (Tgt × Int)} (h1 : s0.1 ≤ s0'.1) (h2 : s0.2 = s0'.2) : ∀ k, (stT sp s0 Z k).1 ≤ (stT sp s0' Z k).1 ∧ (stT sp s0 Z k).2 = (stT sp s0' Z k).2
  | 0 => ⟨h1, h2⟩
  | k + 1 => by
    cases hk : Z[k]? with
    | none =>
      have e : Z.take (k + 1) = Z.take k := by
        have := List.getElem?_eq_none_iff.1 hk
        rw [List.take_of_length_le this, List.take_of_length_le (by omega)]
      have := stT_mono (sp := sp) (Z := Z) h1 h2 k
      unfold stT at *
      rwa [e]
    | some p =>
      obtain ⟨i1, i2⟩ := stT_mono (sp := sp) (Z := Z) h1 h2 k
      rw [stT_succ hk, stT_succ hk]
      unfold stepT
      have := begT_mono (sp := sp) (p := p) i1 i2
      exact ⟨by show begT _ _ _ + _ ≤ begT _ _ _ + _; omega, rfl⟩
/-- Not late up to k: the minutes stay in range. -/
theorem stT_in {sp : Int} {s0 : Int × Int} {Z : List (Tgt × Int)} {k : Nat} (hs : 1 ≤ sp) (h0 : 0 ≤ s0.1 ∧ s0.1 ≤ 10000000) (hp0 : PosR s0.2) (hz : ∀ q ∈ Z, PosR q.2 ∧ 0 ≤ q.1.fr ∧ q.1.fr ≤ 10000000 ∧ q.1.to ≤ 10000000 ∧ 1 ≤ q.1.dw) (hk : k ≤ Z.length) (h : ∀ j q, j < k → Z[j]? = some q → lateE sp s0 Z j q = 0) :
    0 ≤ (stT sp s0 Z k).1 ∧ (stT sp s0 Z k).1 ≤ 10000000 ∧ PosR (stT sp s0 Z k).2 := by
  induction k with
  | zero => exact ⟨h0.1, h0.2, hp0⟩
  | succ k ih =>
    obtain ⟨i1, i2, i3⟩ := ih (by omega) fun j q hj => h j q (by omega)
    have hq := List.getElem?_eq_getElem (show k < Z.length by omega)
    obtain ⟨z1, z2, z3, z4, z5⟩ := hz _ (List.getElem_mem (show k < Z.length by omega))
    have hb := begT_in hs i3 z1 ⟨z2, z3⟩ ⟨i1, by omega⟩
    have hl := h k _ (by omega) hq
    unfold lateE at hl
    rw [stT_succ hq]
    split at hl
    · exact absurd hl (by decide)
    · unfold stepT at *
      simp only at *
      exact ⟨by omega, by omega, z1⟩
theorem times_kind {sp : Int} {s0 : Int × Int} {Z : List (Tgt × Int)} {Q : (List Int × Int) × Int} (h : timesQ sp s0 Z = Q) : (Q.2 = 18 ∧ Q.1.1 = []) ∨ (Q = ((begL sp s0 Z Z.length, 0), 0) ∧ ∀ j q, j < Z.length → Z[j]? = some q → lateE sp s0 Z j q = 0) := by
  unfold timesQ at h
  by_cases h0 : (firstStep (lateE sp s0 Z) 0 Z).2 = 0
  · right
    rw [if_neg (by simp [h0])] at h
    refine ⟨h.symm, fun j q _ hq => ?_⟩
    have := firstStep_zero _ Z 0 h0 j q hq
    rwa [Nat.zero_add] at this
  · left
    rw [if_pos h0] at h
    rw [← h]
    refine ⟨?_, rfl⟩
    show (firstStep _ _ _).2 = 18
    have key : ∀ (L : List (Tgt × Int)) (s : Nat), (firstStep (lateE sp s0 Z) s L).2 = 0 ∨ (firstStep (lateE sp s0 Z) s L).2 = 18 := by
      intro L
      induction L with
      | nil => intro s; left; rfl
      | cons a r ih =>
        intro s
        unfold firstStep
        split
        · right
          rename_i hne
          unfold lateE at hne ⊢
          split
          · rfl
          · rename_i hh; rw [if_neg hh] at hne; exact absurd rfl hne
        · exact ih _
    rcases key Z 0 with h1 | h1
    · exact absurd h1 h0
    · exact h1
/-- A later beginning begins no target earlier; the beginnings ascend. -/
theorem begL_le {sp mi pos : Int} {Z : List (Tgt × Int)} {j : Nat} {a b : Int} (ha : (begL sp (mi, pos) Z Z.length)[j]? = some a) (hb : (begL sp (mi + 1, pos) Z Z.length)[j]? = some b) : a ≤ b := by
  have hj : j < Z.length := by have := (List.getElem?_eq_some_iff.1 ha).1; rwa [begL_len] at this
  have hz := List.getElem?_eq_getElem hj
  rw [begL_at hj hz] at ha hb
  cases ha
  cases hb
  obtain ⟨h1, h2⟩ := stT_mono (sp := sp) (s0 := (mi, pos)) (s0' := (mi + 1, pos)) (Z := Z) (by simp; omega) rfl j
  exact begT_mono h1 h2
theorem begL_up {sp mi pos : Int} {Z : List (Tgt × Int)} {j : Nat} {a b : Int} (hs : 1 ≤ sp) (h0 : 0 ≤ mi ∧ mi ≤ 10000000) (hp0 : PosR pos) (hz : ∀ q ∈ Z, PosR q.2 ∧ 0 ≤ q.1.fr ∧ q.1.fr ≤ 10000000 ∧ q.1.to ≤ 10000000 ∧ 1 ≤ q.1.dw) (h : ∀ j q, j < Z.length → Z[j]? = some q → lateE sp (mi, pos) Z j q = 0)
    (ha : (begL sp (mi, pos) Z Z.length)[j]? = some a) (hb : (begL sp (mi, pos) Z Z.length)[j + 1]? = some b) : a ≤ b := by
  have hj : j + 1 < Z.length := by have := (List.getElem?_eq_some_iff.1 hb).1; rwa [begL_len] at this
  have hz0 := List.getElem?_eq_getElem (show j < Z.length by omega)
  have hz1 := List.getElem?_eq_getElem hj
  rw [begL_at (by omega) hz0] at ha
  rw [begL_at hj hz1] at hb
  cases ha
  cases hb
  obtain ⟨i1, i2, i3⟩ := stT_in (k := j + 1) hs h0 hp0 hz (by omega) fun j' q hj' hq => h j' q (by omega) hq
  obtain ⟨c1, c2, c3, c4, c5⟩ := hz _ (List.getElem_mem hj)
  obtain ⟨-, -, -, -, d5⟩ := hz _ (List.getElem_mem (show j < Z.length by omega))
  have := (begT_in hs i3 c1 ⟨c2, c3⟩ ⟨i1, by omega⟩).1
  rw [stT_succ hz0] at this ⊢
  unfold stepT at this ⊢
  simp only at this ⊢
  omega
end Go.Proofs.Ytgamepmipoociaa

end
