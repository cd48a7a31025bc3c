import Derived.Test.YtdidcpealabaiaaQ23

section
/- The plain law of wider cables: the least cost does not grow; the unwindings are the cost divided by 10^10. -/
namespace Go.Proofs.Ytdidcpealabaiaa
open Go Go.RowKit

/-- How often the ways over positions unwind. -/
def cntU (a : Int) : List Int → Int
  | [] => 0
  | x :: r => (if 648000 < wayF a x then 1 else 0) + cntU x r
theorem cntU_snoc (z : Int) : ∀ (xs : List Int) (a : Int), cntU a (xs ++ [z]) = cntU a xs + (if 648000 < wayF (lastI a xs) z then 1 else 0)
  | [], a => by
    show (if 648000 < wayF a z then (1 : Int) else 0) + 0 = 0 + (if 648000 < wayF a z then 1 else 0)
    omega
  | x :: r, a => by simp only [List.cons_append, cntU, lastI, cntU_snoc z r x]; omega
theorem cntU_in : ∀ (xs : List Int) (a : Int), 0 ≤ cntU a xs ∧ cntU a xs ≤ xs.length
  | [], a => by simp [cntU]
  | x :: r, a => by
    have := cntU_in r x
    simp only [cntU, List.length_cons]
    split <;> omega
theorem cost_cnt : ∀ (xs : List Int) (a : Int), (-25920000 ≤ a ∧ a ≤ 25920000) → (∀ z ∈ xs, -25920000 ≤ z ∧ z ≤ 25920000) → 10000000000 * cntU a xs ≤ costL a xs ∧ costL a xs ≤ 10000000000 * cntU a xs + 60000000 * xs.length
  | [], a, _, _ => by simp [cntU, costL]
  | x :: r, a, ha, h => by
    have hx := h x (by simp)
    have ih := cost_cnt r x hx fun z hz => h z (by simp [hz])
    have hw : 0 ≤ wayF a x ∧ wayF a x ≤ 60000000 := by unfold wayF; omega
    simp only [cntU, costL, List.length_cons]
    unfold costF
    split <;> (push_cast; omega)
theorem cost_floor {a : Int} {xs : List Int} (ha : -25920000 ≤ a ∧ a ≤ 25920000) (h : ∀ z ∈ xs, -25920000 ≤ z ∧ z ≤ 25920000) (hl : xs.length ≤ 20) : costL a xs / 10000000000 = cntU a xs := by
  have := cost_cnt xs a ha h
  omega

/-- The mounting with limits wider by a, b. -/
def wideM (m : Mnt) (a b : Int) (A1 : Option Addr) (c1 : Nat) (A2 : Option Addr) (c2 : Nat) : Mnt := { m with ls := if -25920000 < m.ls - a then m.ls - a else -25920000, ms := if m.ms + b < 25920000 then m.ms + b else 25920000, A1 := A1, c1 := c1, A2 := A2, c2 := c2 }
section
variable {m : Mnt} {a b : Int} {A1 A2 : Option Addr} {c1 c2 : Nat} {day pos : Int} {l : List Tgt}
theorem wideM_lim (hm : mntErr m = 0) (ha : 0 ≤ a) (hb : 0 ≤ b) : (wideM m a b A1 c1 A2 c2).ls ≤ m.ls ∧ m.ms ≤ (wideM m a b A1 c1 A2 c2).ms ∧ mntErr (wideM m a b A1 c1 A2 c2) = 0 := by
  obtain ⟨⟨x1, x2, x3, x4⟩, -⟩ := mnt_right hm
  have f1 : (wideM m a b A1 c1 A2 c2).ls = if -25920000 < m.ls - a then m.ls - a else -25920000 := rfl
  have f2 : (wideM m a b A1 c1 A2 c2).ms = if m.ms + b < 25920000 then m.ms + b else 25920000 := rfl
  have e1 : (wideM m a b A1 c1 A2 c2).ls ≤ m.ls ∧ -25920000 ≤ (wideM m a b A1 c1 A2 c2).ls := by rw [f1]; split <;> omega
  have e2 : m.ms ≤ (wideM m a b A1 c1 A2 c2).ms ∧ (wideM m a b A1 c1 A2 c2).ms ≤ 25920000 := by rw [f2]; split <;> omega
  exact ⟨e1.1, e2.1, wide_right hm e1.1 e1.2 e2.1 e2.2 A1 c1 A2 c2⟩
theorem turns_mem {ls ms X k : Int} : k ∈ turnsL ls ms X ↔ (∃ i : Nat, i < 43 ∧ (i : Int) - 21 = k) ∧ turnB ls ms X k = true := by
  unfold turnsL turnsTo
  rw [List.mem_filter, List.mem_map]
  simp only [List.mem_range]
theorem wide_turn {t : Tgt} {k : Int} (hm : mntErr m = 0) (ha : 0 ≤ a) (hb : 0 ≤ b) (h : k ∈ turnsV m day t) : k ∈ turnsV (wideM m a b A1 c1 A2 c2) day t ∧ ((turnsF m t day).2 = 0 → (turnsF (wideM m a b A1 c1 A2 c2) t day).2 = 0) := by
  obtain ⟨h1, h2, -⟩ := wideM_lim (A1 := A1) (c1 := c1) (A2 := A2) (c2 := c2) hm ha hb
  have happ : appF (wideM m a b A1 c1 A2 c2) t day = appF m t day := rfl
  obtain ⟨X, Y, hA⟩ : ∃ X Y, appF m t day = (X, Y) := ⟨_, _, rfl⟩
  unfold turnsV turnsF at h ⊢
  rw [happ, hA]
  rw [hA] at h
  simp only at h ⊢
  unfold turnsAt at h ⊢
  have elo : (wideM m a b A1 c1 A2 c2).lo = m.lo := rfl
  have ehi : (wideM m a b A1 c1 A2 c2).hi = m.hi := rfl
  rw [elo, ehi]
  by_cases hy : withinB Y m.lo m.hi = false
  · rw [if_pos hy] at h; simp at h
  rw [if_neg hy] at h ⊢
  by_cases hn : turnsL m.ls m.ms X = []
  · rw [if_pos hn] at h; simp at h
  rw [if_neg hn] at h
  simp only at h
  have hk : k ∈ turnsL (wideM m a b A1 c1 A2 c2).ls (wideM m a b A1 c1 A2 c2).ms X := by
    rw [turns_mem] at h ⊢
    refine ⟨h.1, ?_⟩
    have h3 := h.2
    unfold turnB at h3 ⊢
    simp only [Bool.and_eq_true, decide_eq_true_eq] at h3 ⊢
    omega
  have hne : ¬ turnsL (wideM m a b A1 c1 A2 c2).ls (wideM m a b A1 c1 A2 c2).ms X = [] := fun e => by rw [e] at hk; simp at hk
  rw [if_neg hne]
  exact ⟨hk, fun _ => rfl⟩
theorem firstStep_clear {α : Type} {f : Nat → α → Int} {l : List α} (h : ∀ i t, l[i]? = some t → f i t = 0) : firstStep f 0 l = (0, 0) := by
  have h1 := firstStep_at f l 0 l.length fun j t _ ht => by rw [Nat.zero_add]; exact h j t ht
  rw [h1, List.drop_length]
  rfl
theorem wide_tour (ha : 0 ≤ a) (hb : 0 ≤ b) (hT : (tourF m l day pos).2 = 0) : (tourF (wideM m a b A1 c1 A2 c2) l day pos).2 = 0 := by
  obtain ⟨r1, r2, ⟨r3, r4⟩, r5, r6⟩ := tour_right hT
  obtain ⟨h1, h2, h3⟩ := wideM_lim (A1 := A1) (c1 := c1) (A2 := A2) (c2 := c2) r1 ha hb
  unfold tourF
  rw [if_neg (by rw [h3]; simp), if_neg (by rw [r2]; simp), if_neg (by rw [(withinB_iff _ _ _).2 ⟨by omega, by omega⟩]; simp), if_neg (by omega)]
  rw [firstStep_clear fun i t ht => ?_]
  have h4 := r6 i t ht
  unfold stepErr at h4 ⊢
  by_cases h5 : nextErr (l.take i) t ≠ 0
  · rw [if_pos h5] at h4; exact absurd h4 h5
  rw [if_neg h5] at h4 ⊢
  obtain ⟨k, hk⟩ := List.exists_mem_of_length_pos (turns_pos h4)
  exact (wide_turn r1 ha hb hk).2 h4
/-- Wider limits cost no more. -/
theorem wide_least (ha : 0 ≤ a) (hb : 0 ≤ b) (hT : (tourF m l day pos).2 = 0) {ks : List Int} (hk : pathErr m day l ks = 0) (hc : costL pos (pathL m day l ks) = leastC m day pos l) : leastC (wideM m a b A1 c1 A2 c2) day pos l ≤ leastC m day pos l := by
  obtain ⟨r1, -⟩ := tour_right hT
  obtain ⟨hkl, hpo⟩ := pathErr_ok hk
  have hp : pathErr (wideM m a b A1 c1 A2 c2) day l ks = 0 := by
    unfold pathErr
    rw [if_neg (by rw [hkl]; simp), path_good fun i t k ht hk => ?_, if_neg (by simp)]
    have h1 := path_at hpo ht hk
    exact decide_eq_true (wide_turn r1 ha hb (of_decide_eq_true h1)).1
  have hpl : pathL (wideM m a b A1 c1 A2 c2) day l ks = pathL m day l ks := rfl
  have h := leastC_le (pos := pos) (tour_pos (wide_tour (A1 := A1) (c1 := c1) (A2 := A2) (c2 := c2) ha hb hT)) hp
  rw [hpl, hc] at h
  exact h
end
end Go.Proofs.Ytdidcpealabaiaa

end
