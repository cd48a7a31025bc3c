import Derived.Test.YtmejiafmmmeloaaQ19
import Derived.Test.YtmejiafmmmeloaaQ12
import Derived.Test.YtmejiafmmmeloaaQ9
import Derived.Laws.BitsAllLaws

section
/- Plain law of mean squares: the least and the greatest one, as the program and as the reference find them. -/
namespace Go.Proofs.Ytmejiafmmmeloaa

/-- The least of the first k fractions; the greatest of one and the first k others. -/
def minK (vs : Nat → Int × Int) : Nat → Int × Int
  | 0 => vs 0
  | k + 1 => if lessB (vs k) (minK vs k) then vs k else minK vs k
def maxK (g : Int × Int) (vs : Nat → Int × Int) : Nat → Int × Int
  | 0 => g
  | k + 1 => if lessB (maxK g vs k) (vs k) then vs k else maxK g vs k
theorem frac_trans {a b c : Int × Int} (ha : 0 < a.2) (hb : 0 < b.2) (hc : 0 < c.2) (h1 : a.1 * b.2 ≤ b.1 * a.2) (h2 : b.1 * c.2 ≤ c.1 * b.2) : a.1 * c.2 ≤ c.1 * a.2 := less_le ha hb h1 h2 (Int.le_of_lt hc)
section
variable {vs : Nat → Int × Int} {m : Nat} (hp : ∀ i, i < m → 0 < (vs i).2)
include hp
theorem minK_is : ∀ {k : Nat}, 1 ≤ k → k ≤ m → (∃ i, i < k ∧ minK vs k = vs i) ∧ ∀ j, j < k → (minK vs k).1 * (vs j).2 ≤ (vs j).1 * (minK vs k).2
  | 0, h, _ => absurd h (by omega)
  | 1, _, _ => by
    have e : minK vs 1 = vs 0 := by
      show (if lessB (vs 0) (vs 0) then vs 0 else vs 0) = vs 0
      split <;> rfl
    rw [e]
    exact ⟨⟨0, by omega, rfl⟩, fun j hj => by
      obtain rfl : j = 0 := (by omega)
      exact Int.le_refl _⟩
  | k + 2, _, hk => by
    obtain ⟨⟨i, hi, he⟩, ih⟩ := minK_is (k := k + 1) (by omega) (by omega)
    have h1 := hp (k + 1) (by omega)
    have h2 := hp i (by omega)
    rw [← he] at h2
    show (∃ i, i < k + 2 ∧ (if lessB (vs (k + 1)) (minK vs (k + 1)) then vs (k + 1) else minK vs (k + 1)) = vs i) ∧ ∀ j, j < k + 2 → (if lessB (vs (k + 1)) (minK vs (k + 1)) then vs (k + 1) else minK vs (k + 1)).1 * (vs j).2 ≤ (vs j).1 * (if lessB (vs (k + 1)) (minK vs (k + 1)) then vs (k + 1) else minK vs (k + 1)).2
    by_cases hl : lessB (vs (k + 1)) (minK vs (k + 1)) = true
    · rw [if_pos hl]
      unfold lessB at hl
      have hl' : (vs (k + 1)).1 * (minK vs (k + 1)).2 < (minK vs (k + 1)).1 * (vs (k + 1)).2 := by simpa using hl
      refine ⟨⟨k + 1, by omega, rfl⟩, fun j hj => ?_⟩
      by_cases hjk : j = k + 1
      · subst hjk; exact Int.le_refl _
      · exact frac_trans h1 h2 (hp j (by omega)) (Int.le_of_lt hl') (ih j (by omega))
    · rw [if_neg hl]
      unfold lessB at hl
      have hl' : (minK vs (k + 1)).1 * (vs (k + 1)).2 ≤ (vs (k + 1)).1 * (minK vs (k + 1)).2 := by simpa using hl
      refine ⟨⟨i, by omega, he⟩, fun j hj => ?_⟩
      by_cases hjk : j = k + 1
      · subst hjk; exact hl'
      · exact ih j (by omega)
theorem maxK_is {g : Int × Int} (hg : 0 < g.2) : ∀ {k : Nat}, k ≤ m → (maxK g vs k = g ∨ ∃ i, i < k ∧ maxK g vs k = vs i) ∧ g.1 * (maxK g vs k).2 ≤ (maxK g vs k).1 * g.2 ∧ ∀ j, j < k → (vs j).1 * (maxK g vs k).2 ≤ (maxK g vs k).1 * (vs j).2
  | 0, _ => ⟨.inl rfl, Int.le_refl _, fun j hj => absurd hj (by omega)⟩
  | k + 1, hk => by
    obtain ⟨he, ig, ih⟩ := maxK_is (g := g) hg (k := k) (by omega)
    have h1 := hp k (by omega)
    have h2 : 0 < (maxK g vs k).2 := by
      rcases he with e | ⟨i, hi, e⟩
      · rw [e]; exact hg
      · rw [e]; exact hp i (by omega)
    have e0 : maxK g vs (k + 1) = if lessB (maxK g vs k) (vs k) then vs k else maxK g vs k := rfl
    rw [e0]
    by_cases hl : lessB (maxK g vs k) (vs k) = true
    · rw [if_pos hl]
      unfold lessB at hl
      have hl' : (maxK g vs k).1 * (vs k).2 < (vs k).1 * (maxK g vs k).2 := by simpa using hl
      refine ⟨.inr ⟨k, by omega, rfl⟩, frac_trans hg h2 h1 ig (Int.le_of_lt hl'), fun j hj => ?_⟩
      by_cases hjk : j = k
      · subst hjk; exact Int.le_refl _
      · exact frac_trans (hp j (by omega)) h2 h1 (ih j (by omega)) (Int.le_of_lt hl')
    · rw [if_neg hl]
      unfold lessB at hl
      have hl' : (vs k).1 * (maxK g vs k).2 ≤ (maxK g vs k).1 * (vs k).2 := by simpa using hl
      refine ⟨?_, ig, fun j hj => ?_⟩
      · rcases he with e | ⟨i, hi, e⟩
        · exact .inl e
        · exact .inr ⟨i, by omega, e⟩
      · by_cases hjk : j = k
        · subst hjk; exact hl'
        · exact ih j (by omega)
end
/-- A fraction in lowest terms that is as great as another one. -/
theorem red_same {A B : Int} {p : Int × Int} (hB : 0 < B) (hp : 0 < p.2) (h1 : redN A B * p.2 ≤ p.1 * redD A B) (h2 : p.1 * redD A B ≤ redN A B * p.2) : (redN A B, redD A B) = (redN p.1 p.2, redD p.1 p.2) := by
  obtain ⟨m1, m2, -⟩ := redm_mul (a := A) (b := B) hB
  have h : A * p.2 = p.1 * B := by
    have e : redN A B * p.2 = p.1 * redD A B := Int.le_antisymm h1 h2
    refine Int.eq_of_mul_eq_mul_left (show redD A B ≠ 0 by omega) ?_
    have e1 : redD A B * (A * p.2) = redN A B * B * p.2 := by rw [m1]; grind
    rw [e1]
    have e2 : redN A B * B * p.2 = redN A B * p.2 * B := by grind
    rw [e2, e]
    grind
  obtain ⟨r1, r2⟩ := redm_eq hB hp h
  rw [r1, r2]
/-- The mean square at a level, in lowest terms. -/
def valV (l : List Rg) (v : Int × Int) : Int × Int := (redN (varL (clampF v.1 v.2) l) (l.length * l.length * v.2 * v.2), redD (varL (clampF v.1 v.2) l) (l.length * l.length * v.2 * v.2))
def levV (l : List Rg) (k : Nat) : Int × Int := valV l ((levF l).getD k (0, 1))
/-- One end of each range. -/
def hBit (b i : Nat) (r : Rg) : Int := if b.testBit i then r.2 else r.1
def cornV (l : List Rg) (b : Nat) : Int := varL (fun i => hBit b i (l.getD i (0, 0))) (List.range l.length)
def cornF (l : List Rg) (b : Nat) : Int × Int := (redN (cornV l b) (l.length * l.length), redD (cornV l b) (l.length * l.length))
def mostK (l : List Rg) : Nat → Int
  | 0 => 0
  | k + 1 => if mostK l k < cornV l k then cornV l k else mostK l k
theorem lev_pos {l : List Rg} : ∀ v ∈ levF l, 0 < v.2 := by
  intro v hv
  have he : ∀ v ∈ endsL l, v.2 = 1 := fun v hv => by
    unfold endsL at hv
    obtain ⟨r, -, h⟩ := List.mem_flatMap.1 hv
    simp at h
    rcases h with rfl | rfl <;> rfl
  rcases List.mem_append.1 hv with h | h
  · rw [he v h]; omega
  · obtain ⟨x, -, h2⟩ := List.mem_flatMap.1 h
    have hs : ∀ a, v ∈ levS l a → 0 < v.2 := fun a h3 => by
      unfold levS at h3
      split at h3
      · rename_i hc
        obtain rfl := List.mem_singleton.1 h3
        exact (redm_mul (b := sumL (cutC a) l) hc).2.1
      · cases h3
    unfold levK at h2
    rcases List.mem_append.1 h2 with h3 | h3 <;> exact hs _ h3
theorem mostK_is {l : List Rg} : ∀ k, 0 ≤ mostK l k ∧ (1 ≤ k → ∃ j, j < k ∧ mostK l k = cornV l j) ∧ ∀ j, j < k → cornV l j ≤ mostK l k
  | 0 => ⟨Int.le_refl _, fun h => absurd h (by omega), fun j hj => absurd hj (by omega)⟩
  | k + 1 => by
    obtain ⟨h0, h1, h2⟩ := mostK_is (l := l) k
    have hk : 0 ≤ cornV l k := var_nonneg _ _
    show 0 ≤ (if mostK l k < cornV l k then cornV l k else mostK l k) ∧ (1 ≤ k + 1 → ∃ j, j < k + 1 ∧ (if mostK l k < cornV l k then cornV l k else mostK l k) = cornV l j) ∧ ∀ j, j < k + 1 → cornV l j ≤ (if mostK l k < cornV l k then cornV l k else mostK l k)
    by_cases hlt : mostK l k < cornV l k
    · rw [if_pos hlt]
      refine ⟨hk, fun _ => ⟨k, by omega, rfl⟩, fun j hj => ?_⟩
      by_cases hjk : j = k
      · subst hjk; exact Int.le_refl _
      · have := h2 j (by omega); omega
    · rw [if_neg hlt]
      refine ⟨h0, fun _ => ?_, fun j hj => ?_⟩
      · rcases Nat.eq_zero_or_pos k with rfl | hp
        · have e : mostK l 0 = 0 := rfl
          exact ⟨0, by omega, by omega⟩
        · obtain ⟨j, hj, e⟩ := h1 hp
          exact ⟨j, by omega, e⟩
      · by_cases hjk : j = k
        · subst hjk; omega
        · exact h2 j (by omega)
theorem range_map {l : List Rg} : (List.range l.length).map (fun i => l.getD i (0, 0)) = l := by
  apply List.ext_getElem
  · simp
  · intro i h1 h2
    simp [List.getD_eq_getElem?_getD, List.getElem?_eq_getElem h2]
/-- The least mean square of the program is that of the reference; so is the greatest one. -/
theorem squares_same {l : List Rg} {e : List Int} (he : EndsS l e) (hn : 0 < l.length) {i : Nat} (hi : i + 1 < e.length) {p : Int × Int} (hp : pickP l (e.getD i 0) (e.getD (i + 1) 0) = some p) :
    minK (levV l) (levF l).length = (redN p.1 p.2, redD p.1 p.2) ∧
    maxK (redN p.1 p.2, redD p.1 p.2) (cornF l) (2 ^ l.length) = (redN (mostK l (2 ^ l.length)) (l.length * l.length), redD (mostK l (2 ^ l.length)) (l.length * l.length)) := by
  have hl := he.le (show i ≤ i + 1 by omega) hi
  have hf := he.free hi
  have hn' : (0 : Int) < (l.length : Int) := by omega
  have hnn := Int.mul_pos hn' hn'
  have hp2 : 0 < p.2 := (pick_least (lp := l) (pi := id) (by simp) hl hf hp hn (D := 1) (by omega) (Y := fun r => r.1) fun r hr => by have := (he.mem r hr).2.2; show r.1 * 1 ≤ r.1 ∧ r.1 ≤ r.2 * 1; omega).1
  have hB : ∀ v ∈ levF l, 0 < (l.length : Int) * l.length * v.2 * v.2 := fun v hv => Int.mul_pos (Int.mul_pos hnn (lev_pos v hv)) (lev_pos v hv)
  have hpos : ∀ k, k < (levF l).length → 0 < (levV l k).2 := fun k hk => by
    have hv : (levF l).getD k (0, 1) ∈ levF l := by rw [List.getD_eq_getElem?_getD, List.getElem?_eq_getElem hk]; exact List.getElem_mem hk
    exact (redm_mul (hB _ hv)).2.1
  obtain ⟨v, hv, hat⟩ := level_in he hi hp
  obtain ⟨j, hj, hjv⟩ := List.getElem_of_mem hv
  have hlev : 1 ≤ (levF l).length := by omega
  obtain ⟨⟨q, hq, hmq⟩, hmin⟩ := minK_is hpos hlev (Nat.le_refl _)
  have hvq : (levF l).getD q (0, 1) ∈ levF l := by rw [List.getD_eq_getElem?_getD, List.getElem?_eq_getElem hq]; exact List.getElem_mem hq
  obtain ⟨u, hu⟩ : ∃ u, (levF l).getD q (0, 1) = u := ⟨_, rfl⟩
  rw [hu] at hvq
  have hleast : minK (levV l) (levF l).length = (redN p.1 p.2, redD p.1 p.2) := by
    have e1 : levV l q = valV l u := by unfold levV; rw [hu]
    have e2 : levV l j = valV l v := by unfold levV; rw [List.getD_eq_getElem?_getD, List.getElem?_eq_getElem hj, hjv]; rfl
    rw [hmq, e1]
    have h1 := hmin j hj
    rw [hmq, e1, e2] at h1
    -- the level that is found
    have hBv := hB v hv
    have hBu := hB u hvq
    obtain ⟨m1, m2, -⟩ := redm_mul (a := varL (clampF v.1 v.2) l) hBv
    obtain ⟨n1, n2, -⟩ := redm_mul (a := varL (clampF u.1 u.2) l) hBu
    have h2 : (valV l v).1 * p.2 ≤ p.1 * (valV l v).2 := by
      have e3 : (l.length : Int) * l.length * v.2 * v.2 = l.length * l.length * (v.2 * v.2) := by grind
      have e4 : (redN (varL (clampF v.1 v.2) l) (l.length * l.length * v.2 * v.2) * p.2) * ((l.length : Int) * l.length * v.2 * v.2) = (p.1 * redD (varL (clampF v.1 v.2) l) (l.length * l.length * v.2 * v.2)) * ((l.length : Int) * l.length * v.2 * v.2) := by
        have h5 := hat.2
        rw [← e3] at h5
        generalize redN (varL (clampF v.1 v.2) l) (l.length * l.length * v.2 * v.2) = a at m1 ⊢
        generalize redD (varL (clampF v.1 v.2) l) (l.length * l.length * v.2 * v.2) = b at m1 ⊢
        generalize (l.length : Int) * l.length * v.2 * v.2 = B at m1 h5 ⊢
        grind
      exact Int.le_of_eq (Int.eq_of_mul_eq_mul_right (by omega) e4)
    have h3 : (valV l u).1 * p.2 ≤ p.1 * (valV l u).2 := frac_trans (a := valV l u) (b := valV l v) (c := p) n2 m2 hp2 h1 h2
    have h4 : p.1 * (valV l u).2 ≤ (valV l u).1 * p.2 := by
      have h5 := (pick_least (lp := l) (pi := id) (by simp) hl hf hp hn (lev_pos u hvq) (Y := clampF u.1 u.2) fun r hr => clamp_in (he.mem r hr).2.2 (Int.le_of_lt (lev_pos u hvq))).2
      have e3 : (l.length : Int) * l.length * u.2 * u.2 = l.length * l.length * (u.2 * u.2) := by grind
      rw [← e3] at h5
      show p.1 * redD (varL (clampF u.1 u.2) l) (l.length * l.length * u.2 * u.2) ≤ redN (varL (clampF u.1 u.2) l) (l.length * l.length * u.2 * u.2) * p.2
      have h6 := Int.mul_le_mul_of_nonneg_left h5 (Int.le_of_lt n2)
      refine Int.le_of_mul_le_mul_right ?_ hBu
      generalize redN (varL (clampF u.1 u.2) l) (l.length * l.length * u.2 * u.2) = a at n1 ⊢
      generalize redD (varL (clampF u.1 u.2) l) (l.length * l.length * u.2 * u.2) = b at n1 h6 ⊢
      generalize (l.length : Int) * l.length * u.2 * u.2 = B at n1 h6 ⊢
      have e5 : b * (p.1 * B) = p.1 * b * B := by grind
      have e6 : b * (varL (clampF u.1 u.2) l * p.2) = a * p.2 * B := by grind
      omega
    exact red_same hBu hp2 h3 h4
  refine ⟨hleast, ?_⟩
  -- the greatest one
  obtain ⟨P, hP⟩ : ∃ P, (redN p.1 p.2, redD p.1 p.2) = P := ⟨_, rfl⟩
  have hPp : 0 < P.2 := by rw [← hP]; exact (redm_mul hp2).2.1
  have hcp : ∀ b, 0 < (cornF l b).2 := fun b => (redm_mul hnn).2.1
  obtain ⟨hM1, hM2, hM3⟩ := maxK_is (vs := cornF l) (m := 2 ^ l.length) (fun b _ => hcp b) hPp (Nat.le_refl _)
  obtain ⟨c0, c1, c2⟩ := mostK_is (l := l) (2 ^ l.length)
  have h2p : 1 ≤ 2 ^ l.length := Nat.one_le_two_pow
  obtain ⟨b1, hb1, eb1⟩ := c1 h2p
  -- no corner is less than the least one
  have hcorn : ∀ b, P.1 * (cornF l b).2 ≤ (cornF l b).1 * P.2 := fun b => by
    have h5 := (pick_least (lp := List.range l.length) (pi := fun i => l.getD i (0, 0)) range_map hl hf hp hn (D := 1) (by omega) (Y := fun i => hBit b i (l.getD i (0, 0))) fun a ha => by
      have hal : a < l.length := List.mem_range.1 ha
      have hm := (he.mem (l.getD a (0, 0)) (by rw [List.getD_eq_getElem?_getD, List.getElem?_eq_getElem hal]; exact List.getElem_mem hal)).2.2
      unfold hBit
      split <;> omega).2
    have e3 : (l.length : Int) * l.length * (1 * 1) = l.length * l.length := by grind
    rw [e3] at h5
    obtain ⟨n1, n2, -⟩ := redm_mul (a := cornV l b) hnn
    obtain ⟨q1, q2, -⟩ := redm_mul (a := p.1) hp2
    rw [← hP]
    show redN p.1 p.2 * redD (cornV l b) (l.length * l.length) ≤ redN (cornV l b) (l.length * l.length) * redD p.1 p.2
    have h6 := Int.mul_le_mul_of_nonneg_left h5 (Int.le_of_lt (Int.mul_pos n2 q2))
    refine Int.le_of_mul_le_mul_right ?_ (Int.mul_pos hnn hp2)
    have hcv : varL (fun i => hBit b i (l.getD i (0, 0))) (List.range l.length) = cornV l b := rfl
    rw [hcv] at h6
    generalize redN (cornV l b) (l.length * l.length) = a at n1 ⊢
    generalize redD (cornV l b) (l.length * l.length) = d at n1 h6 ⊢
    generalize redN p.1 p.2 = x at q1 ⊢
    generalize redD p.1 p.2 = y at q1 h6 ⊢
    generalize (l.length : Int) * l.length = B at n1 h6 ⊢
    have e5 : d * y * (p.1 * B) = x * d * (B * p.2) := by grind
    have e6 : d * y * (cornV l b * p.2) = a * y * (B * p.2) := by grind
    omega
  -- the greatest corner
  have hbig : ∀ b, b < 2 ^ l.length → (cornF l b).1 * (cornF l b1).2 ≤ (cornF l b1).1 * (cornF l b).2 := fun b hb => by
    have h5 := c2 b hb
    rw [eb1] at h5
    obtain ⟨n1, n2, -⟩ := redm_mul (a := cornV l b) hnn
    obtain ⟨q1, q2, -⟩ := redm_mul (a := cornV l b1) hnn
    show redN (cornV l b) (l.length * l.length) * redD (cornV l b1) (l.length * l.length) ≤ redN (cornV l b1) (l.length * l.length) * redD (cornV l b) (l.length * l.length)
    have h6 := Int.mul_le_mul_of_nonneg_left h5 (Int.le_of_lt (Int.mul_pos n2 q2))
    refine Int.le_of_mul_le_mul_right ?_ hnn
    generalize redN (cornV l b) (l.length * l.length) = a at n1 ⊢
    generalize redD (cornV l b) (l.length * l.length) = d at n1 h6 ⊢
    generalize redN (cornV l b1) (l.length * l.length) = x at q1 ⊢
    generalize redD (cornV l b1) (l.length * l.length) = y at q1 h6 ⊢
    generalize (l.length : Int) * l.length = B at n1 q1 ⊢
    have e5 : d * y * cornV l b = a * y * B := by grind
    have e6 : d * y * cornV l b1 = x * d * B := by grind
    omega
  obtain ⟨M, hM⟩ : ∃ M, maxK P (cornF l) (2 ^ l.length) = M := ⟨_, rfl⟩
  rw [hM] at hM1 hM2 hM3
  rw [hP, hM, eb1]
  have hMp : 0 < M.2 := by
    rcases hM1 with h | ⟨i, _, h⟩
    · rw [h]; exact hPp
    · rw [h]; exact hcp i
  have k1 := hM3 b1 hb1
  have k2 : M.1 * (cornF l b1).2 ≤ (cornF l b1).1 * M.2 := by
    rcases hM1 with h | ⟨i, hi, h⟩
    · rw [h]; exact hcorn b1
    · rw [h]; exact hbig i hi
  -- both in lowest terms
  have key : ∀ {A B : Int}, 0 < B → M = (redN A B, redD A B) → M = cornF l b1 := fun {A B} hB2 hMe => by
    have r1 : redN A B * (cornF l b1).2 ≤ (cornF l b1).1 * redD A B := by rw [hMe] at k2; exact k2
    have r2 : (cornF l b1).1 * redD A B ≤ redN A B * (cornF l b1).2 := by rw [hMe] at k1; exact k1
    obtain ⟨q1, q2, -⟩ := redm_mul (a := cornV l b1) hnn
    have h7 := red_same (p := (cornF l b1)) hB2 (hcp b1) r1 r2
    rw [hMe, h7]
    have h8 : (cornF l b1).1 * ((l.length : Int) * l.length) = cornV l b1 * (cornF l b1).2 := by
      show redN (cornV l b1) (l.length * l.length) * _ = _ * redD (cornV l b1) (l.length * l.length)
      rw [q1, Int.mul_comm]
    obtain ⟨s1, s2⟩ := redm_eq (hcp b1) hnn h8
    rw [s1, s2]; rfl
  rcases hM1 with h | ⟨i, _, h⟩
  · exact key hp2 (h.trans hP.symm)
  · exact key hnn h
end Go.Proofs.Ytmejiafmmmeloaa

end

section
/- The greatest mean square of the program. -/
namespace Go.Proofs.Ytmejiafmmmeloaa
open Go Go.RowKit

theorem pow_lt10 {n : Nat} (hn : n ≤ 10) : 2 ^ n ≤ 1024 := Nat.pow_le_pow_right (by omega) hn
theorem bit_mod (b i : Nat) : b.testBit i = decide (b / 2 ^ i % 2 = 1) := by rw [Nat.testBit_eq_decide_div_mod_eq]
theorem bits_one {b i : Nat} (hb : b < 1048576) : (b.testBit i = true → bits .and .u64 ((b : Int) / 2 ^ i) 1 = 1) ∧ (b.testBit i = false → bits .and .u64 ((b : Int) / 2 ^ i) 1 = 0) := by
  have e : (b : Int) / 2 ^ i = ((b / 2 ^ i : Nat) : Int) := by
    rw [show (2 : Int) ^ i = ((2 ^ i : Nat) : Int) from (Int.natCast_pow 2 i).symm]
    exact (Int.natCast_ediv b (2 ^ i)).symm
  have hlt : b / 2 ^ i < 18446744073709551616 := by have := Nat.div_le_self b (2 ^ i); omega
  have h1 : bits .and .u64 ((b / 2 ^ i : Nat) : Int) ((1 : Nat) : Int) = ((b / 2 ^ i &&& 1 : Nat) : Int) := u64_and_nat _ _ hlt (by omega)
  rw [e]
  rw [show ((1 : Nat) : Int) = 1 from rfl, Nat.and_one_is_mod] at h1
  rw [h1, bit_mod]
  have : b / 2 ^ i % 2 < 2 := Nat.mod_lt _ (by omega)
  constructor
  · intro h; have := of_decide_eq_true h; omega
  · intro h; have := of_decide_eq_false h; omega
theorem sumL_in {α : Type} {f : α → Int} {lo hi : Int} : ∀ {l : List α}, (∀ a ∈ l, lo ≤ f a ∧ f a ≤ hi) → l.length * lo ≤ sumL f l ∧ sumL f l ≤ l.length * hi
  | [], _ => by show ((0 : Nat) : Int) * lo ≤ 0 ∧ (0 : Int) ≤ ((0 : Nat) : Int) * hi; simp
  | x :: l, h => by
    have h1 := h x (List.mem_cons_self ..)
    have h2 := sumL_in (l := l) fun a ha => h a (List.mem_cons_of_mem _ ha)
    show ((l.length + 1 : Nat) : Int) * lo ≤ f x + sumL f l ∧ f x + sumL f l ≤ ((l.length + 1 : Nat) : Int) * hi
    rw [Int.natCast_add, Int.add_mul, Int.add_mul]
    simp only [Int.natCast_one, Int.one_mul]
    omega
/-- Ranges whose ends are not too great. -/
def RgIn (l : List Rg) : Prop := ∀ r ∈ l, (-100000 ≤ r.1 ∧ r.1 ≤ 100000) ∧ (-100000 ≤ r.2 ∧ r.2 ≤ 100000) ∧ r.1 ≤ r.2
theorem RgIn.at_ {l : List Rg} (h : RgIn l) {i : Nat} (hi : i < l.length) : (-100000 ≤ (l.getD i (0, 0)).1 ∧ (l.getD i (0, 0)).1 ≤ 100000) ∧ (-100000 ≤ (l.getD i (0, 0)).2 ∧ (l.getD i (0, 0)).2 ≤ 100000) ∧ (l.getD i (0, 0)).1 ≤ (l.getD i (0, 0)).2 :=
  h _ (by rw [List.getD_eq_getElem?_getD, List.getElem?_eq_getElem hi]; exact List.getElem_mem hi)
def bitS (l : List Rg) (b k : Nat) : Int := sumL (fun i => hBit b i (l.getD i (0, 0))) (List.range k)
def bitQ (l : List Rg) (b k : Nat) : Int := sumL (fun i => hBit b i (l.getD i (0, 0)) * hBit b i (l.getD i (0, 0))) (List.range k)
theorem bit_succ (l : List Rg) (b k : Nat) : bitS l b (k + 1) = bitS l b k + hBit b k (l.getD k (0, 0)) ∧ bitQ l b (k + 1) = bitQ l b k + hBit b k (l.getD k (0, 0)) * hBit b k (l.getD k (0, 0)) := by
  unfold bitS bitQ
  rw [List.range_succ, sumL_snoc, sumL_snoc]
  exact ⟨rfl, rfl⟩
theorem corn_bit (l : List Rg) (b : Nat) : cornV l b = l.length * bitQ l b l.length - bitS l b l.length * bitS l b l.length := by
  unfold cornV varL bitQ bitS
  rw [List.length_range]
theorem hBit_in {l : List Rg} (h : RgIn l) {b i : Nat} (hi : i < l.length) : -100000 ≤ hBit b i (l.getD i (0, 0)) ∧ hBit b i (l.getD i (0, 0)) ≤ 100000 := by
  have := h.at_ hi
  unfold hBit
  split <;> omega
theorem sq_in {x : Int} {m : Int} (h : -m ≤ x ∧ x ≤ m) : 0 ≤ x * x ∧ x * x ≤ m * m := by
  constructor
  · rcases Int.le_total 0 x with h | h
    · exact Int.mul_nonneg h h
    · exact Int.mul_nonneg_of_nonpos_of_nonpos h h
  · have := prod_small (x := x) (y := x) h.1 h.2 h.1 h.2
    exact this.2
theorem bit_in {l : List Rg} (h : RgIn l) (hn : l.length ≤ 10) {b k : Nat} (hk : k ≤ l.length) : (-1000000 ≤ bitS l b k ∧ bitS l b k ≤ 1000000) ∧ 0 ≤ bitQ l b k ∧ bitQ l b k ≤ 100000000000 := by
  have h1 := sumL_in (f := fun i => hBit b i (l.getD i (0, 0))) (l := List.range k) fun a ha => hBit_in h (show a < l.length by have := List.mem_range.1 ha; omega)
  have h2 := sumL_in (f := fun i => hBit b i (l.getD i (0, 0)) * hBit b i (l.getD i (0, 0))) (l := List.range k) (lo := 0) (hi := 10000000000) fun a ha => by
    have h3 := sq_in (m := 100000) (hBit_in h (b := b) (show a < l.length by have := List.mem_range.1 ha; omega))
    exact ⟨h3.1, by omega⟩
  rw [List.length_range] at h1 h2
  unfold bitS bitQ
  omega
theorem corn_in {l : List Rg} (h : RgIn l) (hn : l.length ≤ 10) (b : Nat) : 0 ≤ cornV l b ∧ cornV l b ≤ 1000000000000 := by
  have h0 : 0 ≤ cornV l b := var_nonneg _ _
  obtain ⟨h1, h2, h3⟩ := bit_in h hn (b := b) (Nat.le_refl l.length)
  have h4 := sq_in (m := 1000000) h1
  refine ⟨h0, ?_⟩
  rw [corn_bit]
  have h5 := Int.mul_le_mul (show (l.length : Int) ≤ 10 by omega) h3 h2 (by omega)
  omega
set_option maxRecDepth 100000 in
set_option maxHeartbeats 4000000 in
theorem greatest_is (A : Option Addr) (n c : Nat) (l : List Rg) (hl : RgIn l) (hn : 1 ≤ n ∧ n ≤ 10) (s v : Int) (hs : redN (mostK l (2 ^ n)) ((n : Int) * n) = s) (hv : redD (mostK l (2 ^ n)) ((n : Int) * n) = v) (w : World) (hx : Reads w w.heap.size 2 A n (cells2 l)) :
    Calls Try.prog 17 #[.slice A n c] w fun e w' => e = .returned (.agg #[.int .i64 s, .int .i64 v]) ∧ Below w.heap.size w w' := by
  have hln : l.length = n := by have := hx.1; rw [cells2_length] at this; omega
  obtain ⟨N, hN⟩ : ∃ N, 2 ^ n = N := ⟨_, rfl⟩
  have hN1 : 1 ≤ N ∧ N ≤ 1024 := by rw [← hN]; exact ⟨Nat.one_le_two_pow, pow_lt10 hn.2⟩
  have hshl : IntKind.u64.wrap ((2 : Int) ^ n) = (N : Int) := by
    rw [show (2 : Int) ^ n = ((2 ^ n : Nat) : Int) from (Int.natCast_pow 2 n).symm, hN]
    show ((N : Nat) : Int) % 2 ^ 64 = N
    exact Int.emod_eq_of_lt (by omega) (by omega)
  rw [hN] at hs hv
  have HS := Lib.hid hs
  have HV := Lib.hid hv
  have HX := Lib.hid hx
  have HL := Lib.hid hl
  have HLN := Lib.hid hln
  clear hs hv hx hl hln hN
  go_enter Try.func17, Try.ntmps17
  go_wp2_with fail
  generalize hwn : (w.alloc (.cells #[.int .i64 (0), .int .i64 (0)] 25)) = w1
  have hbn : Below w.heap.size w w1 := by rw [← hwn]; repeat' (first | exact Below.refl _ _ | refine below_drewN ?_ _ | refine Below.drew ?_ | refine Below.alloc ?_ (by first | omega | (simp; done) | (simp; omega) | (simp [World.setCell]; omega)) _ | refine Below.setCell ?_ (by first | omega | (simp; done) | (simp; omega)) _)
  have HB1 := Lib.hid (show Below w.heap.size w w1 from hbn)
  have K0_1 := Lib.hid (show Blk w1 (w.heap.size) 25 #[.int .i64 (0), .int .i64 (0)] by rw [← hwn]; repeat' (first | exact Blk.at_ _ (by first | rfl | (simp; done) | (simp; omega)) _ _ | refine Blk.drewN ?_ _ | refine Blk.drew ?_ | refine Blk.alloc ?_ _ | refine Blk.far ?_ (by first | omega | (simp; done) | (simp; omega)) _ | assumption))
  have HN1 := Lib.hid hbn
  have hz1 := hbn.size
  clear hwn hbn
  have l0_1 : w.heap.size < w1.heap.size := K0_1.out.lt
  have z0_0_1 : w1.cell? ⟨w.heap.size, 0, none⟩ = some (.int .i64 (0)) := K0_1.out.cell 0
  have z0_1_1 : w1.cell? ⟨w.heap.size, 1, none⟩ = some (.int .i64 (0)) := K0_1.out.cell 1
  go_loopw [4, 15] (fun m x wr => ∃ b : Nat, b ≤ N ∧ x = .int .u64 b ∧ m = .int .i64 (mostK l b) ∧ Below w1.heap.size w1 wr) (fun _ x _ => N - (intOf x).toNat)
  case atStart => exact ⟨0, by omega, rfl, rfl, Below.refl _ _⟩
  case round =>
    obtain ⟨b, hb, rfl, rfl, hbk⟩ := hrel
    obtain ⟨w2, hnm⟩ : ∃ z : World, z = wr := ⟨_, rfl⟩
    subst hnm
    have HB2 := Lib.hid hbk
    have hb2s := hbk.size
    have hk2 := K0_1.out.below hbk K0_1.out.lt
    clear hbk
    obtain ⟨mk, hmk⟩ : ∃ m, mostK l b = m := ⟨_, rfl⟩
    rw [hmk]
    have HMK := Lib.hid hmk
    clear hmk
    by_cases hlt : b < N
    rotate_left
    · obtain rfl : N = b := by omega
      have hmi : 0 ≤ mk ∧ mk ≤ 1000000000000 := by
        obtain ⟨q0, q1, -⟩ := mostK_is (l := l) N
        obtain ⟨j, -, e⟩ := q1 hN1.1
        have := corn_in HL.out (by rw [HLN.out]; exact hn.2) j
        rw [HMK.out] at q0 e
        omega
      have hs := HS.out
      have hv := HV.out
      rw [HMK.out] at hs hv
      obtain ⟨nn, hnn⟩ : ∃ x, (n : Int) * n = x := ⟨_, rfl⟩
      have hnn1 : 1 ≤ nn ∧ nn ≤ 100 := by
        have h1 := Int.mul_le_mul (show (1 : Int) ≤ n by omega) (show (1 : Int) ≤ n by omega) (by omega) (by omega)
        have h2 := Int.mul_le_mul (show (n : Int) ≤ 10 by omega) (show (n : Int) ≤ 10 by omega) (by omega) (by omega)
        omega
      rw [hnn] at hs hv
      have HS9 := Lib.hid hs
      have HV9 := Lib.hid hv
      have f1 : IntKind.i64.wrap ((n : Int) * n) = nn := by rw [hnn]; exact IntWalk.i64_in nn ⟨by omega, by omega⟩
      clear hs hv hnn
      have hbw := HB1.out.trans (HB2.out.mono HB1.out.size)
      have HB2 := Lib.hid hbw
      have K0_2 := Lib.hid (show Blk w2 (w.heap.size) 25 #[.int .i64 (0), .int .i64 (0)] from hk2)
      clear hbw hk2
      have l0_2 : w.heap.size < w2.heap.size := K0_2.out.lt
      have z0_0_2 : w2.cell? ⟨w.heap.size, 0, none⟩ = some (.int .i64 (0)) := K0_2.out.cell 0
      have z0_1_2 : w2.cell? ⟨w.heap.size, 1, none⟩ = some (.int .i64 (0)) := K0_2.out.cell 1
      go_wp2_with fail
      refine (lowestfig_is mk nn s v HS9.out HV9.out _ (by omega) (by omega) (by omega) (by omega)).mono ?_
      rintro e w3 ⟨rfl, hb⟩
      have HB3 := Lib.hid (show Below w.heap.size w w3 from step_below hb (by repeat' (first | exact Below.refl _ _ | exact HB2.out | refine below_drewN ?_ _ | refine Below.drew ?_ | refine Below.alloc ?_ (by first | omega | (simp; done) | (simp; omega) | (simp [World.setCell]; omega)) _ | refine Below.setCell ?_ (by first | omega | (simp; done) | (simp; omega)) _ | assumption)))
      have K0_3 := Lib.hid (step_blk hb (show Blk _ (w.heap.size) 25 #[.int .i64 (0), .int .i64 (0)] by repeat' (first | exact K0_2.out | exact Blk.at_ _ (by first | rfl | (simp; done) | (simp; omega)) _ _ | refine Blk.drewN ?_ _ | refine Blk.drew ?_ | refine Blk.alloc ?_ _ | refine Blk.far ?_ (by first | omega | (simp; done) | (simp; omega)) _ | assumption)))
      have hz3 := hb.size
      try simp only [World.size_alloc, World.drewN, World.drew] at hz3
      clear hb K0_2 z0_0_2 z0_1_2 l0_2
      have l0_3 : w.heap.size < w3.heap.size := K0_3.out.lt
      have z0_0_3 : w3.cell? ⟨w.heap.size, 0, none⟩ = some (.int .i64 (0)) := K0_3.out.cell 0
      have z0_1_3 : w3.cell? ⟨w.heap.size, 1, none⟩ = some (.int .i64 (0)) := K0_3.out.cell 1
      have zf0_0 := K0_3.out.frozen 0
      have zf0_1 := K0_3.out.frozen 1
      go_wp2
      exact bodyPost_ret (v := .agg #[.int .i64 s, .int .i64 v]) (by simp [results, Try.results17, go_sem, z0_0_3, z0_1_3, l0_3]) rfl ⟨rfl, by repeat' (first | exact Below.refl _ _ | exact HB3.out | refine below_drewN ?_ _ | refine Below.drew ?_ | refine Below.alloc ?_ (by first | omega | (simp; done) | (simp; omega) | (simp [World.setCell]; omega)) _ | refine Below.setCell ?_ (by first | omega | (simp; done) | (simp; omega)) _ | assumption)⟩
    have hbb : (b : Int) < (N : Int) := by omega
    go_wp2
    go_loopw [6, 7, 20] (fun s q x wr => ∃ i : Nat, i ≤ n ∧ x = .int .i64 i ∧ s = .int .i64 (bitS l b i) ∧ q = .int .i64 (bitQ l b i) ∧ Below w1.heap.size w1 wr) (fun _ _ x _ => n - (intOf x).toNat)
    case atStart => exact ⟨0, by omega, rfl, rfl, rfl, HB2.out⟩
    case round =>
      obtain ⟨i, hi, rfl, rfl, rfl, hbk⟩ := hrel
      obtain ⟨w3, hnm⟩ : ∃ z : World, z = wr := ⟨_, rfl⟩
      subst hnm
      have HB3 := Lib.hid hbk
      have hb3s := hbk.size
      clear hbk HB2 hk2
      by_cases hlt2 : i < n
      rotate_left
      · obtain rfl : n = i := by omega
        have hci := corn_in HL.out (by rw [HLN.out]; exact hn.2) b
        have hbi := bit_in HL.out (by rw [HLN.out]; exact hn.2) (b := b) (k := n) (by rw [HLN.out]; omega)
        have hcb := corn_bit l b
        rw [HLN.out] at hcb
        obtain ⟨S, hS⟩ : ∃ S, bitS l b n = S := ⟨_, rfl⟩
        obtain ⟨Q, hQ⟩ : ∃ Q, bitQ l b n = Q := ⟨_, rfl⟩
        obtain ⟨cv, hcv⟩ : ∃ cv, cornV l b = cv := ⟨_, rfl⟩
        rw [hS, hQ] at hbi
        rw [hcv] at hci hcb
        rw [hS, hQ] at hcb
        rw [hS, hQ]
        obtain ⟨nq, hnq⟩ : ∃ x, (n : Int) * Q = x := ⟨_, rfl⟩
        obtain ⟨ss, hss⟩ : ∃ x, S * S = x := ⟨_, rfl⟩
        have hss2 := sq_in (m := 1000000) hbi.1
        have hnq2 := Int.mul_le_mul (show (n : Int) ≤ 10 by omega) hbi.2.2 hbi.2.1 (by omega)
        have hnq3 := Int.mul_nonneg (show (0 : Int) ≤ (n : Int) by omega) hbi.2.1
        rw [hnq] at hnq2 hnq3 hcb
        rw [hss] at hss2 hcb
        have f1 : IntKind.i64.wrap ((n : Int) * Q) = nq := by rw [hnq]; exact IntWalk.i64_in nq ⟨by omega, by omega⟩
        have f2 : IntKind.i64.wrap (S * S) = ss := by rw [hss]; exact IntWalk.i64_in ss ⟨by omega, by omega⟩
        have f3 : IntKind.i64.wrap (nq - ss) = cv := by rw [← hcb]; exact IntWalk.i64_in cv ⟨by omega, by omega⟩
        have f4 : IntKind.u64.wrap ((b : Int) + 1) = (b : Int) + 1 := by show ((b : Int) + 1) % 2 ^ 64 = _; exact Int.emod_eq_of_lt (by omega) (by omega)
        have HCV := Lib.hid hcv
        have HNX := Lib.hid (show mostK l (b + 1) = if mk < cv then cv else mk by show (if mostK l b < cornV l b then cornV l b else mostK l b) = _; rw [HMK.out, hcv])
        clear hS hQ hcv hcb hnq hss
        by_cases hmx : mk < cv
        · rw [if_pos hmx] at HNX
          go_wp2
          go_roundw
          case rel => exact ⟨b + 1, by omega, by go_num, by rw [HNX.out], HB3.out⟩
          case measure => simp [intOf]; omega
        · rw [if_neg hmx] at HNX
          go_wp2
          go_roundw
          case rel => exact ⟨b + 1, by omega, by go_num, by rw [HNX.out], HB3.out⟩
          case measure => simp [intOf]; omega
      have hii : (i : Int) < (n : Int) := by omega
      have ei := IntWalk.i64_in ((i : Int) + 1) ⟨by omega, by omega⟩
      obtain ⟨xb, xo, ⟨lo, hi2⟩, hAe, hxb, hri, c0, c1⟩ := ((HX.out.below HB1.out).below (HB3.out.mono HB1.out.size)).pair hlt2
      simp only at c0 c1
      subst hAe
      have hgl : l.getD i (0, 0) = (lo, hi2) := by rw [List.getD_eq_getElem?_getD, hri]; rfl
      have hin := hBit_in HL.out (b := b) (i := i) (by rw [HLN.out]; exact hlt2)
      have hbi := bit_in HL.out (by rw [HLN.out]; exact hn.2) (b := b) (k := i) (by rw [HLN.out]; omega)
      have hbs := bit_succ l b i
      rw [hgl] at hin hbs
      obtain ⟨S, hS⟩ : ∃ S, bitS l b i = S := ⟨_, rfl⟩
      obtain ⟨Q, hQ⟩ : ∃ Q, bitQ l b i = Q := ⟨_, rfl⟩
      obtain ⟨z, hz⟩ : ∃ z, hBit b i (lo, hi2) = z := ⟨_, rfl⟩
      rw [hS, hQ, hz] at hbs
      rw [hS, hQ] at hbi
      rw [hz] at hin
      have hzq := sq_in (m := 100000) hin
      have f1 := IntWalk.i64_in (z * z) ⟨by omega, by omega⟩
      have f2 := IntWalk.i64_in (S + z) ⟨by omega, by omega⟩
      have f3 := IntWalk.i64_in (Q + z * z) ⟨by omega, by omega⟩
      rw [hS, hQ]
      have HS1 := Lib.hid hbs.1
      have HS2 := Lib.hid hbs.2
      have hbn := bits_one (b := b) (i := i) (by omega)
      unfold hBit at hz
      clear hgl hbs hS hQ hri
      cases ht : b.testBit i with
      | true =>
        have hbn := hbn.1 ht
        rw [ht, if_pos rfl] at hz
        simp only at hz
        subst hz
        clear ht
        go_wp2
        go_roundw
        case rel => exact ⟨i + 1, by omega, by go_num, by rw [HS1.out], by rw [HS2.out], HB3.out.alloc hb3s _⟩
        case measure => simp [intOf]; omega
      | false =>
        have hbn := hbn.2 ht
        rw [ht, if_neg (by simp)] at hz
        simp only at hz
        subst hz
        clear ht
        go_wp2
        go_roundw
        case rel => exact ⟨i + 1, by omega, by go_num, by rw [HS1.out], by rw [HS2.out], HB3.out.alloc hb3s _⟩
        case measure => simp [intOf]; omega
end Go.Proofs.Ytmejiafmmmeloaa

end
