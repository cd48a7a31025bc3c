import Derived.Test.YtnepjgnnppfibaaQ22
import Derived.Test.YtnepjgnnppfibaaQ26

section
/- Plain law of the reference's least sum: the least height at the mean of lines through two zones on both sides. -/
namespace Go.Proofs.Ytnepjgnnppfibaa
open Go.RowKit

/-- A fraction is less than another one. -/
def lessB (a b : Int × Int) : Bool := decide (a.1 * b.2 < b.1 * a.2)
/-- The height at the mean (mn / md) of the line through two zones. -/
def atF (m : Rm) (mn md : Int) (i j : Nat) : Int × Int :=
  if m.q i = m.q j then (m.h i, 1)
  else (redN (m.h i * (m.q j - m.q i) * md + (m.h j - m.h i) * (mn - m.q i * md)) ((m.q j - m.q i) * md), redD (m.h i * (m.q j - m.q i) * md + (m.h j - m.h i) * (mn - m.q i * md)) ((m.q j - m.q i) * md))
def skipB (m : Rm) (mn md : Int) (i j : Nat) : Bool := decide (mn < m.q i * md) || decide (m.q j * md < mn) || (decide (m.q i = m.q j) && decide (m.h j < m.h i))
/-- The least one so far, behind the pair (i, j). -/
def bstF (m : Rm) (mn md : Int) (b : Int × Int) (i j : Nat) : Int × Int :=
  if skipB m mn md i j then b else if b.2 = 0 ∨ lessB (atF m mn md i j) b then atF m mn md i j else b
def bstR (m : Rm) (mn md : Int) (b : Int × Int) (i : Nat) : Nat → Int × Int
  | 0 => b
  | j + 1 => bstF m mn md (bstR m mn md b i j) i j
def bstA (m : Rm) (mn md : Int) : Nat → Int × Int
  | 0 => (0, 0)
  | i + 1 => bstR m mn md (bstA m mn md i) i m.n

section
variable {m : Rm} {mn md a b c d : Int} {x y : Nat}
def GoodF (md a b c d mn : Int) (p : Int × Int) : Prop := 0 < p.2 ∧ (a * d * md + c * b * mn) * p.2 ≤ p.1 * (b * d * md)
def ExaF (md a b c d mn : Int) (p : Int × Int) : Prop := 0 < p.2 ∧ p.1 * (b * d * md) ≤ (a * d * md + c * b * mn) * p.2
theorem skip_no {i j : Nat} (h : skipB m mn md i j = false) : m.q i * md ≤ mn ∧ mn ≤ m.q j * md ∧ (m.q i = m.q j → m.h i ≤ m.h j) := by
  unfold skipB at h
  rw [Bool.or_eq_false_iff, Bool.or_eq_false_iff, decide_eq_false_iff_not, decide_eq_false_iff_not, Bool.and_eq_false_iff, decide_eq_false_iff_not, decide_eq_false_iff_not] at h
  obtain ⟨⟨h1, h2⟩, h3⟩ := h
  exact ⟨by omega, by omega, fun e => by rcases h3 with h3 | h3 <;> omega⟩
theorem at_line (hmd : 1 ≤ md) {i j : Nat} (hs : skipB m mn md i j = false) : ∃ P R, 0 < R ∧ 0 < (atF m mn md i j).2 ∧ (atF m mn md i j).1 * R = (atF m mn md i j).2 * P ∧
    P * (b * d * md) - (a * d * md + c * b * mn) * R = (if m.q i = m.q j then remN m a b c d i * md + c * b * (m.q i * md - mn) else (remN m a b c d i * (m.q j * md - mn) + remN m a b c d j * (mn - m.q i * md)) * md) := by
  obtain ⟨h1, h2, h3⟩ := skip_no hs
  by_cases hq : m.q i = m.q j
  · unfold atF
    rw [if_pos hq, if_pos hq]
    refine ⟨m.h i, 1, by omega, by show (0 : Int) < 1; omega, by show m.h i * 1 = 1 * m.h i; omega, ?_⟩
    unfold remN
    grind
  · unfold atF
    rw [if_neg hq, if_neg hq]
    have hlt : m.q i < m.q j := by
      rcases Int.lt_or_le (m.q i) (m.q j) with h | h
      · exact h
      · have : m.q j * md ≤ m.q i * md := Int.mul_le_mul_of_nonneg_right h (by omega)
        have e : m.q i * md = m.q j * md := by omega
        exact absurd (Int.eq_of_mul_eq_mul_right (by omega) e) hq
    have hR : 0 < (m.q j - m.q i) * md := Int.mul_pos (by omega) (by omega)
    obtain ⟨r1, r2, -⟩ := redm_mul (a := m.h i * (m.q j - m.q i) * md + (m.h j - m.h i) * (mn - m.q i * md)) hR
    refine ⟨_, _, hR, r2, r1, ?_⟩
    unfold remN
    grind
theorem at_good (hr : RefOk m a b c d x y) (hmd : 1 ≤ md) {i j : Nat} (hi : i < m.n) (hj : j < m.n) (hs : skipB m mn md i j = false) : GoodF md a b c d mn (atF m mn md i j) := by
  obtain ⟨P, R, hR, h2, h3, h4⟩ := at_line (a := a) (b := b) (c := c) (d := d) hmd hs
  obtain ⟨g1, g2, g3⟩ := skip_no hs
  have hi1 := hr.up i hi
  have hj1 := hr.up j hj
  have hnn : 0 ≤ P * (b * d * md) - (a * d * md + c * b * mn) * R := by
    rw [h4]
    split
    · rename_i hq
      have e : m.q i * md = mn := by have : m.q i * md = m.q j * md := by rw [hq]
                                     omega
      rw [e, Int.sub_self, Int.mul_zero, Int.add_zero]
      exact Int.mul_nonneg hi1 (by omega)
    · exact Int.mul_nonneg (Int.add_nonneg (Int.mul_nonneg hi1 (by omega)) (Int.mul_nonneg hj1 (by omega))) (by omega)
  refine ⟨h2, ?_⟩
  have h5 : 0 ≤ ((atF m mn md i j).1 * (b * d * md) - (a * d * md + c * b * mn) * (atF m mn md i j).2) * R := by
    have e : ((atF m mn md i j).1 * (b * d * md) - (a * d * md + c * b * mn) * (atF m mn md i j).2) * R = (P * (b * d * md) - (a * d * md + c * b * mn) * R) * (atF m mn md i j).2 := by
      generalize (atF m mn md i j).1 = u at *
      generalize (atF m mn md i j).2 = v at *
      grind
    rw [e]
    exact Int.mul_nonneg hnn (by omega)
  have := nonneg_of hR h5
  omega
theorem at_exact (hr : RefOk m a b c d x y) (hmd : 1 ≤ md) (hs : skipB m mn md x y = false) : ExaF md a b c d mn (atF m mn md x y) := by
  obtain ⟨P, R, hR, h2, h3, h4⟩ := at_line (a := a) (b := b) (c := c) (d := d) hmd hs
  obtain ⟨g1, g2, g3⟩ := skip_no hs
  have hnn : P * (b * d * md) - (a * d * md + c * b * mn) * R = 0 := by
    rw [h4, hr.at1, hr.at2]
    split
    · rename_i hq
      have e : m.q x * md = mn := by have : m.q x * md = m.q y * md := by rw [hq]
                                     omega
      rw [e]; simp
    · simp
  refine ⟨h2, ?_⟩
  have h5 : ((a * d * md + c * b * mn) * (atF m mn md x y).2 - (atF m mn md x y).1 * (b * d * md)) * R = 0 := by
    have e : ((a * d * md + c * b * mn) * (atF m mn md x y).2 - (atF m mn md x y).1 * (b * d * md)) * R = - ((P * (b * d * md) - (a * d * md + c * b * mn) * R) * (atF m mn md x y).2) := by
      generalize (atF m mn md x y).1 = u at *
      generalize (atF m mn md x y).2 = v at *
      grind
    rw [e, hnn]; simp
  have := nonneg_of hR (by rw [h5]; exact Int.le_refl _)
  omega
theorem less_le {p r : Int × Int} {N D : Int} (hp : 0 < p.2) (hr : 0 < r.2) (h : p.1 * r.2 ≤ r.1 * p.2) (hb : r.1 * D ≤ N * r.2) (hD : 0 ≤ D) : p.1 * D ≤ N * p.2 := by
  have h1 : 0 ≤ (N * p.2 - p.1 * D) * r.2 := by
    have e : (N * p.2 - p.1 * D) * r.2 = (N * r.2 - r.1 * D) * p.2 + (r.1 * p.2 - p.1 * r.2) * D := by grind
    rw [e]
    exact Int.add_nonneg (Int.mul_nonneg (by omega) (by omega)) (Int.mul_nonneg (by omega) hD)
  have := nonneg_of hr h1
  omega
theorem bst_good (hr : RefOk m a b c d x y) (hmd : 1 ≤ md) {i j : Nat} (hi : i < m.n) (hj : j < m.n) {p : Int × Int} (h : p.2 = 0 ∨ GoodF md a b c d mn p) : (bstF m mn md p i j).2 = 0 ∨ GoodF md a b c d mn (bstF m mn md p i j) := by
  unfold bstF
  cases hs : skipB m mn md i j with
  | true => exact h
  | false =>
    simp only [Bool.false_eq_true, if_false]
    split
    · exact .inr (at_good hr hmd hi hj hs)
    · exact h
theorem bst_exact (hr : RefOk m a b c d x y) (hmd : 1 ≤ md) {i j : Nat} (hi : i < m.n) (hj : j < m.n) {p : Int × Int} (h : ExaF md a b c d mn p) : ExaF md a b c d mn (bstF m mn md p i j) := by
  have hD : 0 ≤ b * d * md := Int.mul_nonneg (Int.mul_nonneg (by have := hr.b1; omega) (by have := hr.d1; omega)) (by omega)
  unfold bstF
  cases hs : skipB m mn md i j with
  | true => exact h
  | false =>
    simp only [Bool.false_eq_true, if_false]
    split
    · rename_i hc
      have hg := at_good hr hmd hi hj hs
      rcases hc with hc | hc
      · exact absurd hc (by have := h.1; omega)
      · unfold lessB at hc
        exact ⟨hg.1, less_le hg.1 h.1 (Int.le_of_lt (of_decide_eq_true hc)) h.2 hD⟩
    · exact h
theorem bst_hit (hr : RefOk m a b c d x y) (hmd : 1 ≤ md) (hs : skipB m mn md x y = false) {p : Int × Int} (h : p.2 = 0 ∨ GoodF md a b c d mn p) : ExaF md a b c d mn (bstF m mn md p x y) := by
  have hD : 0 ≤ b * d * md := Int.mul_nonneg (Int.mul_nonneg (by have := hr.b1; omega) (by have := hr.d1; omega)) (by omega)
  have he := at_exact hr hmd hs
  unfold bstF
  rw [hs]
  simp only [Bool.false_eq_true, if_false]
  split
  · exact he
  · rename_i hc
    rcases h with h | h
    · exact absurd (.inl h) hc
    · have h2 : ¬ (lessB (atF m mn md x y) p = true) := fun e => hc (.inr e)
      unfold lessB at h2
      rw [decide_eq_true_eq] at h2
      exact ⟨h.1, less_le h.1 he.1 (by omega) he.2 hD⟩
theorem bstR_good (hr : RefOk m a b c d x y) (hmd : 1 ≤ md) {i : Nat} (hi : i < m.n) {p : Int × Int} (h : p.2 = 0 ∨ GoodF md a b c d mn p) : ∀ k, k ≤ m.n → (bstR m mn md p i k).2 = 0 ∨ GoodF md a b c d mn (bstR m mn md p i k)
  | 0, _ => h
  | k + 1, hk => bst_good hr hmd hi (by omega) (bstR_good hr hmd hi h k (by omega))
theorem bstR_exact (hr : RefOk m a b c d x y) (hmd : 1 ≤ md) {i : Nat} (hi : i < m.n) {p : Int × Int} (h : ExaF md a b c d mn p) : ∀ k, k ≤ m.n → ExaF md a b c d mn (bstR m mn md p i k)
  | 0, _ => h
  | k + 1, hk => bst_exact hr hmd hi (by omega) (bstR_exact hr hmd hi h k (by omega))
theorem bstA_good (hr : RefOk m a b c d x y) (hmd : 1 ≤ md) : ∀ k, k ≤ m.n → (bstA m mn md k).2 = 0 ∨ GoodF md a b c d mn (bstA m mn md k)
  | 0, _ => .inl rfl
  | k + 1, hk => bstR_good hr hmd (by omega) (bstA_good hr hmd k (by omega)) m.n (Nat.le_refl _)
theorem bstR_hit (hr : RefOk m a b c d x y) (hmd : 1 ≤ md) (hs : skipB m mn md x y = false) {p : Int × Int} (h : p.2 = 0 ∨ GoodF md a b c d mn p) : ∀ k, y < k → k ≤ m.n → ExaF md a b c d mn (bstR m mn md p x k)
  | 0, h0, _ => by omega
  | k + 1, h0, hk => by
    show ExaF md a b c d mn (bstF m mn md (bstR m mn md p x k) x k)
    by_cases e : y = k
    · subst e; exact bst_hit hr hmd hs (bstR_good hr hmd hr.x1 h y (by omega))
    · exact bst_exact hr hmd hr.x1 (by omega) (bstR_hit hr hmd hs h k (by omega) (by omega))
theorem bstA_hit (hr : RefOk m a b c d x y) (hmd : 1 ≤ md) (hs : skipB m mn md x y = false) : ∀ k, x < k → k ≤ m.n → ExaF md a b c d mn (bstA m mn md k)
  | 0, h0, _ => by omega
  | k + 1, h0, hk => by
    show ExaF md a b c d mn (bstR m mn md (bstA m mn md k) k m.n)
    by_cases e : x = k
    · subst e; exact bstR_hit hr hmd hs (bstA_good hr hmd x (by omega)) m.n hr.y1 (Nat.le_refl _)
    · exact bstR_exact hr hmd (by omega) (bstA_hit hr hmd hs k (by omega) (by omega)) m.n (Nat.le_refl _)
/-- The reference's least sum is that of the line of least removal. -/
theorem bst_sum (hr : RefOk m a b c d x y) (hw : 1 ≤ m.sw m.n) (hmn : redN (m.sq m.n) (m.sw m.n) = mn) (hmd : redD (m.sq m.n) (m.sw m.n) = md) :
    0 < (bstA m mn md m.n).2 ∧ redN (m.sh m.n * (bstA m mn md m.n).2 - m.sw m.n * (bstA m mn md m.n).1) (bstA m mn md m.n).2 = redN (remS m a b c d m.n) (b * d) ∧ redD (m.sh m.n * (bstA m mn md m.n).2 - m.sw m.n * (bstA m mn md m.n).1) (bstA m mn md m.n).2 = redD (remS m a b c d m.n) (b * d) := by
  obtain ⟨r1, r2, -⟩ := redm_mul (a := m.sq m.n) (b := m.sw m.n) (by omega)
  rw [hmn, hmd] at r1
  rw [hmd] at r2
  have hlo := hr.lo
  have hhi := hr.hi
  have h1 : m.q x * md ≤ mn := by
    have : 0 ≤ (mn - m.q x * md) * m.sw m.n := by
      have e : (mn - m.q x * md) * m.sw m.n = (m.sq m.n - m.q x * m.sw m.n) * md := by
        have : mn * m.sw m.n = m.sq m.n * md := by rw [r1, Int.mul_comm]
        grind
      rw [e]; exact Int.mul_nonneg (by omega) (by omega)
    have := nonneg_of (by omega) this
    omega
  have h2 : mn ≤ m.q y * md := by
    have : 0 ≤ (m.q y * md - mn) * m.sw m.n := by
      have e : (m.q y * md - mn) * m.sw m.n = (m.q y * m.sw m.n - m.sq m.n) * md := by
        have : mn * m.sw m.n = m.sq m.n * md := by rw [r1, Int.mul_comm]
        grind
      rw [e]; exact Int.mul_nonneg (by omega) (by omega)
    have := nonneg_of (by omega) this
    omega
  have hbd : 0 < b * d := Int.mul_pos (by have := hr.b1; omega) (by have := hr.d1; omega)
  have h3 : m.q x = m.q y → m.h x ≤ m.h y := by
    intro e
    have e1 := hr.at1
    have e2 := hr.at2
    unfold remN at e1 e2
    rw [e] at e1
    have : m.h x * (b * d) = m.h y * (b * d) := by omega
    have := Int.eq_of_mul_eq_mul_right (by omega) this
    omega
  have hs : skipB m mn md x y = false := by
    unfold skipB
    rw [Bool.or_eq_false_iff, Bool.or_eq_false_iff, decide_eq_false_iff_not, decide_eq_false_iff_not, Bool.and_eq_false_iff, decide_eq_false_iff_not, decide_eq_false_iff_not]
    refine ⟨⟨by omega, by omega⟩, ?_⟩
    by_cases e : m.q x = m.q y
    · exact .inr (by have := h3 e; omega)
    · exact .inl e
  have he := bstA_hit hr (by omega) hs m.n hr.x1 (Nat.le_refl _)
  have hg := bstA_good hr (mn := mn) (show 1 ≤ md by omega) m.n (Nat.le_refl _)
  generalize bstA m mn md m.n = p at *
  obtain ⟨p1, p2⟩ := p
  obtain ⟨he1, he2⟩ := he
  simp only at he1 he2 hg ⊢
  rcases hg with hg | ⟨-, hg⟩
  · omega
  simp only at hg
  have heq : p1 * (b * d * md) = (a * d * md + c * b * mn) * p2 := by omega
  refine ⟨he1, ?_⟩
  refine redm_eq he1 hbd ?_
  rw [remS_eq]
  have h5 : (m.sw m.n * p1 * (b * d)) * md = ((a * d * m.sw m.n + c * b * m.sq m.n) * p2) * md := by
    have e1 : (m.sw m.n * p1 * (b * d)) * md = m.sw m.n * (p1 * (b * d * md)) := by grind
    rw [e1, heq]
    have e2 : m.sw m.n * ((a * d * md + c * b * mn) * p2) = (a * d * md * m.sw m.n + c * b * (mn * m.sw m.n)) * p2 := by grind
    rw [e2, r1]
    grind
  have h6 := Int.eq_of_mul_eq_mul_right (by omega) h5
  have e3 : (m.sh m.n * p2 - m.sw m.n * p1) * (b * d) = m.sh m.n * p2 * (b * d) - m.sw m.n * p1 * (b * d) := by grind
  rw [e3, h6]
  grind
end
end Go.Proofs.Ytnepjgnnppfibaa

end

section
/- The reference's least sum. -/
namespace Go.Proofs.Ytnepjgnnppfibaa
open Go Go.RowKit

theorem less_floor {a b c d : Int} (hb : 0 < b) (hd : 0 < d) : (a * d < c * b) ↔ (if a / b ≠ c / d then a / b < c / d else (a - a / b * b) * d < (c - c / d * d) * b) := by
  have a1 := Int.mul_ediv_self_le (x := a) (k := b) (by omega)
  have a2 := Int.lt_mul_ediv_self_add (x := a) (k := b) (by omega)
  have b1 := Int.mul_ediv_self_le (x := c) (k := d) (by omega)
  have b2 := Int.lt_mul_ediv_self_add (x := c) (k := d) (by omega)
  generalize a / b = p at *
  generalize c / d = q at *
  have key : ∀ {x y p q u v : Int}, 0 < u → 0 < v → x < u * p + u → v * q ≤ y → p < q → x * v < y * u := by
    intro x y p q u v hu hv h1 h2 h3
    have c1 : (p + 1) * u ≤ q * u := Int.mul_le_mul_of_nonneg_right (by omega) (by omega)
    have c2 : x < q * u := by
      have : (p + 1) * u = u * p + u := by grind
      omega
    have c3 : x * v < q * u * v := Int.mul_lt_mul_of_pos_right c2 hv
    have c4 : v * q * u ≤ y * u := Int.mul_le_mul_of_nonneg_right h2 (by omega)
    have c5 : q * u * v = v * q * u := by grind
    omega
  by_cases h : p = q
  · subst h
    rw [if_neg (by simp)]
    have e1 : (a - p * b) * d = a * d - p * b * d := by grind
    have e2 : (c - p * d) * b = c * b - p * b * d := by grind
    rw [e1, e2]
    omega
  · rw [if_pos h]
    constructor
    · intro h1
      rcases Int.lt_or_le p q with h2 | h2
      · exact h2
      · have := key hd hb b2 a1 (by omega)
        omega
    · intro h1
      exact key hb hd a2 b1 h1

/-- What the least height is known to be within. -/
def BstIn (p : Int × Int) : Prop := 0 ≤ p.2 ∧ p.2 ≤ 40000000 ∧ -20000000000000 ≤ p.1 ∧ p.1 ≤ 20000000000000
section
variable {m : Rm} {mn md : Int}
theorem at_raw (hm : m.Ok) (h1 : 1 ≤ md ∧ md ≤ 40000) (h2 : -40000000 ≤ mn ∧ mn ≤ 40000000) {i j : Nat} (hi : i < m.n) (hj : j < m.n) (hs : m.q i * md ≤ mn) (hs2 : mn ≤ m.q j * md) (hq : m.q i ≠ m.q j) :
    m.q i < m.q j ∧ (1 ≤ (m.q j - m.q i) * md ∧ (m.q j - m.q i) * md ≤ 40000000) ∧ (-100000000 ≤ m.h i * (m.q j - m.q i) ∧ m.h i * (m.q j - m.q i) ≤ 100000000) ∧ (-4000000000000 ≤ m.h i * (m.q j - m.q i) * md ∧ m.h i * (m.q j - m.q i) * md ≤ 4000000000000) ∧ (0 ≤ m.q i * md ∧ m.q i * md ≤ 40000000) ∧ (-16000000000000 ≤ (m.h j - m.h i) * (mn - m.q i * md) ∧ (m.h j - m.h i) * (mn - m.q i * md) ≤ 16000000000000) := by
  have r1 := hm.h i hi
  have r2 := hm.h j hj
  have r3 := hm.q i hi
  have r4 := hm.q j hj
  have hlt : m.q i < m.q j := by
    rcases Int.lt_or_le (m.q i) (m.q j) with h | h
    · exact h
    · have : m.q j * md ≤ m.q i * md := Int.mul_le_mul_of_nonneg_right h (by omega)
      have e : m.q i * md = m.q j * md := by omega
      exact absurd (Int.eq_of_mul_eq_mul_right (by omega) e) hq
  have p1 := Int.mul_pos (show 0 < m.q j - m.q i by omega) (show 0 < md by omega)
  have p2 := prod_small (x := m.q j - m.q i) (y := md) (X := 1000) (Y := 40000) (by omega) (by omega) (by omega) (by omega)
  have p3 := prod_small (x := m.h i) (y := m.q j - m.q i) (X := 100000) (Y := 1000) (by omega) (by omega) (by omega) (by omega)
  have p4 := prod_small (x := m.h i * (m.q j - m.q i)) (y := md) (X := 100000000) (Y := 40000) (by omega) (by omega) (by omega) (by omega)
  have p5 := prod_small (x := m.q i) (y := md) (X := 1000) (Y := 40000) (by omega) (by omega) (by omega) (by omega)
  have p6 := Int.mul_nonneg r3.1 (show 0 ≤ md by omega)
  have p7 := prod_small (x := m.h j - m.h i) (y := mn - m.q i * md) (X := 200000) (Y := 80000000) (by omega) (by omega) (by omega) (by omega)
  exact ⟨hlt, by omega, by omega, by omega, by omega, by omega⟩
theorem at_in (hm : m.Ok) (h1 : 1 ≤ md ∧ md ≤ 40000) (h2 : -40000000 ≤ mn ∧ mn ≤ 40000000) {i j : Nat} (hi : i < m.n) (hj : j < m.n) (hs : skipB m mn md i j = false) : BstIn (atF m mn md i j) ∧ 1 ≤ (atF m mn md i j).2 := by
  obtain ⟨s1, s2, s3⟩ := skip_no hs
  have r1 := hm.h i hi
  unfold atF
  by_cases hq : m.q i = m.q j
  · rw [if_pos hq]
    exact ⟨⟨by show (0 : Int) ≤ 1; omega, by show (1 : Int) ≤ 40000000; omega, by show _ ≤ m.h i; omega, by show m.h i ≤ _; omega⟩, by show (1 : Int) ≤ 1; omega⟩
  · rw [if_neg hq]
    obtain ⟨c1, c2, c3, c4, c5, c6⟩ := at_raw hm h1 h2 hi hj s1 s2 hq
    have := red_le (a := m.h i * (m.q j - m.q i) * md + (m.h j - m.h i) * (mn - m.q i * md)) (b := (m.q j - m.q i) * md) c2.1
    refine ⟨⟨?_, ?_, ?_, ?_⟩, ?_⟩
    all_goals simp only
    all_goals omega
theorem bst_in (hm : m.Ok) (h1 : 1 ≤ md ∧ md ≤ 40000) (h2 : -40000000 ≤ mn ∧ mn ≤ 40000000) {i j : Nat} (hi : i < m.n) (hj : j < m.n) {p : Int × Int} (hp : BstIn p) : BstIn (bstF m mn md p i j) := by
  unfold bstF
  cases hs : skipB m mn md i j with
  | true => exact hp
  | false =>
    simp only [Bool.false_eq_true, if_false]
    split
    · exact (at_in hm h1 h2 hi hj hs).1
    · exact hp
theorem bstR_in (hm : m.Ok) (h1 : 1 ≤ md ∧ md ≤ 40000) (h2 : -40000000 ≤ mn ∧ mn ≤ 40000000) {i : Nat} (hi : i < m.n) {p : Int × Int} (hp : BstIn p) : ∀ k, k ≤ m.n → BstIn (bstR m mn md p i k)
  | 0, _ => hp
  | k + 1, hk => bst_in hm h1 h2 hi (by omega) (bstR_in hm h1 h2 hi hp k (by omega))
theorem bstA_in (hm : m.Ok) (h1 : 1 ≤ md ∧ md ≤ 40000) (h2 : -40000000 ≤ mn ∧ mn ≤ 40000000) : ∀ k, k ≤ m.n → BstIn (bstA m mn md k)
  | 0, _ => by unfold bstA BstIn; omega
  | k + 1, hk => bstR_in hm h1 h2 (by omega) (bstA_in hm h1 h2 k (by omega)) m.n (Nat.le_refl _)
end

set_option maxRecDepth 100000 in
set_option maxHeartbeats 4000000 in
theorem rless2_is (a b c d : Int) (t : Bool) (ht : lessB (a, b) (c, d) = t) (h1 : -20000000000000 ≤ a ∧ a ≤ 20000000000000) (h2 : 1 ≤ b ∧ b ≤ 40000000) (h3 : -20000000000000 ≤ c ∧ c ≤ 20000000000000) (h4 : 1 ≤ d ∧ d ≤ 40000000) (w : World) :
    Calls Try.prog 97 #[.agg #[.int .i64 a, .int .i64 b], .agg #[.int .i64 c, .int .i64 d]] w fun e w' => e = .returned (.bool t) ∧ Below w.heap.size w w' := by
  have hlf := less_floor (a := a) (b := b) (c := c) (d := d) (by omega) (by omega)
  have q1 := Int.mul_ediv_self_le (x := a) (k := b) (by omega)
  have q2 := Int.lt_mul_ediv_self_add (x := a) (k := b) (by omega)
  have q3 := Int.mul_ediv_self_le (x := c) (k := d) (by omega)
  have q4 := Int.lt_mul_ediv_self_add (x := c) (k := d) (by omega)
  obtain ⟨P, hP⟩ : ∃ p, a / b = p := ⟨_, rfl⟩
  obtain ⟨Q, hQ⟩ : ∃ p, c / d = p := ⟨_, rfl⟩
  rw [hP] at q1 q2 hlf
  rw [hQ] at q3 q4 hlf
  rw [Int.mul_comm] at q1 q2 q3 q4
  obtain ⟨pv, hpv⟩ : ∃ z, P * b = z := ⟨_, rfl⟩
  obtain ⟨qv, hqv⟩ : ∃ z, Q * d = z := ⟨_, rfl⟩
  rw [hpv] at q1 q2 hlf
  rw [hqv] at q3 q4 hlf
  have e10 : IntKind.i64.wrap (P * b) = pv := by rw [hpv]; exact IntWalk.i64_in _ ⟨by omega, by omega⟩
  have e11 : IntKind.i64.wrap (Q * d) = qv := by rw [hqv]; exact IntWalk.i64_in _ ⟨by omega, by omega⟩
  have e12 := IntWalk.i64_in (a - pv) ⟨by omega, by omega⟩
  have e13 := IntWalk.i64_in (c - qv) ⟨by omega, by omega⟩
  have p1 := prod_small (x := a - pv) (y := d) (X := 40000000) (Y := 40000000) (by omega) (by omega) (by omega) (by omega)
  have p2 := prod_small (x := c - qv) (y := b) (X := 40000000) (Y := 40000000) (by omega) (by omega) (by omega) (by omega)
  have e14 := IntWalk.i64_in ((a - pv) * d) ⟨by omega, by omega⟩
  have e15 := IntWalk.i64_in ((c - qv) * b) ⟨by omega, by omega⟩
  have htt : t = if P ≠ Q then decide (P < Q) else decide ((a - pv) * d < (c - qv) * b) := by
    rw [← ht]
    unfold lessB
    by_cases h : P = Q
    · rw [if_neg (by simpa using h)] at hlf ⊢
      exact decide_eq_decide.2 hlf
    · rw [if_pos h] at hlf ⊢
      exact decide_eq_decide.2 hlf
  have HP := Lib.hid hP
  have HQ := Lib.hid hQ
  have HTT := Lib.hid htt
  clear ht hlf hP hQ hpv hqv q1 q2 q3 q4 p1 p2 htt
  go_enter Try.func97, Try.ntmps97
  go_wp2_with fail
  generalize hwn : ((w.alloc (.cells #[.int .i64 (a), .int .i64 (b)] 28)).alloc (.cells #[.int .i64 (c), .int .i64 (d)] 28)) = w1
  have hbn : Below w.heap.size w w1 := by rw [← hwn]; repeat' (first | exact Below.refl _ _ | refine below_drewN ?_ _ | refine Below.drew ?_ | refine Below.alloc ?_ (by first | omega | (simp; done) | (simp; omega) | (simp [World.setCell]; omega)) _ | refine Below.setCell ?_ (by first | omega | (simp; done) | (simp; omega)) _)
  have HB1 := Lib.hid (show Below w.heap.size w w1 from hbn)
  have K0_1 := Lib.hid (show Blk w1 (w.heap.size) 28 #[.int .i64 (a), .int .i64 (b)] by rw [← hwn]; repeat' (first | exact Blk.at_ _ (by first | rfl | (simp; done) | (simp; omega)) _ _ | refine Blk.drewN ?_ _ | refine Blk.drew ?_ | refine Blk.alloc ?_ _ | refine Blk.far ?_ (by first | omega | (simp; done) | (simp; omega)) _ | assumption))
  have K1_1 := Lib.hid (show Blk w1 (w.heap.size + 1) 28 #[.int .i64 (c), .int .i64 (d)] by rw [← hwn]; repeat' (first | exact Blk.at_ _ (by first | rfl | (simp; done) | (simp; omega)) _ _ | refine Blk.drewN ?_ _ | refine Blk.drew ?_ | refine Blk.alloc ?_ _ | refine Blk.far ?_ (by first | omega | (simp; done) | (simp; omega)) _ | assumption))
  have HN1 := Lib.hid hbn
  have hz1 := hbn.size
  clear hwn hbn
  have l0_1 : w.heap.size < w1.heap.size := K0_1.out.lt
  have z0_0_1 : w1.cell? ⟨w.heap.size, 0, none⟩ = some (.int .i64 (a)) := K0_1.out.cell 0
  have z0_1_1 : w1.cell? ⟨w.heap.size, 1, none⟩ = some (.int .i64 (b)) := K0_1.out.cell 1
  have l1_1 : w.heap.size + 1 < w1.heap.size := K1_1.out.lt
  have z1_0_1 : w1.cell? ⟨w.heap.size + 1, 0, none⟩ = some (.int .i64 (c)) := K1_1.out.cell 0
  have z1_1_1 : w1.cell? ⟨w.heap.size + 1, 1, none⟩ = some (.int .i64 (d)) := K1_1.out.cell 1
  refine Fx.regionW (fun W f w' => Below W.heap.size W w') (by kernel_rfl) (by kernel_rfl) ?_ ?_
  · intro f hf0
    exact below_drewN (Below.refl _ _) 1
  repeat (first
    | (refine Fx.skip_ (by rfl) (fun f w h => h) ?_; simp only [Act.put, List.setIfInBounds_toArray, List.set_cons_zero, List.set_cons_succ])
    | (refine Fx.val_ ?_ (by rfl) ?_ (fun f w h => h) ?_
       rotate_left
       · intro f w' hD hk
         have hb := hD
         have kb0 := step_blk hb (show Blk _ (w.heap.size) 28 #[.int .i64 (a), .int .i64 (b)] by repeat' (first | exact K0_1.out | exact K1_1.out | exact Blk.at_ _ (by first | rfl | (simp; done) | (simp; omega)) _ _ | refine Blk.drewN ?_ _ | refine Blk.drew ?_ | refine Blk.alloc ?_ _ | refine Blk.far ?_ (by first | omega | (simp; done) | (simp; omega)) _ | assumption))
         have y0_0 : w'.cell? ⟨w.heap.size, 0, none⟩ = some (.int .i64 (a)) := kb0.cell 0
         have y0_1 : w'.cell? ⟨w.heap.size, 1, none⟩ = some (.int .i64 (b)) := kb0.cell 1
         have kb1 := step_blk hb (show Blk _ (w.heap.size + 1) 28 #[.int .i64 (c), .int .i64 (d)] by repeat' (first | exact K0_1.out | exact K1_1.out | exact Blk.at_ _ (by first | rfl | (simp; done) | (simp; omega)) _ _ | refine Blk.drewN ?_ _ | refine Blk.drew ?_ | refine Blk.alloc ?_ _ | refine Blk.far ?_ (by first | omega | (simp; done) | (simp; omega)) _ | assumption))
         have y1_0 : w'.cell? ⟨w.heap.size + 1, 0, none⟩ = some (.int .i64 (c)) := kb1.cell 0
         have y1_1 : w'.cell? ⟨w.heap.size + 1, 1, none⟩ = some (.int .i64 (d)) := kb1.cell 1
         clear kb0 kb1
         clear hk hD hb
         go_simp
         try rfl
       simp only [Act.put, List.setIfInBounds_toArray, List.set_cons_zero, List.set_cons_succ]))
  refine Fx.call_ (.int .i64 (P)) ?_ ?_ (by rfl) ?_ ?_ ?_
  rotate_left 2
  · intro w'
    go_simp
    refine ⟨?_, ?_⟩ <;> rfl
  · intro f w' hD hk
    exact (floor6_is a b P HP.out w' (by omega) (by omega) h2.1 (by omega)).mono fun e w'' ⟨he, hw⟩ => ⟨he, hw ▸ hD⟩
  simp only [Act.put, List.setIfInBounds_toArray, List.set_cons_zero, List.set_cons_succ]
  repeat (first
    | (refine Fx.skip_ (by rfl) (fun f w h => h) ?_; simp only [Act.put, List.setIfInBounds_toArray, List.set_cons_zero, List.set_cons_succ])
    | (refine Fx.val_ ?_ (by rfl) ?_ (fun f w h => h) ?_
       rotate_left
       · intro f w' hD hk
         have hb := hD
         have kb0 := step_blk hb (show Blk _ (w.heap.size) 28 #[.int .i64 (a), .int .i64 (b)] by repeat' (first | exact K0_1.out | exact K1_1.out | exact Blk.at_ _ (by first | rfl | (simp; done) | (simp; omega)) _ _ | refine Blk.drewN ?_ _ | refine Blk.drew ?_ | refine Blk.alloc ?_ _ | refine Blk.far ?_ (by first | omega | (simp; done) | (simp; omega)) _ | assumption))
         have y0_0 : w'.cell? ⟨w.heap.size, 0, none⟩ = some (.int .i64 (a)) := kb0.cell 0
         have y0_1 : w'.cell? ⟨w.heap.size, 1, none⟩ = some (.int .i64 (b)) := kb0.cell 1
         have kb1 := step_blk hb (show Blk _ (w.heap.size + 1) 28 #[.int .i64 (c), .int .i64 (d)] by repeat' (first | exact K0_1.out | exact K1_1.out | exact Blk.at_ _ (by first | rfl | (simp; done) | (simp; omega)) _ _ | refine Blk.drewN ?_ _ | refine Blk.drew ?_ | refine Blk.alloc ?_ _ | refine Blk.far ?_ (by first | omega | (simp; done) | (simp; omega)) _ | assumption))
         have y1_0 : w'.cell? ⟨w.heap.size + 1, 0, none⟩ = some (.int .i64 (c)) := kb1.cell 0
         have y1_1 : w'.cell? ⟨w.heap.size + 1, 1, none⟩ = some (.int .i64 (d)) := kb1.cell 1
         clear kb0 kb1
         clear hk hD hb
         go_simp
         try rfl
       simp only [Act.put, List.setIfInBounds_toArray, List.set_cons_zero, List.set_cons_succ]))
  refine Fx.call_ (.int .i64 (Q)) ?_ ?_ (by rfl) ?_ ?_ ?_
  rotate_left 2
  · intro w'
    go_simp
    refine ⟨?_, ?_⟩ <;> rfl
  · intro f w' hD hk
    exact (floor6_is c d Q HQ.out w' (by omega) (by omega) h4.1 (by omega)).mono fun e w'' ⟨he, hw⟩ => ⟨he, hw ▸ hD⟩
  simp only [Act.put, List.setIfInBounds_toArray, List.set_cons_zero, List.set_cons_succ]
  repeat (first
    | (refine Fx.skip_ (by rfl) (fun f w h => h) ?_; simp only [Act.put, List.setIfInBounds_toArray, List.set_cons_zero, List.set_cons_succ])
    | (refine Fx.val_ ?_ (by rfl) ?_ (fun f w h => h) ?_
       rotate_left
       · intro f w' hD hk
         have hb := hD
         have kb0 := step_blk hb (show Blk _ (w.heap.size) 28 #[.int .i64 (a), .int .i64 (b)] by repeat' (first | exact K0_1.out | exact K1_1.out | exact Blk.at_ _ (by first | rfl | (simp; done) | (simp; omega)) _ _ | refine Blk.drewN ?_ _ | refine Blk.drew ?_ | refine Blk.alloc ?_ _ | refine Blk.far ?_ (by first | omega | (simp; done) | (simp; omega)) _ | assumption))
         have y0_0 : w'.cell? ⟨w.heap.size, 0, none⟩ = some (.int .i64 (a)) := kb0.cell 0
         have y0_1 : w'.cell? ⟨w.heap.size, 1, none⟩ = some (.int .i64 (b)) := kb0.cell 1
         have kb1 := step_blk hb (show Blk _ (w.heap.size + 1) 28 #[.int .i64 (c), .int .i64 (d)] by repeat' (first | exact K0_1.out | exact K1_1.out | exact Blk.at_ _ (by first | rfl | (simp; done) | (simp; omega)) _ _ | refine Blk.drewN ?_ _ | refine Blk.drew ?_ | refine Blk.alloc ?_ _ | refine Blk.far ?_ (by first | omega | (simp; done) | (simp; omega)) _ | assumption))
         have y1_0 : w'.cell? ⟨w.heap.size + 1, 0, none⟩ = some (.int .i64 (c)) := kb1.cell 0
         have y1_1 : w'.cell? ⟨w.heap.size + 1, 1, none⟩ = some (.int .i64 (d)) := kb1.cell 1
         clear kb0 kb1
         clear hk hD hb
         go_simp
         try rfl
       simp only [Act.put, List.setIfInBounds_toArray, List.set_cons_zero, List.set_cons_succ]))
  refine Fx.nil_ ?_
  intro f w2 hall hb
  try clear hall
  have HB12 := Lib.hid hb
  have HB2 := Lib.hid (show Below w.heap.size w w2 from step_below hb (by repeat' (first | exact Below.refl _ _ | exact HB1.out | refine below_drewN ?_ _ | refine Below.drew ?_ | refine Below.alloc ?_ (by first | omega | (simp; done) | (simp; omega) | (simp [World.setCell]; omega)) _ | refine Below.setCell ?_ (by first | omega | (simp; done) | (simp; omega)) _ | assumption)))
  have K0_2 := Lib.hid (step_blk hb (show Blk _ (w.heap.size) 28 #[.int .i64 (a), .int .i64 (b)] by repeat' (first | exact K0_1.out | exact K1_1.out | exact Blk.at_ _ (by first | rfl | (simp; done) | (simp; omega)) _ _ | refine Blk.drewN ?_ _ | refine Blk.drew ?_ | refine Blk.alloc ?_ _ | refine Blk.far ?_ (by first | omega | (simp; done) | (simp; omega)) _ | assumption)))
  have K1_2 := Lib.hid (step_blk hb (show Blk _ (w.heap.size + 1) 28 #[.int .i64 (c), .int .i64 (d)] by repeat' (first | exact K0_1.out | exact K1_1.out | exact Blk.at_ _ (by first | rfl | (simp; done) | (simp; omega)) _ _ | refine Blk.drewN ?_ _ | refine Blk.drew ?_ | refine Blk.alloc ?_ _ | refine Blk.far ?_ (by first | omega | (simp; done) | (simp; omega)) _ | assumption)))
  have hz2 := hb.size
  try simp only [World.size_alloc, World.drewN, World.drew] at hz2
  clear hb K0_1 K1_1 z0_0_1 z0_1_1 l0_1 z1_0_1 z1_1_1 l1_1
  have l0_2 : w.heap.size < w2.heap.size := K0_2.out.lt
  have z0_0_2 : w2.cell? ⟨w.heap.size, 0, none⟩ = some (.int .i64 (a)) := K0_2.out.cell 0
  have z0_1_2 : w2.cell? ⟨w.heap.size, 1, none⟩ = some (.int .i64 (b)) := K0_2.out.cell 1
  have l1_2 : w.heap.size + 1 < w2.heap.size := K1_2.out.lt
  have z1_0_2 : w2.cell? ⟨w.heap.size + 1, 0, none⟩ = some (.int .i64 (c)) := K1_2.out.cell 0
  have z1_1_2 : w2.cell? ⟨w.heap.size + 1, 1, none⟩ = some (.int .i64 (d)) := K1_2.out.cell 1
  by_cases h : P = Q
  · subst h
    have dz : (P != P) = false := by simp
    have HT2 := Lib.hid (show decide ((a - pv) * d < (c - qv) * b) = t by rw [HTT.out]; simp)
    go_wp2
    go_ret
    exact ⟨ret_bool HT2.out, HB2.out⟩
  · have dz : (P != Q) = true := by simpa using h
    have HT2 := Lib.hid (show decide (P < Q) = t by rw [HTT.out]; simp [h])
    clear h
    go_wp2
    go_ret
    exact ⟨ret_bool HT2.out, HB2.out⟩
end Go.Proofs.Ytnepjgnnppfibaa

end
