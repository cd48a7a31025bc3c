/- The two searches of the best pair of gears find the same pair, and none is better. -/
import Derived.Test.YtmioamcgbihhjaaNear
namespace Go.Proofs.Ytmioamcgbihhjaa

section
variable {rn rd : Int}
abbrev oF (rn rd : Int) (g : Int × Int) : Int := offF rn rd g.1 g.2
/-- g is better than h. -/
def Bet (rn rd : Int) (g h : Int × Int) : Prop :=
  oF rn rd g * h.2 < oF rn rd h * g.2 ∨ (oF rn rd g * h.2 = oF rn rd h * g.2 ∧ (g.1 + g.2 < h.1 + h.2 ∨ (g.1 + g.2 = h.1 + h.2 ∧ g.1 < h.1)))

theorem cmpI_cases (a b : Int) : (a < b ∧ cmpI a b = -1) ∨ (a = b ∧ cmpI a b = 0) ∨ (b < a ∧ cmpI a b = 1) := by
  unfold cmpI
  by_cases h : a < b
  · exact .inl ⟨h, by rw [if_pos h]⟩
  · by_cases h2 : b < a
    · exact .inr (.inr ⟨h2, by rw [if_neg h, if_pos h2]⟩)
    · exact .inr (.inl ⟨by omega, by rw [if_neg h, if_neg h2]⟩)

theorem better_iff (g h : Int × Int) : betterB rn rd g h = true ↔ Bet rn rd g h := by
  unfold betterB Bet cmpF orF
  rw [decide_eq_true_eq]
  rcases cmpI_cases (offF rn rd g.1 g.2 * h.2) (offF rn rd h.1 h.2 * g.2) with ⟨a, b⟩ | ⟨a, b⟩ | ⟨a, b⟩ <;>
  rcases cmpI_cases (g.1 + g.2) (h.1 + h.2) with ⟨c, d⟩ | ⟨c, d⟩ | ⟨c, d⟩ <;>
  rcases cmpI_cases g.1 h.1 with ⟨e, f⟩ | ⟨e, f⟩ | ⟨e, f⟩ <;>
  (rw [b, d, f]; simp only [oF]; simp <;> omega)

theorem near_iff (g h : Int × Int) : nearB rn rd g h = true ↔ oF rn rd g * h.2 < oF rn rd h * g.2 := by unfold nearB oF; rw [decide_eq_true_eq]

theorem cross_le {x y z p q r : Int} (hq : 0 < q) (hp : 0 < p) (hr : 0 < r) (h1 : x * q ≤ y * p) (h2 : y * r ≤ z * q) : x * r ≤ z * p := by
  have a1 := Int.mul_le_mul_of_nonneg_right h1 (Int.le_of_lt hr)
  have a2 := Int.mul_le_mul_of_nonneg_right h2 (Int.le_of_lt hp)
  have e1 : y * p * r = y * r * p := by rw [Int.mul_assoc, Int.mul_comm p r, ← Int.mul_assoc]
  have e2 : x * q * r = x * r * q := by rw [Int.mul_assoc, Int.mul_comm q r, ← Int.mul_assoc]
  have e3 : z * q * p = z * p * q := by rw [Int.mul_assoc, Int.mul_comm q p, ← Int.mul_assoc]
  exact Int.le_of_mul_le_mul_right (by omega : x * r * q ≤ z * p * q) hq
theorem cross_lt {x y z p q r : Int} (hq : 0 < q) (hp : 0 < p) (hr : 0 < r) (h1 : x * q ≤ y * p) (h2 : y * r ≤ z * q) (h3 : x * q < y * p ∨ y * r < z * q) : x * r < z * p := by
  have e1 : y * p * r = y * r * p := by rw [Int.mul_assoc, Int.mul_comm p r, ← Int.mul_assoc]
  have e2 : x * q * r = x * r * q := by rw [Int.mul_assoc, Int.mul_comm q r, ← Int.mul_assoc]
  have e3 : z * q * p = z * p * q := by rw [Int.mul_assoc, Int.mul_comm q p, ← Int.mul_assoc]
  rcases h3 with h | h
  · have a1 := Int.mul_lt_mul_of_pos_right h hr
    have a2 := Int.mul_le_mul_of_nonneg_right h2 (Int.le_of_lt hp)
    exact Int.lt_of_mul_lt_mul_right (by omega : x * r * q < z * p * q) (Int.le_of_lt hq)
  · have a1 := Int.mul_le_mul_of_nonneg_right h1 (Int.le_of_lt hr)
    have a2 := Int.mul_lt_mul_of_pos_right h hp
    exact Int.lt_of_mul_lt_mul_right (by omega : x * r * q < z * p * q) (Int.le_of_lt hq)

theorem Bet.trans {a b c : Int × Int} (ha : 0 < a.2) (hb : 0 < b.2) (hc : 0 < c.2) (h1 : Bet rn rd a b) (h2 : Bet rn rd b c) : Bet rn rd a c := by
  unfold Bet at *
  have l1 : oF rn rd a * b.2 ≤ oF rn rd b * a.2 := by omega
  have l2 : oF rn rd b * c.2 ≤ oF rn rd c * b.2 := by omega
  have l3 := cross_le hb ha hc l1 l2
  by_cases hs : oF rn rd a * b.2 < oF rn rd b * a.2 ∨ oF rn rd b * c.2 < oF rn rd c * b.2
  · exact .inl (cross_lt hb ha hc l1 l2 hs)
  · omega

theorem Bet.same {a b : Int × Int} (h1 : ¬ Bet rn rd a b) (h2 : ¬ Bet rn rd b a) : a = b := by
  unfold Bet at *
  exact Prod.ext (by omega) (by omega)

structure Box (lo hi : Int) (g : Int × Int) : Prop where
  a : lo ≤ g.1
  b : g.1 ≤ hi
  c : lo ≤ g.2
  d : g.2 ≤ hi

/-- The program's search so far: rows of drivers. -/
structure PInv (rn rd lo hi d v : Int) (P : Int × Int) : Prop where
  box : Box lo hi P
  least : ∀ g, Box lo hi g → (g.1 < d ∨ (g.1 = d ∧ g.2 < v)) → ¬ Bet rn rd g P

theorem PInv.step {lo hi d v : Int} {P : Int × Int} (hlo : 1 ≤ lo) (h : PInv rn rd lo hi d v P) (hg : Box lo hi (d, v)) : PInv rn rd lo hi d (v + 1) (stepF rn rd P (d, v)) := by
  have hp := h.box.c
  unfold stepF
  by_cases hb : betterB rn rd (d, v) P = true
  · rw [if_pos hb]
    rw [better_iff] at hb
    refine ⟨hg, fun g hgb hpos hbet => ?_⟩
    have hg2 := hgb.c
    have hd2 := hg.c
    simp only at hd2
    by_cases e : g.1 < d ∨ (g.1 = d ∧ g.2 < v)
    · exact h.least g hgb e (Bet.trans (by omega) (by simp only; omega) (by omega) hbet hb)
    · have e1 : g.1 = d := by omega
      have e2 : g.2 = v := by omega
      unfold Bet oF at hbet
      simp only [e1, e2] at hbet
      omega
  · rw [if_neg hb]
    rw [better_iff] at hb
    refine ⟨h.box, fun g hgb hpos hbet => ?_⟩
    by_cases e : g.1 < d ∨ (g.1 = d ∧ g.2 < v)
    · exact h.least g hgb e hbet
    · have e1 : g = (d, v) := Prod.ext (by simp only; omega) (by simp only; omega)
      exact hb (e1 ▸ hbet)

theorem PInv.row {lo hi : Int} (hlo : 1 ≤ lo) {d : Int} (hd1 : lo ≤ d) (hd2 : d ≤ hi) {P : Int × Int} (h : PInv rn rd lo hi d lo P) : ∀ m : Nat, lo + m ≤ hi + 1 → PInv rn rd lo hi d (lo + m) (rowF rn rd lo m d P)
  | 0, _ => by simpa [rowF] using h
  | m + 1, hm => by
    rw [rowF_succ]
    have := (PInv.row hlo hd1 hd2 h m (by omega)).step hlo ⟨hd1, hd2, by simp only; omega, by simp only; omega⟩
    rwa [show lo + ((m + 1 : Nat) : Int) = lo + (m : Int) + 1 by omega]

theorem PInv.next {lo hi d : Int} {P : Int × Int} (h : PInv rn rd lo hi d (hi + 1) P) : PInv rn rd lo hi (d + 1) lo P :=
  ⟨h.box, fun g hg hp => h.least g hg (by have := hg.c; have := hg.d; omega)⟩

theorem PInv.all {lo hi : Int} (hlo : 1 ≤ lo) (hle : lo ≤ hi) : ∀ k : Nat, lo + k ≤ hi + 1 → PInv rn rd lo hi (lo + k) lo (bestF rn rd lo (hi - lo + 1).toNat k)
  | 0, _ => ⟨⟨Int.le_refl _, hle, Int.le_refl _, hle⟩, fun g hg hp => by have := hg.a; have := hg.c; omega⟩
  | k + 1, hk => by
    rw [bestF_succ]
    have h := (PInv.all hlo hle k (by omega)).row hlo (by omega) (by omega) (hi - lo + 1).toNat (by omega)
    rw [show lo + ((hi - lo + 1).toNat : Int) = hi + 1 by omega] at h
    rw [show lo + ((k + 1 : Nat) : Int) = lo + (k : Int) + 1 by omega]
    exact h.next

theorem best_least {lo hi : Int} (hlo : 1 ≤ lo) (hle : lo ≤ hi) : Box lo hi (bestP rn rd lo hi) ∧ ∀ g, Box lo hi g → ¬ Bet rn rd g (bestP rn rd lo hi) := by
  have h := PInv.all (rn := rn) (rd := rd) hlo hle (hi - lo + 1).toNat (by omega)
  rw [show lo + ((hi - lo + 1).toNat : Int) = hi + 1 by omega] at h
  exact ⟨h.box, fun g hg => h.least g hg (.inl (by have := hg.b; omega))⟩

/-- The reference's search so far: by sums, then by the driver. -/
structure RInv (rn rd lo hi s d : Int) (R : Int × Int) : Prop where
  box : Box lo hi R
  pos : R.1 + R.2 < s ∨ (R.1 + R.2 = s ∧ R.1 ≤ d)
  least : ∀ g, Box lo hi g → (g.1 + g.2 < s ∨ (g.1 + g.2 = s ∧ g.1 < d)) → ¬ Bet rn rd g R

theorem RInv.step {lo hi s d : Int} {R : Int × Int} (hlo : 1 ≤ lo) (h : RInv rn rd lo hi s d R) (h1 : lo ≤ d) (h2 : d ≤ hi) : RInv rn rd lo hi s (d + 1) (rstepF rn rd lo hi R (d, s - d)) := by
  have hp := h.pos
  have hc := h.box.c
  unfold rstepF
  by_cases hw : withinB (s - d) lo hi = true
  · have hw' := (withinB_iff _ _ _).1 hw
    have hg : Box lo hi (d, s - d) := ⟨h1, h2, hw'.1, hw'.2⟩
    by_cases hn : nearB rn rd (d, s - d) R = true
    · rw [if_pos (by simp only [hw, hn]; rfl)]
      rw [near_iff] at hn
      refine ⟨hg, .inr ⟨by simp only; omega, by simp only; omega⟩, fun g hgb hpos hbet => ?_⟩
      have hg2 := hgb.c
      by_cases e : g.1 + g.2 < s ∨ (g.1 + g.2 = s ∧ g.1 < d)
      · exact h.least g hgb e (Bet.trans (by omega) (by simp only; omega) (by omega) hbet (.inl hn))
      · have e1 : g = (d, s - d) := Prod.ext (by simp only; omega) (by simp only; omega)
        subst e1
        unfold Bet at hbet
        omega
    · rw [if_neg (by simp only [hw, Bool.true_and]; exact hn)]
      rw [near_iff] at hn
      refine ⟨h.box, by omega, fun g hgb hpos hbet => ?_⟩
      by_cases e : g.1 + g.2 < s ∨ (g.1 + g.2 = s ∧ g.1 < d)
      · exact h.least g hgb e hbet
      · have e1 : g = (d, s - d) := Prod.ext (by simp only; omega) (by simp only; omega)
        subst e1
        unfold Bet at hbet
        simp only at hbet hn
        omega
  · rw [if_neg (by simp only [hw, Bool.false_and]; simp)]
    refine ⟨h.box, by omega, fun g hgb hpos => ?_⟩
    refine h.least g hgb ?_
    rw [withinB_iff] at hw
    have := hgb.c
    have := hgb.d
    omega

theorem RInv.row {lo hi : Int} (hlo : 1 ≤ lo) {s : Int} {R : Int × Int} (h : RInv rn rd lo hi s lo R) : ∀ m : Nat, lo + m ≤ hi + 1 → RInv rn rd lo hi s (lo + m) (rrowF rn rd lo hi s m R)
  | 0, _ => by simpa [rrowF] using h
  | m + 1, hm => by
    rw [rrowF_succ]
    have := (RInv.row hlo h m (by omega)).step hlo (by omega) (by omega)
    rwa [show lo + ((m + 1 : Nat) : Int) = lo + (m : Int) + 1 by omega]

theorem RInv.next {lo hi s : Int} {R : Int × Int} (h : RInv rn rd lo hi s (hi + 1) R) : RInv rn rd lo hi (s + 1) lo R :=
  ⟨h.box, by have := h.pos; omega, fun g hg hp => h.least g hg (by have := hg.a; have := hg.b; omega)⟩

theorem RInv.all {lo hi : Int} (hlo : 1 ≤ lo) (hle : lo ≤ hi) : ∀ k : Nat, RInv rn rd lo hi (2 * lo + k) lo (rbestF rn rd lo hi (hi - lo + 1).toNat k)
  | 0 => ⟨⟨Int.le_refl _, hle, Int.le_refl _, hle⟩, .inr ⟨by simp [rbestF]; omega, Int.le_refl _⟩, fun g hg hp => by have := hg.a; have := hg.c; omega⟩
  | k + 1 => by
    rw [rbestF_succ]
    have h := (RInv.all hlo hle k).row hlo (hi - lo + 1).toNat (by omega)
    rw [show lo + ((hi - lo + 1).toNat : Int) = hi + 1 by omega] at h
    rw [show 2 * lo + ((k + 1 : Nat) : Int) = 2 * lo + (k : Int) + 1 by omega]
    exact h.next

theorem rbest_eq {lo hi : Int} (hlo : 1 ≤ lo) (hle : lo ≤ hi) : rbestF rn rd lo hi (hi - lo + 1).toNat (2 * (hi - lo) + 1).toNat = bestP rn rd lo hi := by
  have h := RInv.all (rn := rn) (rd := rd) hlo hle (2 * (hi - lo) + 1).toNat
  obtain ⟨hb, hl⟩ := best_least (rn := rn) (rd := rd) hlo hle
  refine Bet.same (hl _ h.box) (h.least _ hb (.inl ?_))
  have := hb.b
  have := hb.d
  omega

theorem not_near_best {lo hi : Int} (hlo : 1 ≤ lo) (hle : lo ≤ hi) (g : Int × Int) (hg : Box lo hi g) : nearB rn rd g (bestP rn rd lo hi) = false := by
  cases hn : nearB rn rd g (bestP rn rd lo hi) with
  | false => rfl
  | true => exact absurd (.inl ((near_iff _ _).1 hn)) ((best_least hlo hle).2 g hg)
end

end Go.Proofs.Ytmioamcgbihhjaa
