/- What holds of the convergents of a fraction. -/
import Derived.Test.YtmioamcgbihhjaaConv
namespace Go.Proofs.Ytmioamcgbihhjaa

def unit (x : Int) : Prop := x = 1 ∨ x = -1
/-- The cross products of two that follow each other differ by 1. -/
def Near (L : List (Int × Int)) : Prop := ∀ (i : Nat) (p q : Int × Int), L[i]? = some p → L[i + 1]? = some q → unit (q.1 * p.2 - p.1 * q.2)

theorem near_cons {x : Int × Int} {L : List (Int × Int)} (h : Near L) (h0 : ∀ y, L[0]? = some y → unit (y.1 * x.2 - x.1 * y.2)) : Near (x :: L) := by
  intro i p q hp hq
  cases i with
  | zero =>
    simp only [List.getElem?_cons_zero, Option.some.injEq] at hp
    subst hp
    simp only [Nat.zero_add, List.getElem?_cons_succ] at hq
    exact h0 q hq
  | succ i =>
    simp only [List.getElem?_cons_succ] at hp hq
    exact h i p q hp hq

theorem near_tail {x : Int × Int} {L : List (Int × Int)} (h : Near (x :: L)) : Near L := fun i p q hp hq => h (i + 1) p q (by simpa using hp) (by simpa using hq)

theorem conv_near (a b : Int) (o l : Int × Int) (hd : unit (l.1 * o.2 - o.1 * l.2)) : Near (l :: conv a b o l) := by
  induction a, b, o, l using conv.induct with
  | case1 a b o l hb ih =>
    rw [conv_step _ _ hb]
    have e : (nxt a b o l).1 * l.2 - l.1 * (nxt a b o l).2 = -(l.1 * o.2 - o.1 * l.2) := by
      simp only [nxt, Int.add_mul, Int.mul_add]
      have : l.1 * (a / b * l.2) = a / b * l.1 * l.2 := by rw [← Int.mul_assoc, Int.mul_comm l.1]
      omega
    have hu : unit ((nxt a b o l).1 * l.2 - l.1 * (nxt a b o l).2) := by
      rw [e]
      rcases hd with h | h
      · right; omega
      · left; omega
    refine near_cons (ih hu) fun y hy => ?_
    simp only [List.getElem?_cons_zero, Option.some.injEq] at hy
    subst hy
    exact hu
  | case2 a b o l hb =>
    rw [conv_end _ _ hb]
    intro i p q hp hq
    simp at hq

theorem conv_last (n d a b : Int) (o l : Int × Int) (h : Step n d a b o l) (hn : n ≤ 1000000000) (hdd : d ≤ 1000000000) (hg : Int.gcd a b = 1) (hb : 0 < b) : (conv a b o l).getLast? = some (n, d) := by
  induction a, b, o, l using conv.induct with
  | case1 a b o l hb ih =>
    rw [conv_step _ _ hb]
    obtain ⟨hs, -, -, -, -, -, hlt, h0⟩ := h.next hn hdd hb
    have hg' : Int.gcd b (a % b) = 1 := by
      have := gcd_tmod a b
      rw [Int.tmod_eq_emod_of_nonneg h.a0] at this
      rw [this, hg]
    by_cases hr : 0 < a % b
    · have := ih hs hg' hr
      rw [List.getLast?_cons, this]
      rfl
    · have hr0 : a % b = 0 := by omega
      rw [conv_end _ _ hr]
      rw [hr0] at hs hg'
      have hb1 : b = 1 := by
        rw [Int.gcd_zero_right] at hg'
        omega
      have h1 := hs.num
      have h2 := hs.den
      rw [hb1] at h1 h2
      simp only [Int.mul_one, Int.mul_zero, Int.add_zero] at h1 h2
      rw [hb1]
      simp only [List.getLast?_singleton, Option.some.injEq]
      exact Prod.ext h1 h2
  | case2 a b o l hb' => exact absurd hb hb'

theorem conv_parts (n d a b : Int) (o l : Int × Int) (h : Step n d a b o l) (hn : n ≤ 1000000000) (hdd : d ≤ 1000000000) : ∀ p ∈ conv a b o l, 0 ≤ p.1 ∧ p.1 ≤ 1000000000 ∧ 0 ≤ p.2 ∧ p.2 ≤ 1000000000 := by
  induction a, b, o, l using conv.induct with
  | case1 a b o l hb ih =>
    rw [conv_step _ _ hb]
    obtain ⟨hs, -⟩ := h.next hn hdd hb
    intro p hp
    rcases List.mem_cons.1 hp with rfl | hp
    · exact ⟨hs.l1, hs.m1, hs.l2, hs.m2⟩
    · exact ih hs p hp
  | case2 a b o l hb =>
    rw [conv_end _ _ hb]
    intro p hp
    cases hp

theorem conv_length (n d a b : Int) (o l : Int × Int) (h : Step n d a b o l) (hn : n ≤ 1000000000) (hdd : d ≤ 1000000000) : ((conv a b o l).length : Int) ≤ b := by
  induction a, b, o, l using conv.induct with
  | case1 a b o l hb ih =>
    rw [conv_step _ _ hb]
    obtain ⟨hs, -, -, -, -, -, hlt, h0⟩ := h.next hn hdd hb
    have := ih hs
    simp only [List.length_cons]
    omega
  | case2 a b o l hb =>
    rw [conv_end _ _ hb]
    exact h.b0

end Go.Proofs.Ytmioamcgbihhjaa
