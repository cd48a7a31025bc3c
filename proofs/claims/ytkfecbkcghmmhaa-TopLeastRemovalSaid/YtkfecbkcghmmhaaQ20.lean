import Derived.Test.YtkfecbkcghmmhaaQ13
import Derived.Test.YtkfecbkcghmmhaaQ17
import Derived.Test.YtkfecbkcghmmhaaQ19

section
/- Plain law of the lower hull: no zone lies below the line through two neighbours of the hull; the corner of the mean. -/
namespace Go.Proofs.Ytkfecbkcghmmhaa
open Go.RowKit

theorem getDat {α : Type} {l : List α} {i : Nat} {x d : α} (h : l[i]? = some x) : l.getD i d = x := by rw [List.getD_eq_getElem?_getD, h]; rfl
theorem nonneg_of {x y : Int} (hy : 0 < y) (h : 0 ≤ x * y) : 0 ≤ x :=
  Int.not_lt.1 fun hx => absurd (Int.mul_neg_of_neg_of_pos hx hy) (by omega)
/-- On which side of the line through a and b the zone c lies; not negative: on it or above it (q a < q b). -/
def crossF (h q : Nat → Int) (a b c : Nat) : Int := (h c - h a) * (q b - q a) - (h b - h a) * (q c - q a)
theorem under_cross {h q : Nat → Int} {a b c : Nat} : underB h q a b c = true ↔ 0 < crossF h q a b c := by
  unfold underB crossF
  rw [decide_eq_true_eq]
  omega
section
variable {h q : Nat → Int}
theorem cross_same (a b : Nat) : crossF h q a b b = 0 := by unfold crossF; grind
theorem cross_first (a b : Nat) : crossF h q a b a = 0 := by unfold crossF; grind
/-- Above the edge (a, b), b above the edge (z, a): above the edge (z, a). -/
theorem cross_on {z a b k : Nat} (h1 : q z ≤ q a) (h2 : q a < q b) (h3 : q a ≤ q k) (hb : 0 ≤ crossF h q z a b) (hk : 0 ≤ crossF h q a b k) : 0 ≤ crossF h q z a k := by
  refine nonneg_of (y := q b - q a) (by omega) ?_
  have e : crossF h q z a k * (q b - q a) = crossF h q a b k * (q a - q z) + crossF h q z a b * (q k - q a) := by unfold crossF; grind
  rw [e]
  exact Int.add_nonneg (Int.mul_nonneg hk (by omega)) (Int.mul_nonneg hb (by omega))
/-- Left of b, above the edge (a, b), k above it: above the edge (b, k). -/
theorem cross_left {a b k p : Nat} (h1 : q a < q b) (h2 : q b ≤ q k) (h3 : q p ≤ q b) (hp : 0 ≤ crossF h q a b p) (hk : 0 ≤ crossF h q a b k) : 0 ≤ crossF h q b k p := by
  refine nonneg_of (y := q b - q a) (by omega) ?_
  have e : crossF h q b k p * (q b - q a) = crossF h q a b p * (q k - q b) + crossF h q a b k * (q b - q p) := by unfold crossF; grind
  rw [e]
  exact Int.add_nonneg (Int.mul_nonneg hp (by omega)) (Int.mul_nonneg hk (by omega))
/-- b is taken off (it is not below the line from a to k): right of b, above (b, k): above (a, k). -/
theorem cross_popR {a b k p : Nat} (h1 : q a < q b) (h2 : q b < q k) (h3 : q b ≤ q p) (h4 : q p ≤ q k) (hb : crossF h q a b k ≤ 0) (hp : 0 ≤ crossF h q b k p) : 0 ≤ crossF h q a k p := by
  refine nonneg_of (y := q k - q b) (by omega) ?_
  have e : crossF h q a k p * (q k - q b) = crossF h q b k p * (q k - q a) + (- crossF h q a b k) * (q k - q p) := by unfold crossF; grind
  rw [e]
  exact Int.add_nonneg (Int.mul_nonneg hp (by omega)) (Int.mul_nonneg (by omega) (by omega))
theorem cross_popL {a b k p : Nat} (h1 : q a < q b) (h2 : q b < q k) (h3 : q a ≤ q p) (hb : crossF h q a b k ≤ 0) (hp : 0 ≤ crossF h q a b p) : 0 ≤ crossF h q a k p := by
  refine nonneg_of (y := q b - q a) (by omega) ?_
  have e : crossF h q a k p * (q b - q a) = crossF h q a b p * (q k - q a) + (- crossF h q a b k) * (q p - q a) := by unfold crossF; grind
  rw [e]
  exact Int.add_nonneg (Int.mul_nonneg hp (by omega)) (Int.mul_nonneg (by omega) (by omega))
theorem cross_up {a b c d : Nat} (hab : q a ≤ q b) (hq : q c = q d) (hh : h c ≤ h d) (hc : 0 ≤ crossF h q a b c) : 0 ≤ crossF h q a b d := by
  have e : crossF h q a b d = crossF h q a b c + (h d - h c) * (q b - q a) := by unfold crossF; rw [hq]; grind
  rw [e]
  exact Int.add_nonneg hc (Int.mul_nonneg (by omega) (by omega))

/-- No zone of P lies below an edge of the chain (its last zone first). -/
def EdgesR (h q : Nat → Int) (P : Nat → Prop) : List Nat → Prop
  | b :: a :: r => q a < q b ∧ (∀ p, P p → 0 ≤ crossF h q a b p) ∧ EdgesR h q P (a :: r)
  | _ => True
structure HullI (h q : Nat → Int) (P : Nat → Prop) (st : List Nat) : Prop where
  edges : EdgesR h q P st
  has : ∀ x ∈ st, P x
  top : ∀ b r, st = b :: r → ∀ p, P p → q p ≤ q b ∧ (q p = q b → h b ≤ h p)
  low : ∀ z, st.getLast? = some z → ∀ p, P p → q z ≤ q p
theorem EdgesR.more {P P' : Nat → Prop} : ∀ {st : List Nat}, EdgesR h q P st → (∀ a b r s, st = s ++ b :: a :: r → ∀ p, P' p → 0 ≤ crossF h q a b p) → EdgesR h q P' st
  | [], _, _ => trivial
  | [_], _, _ => trivial
  | b :: a :: r, he, hP => ⟨he.1, fun p hp => hP a b r [] rfl p hp, EdgesR.more he.2.2 fun a' b' r' s hs p hp => hP a' b' r' (b :: s) (by rw [hs]; rfl) p hp⟩
theorem EdgesR.at {P : Nat → Prop} : ∀ {st : List Nat}, EdgesR h q P st → ∀ {a b : Nat} {r s : List Nat}, st = s ++ b :: a :: r → q a < q b ∧ ∀ p, P p → 0 ≤ crossF h q a b p
  | [], _, a, b, r, s, e => by simp at e
  | [_], _, a, b, r, s, e => by
    cases s with
    | nil => simp at e
    | cons x s => simp at e
  | y :: x :: t, he, a, b, r, s, e => by
    cases s with
    | nil => simp only [List.nil_append, List.cons.injEq] at e; obtain ⟨rfl, rfl, rfl⟩ := e; exact ⟨he.1, he.2.1⟩
    | cons z s => simp only [List.cons_append, List.cons.injEq] at e; exact EdgesR.at he.2.2 e.2
/-- k is above the last edge: it is above all of them. -/
theorem edges_k {P : Nat → Prop} {k : Nat} : ∀ {st : List Nat}, EdgesR h q P st → (∀ x ∈ st, P x) → (∀ x ∈ st, q x ≤ q k) → (∀ a b r, st = b :: a :: r → 0 ≤ crossF h q a b k) → EdgesR h q (fun p => P p ∨ p = k) st
  | [], _, _, _, _ => trivial
  | [_], _, _, _, _ => trivial
  | b :: a :: r, he, hm, hq, hk => by
    have h1 := hk a b r rfl
    refine ⟨he.1, fun p hp => ?_, edges_k he.2.2 (fun x hx => hm x (by simp [hx])) (fun x hx => hq x (by simp [hx])) ?_⟩
    · rcases hp with hp | rfl
      · exact he.2.1 p hp
      · exact h1
    · intro z a' r' e
      simp only [List.cons.injEq] at e
      obtain ⟨rfl, rfl⟩ := e
      have h2 := he.2.2
      exact cross_on (Int.le_of_lt h2.1) he.1 (hq a (by simp)) (h2.2.1 b (hm b (by simp))) h1
/-- What is left behind the taking off. -/
theorem pop_i {P : Nat → Prop} {k : Nat} : ∀ {st : List Nat}, st ≠ [] → EdgesR h q P st → (∀ x ∈ st, P x) → (∀ b r, st = b :: r → q b < q k ∧ ∀ p, P p → q p ≤ q k ∧ (q b ≤ q p → 0 ≤ crossF h q b k p)) → (∀ z, st.getLast? = some z → ∀ p, P p → q z ≤ q p) →
    ∃ b r, popR h q st k = b :: r ∧ EdgesR h q (fun p => P p ∨ p = k) (b :: r) ∧ (∀ x ∈ b :: r, P x) ∧ q b < q k ∧ (∀ p, P p → 0 ≤ crossF h q b k p) ∧ (b :: r).getLast? = st.getLast?
  | [], hne, _, _, _, _ => absurd rfl hne
  | [b], _, he, hm, hQ, hz => by
    obtain ⟨h1, h2⟩ := hQ b [] rfl
    exact ⟨b, [], by unfold popR; rfl, trivial, hm, h1, fun p hp => (h2 p hp).2 (hz b rfl p hp), rfl⟩
  | b :: a :: r, _, he, hm, hQ, hz => by
    obtain ⟨h1, h2⟩ := hQ b (a :: r) rfl
    by_cases hu : underB h q a b k = true
    · have hu2 := under_cross.1 hu
      refine ⟨b, a :: r, by unfold popR; rw [if_pos hu], edges_k he hm (fun x hx => (h2 x (hm x hx)).1) ?_, hm, h1, fun p hp => ?_, rfl⟩
      · intro a' b' r' e
        simp only [List.cons.injEq] at e
        obtain ⟨rfl, rfl, rfl⟩ := e
        exact Int.le_of_lt hu2
      · by_cases hp2 : q b ≤ q p
        · exact (h2 p hp).2 hp2
        · exact cross_left he.1 (Int.le_of_lt h1) (by omega) (he.2.1 p hp) (Int.le_of_lt hu2)
    · have hu2 : crossF h q a b k ≤ 0 := Int.not_lt.1 fun h => hu (under_cross.2 h)
      have hlast : (b :: a :: r).getLast? = (a :: r).getLast? := by rw [List.getLast?_cons_cons]
      rw [hlast] at hz
      obtain ⟨b', r', g1, g2, g3, g4, g5, g6⟩ := pop_i (k := k) (st := a :: r) (by simp) he.2.2 (fun x hx => hm x (by simp [hx])) (fun b2 r2 e => by
        simp only [List.cons.injEq] at e
        obtain ⟨rfl, rfl⟩ := e
        refine ⟨Int.lt_trans he.1 h1, fun p hp => ⟨(h2 p hp).1, fun hp2 => ?_⟩⟩
        by_cases hp3 : q b ≤ q p
        · exact cross_popR he.1 h1 hp3 (h2 p hp).1 hu2 ((h2 p hp).2 hp3)
        · exact cross_popL he.1 h1 hp2 hu2 (he.2.1 p hp)) hz
      exact ⟨b', r', by unfold popR; rw [if_neg hu]; exact g1, g2, g3, g4, g5, by rw [hlast]; exact g6⟩
theorem push_i {P : Nat → Prop} {st : List Nat} {k : Nat} (hI : HullI h q P st) (hk : ∀ p, P p → q p ≤ q k ∧ (q p = q k → h p ≤ h k)) (h0 : st = [] → ∀ p, ¬ P p) : HullI h q (fun p => P p ∨ p = k) (pushR h q st k) := by
  cases st with
  | nil =>
    have h0 := h0 rfl
    refine ⟨trivial, fun x hx => .inr (by simpa [pushR] using hx), ?_, ?_⟩
    · intro b r e p hp
      unfold pushR at e
      simp only [List.cons.injEq] at e
      obtain ⟨rfl, rfl⟩ := e
      rcases hp with hp | rfl
      · exact absurd hp (h0 p)
      · exact ⟨Int.le_refl _, fun _ => Int.le_refl _⟩
    · intro z e p hp
      unfold pushR at e
      simp only [List.getLast?_singleton, Option.some.injEq] at e
      subst e
      rcases hp with hp | rfl
      · exact absurd hp (h0 p)
      · exact Int.le_refl _
  | cons b r =>
    have hb := hI.has b (by simp)
    by_cases hq : q b = q k
    · have e : pushR h q (b :: r) k = b :: r := by unfold pushR; simp only; rw [if_pos hq]
      rw [e]
      have hbk := (hk b hb).2 hq
      refine ⟨hI.edges.more fun a b' r' s hs p hp => ?_, fun x hx => .inl (hI.has x hx), ?_, ?_⟩
      · obtain ⟨g1, g2⟩ := hI.edges.at hs
        rcases hp with hp | rfl
        · exact g2 p hp
        · exact cross_up (Int.le_of_lt g1) hq hbk (g2 b hb)
      · intro b2 r2 e2 p hp
        simp only [List.cons.injEq] at e2
        obtain ⟨rfl, rfl⟩ := e2
        rcases hp with hp | rfl
        · exact hI.top _ _ rfl p hp
        · exact ⟨by omega, fun _ => hbk⟩
      · intro z e2 p hp
        rcases hp with hp | rfl
        · exact hI.low z e2 p hp
        · have := hI.low z e2 b hb; omega
    · have e : pushR h q (b :: r) k = k :: popR h q (b :: r) k := by unfold pushR; simp only; rw [if_neg hq]
      have hbk := (hk b hb).1
      obtain ⟨b', r', g1, g2, g3, g4, g5, g6⟩ := pop_i (k := k) (by simp) hI.edges hI.has (fun b2 r2 e2 => by
        simp only [List.cons.injEq] at e2
        obtain ⟨rfl, rfl⟩ := e2
        refine ⟨by omega, fun p hp => ⟨(hk p hp).1, fun hp2 => ?_⟩⟩
        obtain ⟨t1, t2⟩ := hI.top _ _ rfl p hp
        exact cross_up (by omega) (show q b = q p by omega) (t2 (by omega)) (by rw [cross_first]; exact Int.le_refl _)) hI.low
      rw [e, g1]
      refine ⟨⟨g4, fun p hp => ?_, g2⟩, fun x hx => ?_, ?_, ?_⟩
      · rcases hp with hp | rfl
        · exact g5 p hp
        · rw [cross_same]; exact Int.le_refl _
      · rcases List.mem_cons.1 hx with rfl | hx
        · exact .inr rfl
        · exact .inl (g3 x hx)
      · intro b2 r2 e2 p hp
        simp only [List.cons.injEq] at e2
        obtain ⟨rfl, rfl⟩ := e2
        rcases hp with hp | rfl
        · exact ⟨(hk p hp).1, fun hpe => by
            have hb' := g3 b' (by simp)
            exfalso
            have := (hI.top b r rfl p hp).1
            omega⟩
        · exact ⟨Int.le_refl _, fun _ => Int.le_refl _⟩
      · intro z e2 p hp
        rw [List.getLast?_cons_cons, g6] at e2
        rcases hp with hp | rfl
        · exact hI.low z e2 p hp
        · have := hI.low z e2 b hb; omega
theorem fold_i : ∀ (l st : List Nat) (P : Nat → Prop), HullI h q P st → (st = [] → ∀ p, ¬ P p) → l.Pairwise (fun a b => q a ≤ q b ∧ (q a = q b → h a ≤ h b)) → (∀ p, P p → ∀ y ∈ l, q p ≤ q y ∧ (q p = q y → h p ≤ h y)) → HullI h q (fun p => P p ∨ p ∈ l) (l.foldl (pushR h q) st)
  | [], st, P, hI, _, _, _ => by
    have e : (fun p => P p ∨ p ∈ ([] : List Nat)) = P := by funext p; simp
    rw [e]; exact hI
  | k :: l, st, P, hI, h0, hl, hP => by
    rw [List.pairwise_cons] at hl
    have h1 := push_i hI (fun p hp => hP p hp k (by simp)) h0
    have h2 := fold_i l (pushR h q st k) _ h1 (fun e => absurd e (pushR_ne h q st k)) hl.2 (fun p hp y hy => by
      rcases hp with hp | rfl
      · exact hP p hp y (by simp [hy])
      · exact hl.1 y hy)
    have e : (fun p => (P p ∨ p = k) ∨ p ∈ l) = fun p => P p ∨ p ∈ k :: l := by funext p; simp [or_assoc]
    rw [e] at h2
    exact h2
theorem hull_i (h q : Nat → Int) (n : Nat) : HullI h q (fun p => p < n) (hullR h q (orderF h q n)) := by
  have h1 := fold_i (h := h) (q := q) (orderF h q n) [] (fun _ => False) ⟨trivial, by simp, fun b r e => by simp at e, fun z e => by simp at e⟩ (fun _ _ h => h) (order_asc h q n) (fun p hp => hp.elim)
  have e : (fun p => False ∨ p ∈ orderF h q n) = fun p => p < n := by funext p; simp [orderF_mem]
  rw [e] at h1
  exact h1
/-- No zone lies below the line through two neighbours of the hull. -/
theorem hull_edge {n i : Nat} (hi : 1 ≤ i) (hl : i < (hullF h q n).length) : q ((hullF h q n).getD (i - 1) 0) < q ((hullF h q n).getD i 0) ∧ ∀ p, p < n → 0 ≤ crossF h q ((hullF h q n).getD (i - 1) 0) ((hullF h q n).getD i 0) p := by
  obtain ⟨L, hL⟩ : ∃ L, hullF h q n = L := ⟨_, rfl⟩
  have hI := hull_i h q n
  have e : hullR h q (orderF h q n) = L.reverse := by rw [← hL]; unfold hullF; rw [List.reverse_reverse]
  rw [e] at hI
  rw [hL] at hl ⊢
  have h1 : L = L.take (i - 1) ++ L.getD (i - 1) 0 :: L.getD i 0 :: L.drop (i + 1) := by
    have a1 : L.getD (i - 1) 0 = L[i - 1]'(by omega) := getDat (List.getElem?_eq_getElem (by omega))
    have a2 : L.getD i 0 = L[i]'(by omega) := getDat (List.getElem?_eq_getElem (by omega))
    rw [a1, a2]
    have b1 : L.drop (i - 1) = L[i - 1]'(by omega) :: L.drop (i - 1 + 1) := List.drop_eq_getElem_cons (by omega)
    have b2 : L.drop i = L[i]'(by omega) :: L.drop (i + 1) := List.drop_eq_getElem_cons (by omega)
    rw [show i - 1 + 1 = i by omega, b2] at b1
    rw [← b1, List.take_append_drop]
  have h2 : L.reverse = (L.drop (i + 1)).reverse ++ L.getD i 0 :: L.getD (i - 1) 0 :: (L.take (i - 1)).reverse := by
    conv => lhs; rw [h1]
    simp
  exact hI.edges.at h2
theorem hull_first {n : Nat} (hn : 1 ≤ n) : ∀ p, p < n → q ((hullF h q n).getD 0 0) ≤ q p := by
  have hI := hull_i h q n
  have hne := hull_ne (h := h) (q := q) hn
  intro p hp
  refine hI.low _ ?_ p hp
  have e : hullR h q (orderF h q n) = (hullF h q n).reverse := by unfold hullF; rw [List.reverse_reverse]
  rw [e, List.getLast?_reverse]
  cases h2 : hullF h q n with
  | nil => exact absurd h2 hne
  | cons a r => simp
theorem hull_last {n : Nat} (hn : 1 ≤ n) : ∀ p, p < n → q p ≤ q ((hullF h q n).getD ((hullF h q n).length - 1) 0) ∧ (q p = q ((hullF h q n).getD ((hullF h q n).length - 1) 0) → h ((hullF h q n).getD ((hullF h q n).length - 1) 0) ≤ h p) := by
  have hI := hull_i h q n
  have hne := hull_ne (h := h) (q := q) hn
  have e : hullR h q (orderF h q n) = (hullF h q n).reverse := by unfold hullF; rw [List.reverse_reverse]
  rw [e] at hI
  intro p hp
  cases h2 : (hullF h q n).reverse with
  | nil => simp at h2; exact absurd h2 hne
  | cons b r =>
    have h3 := hI.top b r h2 p hp
    have h4 : (hullF h q n).getD ((hullF h q n).length - 1) 0 = b := by
      have : hullF h q n = r.reverse ++ [b] := by rw [← List.reverse_reverse (hullF h q n), h2]; simp
      rw [this]
      simp
    rw [h4]
    exact h3
end
end Go.Proofs.Ytkfecbkcghmmhaa

end

section
/- Plain law of the line of least removal: no zone lies below it, it touches its zones, they lie on both sides of the mean; no line below the map removes less. -/
namespace Go.Proofs.Ytkfecbkcghmmhaa
open Go.RowKit

theorem redm_mul {a b : Int} (hb : 0 < b) : redN a b * b = redD a b * a ∧ 0 < redD a b ∧ Int.gcd (redN a b) (redD a b) = 1 := by
  have hg0 : 0 < Int.gcd a b := Int.gcd_pos_of_ne_zero_right a (by omega)
  have hg : 0 < (Int.gcd a b : Int) := by exact_mod_cast hg0
  have hc : Int.gcd (redN a b) (redD a b) = 1 := by unfold redN redD; exact Int.gcd_ediv_gcd_ediv_gcd hg0
  obtain ⟨p, hp⟩ := Int.gcd_dvd_left a b
  obtain ⟨q, hq⟩ := Int.gcd_dvd_right a b
  have e1 : redN a b = p := by unfold redN; exact Int.ediv_eq_of_eq_mul_right (by omega) hp
  have e2 : redD a b = q := by unfold redD; exact Int.ediv_eq_of_eq_mul_right (by omega) hq
  rw [e1, e2] at hc ⊢
  generalize (Int.gcd a b : Int) = g at *
  refine ⟨?_, ?_, hc⟩
  · rw [hp, hq]; grind
  · rw [hq] at hb
    rw [Int.mul_comm] at hb
    exact Int.pos_of_mul_pos_left hb hg
theorem sumN_mono {f g : Nat → Int} : ∀ {n : Nat}, (∀ i, i < n → f i ≤ g i) → sumN f n ≤ sumN g n
  | 0, _ => Int.le_refl _
  | n + 1, h => by
    have h1 := sumN_mono (n := n) fun i hi => h i (by omega)
    have h2 := h n (by omega)
    show sumN f n + f n ≤ sumN g n + g n
    omega
theorem sumN_scale (f : Nat → Int) (k : Int) : ∀ n, sumN (fun i => f i * k) n = sumN f n * k
  | 0 => by simp [sumN]
  | n + 1 => by
    show sumN (fun i => f i * k) n + f n * k = (sumN f n + f n) * k
    rw [sumN_scale f k n, Int.add_mul]
theorem sumN_congr {f g : Nat → Int} : ∀ {n : Nat}, (∀ i, i < n → f i = g i) → sumN f n = sumN g n
  | 0, _ => rfl
  | n + 1, h => by
    show sumN f n + f n = sumN g n + g n
    rw [sumN_congr (n := n) fun i hi => h i (by omega), h n (by omega)]
/-- The sum of weight times removal, times the denominators. -/
def remS (m : Rm) (a b c d : Int) (k : Nat) : Int := sumN (fun i => m.u i * remN m a b c d i) k
/-- The line of least removal. -/
structure RefOk (m : Rm) (a b c d : Int) (x y : Nat) : Prop where
  b1 : 1 ≤ b
  d1 : 1 ≤ d
  ga : Int.gcd a b = 1
  gc : Int.gcd c d = 1
  x1 : x < m.n
  y1 : y < m.n
  up : ∀ z, z < m.n → 0 ≤ remN m a b c d z
  at1 : remN m a b c d x = 0
  at2 : remN m a b c d y = 0
  lo : m.q x * m.sw m.n ≤ m.sq m.n
  hi : m.sq m.n ≤ m.q y * m.sw m.n
theorem sq_ge {m : Rm} (hm : m.Ok) {k : Int} (h : ∀ i, i < m.n → k ≤ m.q i) : k * m.sw m.n ≤ m.sq m.n := by
  have h1 := sumN_mono (n := m.n) (f := fun i => m.u i * k) (g := fun i => m.u i * m.q i) fun i hi => Int.mul_le_mul_of_nonneg_left (h i hi) (hm.u i hi).1
  rw [sumN_scale] at h1
  rw [Int.mul_comm]
  exact h1
theorem sq_le {m : Rm} (hm : m.Ok) {k : Int} (h : ∀ i, i < m.n → m.q i ≤ k) : m.sq m.n ≤ k * m.sw m.n := by
  have h1 := sumN_mono (n := m.n) (f := fun i => m.u i * m.q i) (g := fun i => m.u i * k) fun i hi => Int.mul_le_mul_of_nonneg_left (h i hi) (hm.u i hi).1
  rw [sumN_scale] at h1
  rw [Int.mul_comm]
  exact h1
theorem side_iff {m : Rm} {i : Nat} : nonnegB m i = true ↔ m.sq m.n ≤ m.q i * m.sw m.n := by
  unfold nonnegB sideF cmpI
  rw [decide_eq_true_eq]
  repeat' split
  all_goals omega
theorem ref_ok {m : Rm} (hm : m.Ok) (hw : 1 ≤ m.sw m.n) : RefOk m (refF m).1.1.1 (refF m).1.1.2 (refF m).1.2.1 (refF m).1.2.2 (refF m).2.1 (refF m).2.2 := by
  have hne := hull_ne (h := m.h) (q := m.q) hm.n1
  have hin := ref_in hm
  have hfst := hull_first (h := m.h) (q := m.q) hm.n1
  have hlst := hull_last (h := m.h) (q := m.q) hm.n1
  by_cases h1 : (hullF m.h m.q m.n).length = 1
  · unfold refF at hin ⊢
    rw [if_pos h1] at hin ⊢
    rw [h1] at hlst
    simp only [Nat.sub_self] at hlst
    obtain ⟨z, hz⟩ : ∃ z, (hullF m.h m.q m.n).getD 0 0 = z := ⟨_, rfl⟩
    rw [hz] at hin hfst hlst ⊢
    obtain ⟨-, i1, i2⟩ := hin
    simp only at i1 i2 ⊢
    have hall : ∀ p, p < m.n → m.q p = m.q z ∧ m.h z ≤ m.h p := fun p hp => by
      have a1 := hfst p hp
      have a2 := hlst p hp
      exact ⟨by omega, a2.2 (by omega)⟩
    refine ⟨by omega, by omega, by simp, by simp, i1, i1, fun p hp => ?_, ?_, ?_, sq_ge hm fun p hp => by have := hall p hp; omega, sq_le hm fun p hp => by have := hall p hp; omega⟩
    · have := hall p hp; unfold remN; omega
    · unfold remN; omega
    · unfold remN; omega
  · obtain ⟨za, zb, e1, e2, h3, h4, h5⟩ := corner_zones h1 hm
    have h2 : 1 < (hullF m.h m.q m.n).length := by
      cases hl : hullF m.h m.q m.n with
      | nil => exact absurd hl hne
      | cons x r => cases r with
        | nil => rw [hl] at h1; exact absurd rfl h1
        | cons y t => simp
    obtain ⟨c1, c2⟩ := corner_lt (m := m) h2
    have hedge := (hull_edge (h := m.h) (q := m.q) (n := m.n) c1 c2).2
    rw [e1, e2] at hedge
    have hlo : m.q za * m.sw m.n ≤ m.sq m.n ∧ m.sq m.n ≤ m.q zb * m.sw m.n := by
      unfold cornerI at e1 e2
      cases hf : (hullF m.h m.q m.n).findIdx? (nonnegB m) with
      | none =>
        exfalso
        rw [List.findIdx?_eq_none_iff] at hf
        have hg : (hullF m.h m.q m.n).getD ((hullF m.h m.q m.n).length - 1) 0 = (hullF m.h m.q m.n)[(hullF m.h m.q m.n).length - 1]'(by omega) := getDat (List.getElem?_eq_getElem (by omega))
        have hmem : (hullF m.h m.q m.n).getD ((hullF m.h m.q m.n).length - 1) 0 ∈ hullF m.h m.q m.n := by rw [hg]; exact List.getElem_mem _
        have := hf _ hmem
        have hs := side_iff.2 (sq_le hm fun p hp => (hlst p hp).1)
        rw [hs] at this
        cases this
      | some j =>
        rw [hf] at e1 e2
        simp only [Option.getD_some] at e1 e2
        obtain ⟨j1, j2, j3⟩ := List.findIdx?_eq_some_iff_getElem.1 hf
        by_cases hj : j = 0
        · subst hj
          simp only [show max 1 0 = 1 from rfl, Nat.sub_self] at e1 e2
          have g0 : (hullF m.h m.q m.n).getD 0 0 = (hullF m.h m.q m.n)[0]'(by omega) := getDat (List.getElem?_eq_getElem (by omega))
          have j4 := side_iff.1 j2
          rw [← g0, e1] at j4
          rw [e1] at hfst
          refine ⟨sq_ge hm hfst, Int.le_trans j4 (Int.mul_le_mul_of_nonneg_right (Int.le_of_lt h5) (by omega))⟩
        · have hmx : max 1 j = j := by omega
          rw [hmx] at e1 e2
          have g0 : (hullF m.h m.q m.n).getD j 0 = (hullF m.h m.q m.n)[j]'j1 := getDat (List.getElem?_eq_getElem j1)
          have g1 : (hullF m.h m.q m.n).getD (j - 1) 0 = (hullF m.h m.q m.n)[j - 1]'(by omega) := getDat (List.getElem?_eq_getElem (by omega))
          have j4 := side_iff.1 j2
          rw [← g0, e2] at j4
          have j5 := j3 (j - 1) (by omega)
          rw [← g1, e1] at j5
          refine ⟨?_, j4⟩
          have := mt side_iff.2 j5
          omega
    unfold refF at hin ⊢
    rw [if_neg h1, e1, e2] at hin ⊢
    obtain ⟨-, i1, i2⟩ := hin
    simp only at i1 i2 ⊢
    have hrun : 0 < m.q zb - m.q za := by omega
    obtain ⟨r1, r2, r3⟩ := redm_mul (a := m.h za * (m.q zb - m.q za) - (m.h zb - m.h za) * m.q za) hrun
    obtain ⟨s1, s2, s3⟩ := redm_mul (a := m.h zb - m.h za) hrun
    show RefOk m (redN _ _) (redD _ _) (redN _ _) (redD _ _) za zb
    generalize redN (m.h za * (m.q zb - m.q za) - (m.h zb - m.h za) * m.q za) (m.q zb - m.q za) = a at *
    generalize redD (m.h za * (m.q zb - m.q za) - (m.h zb - m.h za) * m.q za) (m.q zb - m.q za) = b at *
    generalize redN (m.h zb - m.h za) (m.q zb - m.q za) = c at *
    generalize redD (m.h zb - m.h za) (m.q zb - m.q za) = d at *
    have key : ∀ z, remN m a b c d z * (m.q zb - m.q za) = (b * d) * crossF m.h m.q za zb z := by
      intro z
      unfold remN crossF
      have t1 : (m.h z * (b * d) - a * d - c * m.q z * b) * (m.q zb - m.q za) = m.h z * (b * d) * (m.q zb - m.q za) - (a * (m.q zb - m.q za)) * d - (c * (m.q zb - m.q za)) * m.q z * b := by grind
      rw [t1, r1, s1]
      grind
    have hz : ∀ z, crossF m.h m.q za zb z = 0 → remN m a b c d z = 0 := fun z e => by
      have := key z
      rw [e, Int.mul_zero] at this
      rcases Int.mul_eq_zero.1 this with h | h
      · exact h
      · omega
    refine ⟨by omega, by omega, r3, s3, i1, i2, fun z hz2 => ?_, hz _ (cross_first _ _), hz _ (cross_same _ _), hlo.1, hlo.2⟩
    refine nonneg_of hrun ?_
    rw [key]
    exact Int.mul_nonneg (Int.mul_nonneg (by omega) (by omega)) (hedge z hz2)

end Go.Proofs.Ytkfecbkcghmmhaa

end

section
/- The reference's removal of a zone, and its check of a line. -/
namespace Go.Proofs.Ytkfecbkcghmmhaa
open Go Go.RowKit

/-- What the check of a line answers. -/
def crefF (m : Rm) (a b c d x y : Int) : Int × Int :=
  match (List.range m.n).find? (fun i => decide (remN m a b c d i < 0)) with
  | some i => ((i : Int), 26)
  | none => if (withinB x 0 ((m.n : Int) - 1) && withinB y 0 ((m.n : Int) - 1)) = false then (0, 6)
    else if remN m a b c d x.toNat ≠ 0 ∨ remN m a b c d y.toNat ≠ 0 ∨ m.sq m.n < m.q x.toNat * m.sw m.n ∨ m.q y.toNat * m.sw m.n < m.sq m.n then (0, 22) else (0, 0)
theorem range_find {n k : Nat} {p : Nat → Bool} (hk : k < n) (h : ∀ j, j < k → p j = false) (hp : p k = true) : (List.range n).find? p = some k := by
  rw [List.find?_eq_some_iff_append]
  refine ⟨hp, List.range k, (List.range n).drop (k + 1), ?_, fun a ha => ?_⟩
  · have e : (List.range n).take k = List.range k := by rw [List.take_range]; congr 1; omega
    conv => lhs; rw [← List.take_append_drop k (List.range n), e]
    congr 1
    rw [List.drop_eq_getElem_cons (by simpa using hk)]
    simp
  · have := h a (List.mem_range.1 ha)
    simp [this]
theorem range_none {n : Nat} {p : Nat → Bool} (h : ∀ j, j < n → p j = false) : (List.range n).find? p = none := by
  rw [List.find?_eq_none]
  intro a ha
  rw [h a (List.mem_range.1 ha)]
  simp
section
variable {m : Rm} {a b c d x y : Int}
theorem cref_neg {k : Nat} (hk : k < m.n) (h : ∀ j, j < k → 0 ≤ remN m a b c d j) (hn : remN m a b c d k < 0) : crefF m a b c d x y = ((k : Int), 26) := by
  unfold crefF
  rw [range_find hk (fun j hj => by have := h j hj; simp; omega) (by simpa using hn)]
theorem cref_miss (h : ∀ j, j < m.n → 0 ≤ remN m a b c d j) (hw : withinB x 0 ((m.n : Int) - 1) = false ∨ withinB y 0 ((m.n : Int) - 1) = false) : crefF m a b c d x y = (0, 6) := by
  unfold crefF
  rw [range_none (fun j hj => by have := h j hj; simp; omega)]
  have e : (withinB x 0 ((m.n : Int) - 1) && withinB y 0 ((m.n : Int) - 1)) = false := by rcases hw with hw | hw <;> simp [hw]
  simp only [e, if_true]
theorem cref_proof (h : ∀ j, j < m.n → 0 ≤ remN m a b c d j) (h1 : withinB x 0 ((m.n : Int) - 1) = true) (h2 : withinB y 0 ((m.n : Int) - 1) = true) (h3 : remN m a b c d x.toNat ≠ 0 ∨ remN m a b c d y.toNat ≠ 0 ∨ m.sq m.n < m.q x.toNat * m.sw m.n ∨ m.q y.toNat * m.sw m.n < m.sq m.n) : crefF m a b c d x y = (0, 22) := by
  unfold crefF
  rw [range_none (fun j hj => by have := h j hj; simp; omega)]
  simp only [h1, h2, Bool.and_self, Bool.true_eq_false, if_false]
  rw [if_pos h3]
theorem cref_ok (h : ∀ j, j < m.n → 0 ≤ remN m a b c d j) (h1 : withinB x 0 ((m.n : Int) - 1) = true) (h2 : withinB y 0 ((m.n : Int) - 1) = true) (h3 : remN m a b c d x.toNat = 0) (h4 : remN m a b c d y.toNat = 0) (h5 : m.q x.toNat * m.sw m.n ≤ m.sq m.n) (h6 : m.sq m.n ≤ m.q y.toNat * m.sw m.n) : crefF m a b c d x y = (0, 0) := by
  unfold crefF
  rw [range_none (fun j hj => by have := h j hj; simp; omega)]
  simp only [h1, h2, Bool.and_self, Bool.true_eq_false, if_false]
  rw [if_neg (by omega)]
end
end Go.Proofs.Ytkfecbkcghmmhaa

end

section
/- The reference's check of a line of least removal. -/
namespace Go.Proofs.Ytkfecbkcghmmhaa
open Go Go.RowKit

@[go_sem ↓ high] theorem field_num (u v : Int) (w : World) : (Instr.field 42 (.agg #[.int .i64 u, .int .i64 v]) 0).run Try.prog w = .ok (.int .i64 u) w := by kernel_rfl
@[go_sem ↓ high] theorem field_den (u v : Int) (w : World) : (Instr.field 42 (.agg #[.int .i64 u, .int .i64 v]) 1).run Try.prog w = .ok (.int .i64 v) w := by kernel_rfl
end Go.Proofs.Ytkfecbkcghmmhaa

end
