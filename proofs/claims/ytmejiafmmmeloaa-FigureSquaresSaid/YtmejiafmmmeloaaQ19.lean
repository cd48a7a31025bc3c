import Derived.Test.YtmejiafmmmeloaaQ18
import Derived.Test.YtmejiafmmmeloaaQ13
import Derived.Test.YtmejiafmmmeloaaQ17

section
/- Plain law of the least and the greatest mean square of heights in ranges. -/
namespace Go.Proofs.Ytmejiafmmmeloaa

abbrev Rg := Int × Int
def sumL {α : Type} (f : α → Int) : List α → Int
  | [] => 0
  | r :: l => f r + sumL f l
section
variable {α : Type} {f g : α → Int} {l : List α}
theorem sumL_map {β : Type} (f : α → Int) (p : β → α) : ∀ l : List β, sumL f (l.map p) = sumL (fun b => f (p b)) l
  | [] => rfl
  | x :: l => by show f (p x) + sumL f (l.map p) = f (p x) + sumL (fun b => f (p b)) l; rw [sumL_map f p l]
theorem sumL_snoc (f : α → Int) (r : α) : ∀ l : List α, sumL f (l ++ [r]) = sumL f l + f r
  | [] => by show f r + 0 = 0 + f r; omega
  | x :: l => by show f x + sumL f (l ++ [r]) = f x + sumL f l + f r; rw [sumL_snoc f r l]; omega
theorem sumL_congr : ∀ {l : List α}, (∀ r ∈ l, f r = g r) → sumL f l = sumL g l
  | [], _ => rfl
  | x :: l, h => by
    show f x + sumL f l = g x + sumL g l
    rw [h x (List.mem_cons_self ..), sumL_congr fun r hr => h r (List.mem_cons_of_mem _ hr)]
theorem sumL_nonneg : ∀ {l : List α}, (∀ r ∈ l, 0 ≤ f r) → 0 ≤ sumL f l
  | [], _ => Int.le_refl _
  | x :: l, h => by
    have h1 := h x (List.mem_cons_self ..)
    have h2 := sumL_nonneg (l := l) fun r hr => h r (List.mem_cons_of_mem _ hr)
    show 0 ≤ f x + sumL f l
    omega
theorem sumL_add (f g : α → Int) : ∀ l, sumL (fun r => f r + g r) l = sumL f l + sumL g l
  | [] => rfl
  | x :: l => by show f x + g x + sumL (fun r => f r + g r) l = f x + sumL f l + (g x + sumL g l); rw [sumL_add f g l]; omega
theorem sumL_sub (f g : α → Int) : ∀ l, sumL (fun r => f r - g r) l = sumL f l - sumL g l
  | [] => rfl
  | x :: l => by show f x - g x + sumL (fun r => f r - g r) l = f x + sumL f l - (g x + sumL g l); rw [sumL_sub f g l]; omega
theorem sumL_mul (c : Int) (f : α → Int) : ∀ l, sumL (fun r => c * f r) l = c * sumL f l
  | [] => by show (0 : Int) = c * 0; omega
  | x :: l => by show c * f x + sumL (fun r => c * f r) l = c * (f x + sumL f l); rw [sumL_mul c f l, Int.mul_add]
theorem sumL_const (c : Int) : ∀ l : List α, sumL (fun _ => c) l = l.length * c
  | [] => by show (0 : Int) = ((0 : Nat) : Int) * c; simp
  | x :: l => by
    show c + sumL (fun _ => c) l = ((l.length + 1 : Nat) : Int) * c
    rw [sumL_const c l, Int.natCast_add, Int.add_mul]; simp; omega
/-- The number of heights times the sum of their squares, less the square of their sum. -/
def varL (f : α → Int) (l : List α) : Int := l.length * sumL (fun r => f r * f r) l - sumL f l * sumL f l
theorem dev_nonneg (f : α → Int) (x : Int) (l : List α) : 0 ≤ sumL (fun r => f r * f r) l - 2 * x * sumL f l + l.length * (x * x) := by
  have h := sumL_nonneg (f := fun r => (f r - x) * (f r - x)) (l := l) fun r _ => by
    rcases Int.le_total 0 (f r - x) with h | h
    · exact Int.mul_nonneg h h
    · exact Int.mul_nonneg_of_nonpos_of_nonpos h h
  have e : sumL (fun r => (f r - x) * (f r - x)) l = sumL (fun r => f r * f r) l - 2 * x * sumL f l + l.length * (x * x) := by
    rw [← sumL_const, ← sumL_mul, ← sumL_sub, ← sumL_add]
    exact sumL_congr fun r _ => by grind
  rw [e] at h
  exact h
theorem var_nonneg (f : α → Int) : ∀ l : List α, 0 ≤ varL f l
  | [] => by unfold varL; simp [sumL]
  | x :: l => by
    have ih := var_nonneg f l
    have h := dev_nonneg f (f x) l
    have e : varL f (x :: l) = varL f l + (sumL (fun r => f r * f r) l - 2 * f x * sumL f l + l.length * (f x * f x)) := by
      unfold varL
      show ((l.length + 1 : Nat) : Int) * (f x * f x + sumL (fun r => f r * f r) l) - (f x + sumL f l) * (f x + sumL f l) = _
      rw [Int.natCast_add]
      generalize sumL (fun r => f r * f r) l = a
      generalize sumL f l = b
      simp only [Int.natCast_one]
      grind
    rw [e]; omega
theorem varL_map {β : Type} (f : α → Int) (p : β → α) (l : List β) : varL f (l.map p) = varL (fun b => f (p b)) l := by unfold varL; rw [sumL_map, sumL_map, List.length_map]
theorem var_scale (k : Int) (f : α → Int) (l : List α) : varL (fun r => k * f r) l = k * k * varL f l := by
  unfold varL
  rw [sumL_mul]
  have : sumL (fun r => k * f r * (k * f r)) l = k * k * sumL (fun r => f r * f r) l := by
    rw [← sumL_mul]
    exact sumL_congr fun r _ => by grind
  rw [this]
  grind
theorem var_congr (h : ∀ a ∈ l, f a = g a) : varL f l = varL g l := by
  unfold varL
  rw [sumL_congr h, sumL_congr (f := fun r => f r * f r) (g := fun r => g r * g r) fun r hr => by rw [h r hr]]
/-- Nothing varies less than what lies as near to its own mean as it can. -/
theorem var_least {X Y : α → Int} {c : Int} (hc : sumL X l = l.length * c) (h : 0 ≤ sumL (fun r => (X r - c) * (Y r - X r)) l) : varL X l ≤ varL Y l := by
  have hz := var_nonneg (fun r => Y r - X r) l
  have e1 : sumL (fun r => (X r - c) * (Y r - X r)) l = sumL (fun r => X r * (Y r - X r)) l - c * sumL (fun r => Y r - X r) l := by
    rw [← sumL_mul, ← sumL_sub]
    exact sumL_congr fun r _ => by grind
  have e2 : sumL (fun r => Y r * Y r) l = sumL (fun r => X r * X r) l + 2 * sumL (fun r => X r * (Y r - X r)) l + sumL (fun r => (Y r - X r) * (Y r - X r)) l := by
    rw [← sumL_mul, ← sumL_add, ← sumL_add]
    exact sumL_congr fun r _ => by grind
  have e3 : sumL Y l = sumL X l + sumL (fun r => Y r - X r) l := by
    rw [← sumL_add]
    exact sumL_congr fun r _ => by omega
  rw [e1] at h
  unfold varL at hz ⊢
  rw [e2, e3, hc]
  generalize sumL (fun r => X r * (Y r - X r)) l = b at h ⊢
  generalize sumL (fun r => Y r - X r) l = q at h hz ⊢
  generalize sumL (fun r => (Y r - X r) * (Y r - X r)) l = e at hz ⊢
  generalize sumL (fun r => X r * X r) l = a
  have hn : (0 : Int) ≤ (l.length : Int) := by omega
  generalize (l.length : Int) = n at hn hz h ⊢
  have h2 := Int.mul_nonneg hn h
  have e4 : n * (a + 2 * b + e) - (n * c + q) * (n * c + q) = (n * a - n * c * (n * c)) + (n * e - q * q) + 2 * (n * (b - c * q)) := by grind
  rw [e4]; omega
end
/-- The height in a range that is nearest to N / D, times D. -/
def clampF (N D : Int) (r : Rg) : Int := max (r.1 * D) (min (r.2 * D) N)
theorem clamp_in {N D : Int} {r : Rg} (h : r.1 ≤ r.2) (hD : 0 ≤ D) : r.1 * D ≤ clampF N D r ∧ clampF N D r ≤ r.2 * D := by
  have := Int.mul_le_mul_of_nonneg_right h hD
  unfold clampF
  omega
/-- Who lies above the numbers from lo to hi, or below, and where it ends. -/
def valQ (lo hi : Int) (r : Rg) : Option Int := if hi ≤ r.1 then some r.1 else if r.2 ≤ lo then some r.2 else none
def cntP (lo hi : Int) (r : Rg) : Int := match valQ lo hi r with | some _ => 1 | none => 0
def endP (lo hi : Int) (r : Rg) : Int := match valQ lo hi r with | some v => v | none => 0
def sqP (lo hi : Int) (r : Rg) : Int := endP lo hi r * endP lo hi r
/-- The least mean square, if its level lies from lo to hi. -/
def pickP (l : List Rg) (lo hi : Int) : Option (Int × Int) :=
  if sumL (cntP lo hi) l = 0 then some (0, 1)
  else if lo * sumL (cntP lo hi) l ≤ sumL (endP lo hi) l ∧ sumL (endP lo hi) l ≤ hi * sumL (cntP lo hi) l then some (sumL (cntP lo hi) l * sumL (sqP lo hi) l - sumL (endP lo hi) l * sumL (endP lo hi) l, sumL (cntP lo hi) l * l.length)
  else none
/-- No range ends between lo and hi. -/
def FreeR (lo hi : Int) (r : Rg) : Prop := (r.1 ≤ lo ∨ hi ≤ r.1) ∧ (r.2 ≤ lo ∨ hi ≤ r.2) ∧ r.1 ≤ r.2
theorem val_cases {lo hi : Int} {r : Rg} (hl : lo ≤ hi) (h : FreeR lo hi r) : (hi ≤ r.1 ∧ cntP lo hi r = 1 ∧ endP lo hi r = r.1) ∨ (r.2 ≤ lo ∧ cntP lo hi r = 1 ∧ endP lo hi r = r.2) ∨ (r.1 ≤ lo ∧ hi ≤ r.2 ∧ cntP lo hi r = 0 ∧ endP lo hi r = 0) := by
  obtain ⟨h1, h2, h3⟩ := h
  unfold cntP endP valQ
  by_cases c1 : hi ≤ r.1
  · rw [if_pos c1]; exact .inl ⟨c1, rfl, rfl⟩
  · rw [if_neg c1]
    by_cases c2 : r.2 ≤ lo
    · rw [if_pos c2]; exact .inr (.inl ⟨c2, rfl, rfl⟩)
    · rw [if_neg c2]; exact .inr (.inr ⟨by omega, by omega, rfl, rfl⟩)
theorem cnt_nonneg (lo hi : Int) (l : List Rg) : 0 ≤ sumL (cntP lo hi) l := sumL_nonneg fun r _ => by unfold cntP; split <;> omega
theorem cnt_zero {lo hi : Int} : ∀ {l : List Rg}, sumL (cntP lo hi) l = 0 → ∀ r ∈ l, cntP lo hi r = 0
  | [], _, _, hr => by cases hr
  | x :: l, h, r, hr => by
    have h1 := cnt_nonneg lo hi l
    have h2 : 0 ≤ cntP lo hi x := by unfold cntP; split <;> omega
    have h3 : cntP lo hi x + sumL (cntP lo hi) l = 0 := h
    rcases List.mem_cons.1 hr with rfl | hr
    · omega
    · exact cnt_zero (by omega) r hr
section
variable {lo hi : Int} {l : List Rg}
/-- What lies as near to sum / count as it can. -/
theorem clamp_at (hl : lo ≤ hi) (hf : ∀ r ∈ l, FreeR lo hi r) {C S : Int} (hC : 0 < C) (h1 : lo * C ≤ S) (h2 : S ≤ hi * C) : ∀ r ∈ l, clampF S C r = C * endP lo hi r + S * (1 - cntP lo hi r) := by
  intro r hr
  have hfr := hf r hr
  have h12 := Int.mul_le_mul_of_nonneg_right hfr.2.2 (Int.le_of_lt hC)
  unfold clampF
  rcases val_cases hl hfr with ⟨a, b, c⟩ | ⟨a, b, c⟩ | ⟨a, a', b, c⟩
  · have := Int.mul_le_mul_of_nonneg_right a (Int.le_of_lt hC)
    rw [b, c, Int.sub_self, Int.mul_zero, Int.mul_comm C]
    omega
  · have := Int.mul_le_mul_of_nonneg_right a (Int.le_of_lt hC)
    rw [b, c, Int.sub_self, Int.mul_zero, Int.mul_comm C]
    omega
  · have := Int.mul_le_mul_of_nonneg_right a (Int.le_of_lt hC)
    have := Int.mul_le_mul_of_nonneg_right a' (Int.le_of_lt hC)
    rw [b, c, Int.sub_zero, Int.mul_one, Int.mul_zero]
    omega
theorem cnt_sq (lo hi : Int) (r : Rg) : cntP lo hi r * cntP lo hi r = cntP lo hi r ∧ cntP lo hi r * endP lo hi r = endP lo hi r := by
  unfold cntP endP
  split <;> simp
/-- The variance there. -/
theorem var_at (hl : lo ≤ hi) (hf : ∀ r ∈ l, FreeR lo hi r) (hC : 0 < sumL (cntP lo hi) l) (h1 : lo * sumL (cntP lo hi) l ≤ sumL (endP lo hi) l) (h2 : sumL (endP lo hi) l ≤ hi * sumL (cntP lo hi) l) :
    sumL (clampF (sumL (endP lo hi) l) (sumL (cntP lo hi) l)) l = l.length * sumL (endP lo hi) l ∧
    varL (clampF (sumL (endP lo hi) l) (sumL (cntP lo hi) l)) l = l.length * sumL (cntP lo hi) l * (sumL (cntP lo hi) l * sumL (sqP lo hi) l - sumL (endP lo hi) l * sumL (endP lo hi) l) := by
  obtain ⟨C, hCe⟩ : ∃ C, sumL (cntP lo hi) l = C := ⟨_, rfl⟩
  obtain ⟨S, hSe⟩ : ∃ S, sumL (endP lo hi) l = S := ⟨_, rfl⟩
  rw [hCe] at hC h1 h2 ⊢
  rw [hSe] at h1 h2 ⊢
  have hcl := clamp_at hl hf hC h1 h2
  have e1 : sumL (clampF S C) l = l.length * S := by
    rw [sumL_congr hcl, sumL_add, sumL_mul, sumL_mul, sumL_sub, sumL_const, hCe, hSe]
    grind
  have e2 : sumL (fun r => clampF S C r * clampF S C r) l = C * C * sumL (sqP lo hi) l + S * S * (l.length - C) := by
    have e3 : ∀ r ∈ l, clampF S C r * clampF S C r = C * C * sqP lo hi r + S * S * (1 - cntP lo hi r) := fun r hr => by
      obtain ⟨q1, q2⟩ := cnt_sq lo hi r
      rw [hcl r hr]
      unfold sqP
      generalize cntP lo hi r = x at q1 q2 ⊢
      generalize endP lo hi r = y at q2 ⊢
      grind
    rw [sumL_congr e3, sumL_add, sumL_mul, sumL_mul, sumL_sub, sumL_const, hCe]
    grind
  refine ⟨e1, ?_⟩
  unfold varL
  rw [e1, e2]
  generalize sumL (sqP lo hi) l = Q
  generalize (l.length : Int) = n
  grind
/-- It is the least of all heights in the ranges. -/
theorem pick_least {α : Type} {lp : List α} {pi : α → Rg} (hlp : lp.map pi = l) (hl : lo ≤ hi) (hf : ∀ r ∈ l, FreeR lo hi r) {p : Int × Int} (hp : pickP l lo hi = some p) (hn : 0 < l.length) {D : Int} (hD : 0 < D) {Y : α → Int} (hY : ∀ a ∈ lp, (pi a).1 * D ≤ Y a ∧ Y a ≤ (pi a).2 * D) :
    0 < p.2 ∧ p.1 * (l.length * l.length * (D * D)) ≤ varL Y lp * p.2 := by
  unfold pickP at hp
  by_cases h0 : sumL (cntP lo hi) l = 0
  · rw [if_pos h0] at hp
    obtain rfl := Option.some.inj hp
    exact ⟨by show (0 : Int) < 1; omega, by show (0 : Int) * _ ≤ _ * (1 : Int); rw [Int.zero_mul, Int.mul_one]; exact var_nonneg Y lp⟩
  rw [if_neg h0] at hp
  have hC : 0 < sumL (cntP lo hi) l := by have := cnt_nonneg lo hi l; omega
  by_cases h3 : lo * sumL (cntP lo hi) l ≤ sumL (endP lo hi) l ∧ sumL (endP lo hi) l ≤ hi * sumL (cntP lo hi) l
  rotate_left
  · rw [if_neg h3] at hp; cases hp
  rw [if_pos h3] at hp
  obtain rfl := Option.some.inj hp
  obtain ⟨v1, v2⟩ := var_at hl hf hC h3.1 h3.2
  have hcl := clamp_at hl hf hC h3.1 h3.2
  obtain ⟨C, hCe⟩ : ∃ C, sumL (cntP lo hi) l = C := ⟨_, rfl⟩
  obtain ⟨S, hSe⟩ : ∃ S, sumL (endP lo hi) l = S := ⟨_, rfl⟩
  obtain ⟨Q, hQe⟩ : ∃ Q, sumL (sqP lo hi) l = Q := ⟨_, rfl⟩
  rw [hCe, hSe] at v1 v2 h3 hcl
  rw [hQe] at v2
  rw [hCe] at hC
  rw [hCe, hSe, hQe]
  have hll : lp.length = l.length := by rw [← hlp, List.length_map]
  have v1' : sumL (fun a => clampF S C (pi a)) lp = l.length * S := by rw [← sumL_map, hlp]; exact v1
  have v2' : varL (fun a => clampF S C (pi a)) lp = l.length * C * (C * Q - S * S) := by rw [← varL_map, hlp]; exact v2
  have hvl : varL (fun a => D * clampF S C (pi a)) lp ≤ varL (fun a => C * Y a) lp := by
    refine var_least (c := D * S) (by rw [sumL_mul, v1', hll]; grind) (sumL_nonneg fun a0 ha => ?_)
    have hr : pi a0 ∈ l := by rw [← hlp]; exact List.mem_map_of_mem ha
    have hfr := hf _ hr
    have hyr := hY a0 ha
    have hk := hcl _ hr
    obtain ⟨r, hre⟩ : ∃ r, pi a0 = r := ⟨_, rfl⟩
    obtain ⟨y, hye⟩ : ∃ y, Y a0 = y := ⟨_, rfl⟩
    show 0 ≤ (D * clampF S C (pi a0) - D * S) * (C * Y a0 - D * clampF S C (pi a0))
    rw [hre] at hfr hyr hk ⊢
    rw [hye] at hyr ⊢
    rcases val_cases hl hfr with ⟨a, b, c⟩ | ⟨a, b, c⟩ | ⟨a, a', b, c⟩
    · rw [b, c, Int.sub_self, Int.mul_zero, Int.add_zero] at hk
      have g1 := Int.mul_le_mul_of_nonneg_right a (Int.le_of_lt hC)
      rw [hk]
      have e1 : D * (C * r.1) - D * S = D * (r.1 * C - S) := by grind
      have e2 : C * y - D * (C * r.1) = C * (y - r.1 * D) := by grind
      rw [e1, e2]
      exact Int.mul_nonneg (Int.mul_nonneg (by omega) (by omega)) (Int.mul_nonneg (by omega) (by omega))
    · rw [b, c, Int.sub_self, Int.mul_zero, Int.add_zero] at hk
      have g1 := Int.mul_le_mul_of_nonneg_right a (Int.le_of_lt hC)
      rw [hk]
      have e1 : (D * (C * r.2) - D * S) * (C * y - D * (C * r.2)) = (D * (S - r.2 * C)) * (C * (r.2 * D - y)) := by grind
      rw [e1]
      exact Int.mul_nonneg (Int.mul_nonneg (by omega) (by omega)) (Int.mul_nonneg (by omega) (by omega))
    · rw [b, c, Int.sub_zero, Int.mul_one, Int.mul_zero, Int.zero_add] at hk
      rw [hk, Int.sub_self, Int.zero_mul]
      omega
  rw [var_scale, var_scale, v2'] at hvl
  have hn' : (0 : Int) < l.length := by omega
  refine ⟨Int.mul_pos hC hn', ?_⟩
  generalize (l.length : Int) = n at hvl hn' ⊢
  generalize varL Y lp = V at hvl ⊢
  show (C * Q - S * S) * (n * n * (D * D)) ≤ V * (C * n)
  have e1 : D * D * (n * C * (C * Q - S * S)) = C * (D * D * (n * (C * Q - S * S))) := by grind
  have e2 : C * C * V = C * (C * V) := by grind
  rw [e1, e2] at hvl
  have h4 := Int.le_of_mul_le_mul_left hvl hC
  have h5 := Int.mul_le_mul_of_nonneg_left h4 (Int.le_of_lt hn')
  have e3 : n * (D * D * (n * (C * Q - S * S))) = (C * Q - S * S) * (n * n * (D * D)) := by grind
  have e4 : n * (C * V) = V * (C * n) := by grind
  omega
end
end Go.Proofs.Ytmejiafmmmeloaa

end

section
/- Plain law of the lower hull: no zone lies below the line through two neighbours of the hull; the corner of the mean. -/
namespace Go.Proofs.Ytmejiafmmmeloaa
open Go.RowKit

theorem nonneg_of {x y : Int} (hy : 0 < y) (h : 0 ≤ x * y) : 0 ≤ x :=
  Int.not_lt.1 fun hx => absurd (Int.mul_neg_of_neg_of_pos hx hy) (by omega)
/-- On which side of the line through a and b the zone c lies; not negative: on it or above it (q a < q b). -/
def crossF (h q : Nat → Int) (a b c : Nat) : Int := (h c - h a) * (q b - q a) - (h b - h a) * (q c - q a)
section
variable {h q : Nat → Int}
/-- No zone of P lies below an edge of the chain (its last zone first). -/
def EdgesR (h q : Nat → Int) (P : Nat → Prop) : List Nat → Prop
  | b :: a :: r => q a < q b ∧ (∀ p, P p → 0 ≤ crossF h q a b p) ∧ EdgesR h q P (a :: r)
  | _ => True
structure HullI (h q : Nat → Int) (P : Nat → Prop) (st : List Nat) : Prop where
  edges : EdgesR h q P st
  has : ∀ x ∈ st, P x
  top : ∀ b r, st = b :: r → ∀ p, P p → q p ≤ q b ∧ (q p = q b → h b ≤ h p)
  low : ∀ z, st.getLast? = some z → ∀ p, P p → q z ≤ q p
theorem EdgesR.more {P P' : Nat → Prop} : ∀ {st : List Nat}, EdgesR h q P st → (∀ a b r s, st = s ++ b :: a :: r → ∀ p, P' p → 0 ≤ crossF h q a b p) → EdgesR h q P' st
  | [], _, _ => trivial
  | [_], _, _ => trivial
  | b :: a :: r, he, hP => ⟨he.1, fun p hp => hP a b r [] rfl p hp, EdgesR.more he.2.2 fun a' b' r' s hs p hp => hP a' b' r' (b :: s) (by rw [hs]; rfl) p hp⟩
theorem EdgesR.at {P : Nat → Prop} : ∀ {st : List Nat}, EdgesR h q P st → ∀ {a b : Nat} {r s : List Nat}, st = s ++ b :: a :: r → q a < q b ∧ ∀ p, P p → 0 ≤ crossF h q a b p
  | [], _, a, b, r, s, e => by simp at e
  | [_], _, a, b, r, s, e => by
    cases s with
    | nil => simp at e
    | cons x s => simp at e
  | y :: x :: t, he, a, b, r, s, e => by
    cases s with
    | nil => simp only [List.nil_append, List.cons.injEq] at e; obtain ⟨rfl, rfl, rfl⟩ := e; exact ⟨he.1, he.2.1⟩
    | cons z s => simp only [List.cons_append, List.cons.injEq] at e; exact EdgesR.at he.2.2 e.2
end
end Go.Proofs.Ytmejiafmmmeloaa

end

section
/- Plain law of the line of least removal: no zone lies below it, it touches its zones, they lie on both sides of the mean; no line below the map removes less. -/
namespace Go.Proofs.Ytmejiafmmmeloaa
open Go.RowKit

theorem redm_mul {a b : Int} (hb : 0 < b) : redN a b * b = redD a b * a ∧ 0 < redD a b ∧ Int.gcd (redN a b) (redD a b) = 1 := by
  have hg0 : 0 < Int.gcd a b := Int.gcd_pos_of_ne_zero_right a (by omega)
  have hg : 0 < (Int.gcd a b : Int) := by exact_mod_cast hg0
  have hc : Int.gcd (redN a b) (redD a b) = 1 := by unfold redN redD; exact Int.gcd_ediv_gcd_ediv_gcd hg0
  obtain ⟨p, hp⟩ := Int.gcd_dvd_left a b
  obtain ⟨q, hq⟩ := Int.gcd_dvd_right a b
  have e1 : redN a b = p := by unfold redN; exact Int.ediv_eq_of_eq_mul_right (by omega) hp
  have e2 : redD a b = q := by unfold redD; exact Int.ediv_eq_of_eq_mul_right (by omega) hq
  rw [e1, e2] at hc ⊢
  generalize (Int.gcd a b : Int) = g at *
  refine ⟨?_, ?_, hc⟩
  · rw [hp, hq]; grind
  · rw [hq] at hb
    rw [Int.mul_comm] at hb
    exact Int.pos_of_mul_pos_left hb hg
theorem redm_eq {a b c d : Int} (hb : 0 < b) (hd : 0 < d) (h : a * d = c * b) : redN a b = redN c d ∧ redD a b = redD c d := by
  have h1 := red_scale hd a b
  have h2 := red_scale hb c d
  have e : d * a = b * c := by rw [Int.mul_comm d a, h, Int.mul_comm]
  have e2 : d * b = b * d := Int.mul_comm _ _
  rw [e, e2] at h1
  exact ⟨h1.1.symm.trans h2.1, h1.2.1.symm.trans h2.2.1⟩

/-- The sum of weight times removal, times the denominators. -/
def remS (m : Rm) (a b c d : Int) (k : Nat) : Int := sumN (fun i => m.u i * remN m a b c d i) k
/-- The line of least removal. -/
structure RefOk (m : Rm) (a b c d : Int) (x y : Nat) : Prop where
  b1 : 1 ≤ b
  d1 : 1 ≤ d
  ga : Int.gcd a b = 1
  gc : Int.gcd c d = 1
  x1 : x < m.n
  y1 : y < m.n
  up : ∀ z, z < m.n → 0 ≤ remN m a b c d z
  at1 : remN m a b c d x = 0
  at2 : remN m a b c d y = 0
  lo : m.q x * m.sw m.n ≤ m.sq m.n
  hi : m.sq m.n ≤ m.q y * m.sw m.n
end Go.Proofs.Ytmejiafmmmeloaa

end

section
/- Plain law of the reference's least sum: the least height at the mean of lines through two zones on both sides. -/
namespace Go.Proofs.Ytmejiafmmmeloaa
open Go.RowKit

/-- A fraction is less than another one. -/
def lessB (a b : Int × Int) : Bool := decide (a.1 * b.2 < b.1 * a.2)
/-- The height at the mean (mn / md) of the line through two zones. -/
def atF (m : Rm) (mn md : Int) (i j : Nat) : Int × Int :=
  if m.q i = m.q j then (m.h i, 1)
  else (redN (m.h i * (m.q j - m.q i) * md + (m.h j - m.h i) * (mn - m.q i * md)) ((m.q j - m.q i) * md), redD (m.h i * (m.q j - m.q i) * md + (m.h j - m.h i) * (mn - m.q i * md)) ((m.q j - m.q i) * md))
def skipB (m : Rm) (mn md : Int) (i j : Nat) : Bool := decide (mn < m.q i * md) || decide (m.q j * md < mn) || (decide (m.q i = m.q j) && decide (m.h j < m.h i))
/-- The least one so far, behind the pair (i, j). -/
def bstF (m : Rm) (mn md : Int) (b : Int × Int) (i j : Nat) : Int × Int :=
  if skipB m mn md i j then b else if b.2 = 0 ∨ lessB (atF m mn md i j) b then atF m mn md i j else b
def bstR (m : Rm) (mn md : Int) (b : Int × Int) (i : Nat) : Nat → Int × Int
  | 0 => b
  | j + 1 => bstF m mn md (bstR m mn md b i j) i j
def bstA (m : Rm) (mn md : Int) : Nat → Int × Int
  | 0 => (0, 0)
  | i + 1 => bstR m mn md (bstA m mn md i) i m.n

section
variable {m : Rm} {mn md a b c d : Int} {x y : Nat}
def GoodF (md a b c d mn : Int) (p : Int × Int) : Prop := 0 < p.2 ∧ (a * d * md + c * b * mn) * p.2 ≤ p.1 * (b * d * md)
def ExaF (md a b c d mn : Int) (p : Int × Int) : Prop := 0 < p.2 ∧ p.1 * (b * d * md) ≤ (a * d * md + c * b * mn) * p.2
theorem less_le {p r : Int × Int} {N D : Int} (hp : 0 < p.2) (hr : 0 < r.2) (h : p.1 * r.2 ≤ r.1 * p.2) (hb : r.1 * D ≤ N * r.2) (hD : 0 ≤ D) : p.1 * D ≤ N * p.2 := by
  have h1 : 0 ≤ (N * p.2 - p.1 * D) * r.2 := by
    have e : (N * p.2 - p.1 * D) * r.2 = (N * r.2 - r.1 * D) * p.2 + (r.1 * p.2 - p.1 * r.2) * D := by grind
    rw [e]
    exact Int.add_nonneg (Int.mul_nonneg (by omega) (by omega)) (Int.mul_nonneg (by omega) hD)
  have := nonneg_of hr h1
  omega
end
end Go.Proofs.Ytmejiafmmmeloaa

end

section
/- Plain law of mean squares: the level is found, and it is among those of the reference; the least, the greatest. -/
namespace Go.Proofs.Ytmejiafmmmeloaa

/-- Sorted ends of ranges. -/
structure EndsS (l : List Rg) (e : List Int) : Prop where
  srt : e.Pairwise (· ≤ ·)
  mem : ∀ r ∈ l, r.1 ∈ e ∧ r.2 ∈ e ∧ r.1 ≤ r.2
  of : ∀ x ∈ e, ∃ r ∈ l, x = r.1 ∨ x = r.2
  two : 2 ≤ e.length
section
variable {l : List Rg} {e : List Int}
theorem EndsS.le (h : EndsS l e) {i j : Nat} (hij : i ≤ j) (hj : j < e.length) : e.getD i 0 ≤ e.getD j 0 := by
  have hi : i < e.length := by omega
  rw [List.getD_eq_getElem?_getD, List.getD_eq_getElem?_getD, List.getElem?_eq_getElem hi, List.getElem?_eq_getElem hj]
  rcases Nat.lt_or_ge i j with h1 | h1
  · exact List.pairwise_iff_getElem.1 h.srt i j hi hj h1
  · obtain rfl : i = j := by omega
    exact Int.le_refl _
theorem EndsS.side (h : EndsS l e) {i : Nat} (hi : i + 1 < e.length) {x : Int} (hx : x ∈ e) : x ≤ e.getD i 0 ∨ e.getD (i + 1) 0 ≤ x := by
  obtain ⟨j, hj, rfl⟩ := List.getElem_of_mem hx
  have ex : e[j] = e.getD j 0 := by rw [List.getD_eq_getElem?_getD, List.getElem?_eq_getElem hj]; rfl
  rw [ex]
  rcases Nat.lt_or_ge i j with h1 | h1
  · exact .inr (h.le (by omega) hj)
  · exact .inl (h.le h1 (by omega))
theorem EndsS.free (h : EndsS l e) {i : Nat} (hi : i + 1 < e.length) : ∀ r ∈ l, FreeR (e.getD i 0) (e.getD (i + 1) 0) r := fun r hr => by
  obtain ⟨m1, m2, m3⟩ := h.mem r hr
  exact ⟨h.side hi m1, h.side hi m2, m3⟩
def outF (l : List Rg) (c : Int) : Int := sumL (fun r => clampF c 1 r - c) l
theorem off_at {lo hi : Int} (hl : lo ≤ hi) (hf : ∀ r ∈ l, FreeR lo hi r) : outF l lo = sumL (endP lo hi) l - lo * sumL (cntP lo hi) l ∧ outF l hi = sumL (endP lo hi) l - hi * sumL (cntP lo hi) l := by
  unfold outF
  rw [← sumL_mul, ← sumL_mul, ← sumL_sub, ← sumL_sub]
  constructor <;> refine sumL_congr fun r hr => ?_
  all_goals
    have hfr := hf r hr
    have h3 := hfr.2.2
    unfold clampF
    rcases val_cases hl hfr with ⟨a, b, c⟩ | ⟨a, b, c⟩ | ⟨a, a', b, c⟩ <;> rw [b, c] <;> omega
theorem off_first (h : EndsS l e) : 0 ≤ outF l (e.getD 0 0) := sumL_nonneg fun r hr => by
  obtain ⟨m1, m2, m3⟩ := h.mem r hr
  have h2 := h.two
  obtain ⟨j, hj, hjx⟩ := List.getElem_of_mem m1
  have := h.le (Nat.zero_le j) hj
  have ex : e.getD j 0 = r.1 := by rw [List.getD_eq_getElem?_getD, List.getElem?_eq_getElem hj]; exact hjx
  unfold clampF
  omega
theorem off_last (h : EndsS l e) : outF l (e.getD (e.length - 1) 0) ≤ 0 := by
  have h1 : 0 ≤ sumL (fun r => e.getD (e.length - 1) 0 - clampF (e.getD (e.length - 1) 0) 1 r) l := sumL_nonneg fun r hr => by
    obtain ⟨m1, m2, m3⟩ := h.mem r hr
    have h2 := h.two
    obtain ⟨j, hj, hjx⟩ := List.getElem_of_mem m2
    have := h.le (show j ≤ e.length - 1 by omega) (by omega)
    have ex : e.getD j 0 = r.2 := by rw [List.getD_eq_getElem?_getD, List.getElem?_eq_getElem hj]; exact hjx
    unfold clampF
    omega
  unfold outF
  rw [sumL_sub] at h1 ⊢
  omega
theorem off_mid : ∀ {k : Nat}, 0 ≤ outF l (e.getD 0 0) → outF l (e.getD k 0) ≤ 0 → 1 ≤ k → ∃ i, i < k ∧ 0 ≤ outF l (e.getD i 0) ∧ outF l (e.getD (i + 1) 0) ≤ 0
  | 0, _, _, h => absurd h (by omega)
  | k + 1, h0, h1, _ => by
    by_cases hk : 0 ≤ outF l (e.getD k 0)
    · exact ⟨k, by omega, hk, h1⟩
    · rcases Nat.eq_zero_or_pos k with rfl | hp
      · exact absurd h0 hk
      · obtain ⟨i, hi, h2⟩ := off_mid h0 (show outF l (e.getD k 0) ≤ 0 by omega) hp
        exact ⟨i, by omega, h2⟩
/-- There is a level. -/
theorem pick_some (h : EndsS l e) : ∃ i, i + 1 < e.length ∧ ∃ p, pickP l (e.getD i 0) (e.getD (i + 1) 0) = some p := by
  have h2 := h.two
  obtain ⟨i, hi, h3, h4⟩ := off_mid (k := e.length - 1) (off_first h) (off_last h) (by omega)
  have hi' : i + 1 < e.length := by omega
  obtain ⟨o1, o2⟩ := off_at (h.le (show i ≤ i + 1 by omega) hi') (h.free hi')
  refine ⟨i, hi', ?_⟩
  unfold pickP
  by_cases h0 : sumL (cntP (e.getD i 0) (e.getD (i + 1) 0)) l = 0
  · rw [if_pos h0]; exact ⟨_, rfl⟩
  · rw [if_neg h0, if_pos (by omega)]; exact ⟨_, rfl⟩
theorem clamp_scale {g : Int} (hg : 0 < g) (N D : Int) (r : Rg) : clampF (g * N) (g * D) r = g * clampF N D r := by
  unfold clampF
  have e1 : r.1 * (g * D) = g * (r.1 * D) := by grind
  have e2 : r.2 * (g * D) = g * (r.2 * D) := by grind
  rw [e1, e2]
  have hm : ∀ x y : Int, min (g * x) (g * y) = g * min x y := fun x y => by
    rcases Int.le_total x y with h | h
    · have := Int.mul_le_mul_of_nonneg_left h (Int.le_of_lt hg); rw [Int.min_eq_left h, Int.min_eq_left this]
    · have := Int.mul_le_mul_of_nonneg_left h (Int.le_of_lt hg); rw [Int.min_eq_right h, Int.min_eq_right this]
  have hM : ∀ x y : Int, max (g * x) (g * y) = g * max x y := fun x y => by
    rcases Int.le_total x y with h | h
    · have := Int.mul_le_mul_of_nonneg_left h (Int.le_of_lt hg); rw [Int.max_eq_right h, Int.max_eq_right this]
    · have := Int.mul_le_mul_of_nonneg_left h (Int.le_of_lt hg); rw [Int.max_eq_left h, Int.max_eq_left this]
  rw [hm, hM]
/-- A level that is as good as the one that is found. -/
def LevelAt (l : List Rg) (p : Int × Int) (v : Int × Int) : Prop := 0 < v.2 ∧ varL (clampF v.1 v.2) l * p.2 = p.1 * (l.length * l.length * (v.2 * v.2))
theorem LevelAt.scale {p : Int × Int} {g N D : Int} (hg : 0 < g) (h : LevelAt l p (g * N, g * D)) : LevelAt l p (N, D) := by
  obtain ⟨h1, h2⟩ := h
  have h1 : 0 < g * D := h1
  have hD : 0 < D := by
    rcases Int.lt_or_le 0 D with h | h
    · exact h
    · have := Int.mul_nonpos_of_nonneg_of_nonpos (Int.le_of_lt hg) h; omega
  have h2 : varL (clampF (g * N) (g * D)) l * p.2 = p.1 * (l.length * l.length * (g * D * (g * D))) := h2
  rw [var_congr (g := fun r => g * clampF N D r) fun r _ => clamp_scale hg N D r, var_scale] at h2
  refine ⟨hD, ?_⟩
  show varL (clampF N D) l * p.2 = p.1 * (l.length * l.length * (D * D))
  have hgg : g * g ≠ 0 := by have := Int.mul_pos hg hg; omega
  refine Int.eq_of_mul_eq_mul_left hgg ?_
  have e1 : g * g * (varL (clampF N D) l * p.2) = g * g * varL (clampF N D) l * p.2 := by grind
  rw [e1, h2]
  grind
/-- The reference's levels. -/
def endsL (l : List Rg) : List (Int × Int) := l.flatMap fun r => [(r.1, 1), (r.2, 1)]
def cutS (a : Int) (r : Rg) : Int := (if 2 * r.2 < a then r.2 else 0) + (if a < 2 * r.1 then r.1 else 0)
def cutC (a : Int) (r : Rg) : Int := (if 2 * r.2 < a then 1 else 0) + (if a < 2 * r.1 then 1 else 0)
def levS (l : List Rg) (a : Int) : List (Int × Int) := if 0 < sumL (cutC a) l then [(redN (sumL (cutS a) l) (sumL (cutC a) l), redD (sumL (cutS a) l) (sumL (cutC a) l))] else []
def levK (l : List Rg) (x : Int) : List (Int × Int) := levS l (2 * x + 1) ++ levS l (2 * x - 1)
def levF (l : List Rg) : List (Int × Int) := endsL l ++ (endsL l).flatMap fun v => levK l v.1
theorem ends_mem {r : Rg} (h : r ∈ l) : (r.1, (1 : Int)) ∈ endsL l ∧ (r.2, (1 : Int)) ∈ endsL l := by
  unfold endsL
  exact ⟨List.mem_flatMap.2 ⟨r, h, by simp⟩, List.mem_flatMap.2 ⟨r, h, by simp⟩⟩
theorem end_lev (h : EndsS l e) {x : Int} (hx : x ∈ e) : (x, (1 : Int)) ∈ endsL l := by
  obtain ⟨r, hr, h1 | h1⟩ := h.of x hx
  · rw [h1]; exact (ends_mem hr).1
  · rw [h1]; exact (ends_mem hr).2
theorem getD_mem {i : Nat} (hi : i < e.length) : e.getD i 0 ∈ e := by
  rw [List.getD_eq_getElem?_getD, List.getElem?_eq_getElem hi]
  exact List.getElem_mem hi
theorem level_in (h : EndsS l e) {i : Nat} (hi : i + 1 < e.length) {p : Int × Int} (hp : pickP l (e.getD i 0) (e.getD (i + 1) 0) = some p) : ∃ v ∈ levF l, LevelAt l p v := by
  have hm := end_lev h (getD_mem (show i < e.length by omega))
  have hl := h.le (show i ≤ i + 1 by omega) hi
  have hf := h.free hi
  obtain ⟨lo, hlo⟩ : ∃ x, e.getD i 0 = x := ⟨_, rfl⟩
  obtain ⟨hh, hhi⟩ : ∃ x, e.getD (i + 1) 0 = x := ⟨_, rfl⟩
  rw [hlo] at hm hl hf hp
  rw [hhi] at hl hf hp
  have hmF : (lo, (1 : Int)) ∈ levF l := List.mem_append.2 (.inl hm)
  unfold pickP at hp
  by_cases h0 : sumL (cntP lo hh) l = 0
  · rw [if_pos h0] at hp
    obtain rfl := Option.some.inj hp
    refine ⟨_, hmF, by show (0 : Int) < 1; omega, ?_⟩
    have hc : ∀ r ∈ l, clampF lo 1 r = lo := fun r hr => by
      have hfr := hf r hr
      have hz := cnt_zero h0 r hr
      unfold clampF
      rcases val_cases hl hfr with ⟨a, b, c⟩ | ⟨a, b, c⟩ | ⟨a, a', b, c⟩ <;> omega
    show varL (clampF lo 1) l * 1 = 0 * _
    rw [var_congr hc]
    unfold varL
    rw [sumL_const, sumL_const]
    grind
  rw [if_neg h0] at hp
  have hC : 0 < sumL (cntP lo hh) l := by have := cnt_nonneg lo hh l; omega
  by_cases h3 : lo * sumL (cntP lo hh) l ≤ sumL (endP lo hh) l ∧ sumL (endP lo hh) l ≤ hh * sumL (cntP lo hh) l
  rotate_left
  · rw [if_neg h3] at hp; cases hp
  rw [if_pos h3] at hp
  obtain rfl := Option.some.inj hp
  obtain ⟨-, v2⟩ := var_at hl hf hC h3.1 h3.2
  have hat : LevelAt l (sumL (cntP lo hh) l * sumL (sqP lo hh) l - sumL (endP lo hh) l * sumL (endP lo hh) l, sumL (cntP lo hh) l * l.length) (sumL (endP lo hh) l, sumL (cntP lo hh) l) := by
    refine ⟨hC, ?_⟩
    show varL (clampF (sumL (endP lo hh) l) (sumL (cntP lo hh) l)) l * (sumL (cntP lo hh) l * l.length) = (sumL (cntP lo hh) l * sumL (sqP lo hh) l - sumL (endP lo hh) l * sumL (endP lo hh) l) * (l.length * l.length * (sumL (cntP lo hh) l * sumL (cntP lo hh) l))
    rw [v2]
    grind
  by_cases hlt : lo < hh
  · -- the mean of the ends that are not crossed
    have e1 : sumL (cutC (2 * lo + 1)) l = sumL (cntP lo hh) l := sumL_congr fun r hr => by
      have hfr := hf r hr
      have h3 := hfr.2.2
      unfold cutC
      rcases val_cases hl hfr with ⟨a, b, c⟩ | ⟨a, b, c⟩ | ⟨a, a', b, c⟩ <;> rw [b] <;> split <;> split <;> omega
    have e2 : sumL (cutS (2 * lo + 1)) l = sumL (endP lo hh) l := sumL_congr fun r hr => by
      have hfr := hf r hr
      have h3 := hfr.2.2
      unfold cutS
      rcases val_cases hl hfr with ⟨a, b, c⟩ | ⟨a, b, c⟩ | ⟨a, a', b, c⟩ <;> rw [c] <;> split <;> split <;> omega
    have hmem : (redN (sumL (endP lo hh) l) (sumL (cntP lo hh) l), redD (sumL (endP lo hh) l) (sumL (cntP lo hh) l)) ∈ levF l := by
      refine List.mem_append.2 (.inr (List.mem_flatMap.2 ⟨_, hm, List.mem_append.2 (.inl ?_)⟩))
      unfold levS
      rw [e1, e2, if_pos hC]
      exact List.mem_singleton.2 rfl
    refine ⟨_, hmem, ?_⟩
    generalize sumL (endP lo hh) l = S at hat ⊢
    generalize sumL (cntP lo hh) l = C at hat hC ⊢
    have hg : 0 < (Int.gcd S C : Int) := by exact_mod_cast Int.gcd_pos_of_ne_zero_right S (by omega)
    refine LevelAt.scale hg ?_
    have g1 : (Int.gcd S C : Int) * redN S C = S := by unfold redN; exact Int.mul_ediv_cancel' (Int.gcd_dvd_left S C)
    have g2 : (Int.gcd S C : Int) * redD S C = C := by unfold redD; exact Int.mul_ediv_cancel' (Int.gcd_dvd_right S C)
    rw [g1, g2]
    exact hat
  · obtain rfl : lo = hh := by omega
    refine ⟨_, hmF, LevelAt.scale hC ?_⟩
    have g1 : sumL (cntP lo lo) l * lo = sumL (endP lo lo) l := by have := h3.1; have := h3.2; rw [Int.mul_comm]; omega
    rw [g1, Int.mul_one]
    exact hat
end
end Go.Proofs.Ytmejiafmmmeloaa

end
