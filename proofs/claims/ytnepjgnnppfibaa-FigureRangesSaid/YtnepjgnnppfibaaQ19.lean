import Derived.Test.YtnepjgnnppfibaaQ18

section
/- Plain law of the differences of zones and of neighbours that surfaces have. -/
namespace Go.Proofs.Ytnepjgnnppfibaa
open Go.RowKit

def mx (a b : Int) : Int := if a < b then b else a
theorem mx_ge (a b : Int) : a ≤ mx a b ∧ b ≤ mx a b ∧ (mx a b = a ∨ mx a b = b) := by unfold mx; split <;> omega
theorem mx_le {a b M : Int} (h1 : a ≤ M) (h2 : b ≤ M) : mx a b ≤ M := by unfold mx; split <;> omega
def gap (i k : Nat) : Int := (((i : Int) - (k : Int)).natAbs : Int)
def ovr (l : List (Int × Int)) (x : Nat × Nat) : Int := (l.getD x.1 (0, 0)).1 - (l.getD x.2 (0, 0)).2
def wid (l : List (Int × Int)) (x : Nat × Nat) : Int := (l.getD x.1 (0, 0)).2 - (l.getD x.2 (0, 0)).1
def pkStep (l : List (Int × Int)) (a : Int × Int) (x : Nat × Nat) : Int × Int := (mx a.1 (ovr l x), mx a.2 (wid l x))
def pkF (l : List (Int × Int)) (xs : List (Nat × Nat)) : Int × Int := xs.foldl (pkStep l) (0, 0)
/-- The least whole number of steps. -/
def clg (a b : Int) : Int := -((-a) / b)
def slStep (l : List (Int × Int)) (a : Int × Int) (x : Nat × Nat) : Int × Int := (if 0 < ovr l x then mx a.1 (clg (ovr l x) (gap x.1 x.2)) else a.1, if gap x.1 x.2 = 1 then mx a.2 (wid l x) else a.2)
def slF (l : List (Int × Int)) (xs : List (Nat × Nat)) : Int × Int := xs.foldl (slStep l) (0, 0)
theorem pk_snoc (l : List (Int × Int)) (xs : List (Nat × Nat)) (x : Nat × Nat) : pkF l (xs ++ [x]) = pkStep l (pkF l xs) x := by unfold pkF; rw [List.foldl_append]; rfl
theorem sl_snoc (l : List (Int × Int)) (xs : List (Nat × Nat)) (x : Nat × Nat) : slF l (xs ++ [x]) = slStep l (slF l xs) x := by unfold slF; rw [List.foldl_append]; rfl
theorem clg_le {a b s : Int} (hb : 0 < b) (h : a ≤ b * s) : clg a b ≤ s := by
  unfold clg
  have : -s ≤ (-a) / b := by
    rw [Int.le_ediv_iff_mul_le hb, Int.neg_mul]
    have : s * b = b * s := Int.mul_comm _ _
    omega
  omega
theorem clg_pos {a b : Int} (hb : 0 < b) (h : ¬ 0 < a) : clg a b ≤ 0 := clg_le hb (by rw [Int.mul_zero]; omega)
/-- The program's whole part. -/
theorem clg_quot {a b : Int} (hb : 0 < b) (ha : 0 < a) : (a + b - 1).tdiv b = clg a b ∧ 0 ≤ clg a b ∧ clg a b ≤ a := by
  have h0 : (a + b - 1).tdiv b = (a + b - 1) / b := Int.tdiv_eq_ediv_of_nonneg (by omega)
  have h1 : (a + b - 1) / b = clg a b := by
    unfold clg
    have q1 := Int.mul_ediv_self_le (x := -a) (k := b) (by omega)
    have q2 := Int.lt_mul_ediv_self_add (x := -a) (k := b) hb
    generalize (-a) / b = q at *
    have e : a + b - 1 = (-q) * b + (b * q + b - 1 - (-a)) := by grind
    rw [e, Int.add_comm, Int.add_mul_ediv_right _ _ (by omega), Int.ediv_eq_zero_of_lt (by omega) (by omega)]
    omega
  have h2 : 0 ≤ (a + b - 1) / b := Int.ediv_nonneg (by omega) (by omega)
  refine ⟨h0.trans h1, by omega, ?_⟩
  have h3 : 1 * a ≤ b * a := Int.mul_le_mul_of_nonneg_right (by omega) (by omega)
  exact clg_le hb (by omega)
section
variable {l : List (Int × Int)} {xs : List (Nat × Nat)}
theorem fold_in {f : Int × Int → Nat × Nat → Int × Int} {P : Int × Int → Prop} (hs : ∀ a x, x ∈ xs → P a → P (f a x)) : ∀ a, P a → P (xs.foldl f a) := by
  induction xs with
  | nil => intro a h; exact h
  | cons y ys ih =>
    intro a h
    rw [List.foldl_cons]
    exact ih (fun a x hx => hs a x (by simp [hx])) _ (hs a y (by simp) h)
theorem fold_hit {f : Int × Int → Nat × Nat → Int × Int} {P : Int × Int → Prop} {x : Nat × Nat} (hx : x ∈ xs) (hs : ∀ a y, P a → P (f a y)) (h0 : ∀ a, P (f a x)) : ∀ a, P (xs.foldl f a) := by
  induction xs with
  | nil => cases hx
  | cons y ys ih =>
    intro a
    rw [List.foldl_cons]
    rcases List.mem_cons.1 hx with rfl | hx
    · exact fold_in (fun a x _ h => hs a x h) _ (h0 a)
    · exact ih hx _
theorem pk_le {M1 M2 : Int} (h1 : 0 ≤ M1) (h2 : 0 ≤ M2) (h : ∀ x ∈ xs, ovr l x ≤ M1 ∧ wid l x ≤ M2) : (pkF l xs).1 ≤ M1 ∧ (pkF l xs).2 ≤ M2 :=
  fold_in (P := fun a => a.1 ≤ M1 ∧ a.2 ≤ M2) (fun _ x hx ha => ⟨mx_le ha.1 (h x hx).1, mx_le ha.2 (h x hx).2⟩) _ ⟨h1, h2⟩
theorem pk_ge {x : Nat × Nat} (hx : x ∈ xs) : ovr l x ≤ (pkF l xs).1 ∧ wid l x ≤ (pkF l xs).2 :=
  fold_hit (P := fun a => ovr l x ≤ a.1 ∧ wid l x ≤ a.2) hx (fun a y h => ⟨Int.le_trans h.1 (mx_ge _ _).1, Int.le_trans h.2 (mx_ge _ _).1⟩) (fun a => ⟨(mx_ge _ _).2.1, (mx_ge _ _).2.1⟩) _
theorem pk_pos : 0 ≤ (pkF l xs).1 ∧ 0 ≤ (pkF l xs).2 :=
  fold_in (P := fun a => 0 ≤ a.1 ∧ 0 ≤ a.2) (fun _ _ _ ha => ⟨Int.le_trans ha.1 (mx_ge _ _).1, Int.le_trans ha.2 (mx_ge _ _).1⟩) _ ⟨Int.le_refl _, Int.le_refl _⟩
theorem sl_pos : 0 ≤ (slF l xs).1 ∧ 0 ≤ (slF l xs).2 :=
  fold_in (P := fun a => 0 ≤ a.1 ∧ 0 ≤ a.2) (fun a x _ ha => by
    unfold slStep
    constructor
    · dsimp only
      split
      · exact Int.le_trans ha.1 (mx_ge _ _).1
      · exact ha.1
    · dsimp only
      split
      · exact Int.le_trans ha.2 (mx_ge _ _).1
      · exact ha.2) _ ⟨Int.le_refl _, Int.le_refl _⟩
theorem sl_le {M1 M2 : Int} (h1 : 0 ≤ M1) (h2 : 0 ≤ M2) (h : ∀ x ∈ xs, clg (ovr l x) (gap x.1 x.2) ≤ M1 ∧ wid l x ≤ M2) : (slF l xs).1 ≤ M1 ∧ (slF l xs).2 ≤ M2 :=
  fold_in (P := fun a => a.1 ≤ M1 ∧ a.2 ≤ M2) (fun a x hx ha => by
    unfold slStep
    constructor
    · dsimp only
      split
      · exact mx_le ha.1 (h x hx).1
      · exact ha.1
    · dsimp only
      split
      · exact mx_le ha.2 (h x hx).2
      · exact ha.2) _ ⟨h1, h2⟩
theorem sl_ge {x : Nat × Nat} (hx : x ∈ xs) (hg : gap x.1 x.2 = 1) : wid l x ≤ (slF l xs).2 :=
  fold_hit (P := fun a => wid l x ≤ a.2) hx (fun a y h => by
    unfold slStep
    dsimp only
    split
    · exact Int.le_trans h (mx_ge _ _).1
    · exact h) (fun a => by
    unfold slStep
    dsimp only
    rw [if_pos hg]
    exact (mx_ge _ _).2.1) _
end

/-! The law's own differences of heights. -/
def dif (h : List Int) (i k : Nat) : Int := ((h.getD i 0 - h.getD k 0).natAbs : Int)
def difR (h : List Int) (a : Int × Int) (i : Nat) : Nat → Int × Int
  | 0 => a
  | k + 1 => (mx (difR h a i k).1 (dif h i k), if k + 1 = i then mx (difR h a i k).2 (dif h i k) else (difR h a i k).2)
def difA (h : List Int) : Nat → Int × Int
  | 0 => (0, 0)
  | i + 1 => difR h (difA h i) i i
theorem difR_up {h : List Int} {a : Int × Int} {i : Nat} : ∀ k, a.1 ≤ (difR h a i k).1 ∧ a.2 ≤ (difR h a i k).2
  | 0 => ⟨Int.le_refl _, Int.le_refl _⟩
  | k + 1 => by
    have ih := difR_up (h := h) (a := a) (i := i) k
    constructor
    · exact Int.le_trans ih.1 (mx_ge _ _).1
    · show a.2 ≤ (if k + 1 = i then mx (difR h a i k).2 (dif h i k) else (difR h a i k).2)
      split
      · exact Int.le_trans ih.2 (mx_ge _ _).1
      · exact ih.2
theorem difR_all {h : List Int} {a : Int × Int} {i : Nat} : ∀ k q, q < k → dif h i q ≤ (difR h a i k).1 ∧ (q + 1 = i → dif h i q ≤ (difR h a i k).2)
  | 0, q, hq => absurd hq (by omega)
  | k + 1, q, hq => by
    by_cases e : q = k
    · subst e
      refine ⟨(mx_ge _ _).2.1, fun hi => ?_⟩
      show _ ≤ (if q + 1 = i then mx (difR h a i q).2 (dif h i q) else (difR h a i q).2)
      rw [if_pos hi]
      exact (mx_ge _ _).2.1
    · have ih := difR_all (h := h) (a := a) (i := i) k q (by omega)
      refine ⟨Int.le_trans ih.1 (mx_ge _ _).1, fun hi => ?_⟩
      show _ ≤ (if k + 1 = i then mx (difR h a i k).2 (dif h i k) else (difR h a i k).2)
      split
      · exact Int.le_trans (ih.2 hi) (mx_ge _ _).1
      · exact ih.2 hi
theorem difR_le {h : List Int} {a : Int × Int} {i : Nat} {M1 M2 : Int} (h1 : a.1 ≤ M1) (h2 : a.2 ≤ M2) (hd : ∀ q, q < i → dif h i q ≤ M1 ∧ (q + 1 = i → dif h i q ≤ M2)) : ∀ k, k ≤ i → (difR h a i k).1 ≤ M1 ∧ (difR h a i k).2 ≤ M2
  | 0, _ => ⟨h1, h2⟩
  | k + 1, hk => by
    have ih := difR_le h1 h2 hd k (by omega)
    refine ⟨mx_le ih.1 (hd k (by omega)).1, ?_⟩
    show (if k + 1 = i then mx (difR h a i k).2 (dif h i k) else (difR h a i k).2) ≤ M2
    split
    · rename_i e; exact mx_le ih.2 ((hd k (by omega)).2 e)
    · exact ih.2
theorem difA_all {h : List Int} : ∀ n, (0 ≤ (difA h n).1 ∧ 0 ≤ (difA h n).2) ∧ ∀ i q, i < n → q < i → dif h i q ≤ (difA h n).1 ∧ (q + 1 = i → dif h i q ≤ (difA h n).2)
  | 0 => ⟨⟨Int.le_refl _, Int.le_refl _⟩, fun i q hi => absurd hi (by omega)⟩
  | n + 1 => by
    obtain ⟨⟨i1, i2⟩, i3⟩ := difA_all (h := h) n
    have hu := difR_up (h := h) (a := difA h n) (i := n) n
    refine ⟨⟨Int.le_trans i1 hu.1, Int.le_trans i2 hu.2⟩, fun i q hi hq => ?_⟩
    by_cases e : i = n
    · subst e; exact difR_all i q hq
    · have := i3 i q (by omega) hq
      exact ⟨Int.le_trans this.1 hu.1, fun hh => Int.le_trans (this.2 hh) hu.2⟩
theorem difA_le {h : List Int} {M1 M2 : Int} (h1 : 0 ≤ M1) (h2 : 0 ≤ M2) : ∀ n, (∀ i q, i < n → q < i → dif h i q ≤ M1 ∧ (q + 1 = i → dif h i q ≤ M2)) → (difA h n).1 ≤ M1 ∧ (difA h n).2 ≤ M2
  | 0, _ => ⟨h1, h2⟩
  | n + 1, hd => by
    have ih := difA_le h1 h2 n fun i q hi hq => hd i q (by omega) hq
    exact difR_le ih.1 ih.2 (fun q hq => hd n q (by omega) hq) n (Nat.le_refl _)
/-- Zones that are so many steps apart differ by no more than so often the slope. -/
theorem dif_far {h : List Int} {n : Nat} {s : Int} (hs : ∀ i, i + 1 < n → dif h (i + 1) i ≤ s) : ∀ d i, i + d < n → dif h (i + d) i ≤ (d : Int) * s
  | 0, i, _ => by unfold dif; simp
  | d + 1, i, hi => by
    have ih := dif_far hs d i (by omega)
    have h1 := hs (i + d) (by omega)
    have e : ((d + 1 : Nat) : Int) * s = (d : Int) * s + s := by push_cast; rw [Int.add_mul, Int.one_mul]
    rw [e]
    unfold dif at *
    rw [show i + (d + 1) = i + d + 1 by omega]
    omega
/-- Each surface is within the differences. -/
theorem ranges_hold {l : List (Int × Int)} {h : List Int} {n : Nat} (hin : ∀ i, i < n → (l.getD i (0, 0)).1 ≤ h.getD i 0 ∧ h.getD i 0 ≤ (l.getD i (0, 0)).2) :
    ((pkF l (pairsL n)).1 ≤ (difA h n).1 ∧ (difA h n).1 ≤ (pkF l (pairsL n)).2) ∧ ((slF l (pairsL n)).1 ≤ (difA h n).2 ∧ (difA h n).2 ≤ (slF l (pairsL n)).2) := by
  obtain ⟨⟨p1, p2⟩, p3⟩ := difA_all (h := h) n
  have hsym : ∀ i k, dif h i k = dif h k i := fun i k => by unfold dif; omega
  have hall : ∀ i k, i < n → k < n → i ≠ k → dif h i k ≤ (difA h n).1 := fun i k hi hk hne => by
    rcases Nat.lt_or_gt_of_ne hne with hlt | hlt
    · rw [hsym]; exact (p3 k i hk hlt).1
    · exact (p3 i k hi hlt).1
  have hnb : ∀ i, i + 1 < n → dif h (i + 1) i ≤ (difA h n).2 := fun i hi => (p3 (i + 1) i hi (by omega)).2 rfl
  have hov : ∀ x ∈ pairsL n, ovr l x ≤ dif h x.1 x.2 ∧ dif h x.1 x.2 ≤ mx (wid l x) (wid l (x.2, x.1)) := by
    intro x hx
    obtain ⟨a1, a2, -⟩ := mem_pairs.1 hx
    have b1 := hin x.1 a1
    have b2 := hin x.2 a2
    have m1 := mx_ge (wid l x) (wid l (x.2, x.1))
    unfold ovr dif
    unfold wid at *
    simp only at *
    omega
  refine ⟨⟨?_, ?_⟩, ⟨?_, ?_⟩⟩
  · refine (pk_le (M2 := (pkF l (pairsL n)).2) p1 pk_pos.2 fun x hx => ⟨?_, (pk_ge hx).2⟩).1
    obtain ⟨a1, a2, a3⟩ := mem_pairs.1 hx
    exact Int.le_trans (hov x hx).1 (hall _ _ a1 a2 a3)
  · refine (difA_le (M2 := (difA h n).2) pk_pos.2 p2 n fun i q hi hq => ⟨?_, (p3 i q hi hq).2⟩).1
    have hm : (i, q) ∈ pairsL n := mem_pairs.2 ⟨hi, by show q < n; omega, by show i ≠ q; omega⟩
    have hm2 : (q, i) ∈ pairsL n := mem_pairs.2 ⟨by show q < n; omega, hi, by show q ≠ i; omega⟩
    exact Int.le_trans (hov _ hm).2 (mx_le (pk_ge hm).2 (pk_ge hm2).2)
  · refine (sl_le (M2 := mx (slF l (pairsL n)).2 (pkF l (pairsL n)).2) p2 (Int.le_trans sl_pos.2 (mx_ge _ _).1) fun x hx => ⟨?_, Int.le_trans (pk_ge hx).2 (mx_ge _ _).2.1⟩).1
    obtain ⟨a1, a2, a3⟩ := mem_pairs.1 hx
    have hg : 0 < gap x.1 x.2 := by unfold gap; omega
    refine clg_le hg (Int.le_trans (hov x hx).1 ?_)
    rcases Nat.lt_or_gt_of_ne a3 with hlt | hlt
    · have := dif_far hnb (x.2 - x.1) x.1 (by omega)
      rw [show x.1 + (x.2 - x.1) = x.2 by omega] at this
      rw [hsym, show gap x.1 x.2 = ((x.2 - x.1 : Nat) : Int) by unfold gap; omega]
      exact this
    · have := dif_far hnb (x.1 - x.2) x.2 (by omega)
      rw [show x.2 + (x.1 - x.2) = x.1 by omega] at this
      rw [show gap x.1 x.2 = ((x.1 - x.2 : Nat) : Int) by unfold gap; omega]
      exact this
  · refine (difA_le (M1 := (difA h n).1) p1 sl_pos.2 n fun i q hi hq => ⟨(p3 i q hi hq).1, fun e => ?_⟩).2
    have hm : (i, q) ∈ pairsL n := mem_pairs.2 ⟨hi, by show q < n; omega, by show i ≠ q; omega⟩
    have hm2 : (q, i) ∈ pairsL n := mem_pairs.2 ⟨by show q < n; omega, hi, by show q ≠ i; omega⟩
    exact Int.le_trans (hov _ hm).2 (mx_le (sl_ge hm (by unfold gap; simp only; omega)) (sl_ge hm2 (by unfold gap; simp only; omega)))
end Go.Proofs.Ytnepjgnnppfibaa

end
