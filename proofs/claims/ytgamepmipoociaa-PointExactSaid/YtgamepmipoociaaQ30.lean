import Derived.Test.YtgamepmipoociaaQ21

section
/- The plain law of exact errors: Gram determinants, Cramer's rule, doubling. -/
namespace Go.Proofs.Ytgamepmipoociaa
open Go Go.RowKit

/-- Sums over all stars. -/
def nrm (l : List Star) (i k : Nat) : Int := (l.map fun s => shp s i * shp s k).sum
def rgt (l : List Star) (i : Nat) : Int := (l.map fun s => shp s i * s.er).sum
theorem nrmTo_all (l : List Star) (i k : Nat) : nrmTo l l.length i k = nrm l i k := by unfold nrmTo nrm; rw [List.take_length]
theorem rgtTo_all (l : List Star) (i : Nat) : rgtTo l l.length i = rgt l i := by unfold rgtTo rgt; rw [List.take_length]
theorem nrm_sym (l : List Star) (i k : Nat) : nrm l i k = nrm l k i := by
  unfold nrm
  congr 1
  exact List.map_congr_left fun s _ => Int.mul_comm _ _
theorem nrm_cons (s : Star) (l : List Star) (i k : Nat) : nrm (s :: l) i k = shp s i * shp s k + nrm l i k := rfl
theorem rgt_cons (s : Star) (l : List Star) (i : Nat) : rgt (s :: l) i = shp s i * s.er + rgt l i := rfl
theorem rgt_lin (a b c : Int) (i : Nat) : ∀ (l : List Star), (∀ s ∈ l, s.er = a * shp s 0 + b * shp s 1 + c * shp s 2) → rgt l i = a * nrm l i 0 + b * nrm l i 1 + c * nrm l i 2
  | [], _ => by simp [rgt, nrm]
  | s :: l, h => by
    have ih := rgt_lin a b c i l fun x hx => h x (List.mem_cons_of_mem _ hx)
    rw [rgt_cons, nrm_cons, nrm_cons, nrm_cons, ih, h s (by simp)]
    grind

/-- The squares of the sums of shapes. -/
def quad (l : List Star) (u v w : Int) : Int := (l.map fun s => (u * shp s 0 + v * shp s 1 + w * shp s 2) * (u * shp s 0 + v * shp s 1 + w * shp s 2)).sum
theorem quad_cons (s : Star) (l : List Star) (u v w : Int) : quad (s :: l) u v w = (u * shp s 0 + v * shp s 1 + w * shp s 2) * (u * shp s 0 + v * shp s 1 + w * shp s 2) + quad l u v w := rfl
theorem sq_nonneg (x : Int) : 0 ≤ x * x := by
  have : x * x = ((x.natAbs * x.natAbs : Nat) : Int) := (Int.natAbs_mul_self).symm
  omega
theorem quad_eq (u v w : Int) : ∀ (l : List Star), quad l u v w = u * u * nrm l 0 0 + v * v * nrm l 1 1 + w * w * nrm l 2 2 + 2 * (u * v * nrm l 0 1) + 2 * (u * w * nrm l 0 2) + 2 * (v * w * nrm l 1 2)
  | [] => by simp [quad, nrm]
  | s :: l => by
    rw [quad_cons, quad_eq u v w l]
    simp only [nrm_cons]
    grind
theorem quad_nonneg (u v w : Int) : ∀ (l : List Star), 0 ≤ quad l u v w
  | [] => by simp [quad]
  | s :: l => by
    have h1 := quad_nonneg u v w l
    have h2 := sq_nonneg (u * shp s 0 + v * shp s 1 + w * shp s 2)
    rw [quad_cons]
    omega
theorem quad_zero (u v w : Int) : ∀ (l : List Star), quad l u v w = 0 → ∀ s ∈ l, u * shp s 0 + v * shp s 1 + w * shp s 2 = 0
  | [], _ => by simp
  | s :: l, h => by
    have h1 := quad_nonneg u v w l
    have h2 := sq_nonneg (u * shp s 0 + v * shp s 1 + w * shp s 2)
    rw [quad_cons] at h
    intro x hx
    rcases List.mem_cons.1 hx with rfl | hx
    · have : (u * shp x 0 + v * shp x 1 + w * shp x 2) * (u * shp x 0 + v * shp x 1 + w * shp x 2) = 0 := by omega
      rcases Int.mul_eq_zero.1 this with h | h <;> exact h
    · exact quad_zero u v w l (by omega) x hx
theorem kern (u v w : Int) (i : Nat) : ∀ (l : List Star), (∀ s ∈ l, u * shp s 0 + v * shp s 1 + w * shp s 2 = 0) → u * nrm l i 0 + v * nrm l i 1 + w * nrm l i 2 = 0
  | [], _ => by simp [nrm]
  | s :: l, h => by
    have ih := kern u v w i l fun x hx => h x (List.mem_cons_of_mem _ hx)
    have h0 := h s (by simp)
    simp only [nrm_cons]
    have : u * (shp s i * shp s 0 + nrm l i 0) + v * (shp s i * shp s 1 + nrm l i 1) + w * (shp s i * shp s 2 + nrm l i 2)
        = shp s i * (u * shp s 0 + v * shp s 1 + w * shp s 2) + (u * nrm l i 0 + v * nrm l i 1 + w * nrm l i 2) := by grind
    rw [this, ih, h0]
    simp

theorem gram1 (l : List Star) : 0 ≤ nrm l 0 0 := by
  have h := quad_nonneg 1 0 0 l
  rw [quad_eq] at h
  simp at h
  exact h
theorem gram1_zero (l : List Star) (h : nrm l 0 0 = 0) (i : Nat) : nrm l i 0 = 0 := by
  have h1 := quad_zero 1 0 0 l (by rw [quad_eq, h]; simp)
  have h2 := kern 1 0 0 i l h1
  simpa using h2
def gr2 (l : List Star) : Int := nrm l 0 0 * nrm l 1 1 - nrm l 1 0 * nrm l 0 1
theorem nonneg_of_mul {a b : Int} (ha : 0 < a) (h : 0 ≤ a * b) : 0 ≤ b := by
  rcases Int.lt_or_le b 0 with hb | hb
  · have := Int.mul_neg_of_pos_of_neg ha hb
    omega
  · exact hb
theorem ring2 (a b c d e f : Int) : -b * -b * a + a * a * d + 0 * 0 * f + 2 * (-b * a * b) + 2 * (-b * 0 * c) + 2 * (a * 0 * e) = a * (a * d - b * b) := by grind
theorem ring3 (a b c d e f : Int) : (b * e - c * d) * (b * e - c * d) * a + (b * c - a * e) * (b * c - a * e) * d + (a * d - b * b) * (a * d - b * b) * f
    + 2 * ((b * e - c * d) * (b * c - a * e) * b) + 2 * ((b * e - c * d) * (a * d - b * b) * c) + 2 * ((b * c - a * e) * (a * d - b * b) * e)
    = (a * d - b * b) * det3E a b c b d e c e f := by unfold det3E; grind
theorem ring3z (a b c d e f : Int) : a * det3E a b c b d e c e f = (a * d - b * b) * (a * f - c * c) - (-b * c + a * e + 0 * f) * (-b * c + a * e + 0 * f) := by unfold det3E; grind
theorem gram2 (l : List Star) : 0 ≤ gr2 l := by
  have h1 := gram1 l
  rcases Int.lt_or_le 0 (nrm l 0 0) with hp | hp
  · have h := quad_nonneg (-nrm l 0 1) (nrm l 0 0) 0 l
    rw [quad_eq, ring2] at h
    unfold gr2
    rw [nrm_sym l 1 0]
    exact nonneg_of_mul hp h
  · have h0 : nrm l 0 0 = 0 := by omega
    have hs := gram1_zero l h0 1
    unfold gr2
    rw [h0, hs]
    simp
theorem gram3 (l : List Star) : 0 ≤ det3E (nrm l 0 0) (nrm l 0 1) (nrm l 0 2) (nrm l 1 0) (nrm l 1 1) (nrm l 1 2) (nrm l 2 0) (nrm l 2 1) (nrm l 2 2) := by
  have h2 := gram2 l
  have e1 := gram1_zero l
  unfold gr2 at h2
  rcases Int.lt_or_le 0 (nrm l 0 0 * nrm l 1 1 - nrm l 1 0 * nrm l 0 1) with hp | hp
  · have h := quad_nonneg (nrm l 0 1 * nrm l 1 2 - nrm l 0 2 * nrm l 1 1) (nrm l 0 1 * nrm l 0 2 - nrm l 0 0 * nrm l 1 2) (nrm l 0 0 * nrm l 1 1 - nrm l 0 1 * nrm l 0 1) l
    rw [quad_eq, ring3] at h
    rw [nrm_sym l 1 0, nrm_sym l 2 0, nrm_sym l 2 1]
    rw [nrm_sym l 1 0] at hp
    exact nonneg_of_mul hp h
  · have h0 : nrm l 0 0 * nrm l 1 1 - nrm l 1 0 * nrm l 0 1 = 0 := by omega
    rw [nrm_sym l 1 0] at h0
    have q : quad l (-nrm l 0 1) (nrm l 0 0) 0 = 0 := by rw [quad_eq, ring2, h0]; simp
    have k2 := kern _ _ _ 2 l (quad_zero _ _ _ l q)
    rw [nrm_sym l 2 0, nrm_sym l 2 1] at k2
    rcases Int.lt_or_le 0 (nrm l 0 0) with hz | hz
    · have h := ring3z (nrm l 0 0) (nrm l 0 1) (nrm l 0 2) (nrm l 1 1) (nrm l 1 2) (nrm l 2 2)
      rw [h0, k2] at h
      rw [nrm_sym l 1 0, nrm_sym l 2 0, nrm_sym l 2 1]
      exact nonneg_of_mul hz (by rw [h]; simp)
    · have hz : nrm l 0 0 = 0 := by have := gram1 l; omega
      unfold det3E
      rw [hz, e1 hz 1, e1 hz 2]
      simp

/-- The determinant of the normal equations of N terms. -/
theorem fitM_one (l : List Star) : fitM l 1 = [[nrm l 0 0]] := by simp [fitM, colL, nrmTo_all, List.range_succ]
theorem fitM_two (l : List Star) : fitM l 2 = [[nrm l 0 0, nrm l 0 1], [nrm l 1 0, nrm l 1 1]] := by simp [fitM, colL, nrmTo_all, List.range_succ]
theorem fitM_three (l : List Star) : fitM l 3 = [[nrm l 0 0, nrm l 0 1, nrm l 0 2], [nrm l 1 0, nrm l 1 1, nrm l 1 2], [nrm l 2 0, nrm l 2 1, nrm l 2 2]] := by simp [fitM, colL, nrmTo_all, List.range_succ]
theorem rgtL_one (l : List Star) : rgtL l 1 = [rgt l 0] := by simp [rgtL, rgtTo_all, List.range_succ]
theorem rgtL_two (l : List Star) : rgtL l 2 = [rgt l 0, rgt l 1] := by simp [rgtL, rgtTo_all, List.range_succ]
theorem rgtL_three (l : List Star) : rgtL l 3 = [rgt l 0, rgt l 1, rgt l 2] := by simp [rgtL, rgtTo_all, List.range_succ]
theorem gram_nonneg (l : List Star) {N : Nat} (h1 : 1 ≤ N) (h3 : N ≤ 3) : 0 ≤ detM (fitM l N) := by
  rcases (show N = 1 ∨ N = 2 ∨ N = 3 by omega) with rfl | rfl | rfl
  · rw [fitM_one]; exact gram1 l
  · rw [fitM_two]; exact gram2 l
  · rw [fitM_three]; exact gram3 l
theorem cram2a (a b d x y z z' : Int) : det2E (x * a + y * b + 0 * z) (x * b + y * d + 0 * z') b d = x * det2E a b b d := by unfold det2E; grind
theorem cram2b (a b d x y z z' : Int) : det2E a b (x * a + y * b + 0 * z) (x * b + y * d + 0 * z') = y * det2E a b b d := by unfold det2E; grind
theorem cram3a (a b c d e f x y z : Int) : det3E (x * a + y * b + z * c) (x * b + y * d + z * e) (x * c + y * e + z * f) b d e c e f = x * det3E a b c b d e c e f := by unfold det3E; grind
theorem cram3b (a b c d e f x y z : Int) : det3E a b c (x * a + y * b + z * c) (x * b + y * d + z * e) (x * c + y * e + z * f) c e f = y * det3E a b c b d e c e f := by unfold det3E; grind
theorem cram3c (a b c d e f x y z : Int) : det3E a b c b d e (x * a + y * b + z * c) (x * b + y * d + z * e) (x * c + y * e + z * f) = z * det3E a b c b d e c e f := by unfold det3E; grind

/-- What a model of whole terms predicts. -/
def dotS (t : List Int) (s : Star) : Int := t.getD 0 0 * shp s 0 + t.getD 1 0 * shp s 1 + t.getD 2 0 * shp s 2
theorem fitT_exact {l : List Star} {t : List Int} (h1 : 1 ≤ t.length) (h3 : t.length ≤ 3) (h : ∀ s ∈ l, s.er = dotS t s) : fitT l t.length = t.map (· * detM (fitM l t.length)) := by
  have r := fun i => rgt_lin (t.getD 0 0) (t.getD 1 0) (t.getD 2 0) i l h
  match t, h1, h3, r with
  | [x], _, _, r =>
    simp at r
    simp [fitT, fitM_one, rgtL_one, List.range_succ, detM, r]
  | [x, y], _, _, r =>
    simp only [List.getD_cons_zero, List.getD_cons_succ, List.getD_nil] at r
    have r0 := r 0
    have r1 := r 1
    rw [nrm_sym l 1 0] at r1
    show fitT l 2 = [x, y].map (· * detM (fitM l 2))
    simp only [fitT, fitM_two, rgtL_two, List.range_succ, List.range_zero, List.nil_append, List.cons_append, List.map_cons, List.map_nil, List.set_cons_zero, List.set_cons_succ, detM, r0, r1, nrm_sym l 1 0, cram2a, cram2b]
  | [x, y, z], _, _, r =>
    simp only [List.getD_cons_zero, List.getD_cons_succ, List.getD_nil] at r
    have r0 := r 0
    have r1 := r 1
    have r2 := r 2
    rw [nrm_sym l 1 0] at r1
    rw [nrm_sym l 2 0, nrm_sym l 2 1] at r2
    show fitT l 3 = [x, y, z].map (· * detM (fitM l 3))
    simp only [fitT, fitM_three, rgtL_three, List.range_succ, List.range_zero, List.nil_append, List.cons_append, List.map_cons, List.map_nil, List.set_cons_zero, List.set_cons_succ, detM, r0, r1, r2, nrm_sym l 1 0, nrm_sym l 2 0, nrm_sym l 2 1, cram3a, cram3b, cram3c]
theorem gcdF_self {D : Int} (hD : 0 < D) : ∀ (t : List Int), gcdF D (t.map (· * D)) = D
  | [] => rfl
  | z :: t => by
    show gcdF (Int.gcd D (z * D) : Int) (t.map (· * D)) = D
    have : (Int.gcd D (z * D) : Int) = D := by
      have h : Int.gcd D (z * D) = D.natAbs := Nat.gcd_eq_left (Int.natAbs_dvd_natAbs.2 (Int.dvd_mul_left z D))
      omega
    rw [this]
    exact gcdF_self hD t
theorem exact_fit {l : List Star} {t : List Int} (hN : termsN l = t.length) (h1 : 1 ≤ t.length) (h3 : t.length ≤ 3) (ht : ∀ z ∈ t, -3 ≤ z ∧ z ≤ 3) (h : ∀ s ∈ l, s.er = dotS t s) :
    fitF l = (([], 0), 11) ∨ fitF l = ((t, 1), 0) := by
  unfold fitF
  rw [hN]
  by_cases h0 : detM (fitM l t.length) = 0
  · rw [if_pos h0]; exact .inl rfl
  have hp : 0 < detM (fitM l t.length) := by have := gram_nonneg l h1 h3; omega
  rw [if_neg h0]
  have hG : fitG l t.length = detM (fitM l t.length) := by unfold fitG; rw [fitT_exact h1 h3 h]; exact gcdF_self hp t
  have hm : ((fitT l t.length).map (· / fitG l t.length)) = t := by
    rw [hG, fitT_exact h1 h3 h, List.map_map]
    conv => rhs; rw [← List.map_id t]
    refine List.map_congr_left fun z _ => ?_
    show z * _ / _ = z
    exact Int.mul_ediv_cancel z h0
  rw [hm, hG, Int.ediv_self h0]
  rw [if_neg]
  · exact .inr rfl
  · have : smallL 1000000000000 (1 :: t) = true := by
      unfold smallL
      rw [List.all_eq_true]
      intro z hz
      rw [withinB_iff]
      rcases List.mem_cons.1 hz with rfl | hz
      · decide
      · have := ht z hz; omega
    rw [this]; decide
theorem fitM_congr {l m : List Star} (h : l.map Star.xs = m.map Star.xs) (N : Nat) : fitM l N = fitM m N := by
  have hn : ∀ i k, nrm l i k = nrm m i k := by
    intro i k
    have e : ∀ x : List Star, nrm x i k = ((x.map Star.xs).map fun r => r.getD i 0 * r.getD k 0).sum := by
      intro x; unfold nrm shp; rw [List.map_map]; rfl
    rw [e, e, h]
  unfold fitM colL
  refine List.map_congr_left fun i _ => List.map_congr_left fun k _ => ?_
  rw [nrmTo_all, nrmTo_all, hn]
theorem termsN_congr {l m : List Star} (h : l.map Star.xs = m.map Star.xs) : termsN l = termsN m := by
  have := congrArg (fun z => z[0]?) h
  simp only [List.getElem?_map] at this
  unfold termsN
  cases h1 : l[0]? <;> cases h2 : m[0]? <;> simp_all
theorem rgt_double {l m : List Star} : ∀ (_ : m.map (fun s => (s.xs, s.er)) = l.map (fun s => (s.xs, 2 * s.er))) (i : Nat), rgt m i = 2 * rgt l i := by
  intro h i
  have e1 : rgt m i = ((m.map (fun s => (s.xs, s.er))).map fun p : List Int × Int => p.1.getD i 0 * p.2).sum := by unfold rgt shp; rw [List.map_map]; rfl
  have e2 : ∀ x : List Star, ((x.map (fun s => (s.xs, 2 * s.er))).map fun p : List Int × Int => p.1.getD i 0 * p.2).sum = 2 * rgt x i := by
    intro x
    induction x with
    | nil => rfl
    | cons s x ih =>
      simp only [List.map_cons, List.sum_cons]
      rw [ih, rgt_cons]
      unfold shp
      grind
  rw [e1, h, e2]
theorem fitT_double {l m : List Star} (h : m.map (fun s => (s.xs, s.er)) = l.map (fun s => (s.xs, 2 * s.er))) {N : Nat} (h1 : 1 ≤ N) (h3 : N ≤ 3) :
    fitM m N = fitM l N ∧ fitT m N = (fitT l N).map (2 * ·) := by
  have hx : m.map Star.xs = l.map Star.xs := by
    have := congrArg (List.map Prod.fst) h
    rw [List.map_map, List.map_map] at this
    exact this
  have hM := fitM_congr hx N
  refine ⟨hM, ?_⟩
  have r := rgt_double h
  unfold fitT
  rw [hM]
  rcases (show N = 1 ∨ N = 2 ∨ N = 3 by omega) with rfl | rfl | rfl
  · simp [fitM_one, rgtL_one, List.range_succ, detM, r]
  · simp only [fitM_two, rgtL_two, List.range_succ, List.range_zero, List.nil_append, List.cons_append, List.map_cons, List.map_nil, List.set_cons_zero, List.set_cons_succ, detM, r, det2E]
    congr 1
    · grind
    · congr 1; grind
  · simp only [fitM_three, rgtL_three, List.range_succ, List.range_zero, List.nil_append, List.cons_append, List.map_cons, List.map_nil, List.set_cons_zero, List.set_cons_succ, detM, r, det3E]
    congr 1
    · grind
    · congr 1
      · grind
      · congr 1; grind
/-- The error of a best model. -/
theorem fit_err (l : List Star) : (fitF l).2 = 0 ∨ (fitF l).2 = 8 ∨ (fitF l).2 = 11 ∧ detM (fitM l (termsN l)) = 0 := by
  unfold fitF
  by_cases h0 : detM (fitM l (termsN l)) = 0
  · rw [if_pos h0]; exact .inr (.inr ⟨rfl, h0⟩)
  rw [if_neg h0]
  split
  · exact .inr (.inl rfl)
  · exact .inl rfl
theorem fit_ok {l : List Star} (h : (fitF l).2 = 0) : detM (fitM l (termsN l)) ≠ 0 ∧ (fitF l).1.1 = (fitT l (termsN l)).map (· / fitG l (termsN l)) ∧ (fitF l).1.2 = detM (fitM l (termsN l)) / fitG l (termsN l) := by
  unfold fitF at h ⊢
  by_cases h0 : detM (fitM l (termsN l)) = 0
  · rw [if_pos h0] at h; cases h
  rw [if_neg h0] at h ⊢
  split at h
  · cases h
  · rename_i h2
    rw [if_neg h2]
    exact ⟨h0, rfl, rfl⟩
theorem double_fit {l m : List Star} (h : m.map (fun s => (s.xs, s.er)) = l.map (fun s => (s.xs, 2 * s.er))) (h1 : 1 ≤ termsN l) (h3 : termsN l ≤ 3) (hl : (fitF l).2 = 0) (hm : (fitF m).2 = 0) :
    (fitF l).1.1.length = termsN l ∧ (fitF m).1.1.length = termsN l ∧ ∀ (k : Nat) (a b : Int), (fitF l).1.1[k]? = some a → (fitF m).1.1[k]? = some b → 2 * a * (fitF m).1.2 = b * (fitF l).1.2 := by
  have hx : m.map Star.xs = l.map Star.xs := by
    have := congrArg (List.map Prod.fst) h
    rw [List.map_map, List.map_map] at this
    exact this
  have hT := termsN_congr hx
  obtain ⟨hM, hF⟩ := fitT_double h h1 h3
  obtain ⟨d0, a1, a2⟩ := fit_ok hl
  obtain ⟨e0, b1, b2⟩ := fit_ok hm
  rw [hT] at b1 b2 e0
  rw [a1, b1, a2, b2]
  have lenT : ∀ (x : List Star) (N : Nat), (fitT x N).length = N := by intro x N; simp [fitT]
  refine ⟨by simp [lenT], by simp [lenT], fun k a b ha hb => ?_⟩
  rw [List.getElem?_map] at ha hb
  rw [hF] at hb
  rw [List.getElem?_map] at hb
  cases hz : (fitT l (termsN l))[k]? with
  | none => rw [hz] at ha; cases ha
  | some z =>
    rw [hz] at ha hb
    simp only [Option.map_some, Option.some.injEq] at ha hb
    subst ha hb
    have mz : z ∈ fitT l (termsN l) := List.mem_of_getElem? hz
    have g1 := gcdF_dvd (fitT l (termsN l)) (detM (fitM l (termsN l)))
    have g2 := gcdF_dvd (fitT m (termsN l)) (detM (fitM m (termsN l)))
    have n1 := gcdF_nz (fitT l (termsN l)) _ d0
    have n2 := gcdF_nz (fitT m (termsN l)) _ e0
    have q1 : fitG l (termsN l) ∣ detM (fitM l (termsN l)) := g1.1
    have q2 : fitG l (termsN l) ∣ z := g1.2 z mz
    have q3 : fitG m (termsN l) ∣ detM (fitM m (termsN l)) := g2.1
    have q4 : fitG m (termsN l) ∣ 2 * z := g2.2 (2 * z) (by rw [hF]; exact List.mem_map.2 ⟨z, mz, rfl⟩)
    have n1 : fitG l (termsN l) ≠ 0 := n1
    have n2 : fitG m (termsN l) ≠ 0 := n2
    rw [hM] at q3 ⊢
    obtain ⟨x1, y1⟩ := q1
    obtain ⟨x2, y2⟩ := q2
    obtain ⟨x3, y3⟩ := q3
    obtain ⟨x4, y4⟩ := q4
    have c1 : z / fitG l (termsN l) = x2 := by rw [y2]; exact Int.mul_ediv_cancel_left _ n1
    have c2 : detM (fitM l (termsN l)) / fitG m (termsN l) = x3 := by rw [y3]; exact Int.mul_ediv_cancel_left _ n2
    have c3 : 2 * z / fitG m (termsN l) = x4 := by rw [y4]; exact Int.mul_ediv_cancel_left _ n2
    have c4 : detM (fitM l (termsN l)) / fitG l (termsN l) = x1 := by rw [y1]; exact Int.mul_ediv_cancel_left _ n1
    rw [c1, c2, c3, c4]
    -- 2 x2 x3 = x4 x1, after both sides were multiplied by g g'
    refine Int.eq_of_mul_eq_mul_left (Int.mul_ne_zero n1 n2) ?_
    have e1 : fitG l (termsN l) * fitG m (termsN l) * (2 * x2 * x3) = 2 * (fitG l (termsN l) * x2) * (fitG m (termsN l) * x3) := by grind
    have e2 : fitG l (termsN l) * fitG m (termsN l) * (x4 * x1) = (fitG m (termsN l) * x4) * (fitG l (termsN l) * x1) := by grind
    rw [e1, e2, ← y2, ← y3, ← y4, ← y1]
/-- The check of stars looks at shapes and errors alone. -/
theorem starErr_alike {s t : Star} (h : (s.xs, s.er) = (t.xs, t.er)) (n : Nat) : starErr n s = starErr n t := by
  have h1 : s.xs = t.xs := congrArg Prod.fst h
  have h2 : s.er = t.er := congrArg Prod.snd h
  unfold starErr
  rw [h1, h2]
theorem first_alike (N : Nat) : ∀ (S l : List Star) (i : Nat), S.map (fun s => (s.xs, s.er)) = l.map (fun s => (s.xs, s.er)) → firstStep (fun _ s => starErr N s) i S = firstStep (fun _ s => starErr N s) i l
  | [], [], _, _ => rfl
  | [], _ :: _, _, h => by simp at h
  | _ :: _, [], _, h => by simp at h
  | s :: S, t :: l, i, h => by
    have h1 : (s.xs, s.er) = (t.xs, t.er) := by
      have := (List.cons.inj (by simpa only [List.map_cons] using h)).1
      exact this
    have h2 := (List.cons.inj (by simpa only [List.map_cons] using h)).2
    have ih := first_alike N S l (i + 1) h2
    unfold firstStep
    rw [starErr_alike h1 N, ih]
theorem stars_alike {S l : List Star} {T E : Int} (h : S.map (fun s => (s.xs, s.er)) = l.map (fun s => (s.xs, s.er))) (hE : starsF l = (T, E)) : starsF S = (T, E) := by
  have hl : S.length = l.length := by simpa using congrArg List.length h
  have hx : S.map Star.xs = l.map Star.xs := by
    have := congrArg (List.map Prod.fst) h
    rw [List.map_map, List.map_map] at this
    exact this
  rw [← hE]
  unfold starsF
  rw [hl, termsN_congr hx, first_alike (termsN l) S l 0 h]
/-- The first k products of terms and shapes. -/
def dotP (ts xs : List Int) (k : Nat) : Int := (((ts.zip xs).take k).map fun p => p.1 * p.2).sum
theorem dotP_zero (ts xs : List Int) : dotP ts xs 0 = 0 := rfl
theorem dotP_succ {ts xs : List Int} {k : Nat} {a b : Int} (ha : ts[k]? = some a) (hb : xs[k]? = some b) : dotP ts xs (k + 1) = dotP ts xs k + a * b := by
  unfold dotP
  rw [List.take_add_one, show (ts.zip xs)[k]? = some (a, b) from List.getElem?_zip_eq_some.2 ⟨ha, hb⟩]
  simp
theorem dotP_in {ts xs : List Int} (ht : ∀ z ∈ ts, -3 ≤ z ∧ z ≤ 3) (hx : ∀ z ∈ xs, -100 ≤ z ∧ z ≤ 100) (k : Nat) : -(300 * (k : Int)) ≤ dotP ts xs k ∧ dotP ts xs k ≤ 300 * (k : Int) := by
  have h1 := sum_in 300 (by decide) (((ts.zip xs).take k).map fun p => p.1 * p.2) fun z hz => by
    obtain ⟨⟨a, b⟩, hp, rfl⟩ := List.mem_map.1 hz
    have hp := List.mem_of_mem_take hp
    obtain ⟨h1, h2⟩ := List.of_mem_zip hp
    have := mulb (ht a h1) (hx b h2) (by decide) (by decide)
    simp only
    omega
  have h2 : ((ts.zip xs).take k).length ≤ k := List.length_take_le _ _
  unfold dotP
  rw [List.length_map] at h1
  omega
theorem dotP_all {ts : List Int} {s : Star} (h : s.xs.length = ts.length) (h3 : ts.length ≤ 3) : dotP ts s.xs ts.length = dotS ts s := by
  obtain ⟨A, n, c, xs, er⟩ := s
  simp only at h
  unfold dotP dotS shp
  match ts, xs, h, h3 with
  | [], [], _, _ => simp
  | [a], [x], _, _ => simp
  | [a, b], [x, y], _, _ => simp
  | [a, b, d], [x, y, z], _, _ => simp; omega
end Go.Proofs.Ytgamepmipoociaa

end
