import Derived.Test.YtdidcpealabaiaaQ21
import Derived.Test.YtdidcpealabaiaaQ19

section
/- Determinants by the first row are those of the package's; no step of them leaves the numbers; the best model is accepted. -/
namespace Go.Proofs.Ytdidcpealabaiaa
open Go Go.RowKit

theorem detR_one (a : Int) : detR 1 [[a]] = a := by simp [detR, minorM, cut, sgn, List.range_succ]
theorem detR_two (a b c d : Int) : detR 2 [[a, b], [c, d]] = a * d - b * c := by
  simp [detR, minorM, cut, sgn, List.range_succ]
  grind
theorem detR_three (a b c d e f g h i : Int) : detR 3 [[a, b, c], [d, e, f], [g, h, i]] = a * (e * i - f * h) - b * (d * i - f * g) + c * (d * h - e * g) := by
  simp [detR, minorM, cut, sgn, List.range_succ]
  grind
theorem minor_two0 (a b c d : Int) : minorM 0 [[a, b], [c, d]] = [[d]] := rfl
theorem minor_two1 (a b c d : Int) : minorM 1 [[a, b], [c, d]] = [[c]] := rfl
theorem minor_three0 (a b c d e f g h i : Int) : minorM 0 [[a, b, c], [d, e, f], [g, h, i]] = [[e, f], [h, i]] := rfl
theorem minor_three1 (a b c d e f g h i : Int) : minorM 1 [[a, b, c], [d, e, f], [g, h, i]] = [[d, f], [g, i]] := rfl
theorem minor_three2 (a b c d e f g h i : Int) : minorM 2 [[a, b, c], [d, e, f], [g, h, i]] = [[d, e], [g, h]] := rfl
theorem ok_one {a : Int} (h : InB 1000000000000 a) : DetOk 1 [[a]] := by
  unfold InB at h
  intro c hc
  have hc : c < 1 := hc
  obtain rfl : c = 0 := by omega
  refine ⟨?_, ?_, ?_, trivial⟩
  · show InW (1 * a); unfold InW; omega
  · show InW (1 * a * 1); unfold InW; omega
  · rw [detTo_succ, detTo_zero]; show InW (0 + 1 * a * 1); unfold InW; omega
theorem ok_two {a b c d B0 B1 : Int} (ha : InB B0 a) (hb : InB B1 b) (hc : InB B0 c) (hd : InB B1 d) (h0 : 0 ≤ B0) (h1 : 0 ≤ B1) (k0 : B0 ≤ 1000000000000) (k1 : B1 ≤ 1000000000000) (hB : B0 * B1 ≤ 1000000000000) : DetOk 2 [[a, b], [c, d]] := by
  have p1 := mulb ha hd h0 h1
  have p2 := mulb hc hb h0 h1
  have e1 : b * c = c * b := Int.mul_comm _ _
  have t1 : detTo 1 [[a, b], [c, d]] 1 = a * d := by rw [detTo_succ, detTo_zero, minor_two0, detR_one]; show 0 + 1 * a * d = _; grind
  have t2 : detTo 1 [[a, b], [c, d]] 2 = a * d - c * b := by rw [detTo_succ, t1, minor_two1, detR_one]; show a * d + -1 * b * c = _; grind
  unfold InB at ha hb hc hd
  intro k hk
  have hk : k < 2 := hk
  rcases (show k = 0 ∨ k = 1 by omega) with rfl | rfl
  · refine ⟨?_, ?_, ?_, ?_⟩
    · show InW (1 * a); unfold InW; omega
    · rw [minor_two0, detR_one]; show InW (1 * a * d); rw [Int.one_mul]; unfold InW; omega
    · rw [t1]; unfold InW; omega
    · rw [minor_two0]; exact ok_one (by unfold InB; omega)
  · refine ⟨?_, ?_, ?_, ?_⟩
    · show InW (-1 * b); unfold InW; omega
    · rw [minor_two1, detR_one]; show InW (-1 * b * c); rw [show -1 * b * c = -(c * b) by grind]; unfold InW; omega
    · rw [t2]; unfold InW; omega
    · rw [minor_two1]; exact ok_one (by unfold InB; omega)
theorem ok_three {a b c d e f g h i B0 B1 B2 : Int} (ha : InB B0 a) (hb : InB B1 b) (hc : InB B2 c) (hd : InB B0 d) (he : InB B1 e) (hf : InB B2 f) (hg : InB B0 g) (hh : InB B1 h) (hi : InB B2 i)
    (h0 : 0 ≤ B0) (h1 : 0 ≤ B1) (h2 : 0 ≤ B2) (k0 : B0 ≤ 1000000000000) (k1 : B1 ≤ 1000000000000) (k2 : B2 ≤ 1000000000000) (h01 : B0 * B1 ≤ 1000000000000) (h02 : B0 * B2 ≤ 1000000000000) (h12 : B1 * B2 ≤ 1000000000000)
    (hA : B0 * (2 * (B1 * B2)) ≤ 1000000000000000000) (hB : B1 * (2 * (B0 * B2)) ≤ 1000000000000000000) (hC : B2 * (2 * (B0 * B1)) ≤ 1000000000000000000) : DetOk 3 [[a, b, c], [d, e, f], [g, h, i]] := by
  have p1 := mulb he hi h1 h2
  have p2 := mulb hh hf h1 h2
  have p3 := mulb hd hi h0 h2
  have p4 := mulb hg hf h0 h2
  have p5 := mulb hd hh h0 h1
  have p6 := mulb hg he h0 h1
  have m1 : InB (2 * (B1 * B2)) (e * i - f * h) := by have : f * h = h * f := Int.mul_comm _ _; unfold InB; omega
  have m2 : InB (2 * (B0 * B2)) (d * i - f * g) := by have : f * g = g * f := Int.mul_comm _ _; unfold InB; omega
  have m3 : InB (2 * (B0 * B1)) (d * h - e * g) := by have : e * g = g * e := Int.mul_comm _ _; unfold InB; omega
  have n12 : 0 ≤ B1 * B2 := Int.mul_nonneg h1 h2
  have n02 : 0 ≤ B0 * B2 := Int.mul_nonneg h0 h2
  have n01 : 0 ≤ B0 * B1 := Int.mul_nonneg h0 h1
  have r1 := mulb ha m1 h0 (by omega)
  have r2 := mulb hb m2 h1 (by omega)
  have r3 := mulb hc m3 h2 (by omega)
  have d1 : detR 2 [[e, f], [h, i]] = e * i - f * h := detR_two ..
  have d2 : detR 2 [[d, f], [g, i]] = d * i - f * g := detR_two ..
  have d3 : detR 2 [[d, e], [g, h]] = d * h - e * g := detR_two ..
  have t1 : detTo 2 [[a, b, c], [d, e, f], [g, h, i]] 1 = a * (e * i - f * h) := by rw [detTo_succ, detTo_zero, minor_three0, d1]; show 0 + 1 * a * (e * i - f * h) = _; rw [Int.one_mul, Int.zero_add]
  have t2 : detTo 2 [[a, b, c], [d, e, f], [g, h, i]] 2 = a * (e * i - f * h) - b * (d * i - f * g) := by rw [detTo_succ, t1, minor_three1, d2]; show _ + -1 * b * (d * i - f * g) = _; grind
  have t3 : detTo 2 [[a, b, c], [d, e, f], [g, h, i]] 3 = a * (e * i - f * h) - b * (d * i - f * g) + c * (d * h - e * g) := by rw [detTo_succ, t2, minor_three2, d3]; show _ + 1 * c * (d * h - e * g) = _; rw [Int.one_mul]
  intro k hk
  have hk : k < 3 := hk
  rcases (show k = 0 ∨ k = 1 ∨ k = 2 by omega) with rfl | rfl | rfl
  · refine ⟨?_, ?_, ?_, ?_⟩
    · show InW (1 * a); unfold InB at ha; unfold InW; omega
    · rw [minor_three0, d1]; show InW (1 * a * _); rw [Int.one_mul]; unfold InW; omega
    · rw [t1]; unfold InW; omega
    · rw [minor_three0]; exact ok_two he hf hh hi h1 h2 k1 k2 h12
  · refine ⟨?_, ?_, ?_, ?_⟩
    · show InW (-1 * b); unfold InB at hb; unfold InW; omega
    · rw [minor_three1, d2]; show InW (-1 * b * _); rw [show -1 * b * (d * i - f * g) = -(b * (d * i - f * g)) by grind]; unfold InW; omega
    · rw [t2]; unfold InW; omega
    · rw [minor_three1]; exact ok_two hd hf hg hi h0 h2 k0 k2 h02
  · refine ⟨?_, ?_, ?_, ?_⟩
    · show InW (1 * c); unfold InB at hc; unfold InW; omega
    · rw [minor_three2, d3]; show InW (1 * c * _); rw [Int.one_mul]; unfold InW; omega
    · rw [t3]; unfold InW; omega
    · rw [minor_three2]; exact ok_two hd he hg hh h0 h1 k0 k1 h01

/-- Column k of a matrix is replaced. -/
def colSet (k : Nat) (M : List (List Int)) (R : List Int) : List (List Int) := M.mapIdx fun i r => r.set k (R.getD i 0)

/-- The matrix of right stars, and with a column replaced: determinants and steps. -/
theorem nrm_b {l : List Star} {N : Nat} (h : ∀ s ∈ l, starErr N s = 0) (hl : l.length ≤ 20) (i k : Nat) : InB 200000 (nrm l i k) := by
  have := nrm_in h l.length i k
  rw [nrmTo_all] at this
  unfold InB
  omega
theorem rgt_b {l : List Star} {N : Nat} (h : ∀ s ∈ l, starErr N s = 0) (hl : l.length ≤ 20) (i : Nat) : InB 2000000 (rgt l i) := by
  have := rgt_in h l.length i
  rw [rgtTo_all] at this
  unfold InB
  omega
theorem nrm_big {l : List Star} {i k : Nat} (h : InB 200000 (nrm l i k)) : InB 1000000000000 (nrm l i k) := by unfold InB at *; omega
theorem star_det {l : List Star} {N : Nat} (h1 : 1 ≤ N) (h3 : N ≤ 3) (h : ∀ s ∈ l, starErr N s = 0) (hl : l.length ≤ 20) : detR N (fitM l N) = detM (fitM l N) ∧ DetOk N (fitM l N) := by
  have b := nrm_b h hl
  rcases (show N = 1 ∨ N = 2 ∨ N = 3 by omega) with rfl | rfl | rfl
  · rw [fitM_one, detR_one]
    exact ⟨rfl, ok_one (nrm_big (b 0 0))⟩
  · rw [fitM_two, detR_two]
    exact ⟨by unfold detM det2E; grind, ok_two (b _ _) (b _ _) (b _ _) (b _ _) (by decide) (by decide) (by decide) (by decide) (by decide)⟩
  · rw [fitM_three, detR_three]
    exact ⟨by unfold detM det3E; grind, ok_three (b _ _) (b _ _) (b _ _) (b _ _) (b _ _) (b _ _) (b _ _) (b _ _) (b _ _) (by decide) (by decide) (by decide) (by decide) (by decide) (by decide) (by decide) (by decide) (by decide) (by decide) (by decide) (by decide)⟩
theorem star_det_at {l : List Star} {N p : Nat} (h1 : 1 ≤ N) (h3 : N ≤ 3) (hp : p < N) (h : ∀ s ∈ l, starErr N s = 0) (hl : l.length ≤ 20) : detR N (colSet p (fitM l N) (rgtL l N)) = detM ((fitM l N).set p (rgtL l N)) ∧ DetOk N (colSet p (fitM l N) (rgtL l N)) := by
  have b := nrm_b h hl
  have r := rgt_b h hl
  rcases (show N = 1 ∨ N = 2 ∨ N = 3 by omega) with rfl | rfl | rfl
  · obtain rfl : p = 0 := by omega
    rw [fitM_one, rgtL_one]
    show detR 1 [[rgt l 0]] = detM [[rgt l 0]] ∧ DetOk 1 [[rgt l 0]]
    rw [detR_one]
    exact ⟨rfl, ok_one (by have := r 0; unfold InB at *; omega)⟩
  · rw [fitM_two, rgtL_two]
    have s := nrm_sym l 1 0
    rcases (show p = 0 ∨ p = 1 by omega) with rfl | rfl
    · show detR 2 [[rgt l 0, nrm l 0 1], [rgt l 1, nrm l 1 1]] = detM [[rgt l 0, rgt l 1], [nrm l 1 0, nrm l 1 1]] ∧ DetOk 2 [[rgt l 0, nrm l 0 1], [rgt l 1, nrm l 1 1]]
      rw [detR_two]
      exact ⟨by unfold detM det2E; rw [s], ok_two (r _) (b _ _) (r _) (b _ _) (by decide) (by decide) (by decide) (by decide) (by decide)⟩
    · show detR 2 [[nrm l 0 0, rgt l 0], [nrm l 1 0, rgt l 1]] = detM [[nrm l 0 0, nrm l 0 1], [rgt l 0, rgt l 1]] ∧ DetOk 2 [[nrm l 0 0, rgt l 0], [nrm l 1 0, rgt l 1]]
      rw [detR_two]
      exact ⟨by unfold detM det2E; rw [s], ok_two (b _ _) (r _) (b _ _) (r _) (by decide) (by decide) (by decide) (by decide) (by decide)⟩
  · rw [fitM_three, rgtL_three]
    have s1 := nrm_sym l 1 0
    have s2 := nrm_sym l 2 0
    have s3 := nrm_sym l 2 1
    rcases (show p = 0 ∨ p = 1 ∨ p = 2 by omega) with rfl | rfl | rfl
    · show detR 3 [[rgt l 0, nrm l 0 1, nrm l 0 2], [rgt l 1, nrm l 1 1, nrm l 1 2], [rgt l 2, nrm l 2 1, nrm l 2 2]] = detM [[rgt l 0, rgt l 1, rgt l 2], [nrm l 1 0, nrm l 1 1, nrm l 1 2], [nrm l 2 0, nrm l 2 1, nrm l 2 2]] ∧ DetOk 3 [[rgt l 0, nrm l 0 1, nrm l 0 2], [rgt l 1, nrm l 1 1, nrm l 1 2], [rgt l 2, nrm l 2 1, nrm l 2 2]]
      rw [detR_three]
      exact ⟨by unfold detM det3E; rw [s1, s2, s3], ok_three (r _) (b _ _) (b _ _) (r _) (b _ _) (b _ _) (r _) (b _ _) (b _ _) (by decide) (by decide) (by decide) (by decide) (by decide) (by decide) (by decide) (by decide) (by decide) (by decide) (by decide) (by decide)⟩
    · show detR 3 [[nrm l 0 0, rgt l 0, nrm l 0 2], [nrm l 1 0, rgt l 1, nrm l 1 2], [nrm l 2 0, rgt l 2, nrm l 2 2]] = detM [[nrm l 0 0, nrm l 0 1, nrm l 0 2], [rgt l 0, rgt l 1, rgt l 2], [nrm l 2 0, nrm l 2 1, nrm l 2 2]] ∧ DetOk 3 [[nrm l 0 0, rgt l 0, nrm l 0 2], [nrm l 1 0, rgt l 1, nrm l 1 2], [nrm l 2 0, rgt l 2, nrm l 2 2]]
      rw [detR_three]
      exact ⟨by unfold detM det3E; rw [s1, s2, s3], ok_three (b _ _) (r _) (b _ _) (b _ _) (r _) (b _ _) (b _ _) (r _) (b _ _) (by decide) (by decide) (by decide) (by decide) (by decide) (by decide) (by decide) (by decide) (by decide) (by decide) (by decide) (by decide)⟩
    · show detR 3 [[nrm l 0 0, nrm l 0 1, rgt l 0], [nrm l 1 0, nrm l 1 1, rgt l 1], [nrm l 2 0, nrm l 2 1, rgt l 2]] = detM [[nrm l 0 0, nrm l 0 1, nrm l 0 2], [nrm l 1 0, nrm l 1 1, nrm l 1 2], [rgt l 0, rgt l 1, rgt l 2]] ∧ DetOk 3 [[nrm l 0 0, nrm l 0 1, rgt l 0], [nrm l 1 0, nrm l 1 1, rgt l 1], [nrm l 2 0, nrm l 2 1, rgt l 2]]
      rw [detR_three]
      exact ⟨by unfold detM det3E; rw [s1, s2, s3], ok_three (b _ _) (b _ _) (r _) (b _ _) (b _ _) (r _) (b _ _) (b _ _) (r _) (by decide) (by decide) (by decide) (by decide) (by decide) (by decide) (by decide) (by decide) (by decide) (by decide) (by decide) (by decide)⟩

theorem gcdF_div {g : Int} (hg : 0 < g) : ∀ (l : List Int) (d : Int), g ∣ d → (∀ z ∈ l, g ∣ z) → gcdF (d / g) (l.map (· / g)) * g = gcdF d l
  | [], d, hd, _ => Int.ediv_mul_cancel hd
  | z :: r, d, hd, h => by
    have hz := h z (by simp)
    have ih := gcdF_div hg r (Int.gcd d z : Int) (Int.dvd_coe_gcd hd hz) fun x hx => h x (by simp [hx])
    have e : (Int.gcd (d / g) (z / g) : Int) = (Int.gcd d z : Int) / g := by
      rw [Int.gcd_ediv hd hz]
      have : (g.natAbs : Int) = g := by omega
      rw [Int.natCast_ediv, this]
    show gcdF (Int.gcd (d / g) (z / g) : Int) (r.map (· / g)) * g = gcdF (Int.gcd d z : Int) r
    rw [e, ih]
theorem chk_lin (T : List Int) (D : Int) (k : Nat) (h3 : T.length ≤ 3) : ∀ (l : List Star), (∀ s ∈ l, s.xs.length = T.length) → (l.map (chkS T D k)).sum = D * rgt l k - (T.getD 0 0 * nrm l k 0 + T.getD 1 0 * nrm l k 1 + T.getD 2 0 * nrm l k 2)
  | [], _ => by simp [rgt, nrm]
  | s :: l, h => by
    have ih := chk_lin T D k h3 l fun x hx => h x (by simp [hx])
    have hd : dotTo T s.xs T.length = dotS T s := dotP_all (h s (by simp)) h3
    rw [List.map_cons, List.sum_cons, ih, rgt_cons, nrm_cons, nrm_cons, nrm_cons]
    unfold chkS
    rw [hd]
    unfold dotS
    grind
theorem cramer {l : List Star} {N k : Nat} (h1 : 1 ≤ N) (h3 : N ≤ 3) (hk : k < N) : detM (fitM l N) * rgt l k = (fitT l N).getD 0 0 * nrm l k 0 + (fitT l N).getD 1 0 * nrm l k 1 + (fitT l N).getD 2 0 * nrm l k 2 := by
  rcases (show N = 1 ∨ N = 2 ∨ N = 3 by omega) with rfl | rfl | rfl
  · obtain rfl : k = 0 := by omega
    simp [fitT, fitM_one, rgtL_one, List.range_succ, detM]
    grind
  · have s := nrm_sym l 1 0
    rcases (show k = 0 ∨ k = 1 by omega) with rfl | rfl
    · simp [fitT, fitM_two, rgtL_two, List.range_succ, detM, det2E]
      rw [s]
      grind
    · simp [fitT, fitM_two, rgtL_two, List.range_succ, detM, det2E]
      rw [s]
      grind
  · have s1 := nrm_sym l 1 0
    have s2 := nrm_sym l 2 0
    have s3 := nrm_sym l 2 1
    rcases (show k = 0 ∨ k = 1 ∨ k = 2 by omega) with rfl | rfl | rfl
    · simp [fitT, fitM_three, rgtL_three, List.range_succ, detM, det3E]
      rw [s1, s2, s3]
      grind
    · simp [fitT, fitM_three, rgtL_three, List.range_succ, detM, det3E]
      rw [s1, s2, s3]
      grind
    · simp [fitT, fitM_three, rgtL_three, List.range_succ, detM, det3E]
      rw [s1, s2, s3]
      grind

theorem div_get {g : Int} {t : List Int} (h : ∀ z ∈ t, g ∣ z) (i : Nat) : (t.map (· / g)).getD i 0 * g = t.getD i 0 := by
  rw [List.getD_eq_getElem?_getD, List.getD_eq_getElem?_getD, List.getElem?_map]
  cases hi : t[i]? with
  | none => simp
  | some z => simp only [Option.map_some, Option.getD_some]; exact Int.ediv_mul_cancel (h z (List.mem_of_getElem? hi))
theorem fit_accepted {l : List Star} {T : List Int} {D : Int} (hE : (starsF l).2 = 0) (hf : fitF l = ((T, D), 0)) : T.length = termsN l ∧ mdlErr T D = 0 ∧ chkErr l T D = 0 := by
  obtain ⟨⟨N0, E0⟩, hS⟩ : ∃ z, starsF l = z := ⟨_, rfl⟩
  have hE0 : E0 = 0 := by rw [hS] at hE; exact hE
  obtain ⟨s1, s2, s3, s4⟩ := stars_right hS hE0
  obtain ⟨s0, hs0⟩ := List.exists_mem_of_length_pos (show 0 < l.length by omega)
  obtain ⟨-, n1, n3, -⟩ := star_right (s4 s0 hs0)
  obtain ⟨N, hN⟩ : ∃ N, termsN l = N := ⟨_, rfl⟩
  rw [hN] at s4 n1 n3
  obtain ⟨k0, k1, k2⟩ := fit_ok (l := l) (by rw [hf])
  rw [hf, hN] at k1 k2
  rw [hN] at k0
  simp only at k1 k2
  have hp : 0 < detM (fitM l N) := by have := gram_nonneg l n1 n3; omega
  have hsm : smallL 1000000000000 (D :: T) = true := by
    unfold fitF at hf
    rw [hN, if_neg k0] at hf
    split at hf
    · exact absurd (Prod.mk.inj hf).2 (by decide)
    · rename_i h2
      rw [← k1, ← k2] at h2
      simpa using h2
  obtain ⟨g, hg⟩ : ∃ g, fitG l N = g := ⟨_, rfl⟩
  rw [hg] at k1 k2
  have hgd : gcdF (detM (fitM l N)) (fitT l N) = g := hg
  have hgi := gcdF_in (fitT l N) (detM (fitM l N)) (by omega)
  have hgv := gcdF_dvd (fitT l N) (detM (fitM l N))
  rw [hgd] at hgi hgv
  have hg0 : 0 < g := by omega
  have hTl : T.length = N := by rw [k1]; simp [fitT]
  have hDg : D * g = detM (fitM l N) := by rw [k2]; exact Int.ediv_mul_cancel hgv.1
  have hD1 : 1 ≤ D := by rw [k2]; exact Int.ediv_pos_of_pos_of_dvd hp (by omega) hgv.1
  have hsm' := List.all_eq_true.1 hsm
  have hD2 := (withinB_iff _ _ _).1 (hsm' D (by simp))
  have hTs : smallL 1000000000000 T = true := List.all_eq_true.2 fun z hz => hsm' z (by simp [hz])
  have hgc : gcdF D T = 1 := by
    have h := gcdF_div hg0 (fitT l N) (detM (fitM l N)) hgv.1 hgv.2
    rw [← k1, ← k2, hgd] at h
    have h2 : (gcdF D T - 1) * g = 0 := by rw [Int.sub_mul, h]; omega
    rcases Int.mul_eq_zero.1 h2 with h3 | h3
    · omega
    · omega
  have hm : mdlErr T D = 0 := by
    unfold mdlErr
    rw [if_neg (by rw [hTl, show withinB (N : Int) 1 3 = true from (withinB_iff _ _ _).2 ⟨by omega, by omega⟩]; simp), if_neg (by rw [hTs, show withinB D 1 1000000000000 = true from (withinB_iff _ _ _).2 ⟨hD1, hD2.2⟩]; simp), if_neg (by rw [hgc]; simp)]
  refine ⟨by rw [hTl, hN], hm, ?_⟩
  unfold chkErr
  rw [hS, hm]
  simp only
  rw [if_neg (by rw [hE0]; simp), if_neg (by simp)]
  unfold fitErr
  rw [hN, if_neg (by rw [hTl]; simp), if_pos]
  intro k hk
  unfold chkTo
  rw [List.take_length, chk_lin T D k (by omega) l (fun s hs => by rw [hTl]; exact (star_right (s4 s hs)).1)]
  have c := cramer (l := l) n1 n3 (show k < N by omega)
  have a0 := div_get hgv.2 0
  have a1 := div_get hgv.2 1
  have a2 := div_get hgv.2 2
  rw [← k1] at a0 a1 a2
  rw [← hDg, ← a0, ← a1, ← a2] at c
  have h2 : (D * rgt l k - (T.getD 0 0 * nrm l k 0 + T.getD 1 0 * nrm l k 1 + T.getD 2 0 * nrm l k 2)) * g = 0 := by grind
  rcases Int.mul_eq_zero.1 h2 with h3 | h3
  · exact h3
  · omega
end Go.Proofs.Ytdidcpealabaiaa

end
