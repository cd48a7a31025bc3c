/- Contracts of the rounded divisions, and of the product of two fractions that may have great parts. -/
import Derived.Test.YtmioamcgbihhjaaMeet
import Derived.Test.YtmioamcgbihhjaaMm
namespace Go.Proofs.Ytmioamcgbihhjaa
open Go.RowKit

theorem floor_eq {a b : Int} (hb : 1 ≤ b) : (if a.tmod b < 0 then a.tdiv b - 1 else a.tdiv b) = a / b := by
  have h1 := Int.emod_nonneg a (show b ≠ 0 by omega)
  have h2 := Int.emod_lt_of_pos a (show 0 < b by omega)
  have e1 := Int.mul_ediv_add_emod a b
  have e2 := Int.mul_tdiv_add_tmod a b
  have h3 : (a.tmod b).natAbs < b.natAbs := tmod_lt a b (by omega)
  obtain ⟨q, hq⟩ : ∃ q, a / b = q := ⟨_, rfl⟩
  obtain ⟨r, hr⟩ : ∃ r, a % b = r := ⟨_, rfl⟩
  obtain ⟨p, hp⟩ : ∃ p, a.tdiv b = p := ⟨_, rfl⟩
  obtain ⟨s, hs⟩ : ∃ s, a.tmod b = s := ⟨_, rfl⟩
  rw [hq, hr] at e1
  rw [hp, hs] at e2
  rw [hs] at h3 ⊢
  rw [hp, hq]
  have key : ∀ k : Int, b * k < b → -b < b * k → k = 0 := by
    intro k k1 k2
    rcases Int.lt_trichotomy k 0 with h | h | h
    · have := Int.mul_le_mul_of_nonneg_left (show k ≤ -1 by omega) (show 0 ≤ b by omega)
      omega
    · exact h
    · have := Int.mul_le_mul_of_nonneg_left (show 1 ≤ k by omega) (show 0 ≤ b by omega)
      omega
  split
  · have := key (p - 1 - q) (by rw [Int.mul_sub, Int.mul_sub]; omega) (by rw [Int.mul_sub, Int.mul_sub]; omega)
    omega
  · rename_i h
    by_cases ha : a.tmod b < 0
    · omega
    · have := key (p - q) (by rw [Int.mul_sub]; omega) (by rw [Int.mul_sub]; omega)
      omega

theorem floor_in {a b : Int} (hb : 1 ≤ b) (h1 : -4000000000000000000 ≤ a) (h2 : a ≤ 4000000000000000000) : -4000000000000000001 ≤ a / b ∧ a / b ≤ 4000000000000000001 ∧ -4000000000000000001 ≤ a.tdiv b ∧ a.tdiv b ≤ 4000000000000000001 := by
  have hq : (a.tdiv b).natAbs ≤ a.natAbs := by rw [Int.natAbs_tdiv]; exact Nat.div_le_self _ _
  have e := floor_eq (a := a) hb
  split at e <;> omega

theorem floorsup_any (a b : Int) (w : World) (h1 : -4000000000000000000 ≤ a) (h2 : a ≤ 4000000000000000000) (h3 : 1 ≤ b) (h4 : b ≤ 9223372036854775807) :
    Calls Try.prog 98 #[.int .i64 a, .int .i64 b] w fun e w' => e = .returned (.int .i64 (a / b)) ∧ w = w' := by
  have b0 : ¬ b = 0 := by omega
  have he := floor_eq (a := a) h3
  obtain ⟨f1, f2, f3, f4⟩ := floor_in (a := a) h3 h1 h2
  have hm := tmod_in a b (by omega) h4 b0
  obtain ⟨q, hq⟩ : ∃ q, a.tdiv b = q := ⟨_, rfl⟩
  obtain ⟨r, hr⟩ : ∃ r, a.tmod b = r := ⟨_, rfl⟩
  rw [hq] at f3 f4 he
  rw [hr] at he hm
  have v1 := IntWalk.i64_in q ⟨by omega, by omega⟩
  have v2 := IntWalk.i64_in (q - 1) ⟨by omega, by omega⟩
  have v3 := IntWalk.i64_in r hm
  have HE := Lib.hid he
  clear he
  by_cases hneg : r < 0
  · have hv : a / b = q - 1 := by rw [← HE.out, if_pos hneg]
    have HV := Lib.hid hv
    clear hv
    go_enter Try.func98, Try.ntmps98
    go_wp2
    go_ret
    exact ⟨ret_int HV.out.symm, rfl⟩
  · have hv : a / b = q := by rw [← HE.out, if_neg hneg]
    have HV := Lib.hid hv
    clear hv
    go_enter Try.func98, Try.ntmps98
    go_wp2
    go_ret
    exact ⟨ret_int HV.out.symm, rfl⟩

theorem floorref_any (a b : Int) (w : World) (h1 : -4000000000000000000 ≤ a) (h2 : a ≤ 4000000000000000000) (h3 : 1 ≤ b) (h4 : b ≤ 9223372036854775807) :
    Calls Try.prog 101 #[.int .i64 a, .int .i64 b] w fun e w' => e = .returned (.int .i64 (a / b)) ∧ w = w' := by
  have b0 : ¬ b = 0 := by omega
  have he := floor_eq (a := a) h3
  obtain ⟨f1, f2, f3, f4⟩ := floor_in (a := a) h3 h1 h2
  have hm := tmod_in a b (by omega) h4 b0
  obtain ⟨q, hq⟩ : ∃ q, a.tdiv b = q := ⟨_, rfl⟩
  obtain ⟨r, hr⟩ : ∃ r, a.tmod b = r := ⟨_, rfl⟩
  rw [hq] at f3 f4 he
  rw [hr] at he hm
  have v1 := IntWalk.i64_in q ⟨by omega, by omega⟩
  have v2 := IntWalk.i64_in (q - 1) ⟨by omega, by omega⟩
  have v3 := IntWalk.i64_in r hm
  have HE := Lib.hid he
  clear he
  by_cases hneg : r < 0
  · have hv : a / b = q - 1 := by rw [← HE.out, if_pos hneg]
    have HV := Lib.hid hv
    clear hv
    go_enter Try.func101, Try.ntmps101
    go_wp2
    go_ret
    exact ⟨ret_int HV.out.symm, rfl⟩
  · have hv : a / b = q := by rw [← HE.out, if_neg hneg]
    have HV := Lib.hid hv
    clear hv
    go_enter Try.func101, Try.ntmps101
    go_wp2
    go_ret
    exact ⟨ret_int HV.out.symm, rfl⟩

theorem ceilsup_any (a b : Int) (w : World) (h1 : -4000000000000000000 ≤ a) (h2 : a ≤ 4000000000000000000) (h3 : 1 ≤ b) (h4 : b ≤ 9223372036854775807) :
    Calls Try.prog 99 #[.int .i64 a, .int .i64 b] w fun e w' => e = .returned (.int .i64 (-((-a) / b))) ∧ w = w' := by
  obtain ⟨f1, f2, f3, f4⟩ := floor_in (a := -a) h3 (by omega) (by omega)
  have v1 := IntWalk.i64_in (-a) ⟨by omega, by omega⟩
  obtain ⟨q, hq⟩ : ∃ q, (-a) / b = q := ⟨_, rfl⟩
  have HQ := Lib.hid hq
  rw [hq] at f1 f2
  rw [hq]
  clear hq
  have v2 := IntWalk.i64_in (-q) ⟨by omega, by omega⟩
  go_enter Try.func99, Try.ntmps99
  go_wp2_with fail
  refine (floorsup_any (-a) b _ (by omega) (by omega) h3 h4).mono ?_
  rintro e w' ⟨rfl, rfl⟩
  rw [HQ.out]
  go_wp2
  go_ret
  exact ⟨rfl, rfl⟩

theorem ceilref_any (a b : Int) (w : World) (h1 : -4000000000000000000 ≤ a) (h2 : a ≤ 4000000000000000000) (h3 : 1 ≤ b) (h4 : b ≤ 9223372036854775807) :
    Calls Try.prog 102 #[.int .i64 a, .int .i64 b] w fun e w' => e = .returned (.int .i64 (-((-a) / b))) ∧ w = w' := by
  obtain ⟨f1, f2, f3, f4⟩ := floor_in (a := -a) h3 (by omega) (by omega)
  have v1 := IntWalk.i64_in (-a) ⟨by omega, by omega⟩
  obtain ⟨q, hq⟩ : ∃ q, (-a) / b = q := ⟨_, rfl⟩
  have HQ := Lib.hid hq
  rw [hq] at f1 f2
  rw [hq]
  clear hq
  have v2 := IntWalk.i64_in (-q) ⟨by omega, by omega⟩
  go_enter Try.func102, Try.ntmps102
  go_wp2_with fail
  refine (floorref_any (-a) b _ (by omega) (by omega) h3 h4).mono ?_
  rintro e w' ⟨rfl, rfl⟩
  rw [HQ.out]
  go_wp2
  go_ret
  exact ⟨rfl, rfl⟩

/-- The product of two fractions whose parts are above 0, each taken against the other. -/
def timesF (a b c d : Int) : (Int × Int) × Bool :=
  if 1000000000 < a / (Int.gcd a d : Int) * (c / (Int.gcd c b : Int)) ∨ 1000000000 < b / (Int.gcd c b : Int) * (d / (Int.gcd a d : Int)) then ((0, 0), false)
  else ((a / (Int.gcd a d : Int) * (c / (Int.gcd c b : Int)), b / (Int.gcd c b : Int) * (d / (Int.gcd a d : Int))), true)

theorem most_div {p q : Int} (hq : 1 ≤ q) : ((1000000000 : Int).tdiv q < p) ↔ 1000000000 < p * q := by
  rw [Int.tdiv_eq_ediv_of_nonneg (by decide)]
  exact Int.ediv_lt_iff_lt_mul (by omega)

theorem div_gcd_pos {a b : Int} (ha : 1 ≤ a) (hb : 1 ≤ b) : 1 ≤ (Int.gcd a b : Int) ∧ 1 ≤ a / (Int.gcd a b : Int) ∧ a / (Int.gcd a b : Int) ≤ a ∧ 1 ≤ b / (Int.gcd a b : Int) ∧ b / (Int.gcd a b : Int) ≤ b := by
  have hp : 0 < Int.gcd a b := Int.gcd_pos_of_ne_zero_right a (by omega)
  have a1 : 0 < a / (Int.gcd a b : Int) := Int.ediv_pos_of_pos_of_dvd (by omega) (by omega) (Int.gcd_dvd_left a b)
  have a2 : 0 < b / (Int.gcd a b : Int) := Int.ediv_pos_of_pos_of_dvd (by omega) (by omega) (Int.gcd_dvd_right a b)
  have b1 : a / (Int.gcd a b : Int) ≤ a := Int.ediv_le_self _ (by omega)
  have b2 : b / (Int.gcd a b : Int) ≤ b := Int.ediv_le_self _ (by omega)
  omega

set_option maxRecDepth 100000 in
set_option maxHeartbeats 2000000 in
theorem times_any (a b c d x y : Int) (t : Bool) (ht : timesF a b c d = ((x, y), t)) (w : World) (a1 : 1 ≤ a) (a2 : a ≤ 2000000000000) (b1 : 1 ≤ b) (b2 : b ≤ 2000000000000) (c1 : 1 ≤ c) (c2 : c ≤ 2000000000000) (d1 : 1 ≤ d) (d2 : d ≤ 2000000000000) :
    Calls Try.prog 97 #[.agg #[.int .i64 a, .int .i64 b], .agg #[.int .i64 c, .int .i64 d]] w fun e w' => e = .returned (.tuple #[.agg #[.int .i64 x, .int .i64 y], .bool t]) ∧ Below w.heap.size w w' := by
  obtain ⟨g1, p1, p2, s1, s2⟩ := div_gcd_pos a1 d1
  obtain ⟨h1, q1, q2, r1, r2⟩ := div_gcd_pos c1 b1
  have ea := tdiv_gcd_left a d
  have ed := tdiv_gcd_right a d
  have ec := tdiv_gcd_left c b
  have eb := tdiv_gcd_right c b
  unfold timesF at ht
  have HG := Lib.hid (gcd_ret a d)
  have HH := Lib.hid (gcd_ret c b)
  obtain ⟨G, hG⟩ : ∃ G, (Int.gcd a d : Int) = G := ⟨_, rfl⟩
  obtain ⟨H, hH⟩ : ∃ H, (Int.gcd c b : Int) = H := ⟨_, rfl⟩
  rw [hG] at g1 p1 p2 s1 s2 ea ed ht
  rw [hH] at h1 q1 q2 r1 r2 ec eb ht
  have HGE := Lib.hid hG
  have HHE := Lib.hid hH
  clear hG hH
  obtain ⟨P1, hP1⟩ : ∃ P1, a / G = P1 := ⟨_, rfl⟩
  obtain ⟨P2, hP2⟩ : ∃ P2, b / H = P2 := ⟨_, rfl⟩
  obtain ⟨Q1, hQ1⟩ : ∃ Q1, c / H = Q1 := ⟨_, rfl⟩
  obtain ⟨Q2, hQ2⟩ : ∃ Q2, d / G = Q2 := ⟨_, rfl⟩
  rw [hP1] at p1 p2 ea ht
  rw [hP2] at r1 r2 eb ht
  rw [hQ1] at q1 q2 ec ht
  rw [hQ2] at s1 s2 ed ht
  clear hP1 hP2 hQ1 hQ2
  have G0 : ¬ G = 0 := by omega
  have H0 : ¬ H = 0 := by omega
  have w1 := IntWalk.i64_in P1 ⟨by omega, by omega⟩
  have w2 := IntWalk.i64_in P2 ⟨by omega, by omega⟩
  have w3 := IntWalk.i64_in Q1 ⟨by omega, by omega⟩
  have w4 := IntWalk.i64_in Q2 ⟨by omega, by omega⟩
  obtain ⟨D1, hD1⟩ : ∃ D1, (1000000000 : Int).tdiv Q1 = D1 := ⟨_, rfl⟩
  obtain ⟨D2, hD2⟩ : ∃ D2, (1000000000 : Int).tdiv Q2 = D2 := ⟨_, rfl⟩
  have hd1 : 0 ≤ D1 ∧ D1 ≤ 1000000000 := by rw [← hD1, Int.tdiv_eq_ediv_of_nonneg (by decide)]; exact ⟨Int.ediv_nonneg (by decide) (by omega), Int.ediv_le_self _ (by decide)⟩
  have hd2 : 0 ≤ D2 ∧ D2 ≤ 1000000000 := by rw [← hD2, Int.tdiv_eq_ediv_of_nonneg (by decide)]; exact ⟨Int.ediv_nonneg (by decide) (by omega), Int.ediv_le_self _ (by decide)⟩
  have hm1 := most_div (p := P1) (q := Q1) q1
  have hm2 := most_div (p := P2) (q := Q2) s1
  rw [hD1] at hm1
  rw [hD2] at hm2
  have w5 := IntWalk.i64_in D1 ⟨by omega, by omega⟩
  have w6 := IntWalk.i64_in D2 ⟨by omega, by omega⟩
  have Q10 : ¬ Q1 = 0 := by omega
  have Q20 : ¬ Q2 = 0 := by omega
  have HM1 := Lib.hid hm1
  have HM2 := Lib.hid hm2
  clear hm1 hm2
  have HT := Lib.hid ht
  clear ht
  go_enter Try.func97, Try.ntmps97
  go_wp2
  refine Fx.regionW (fun W f w' => Below W.heap.size W w') (by kernel_rfl) (by kernel_rfl) ?_ ?_
  · intro f hf0
    exact below_drewN (Below.refl _ _) 1
  repeat (first
    | (refine Fx.skip_ (by rfl) (fun f w h => h) ?_; simp only [Act.put, List.setIfInBounds_toArray, List.set_cons_zero, List.set_cons_succ])
    | (refine Fx.val_ ?_ (by rfl) ?_ (fun f w h => h) ?_
       rotate_left
       · intro f w' hD hk
         have hb := hD
         have y0_0 : w'.cell? ⟨w.heap.size, 0, none⟩ = some (.int .i64 (a)) := (step_blk hb (show Blk _ (w.heap.size) 23 #[.int .i64 (a), .int .i64 (b)] by repeat' (first | exact Blk.at_ _ (by first | rfl | (simp; done) | (simp; omega)) _ _ | refine Blk.drewN ?_ _ | refine Blk.drew ?_ | refine Blk.alloc ?_ _ | refine Blk.far ?_ (by first | omega | (simp; done) | (simp; omega)) _ | assumption))).cell 0
         have y0_1 : w'.cell? ⟨w.heap.size, 1, none⟩ = some (.int .i64 (b)) := (step_blk hb (show Blk _ (w.heap.size) 23 #[.int .i64 (a), .int .i64 (b)] by repeat' (first | exact Blk.at_ _ (by first | rfl | (simp; done) | (simp; omega)) _ _ | refine Blk.drewN ?_ _ | refine Blk.drew ?_ | refine Blk.alloc ?_ _ | refine Blk.far ?_ (by first | omega | (simp; done) | (simp; omega)) _ | assumption))).cell 1
         have y1_0 : w'.cell? ⟨w.heap.size + 1, 0, none⟩ = some (.int .i64 (c)) := (step_blk hb (show Blk _ (w.heap.size + 1) 23 #[.int .i64 (c), .int .i64 (d)] by repeat' (first | exact Blk.at_ _ (by first | rfl | (simp; done) | (simp; omega)) _ _ | refine Blk.drewN ?_ _ | refine Blk.drew ?_ | refine Blk.alloc ?_ _ | refine Blk.far ?_ (by first | omega | (simp; done) | (simp; omega)) _ | assumption))).cell 0
         have y1_1 : w'.cell? ⟨w.heap.size + 1, 1, none⟩ = some (.int .i64 (d)) := (step_blk hb (show Blk _ (w.heap.size + 1) 23 #[.int .i64 (c), .int .i64 (d)] by repeat' (first | exact Blk.at_ _ (by first | rfl | (simp; done) | (simp; omega)) _ _ | refine Blk.drewN ?_ _ | refine Blk.drew ?_ | refine Blk.alloc ?_ _ | refine Blk.far ?_ (by first | omega | (simp; done) | (simp; omega)) _ | assumption))).cell 1
         have y2_0 : w'.cell? ⟨w.heap.size + 2, 0, none⟩ = some (.int .i64 (0)) := (step_blk hb (show Blk _ (w.heap.size + 2) 23 #[.int .i64 (0), .int .i64 (0)] by repeat' (first | exact Blk.at_ _ (by first | rfl | (simp; done) | (simp; omega)) _ _ | refine Blk.drewN ?_ _ | refine Blk.drew ?_ | refine Blk.alloc ?_ _ | refine Blk.far ?_ (by first | omega | (simp; done) | (simp; omega)) _ | assumption))).cell 0
         have y2_1 : w'.cell? ⟨w.heap.size + 2, 1, none⟩ = some (.int .i64 (0)) := (step_blk hb (show Blk _ (w.heap.size + 2) 23 #[.int .i64 (0), .int .i64 (0)] by repeat' (first | exact Blk.at_ _ (by first | rfl | (simp; done) | (simp; omega)) _ _ | refine Blk.drewN ?_ _ | refine Blk.drew ?_ | refine Blk.alloc ?_ _ | refine Blk.far ?_ (by first | omega | (simp; done) | (simp; omega)) _ | assumption))).cell 1
         clear hk hD hb
         go_simp
         try rfl
       simp only [Act.put, List.setIfInBounds_toArray, List.set_cons_zero, List.set_cons_succ]))
  refine Fx.call_ (.int .i64 G) ?_ ?_ (by rfl) ?_ ?_ ?_
  rotate_left 2
  · intro w'
    go_simp
    refine ⟨?_, ?_⟩ <;> rfl
  · intro f w' hD hk
    exact (HGE.out ▸ HG.out _ a1 (by omega) d1 (by omega)).mono fun e w'' ⟨he, q, hw⟩ => ⟨he, by rw [hw]; exact below_drewN hD q⟩
  simp only [Act.put, List.setIfInBounds_toArray, List.set_cons_zero, List.set_cons_succ]
  repeat (first
    | (refine Fx.skip_ (by rfl) (fun f w h => h) ?_; simp only [Act.put, List.setIfInBounds_toArray, List.set_cons_zero, List.set_cons_succ])
    | (refine Fx.val_ ?_ (by rfl) ?_ (fun f w h => h) ?_
       rotate_left
       · intro f w' hD hk
         have hb := hD
         have y0_0 : w'.cell? ⟨w.heap.size, 0, none⟩ = some (.int .i64 (a)) := (step_blk hb (show Blk _ (w.heap.size) 23 #[.int .i64 (a), .int .i64 (b)] by repeat' (first | exact Blk.at_ _ (by first | rfl | (simp; done) | (simp; omega)) _ _ | refine Blk.drewN ?_ _ | refine Blk.drew ?_ | refine Blk.alloc ?_ _ | refine Blk.far ?_ (by first | omega | (simp; done) | (simp; omega)) _ | assumption))).cell 0
         have y0_1 : w'.cell? ⟨w.heap.size, 1, none⟩ = some (.int .i64 (b)) := (step_blk hb (show Blk _ (w.heap.size) 23 #[.int .i64 (a), .int .i64 (b)] by repeat' (first | exact Blk.at_ _ (by first | rfl | (simp; done) | (simp; omega)) _ _ | refine Blk.drewN ?_ _ | refine Blk.drew ?_ | refine Blk.alloc ?_ _ | refine Blk.far ?_ (by first | omega | (simp; done) | (simp; omega)) _ | assumption))).cell 1
         have y1_0 : w'.cell? ⟨w.heap.size + 1, 0, none⟩ = some (.int .i64 (c)) := (step_blk hb (show Blk _ (w.heap.size + 1) 23 #[.int .i64 (c), .int .i64 (d)] by repeat' (first | exact Blk.at_ _ (by first | rfl | (simp; done) | (simp; omega)) _ _ | refine Blk.drewN ?_ _ | refine Blk.drew ?_ | refine Blk.alloc ?_ _ | refine Blk.far ?_ (by first | omega | (simp; done) | (simp; omega)) _ | assumption))).cell 0
         have y1_1 : w'.cell? ⟨w.heap.size + 1, 1, none⟩ = some (.int .i64 (d)) := (step_blk hb (show Blk _ (w.heap.size + 1) 23 #[.int .i64 (c), .int .i64 (d)] by repeat' (first | exact Blk.at_ _ (by first | rfl | (simp; done) | (simp; omega)) _ _ | refine Blk.drewN ?_ _ | refine Blk.drew ?_ | refine Blk.alloc ?_ _ | refine Blk.far ?_ (by first | omega | (simp; done) | (simp; omega)) _ | assumption))).cell 1
         have y2_0 : w'.cell? ⟨w.heap.size + 2, 0, none⟩ = some (.int .i64 (0)) := (step_blk hb (show Blk _ (w.heap.size + 2) 23 #[.int .i64 (0), .int .i64 (0)] by repeat' (first | exact Blk.at_ _ (by first | rfl | (simp; done) | (simp; omega)) _ _ | refine Blk.drewN ?_ _ | refine Blk.drew ?_ | refine Blk.alloc ?_ _ | refine Blk.far ?_ (by first | omega | (simp; done) | (simp; omega)) _ | assumption))).cell 0
         have y2_1 : w'.cell? ⟨w.heap.size + 2, 1, none⟩ = some (.int .i64 (0)) := (step_blk hb (show Blk _ (w.heap.size + 2) 23 #[.int .i64 (0), .int .i64 (0)] by repeat' (first | exact Blk.at_ _ (by first | rfl | (simp; done) | (simp; omega)) _ _ | refine Blk.drewN ?_ _ | refine Blk.drew ?_ | refine Blk.alloc ?_ _ | refine Blk.far ?_ (by first | omega | (simp; done) | (simp; omega)) _ | assumption))).cell 1
         clear hk hD hb
         go_simp
         try rfl
       simp only [Act.put, List.setIfInBounds_toArray, List.set_cons_zero, List.set_cons_succ]))
  refine Fx.call_ (.int .i64 H) ?_ ?_ (by rfl) ?_ ?_ ?_
  rotate_left 2
  · intro w'
    go_simp
    refine ⟨?_, ?_⟩ <;> rfl
  · intro f w' hD hk
    exact (HHE.out ▸ HH.out _ c1 (by omega) b1 (by omega)).mono fun e w'' ⟨he, q, hw⟩ => ⟨he, by rw [hw]; exact below_drewN hD q⟩
  simp only [Act.put, List.setIfInBounds_toArray, List.set_cons_zero, List.set_cons_succ]
  repeat (first
    | (refine Fx.skip_ (by rfl) (fun f w h => h) ?_; simp only [Act.put, List.setIfInBounds_toArray, List.set_cons_zero, List.set_cons_succ])
    | (refine Fx.val_ ?_ (by rfl) ?_ (fun f w h => h) ?_
       rotate_left
       · intro f w' hD hk
         have hb := hD
         have y0_0 : w'.cell? ⟨w.heap.size, 0, none⟩ = some (.int .i64 (a)) := (step_blk hb (show Blk _ (w.heap.size) 23 #[.int .i64 (a), .int .i64 (b)] by repeat' (first | exact Blk.at_ _ (by first | rfl | (simp; done) | (simp; omega)) _ _ | refine Blk.drewN ?_ _ | refine Blk.drew ?_ | refine Blk.alloc ?_ _ | refine Blk.far ?_ (by first | omega | (simp; done) | (simp; omega)) _ | assumption))).cell 0
         have y0_1 : w'.cell? ⟨w.heap.size, 1, none⟩ = some (.int .i64 (b)) := (step_blk hb (show Blk _ (w.heap.size) 23 #[.int .i64 (a), .int .i64 (b)] by repeat' (first | exact Blk.at_ _ (by first | rfl | (simp; done) | (simp; omega)) _ _ | refine Blk.drewN ?_ _ | refine Blk.drew ?_ | refine Blk.alloc ?_ _ | refine Blk.far ?_ (by first | omega | (simp; done) | (simp; omega)) _ | assumption))).cell 1
         have y1_0 : w'.cell? ⟨w.heap.size + 1, 0, none⟩ = some (.int .i64 (c)) := (step_blk hb (show Blk _ (w.heap.size + 1) 23 #[.int .i64 (c), .int .i64 (d)] by repeat' (first | exact Blk.at_ _ (by first | rfl | (simp; done) | (simp; omega)) _ _ | refine Blk.drewN ?_ _ | refine Blk.drew ?_ | refine Blk.alloc ?_ _ | refine Blk.far ?_ (by first | omega | (simp; done) | (simp; omega)) _ | assumption))).cell 0
         have y1_1 : w'.cell? ⟨w.heap.size + 1, 1, none⟩ = some (.int .i64 (d)) := (step_blk hb (show Blk _ (w.heap.size + 1) 23 #[.int .i64 (c), .int .i64 (d)] by repeat' (first | exact Blk.at_ _ (by first | rfl | (simp; done) | (simp; omega)) _ _ | refine Blk.drewN ?_ _ | refine Blk.drew ?_ | refine Blk.alloc ?_ _ | refine Blk.far ?_ (by first | omega | (simp; done) | (simp; omega)) _ | assumption))).cell 1
         have y2_0 : w'.cell? ⟨w.heap.size + 2, 0, none⟩ = some (.int .i64 (0)) := (step_blk hb (show Blk _ (w.heap.size + 2) 23 #[.int .i64 (0), .int .i64 (0)] by repeat' (first | exact Blk.at_ _ (by first | rfl | (simp; done) | (simp; omega)) _ _ | refine Blk.drewN ?_ _ | refine Blk.drew ?_ | refine Blk.alloc ?_ _ | refine Blk.far ?_ (by first | omega | (simp; done) | (simp; omega)) _ | assumption))).cell 0
         have y2_1 : w'.cell? ⟨w.heap.size + 2, 1, none⟩ = some (.int .i64 (0)) := (step_blk hb (show Blk _ (w.heap.size + 2) 23 #[.int .i64 (0), .int .i64 (0)] by repeat' (first | exact Blk.at_ _ (by first | rfl | (simp; done) | (simp; omega)) _ _ | refine Blk.drewN ?_ _ | refine Blk.drew ?_ | refine Blk.alloc ?_ _ | refine Blk.far ?_ (by first | omega | (simp; done) | (simp; omega)) _ | assumption))).cell 1
         clear hk hD hb
         go_simp
         try rfl
       simp only [Act.put, List.setIfInBounds_toArray, List.set_cons_zero, List.set_cons_succ]))
  refine Fx.nil_ ?_
  intro f w1 hall hb
  try clear hall
  have HB1 := Lib.hid (show Below w.heap.size w w1 from step_below hb (by repeat' (first | exact Below.refl _ _ | exact HB0.out | refine below_drewN ?_ _ | refine Below.drew ?_ | refine Below.alloc ?_ (by first | omega | (simp; done) | (simp; omega) | (simp [World.setCell]; omega)) _ | refine Below.setCell ?_ (by first | omega | (simp; done) | (simp; omega)) _ | assumption)))
  have K0_1 := Lib.hid (step_blk hb (show Blk _ (w.heap.size) 23 #[.int .i64 (a), .int .i64 (b)] by repeat' (first | exact Blk.at_ _ (by first | rfl | (simp; done) | (simp; omega)) _ _ | refine Blk.drewN ?_ _ | refine Blk.drew ?_ | refine Blk.alloc ?_ _ | refine Blk.far ?_ (by first | omega | (simp; done) | (simp; omega)) _ | assumption)))
  have K1_1 := Lib.hid (step_blk hb (show Blk _ (w.heap.size + 1) 23 #[.int .i64 (c), .int .i64 (d)] by repeat' (first | exact Blk.at_ _ (by first | rfl | (simp; done) | (simp; omega)) _ _ | refine Blk.drewN ?_ _ | refine Blk.drew ?_ | refine Blk.alloc ?_ _ | refine Blk.far ?_ (by first | omega | (simp; done) | (simp; omega)) _ | assumption)))
  have K2_1 := Lib.hid (step_blk hb (show Blk _ (w.heap.size + 2) 23 #[.int .i64 (0), .int .i64 (0)] by repeat' (first | exact Blk.at_ _ (by first | rfl | (simp; done) | (simp; omega)) _ _ | refine Blk.drewN ?_ _ | refine Blk.drew ?_ | refine Blk.alloc ?_ _ | refine Blk.far ?_ (by first | omega | (simp; done) | (simp; omega)) _ | assumption)))
  have hz1 := hb.size
  try simp only [World.size_alloc, World.drewN, World.drew] at hz1
  clear hb
  have l0_1 : w.heap.size < w1.heap.size := K0_1.out.lt
  have z0_0_1 : w1.cell? ⟨w.heap.size, 0, none⟩ = some (.int .i64 (a)) := K0_1.out.cell 0
  have z0_1_1 : w1.cell? ⟨w.heap.size, 1, none⟩ = some (.int .i64 (b)) := K0_1.out.cell 1
  have l1_1 : w.heap.size + 1 < w1.heap.size := K1_1.out.lt
  have z1_0_1 : w1.cell? ⟨w.heap.size + 1, 0, none⟩ = some (.int .i64 (c)) := K1_1.out.cell 0
  have z1_1_1 : w1.cell? ⟨w.heap.size + 1, 1, none⟩ = some (.int .i64 (d)) := K1_1.out.cell 1
  have l2_1 : w.heap.size + 2 < w1.heap.size := K2_1.out.lt
  have z2_0_1 : w1.cell? ⟨w.heap.size + 2, 0, none⟩ = some (.int .i64 (0)) := K2_1.out.cell 0
  have z2_1_1 : w1.cell? ⟨w.heap.size + 2, 1, none⟩ = some (.int .i64 (0)) := K2_1.out.cell 1
  go_wp2
  refine Fx.regionM (fun W g f w' => Below W.heap.size W w' ∧ MkM 23 (.int .i64 P1) (.int .i64 P2) 18 20 W g f w' ∧ MkM 23 (.int .i64 Q1) (.int .i64 Q2) 19 21 W g f w' ∧ (∀ x y bx by_, g 18 = some x → g 19 = some y → x.1 = some ⟨bx, 0, none⟩ → y.1 = some ⟨by_, 0, none⟩ → bx ≠ by_)) (fun _ (x : Pick) => .pointer x.1) (by kernel_rfl) ?_ ?_
  · intro f hf0
    exact ⟨below_drewN (Below.refl _ _) 1, MkM.start, MkM.start, fun x y bx by_ h => by cases h⟩
  first
  | (refine Fx.WM.skip 0 (by rfl) (by kernel_rfl) (by kernel_rfl) (by kernel_rfl) (by rfl) (fun g f w h => h) ?_; simp only [Act.put, List.setIfInBounds_toArray, List.set_cons_zero, List.set_cons_succ])
  | (refine Fx.WM.val_ 0 ?_ (by rfl) (by kernel_rfl) (by kernel_rfl) (by kernel_rfl) (by rfl) ?_ (fun g f w h => h) ?_
     rotate_left
     · intro g f w' hx hD hk
       obtain ⟨hb, hm1, hm2, hne⟩ := id hD
       have y0 : w'.cell? ⟨w.heap.size, 0, none⟩ = some (.int .i64 a) := (step_blk hb K0_1.out).cell 0
       have y1 : w'.cell? ⟨w.heap.size, 1, none⟩ = some (.int .i64 b) := (step_blk hb K0_1.out).cell 1
       have y2 : w'.cell? ⟨w.heap.size + 1, 0, none⟩ = some (.int .i64 c) := (step_blk hb K1_1.out).cell 0
       have y3 : w'.cell? ⟨w.heap.size + 1, 1, none⟩ = some (.int .i64 d) := (step_blk hb K1_1.out).cell 1
       clear hx hk hD hb hm1 hm2 hne
       go_simp
       try rfl
     simp only [Act.put, List.setIfInBounds_toArray, List.set_cons_zero, List.set_cons_succ])
  first
  | (refine Fx.WM.skip 1 (by rfl) (by kernel_rfl) (by kernel_rfl) (by kernel_rfl) (by rfl) (fun g f w h => h) ?_; simp only [Act.put, List.setIfInBounds_toArray, List.set_cons_zero, List.set_cons_succ])
  | (refine Fx.WM.val_ 1 ?_ (by rfl) (by kernel_rfl) (by kernel_rfl) (by kernel_rfl) (by rfl) ?_ (fun g f w h => h) ?_
     rotate_left
     · intro g f w' hx hD hk
       obtain ⟨hb, hm1, hm2, hne⟩ := id hD
       have y0 : w'.cell? ⟨w.heap.size, 0, none⟩ = some (.int .i64 a) := (step_blk hb K0_1.out).cell 0
       have y1 : w'.cell? ⟨w.heap.size, 1, none⟩ = some (.int .i64 b) := (step_blk hb K0_1.out).cell 1
       have y2 : w'.cell? ⟨w.heap.size + 1, 0, none⟩ = some (.int .i64 c) := (step_blk hb K1_1.out).cell 0
       have y3 : w'.cell? ⟨w.heap.size + 1, 1, none⟩ = some (.int .i64 d) := (step_blk hb K1_1.out).cell 1
       clear hx hk hD hb hm1 hm2 hne
       go_simp
       try rfl
     simp only [Act.put, List.setIfInBounds_toArray, List.set_cons_zero, List.set_cons_succ])
  first
  | (refine Fx.WM.skip 2 (by rfl) (by kernel_rfl) (by kernel_rfl) (by kernel_rfl) (by rfl) (fun g f w h => h) ?_; simp only [Act.put, List.setIfInBounds_toArray, List.set_cons_zero, List.set_cons_succ])
  | (refine Fx.WM.val_ 2 ?_ (by rfl) (by kernel_rfl) (by kernel_rfl) (by kernel_rfl) (by rfl) ?_ (fun g f w h => h) ?_
     rotate_left
     · intro g f w' hx hD hk
       obtain ⟨hb, hm1, hm2, hne⟩ := id hD
       have y0 : w'.cell? ⟨w.heap.size, 0, none⟩ = some (.int .i64 a) := (step_blk hb K0_1.out).cell 0
       have y1 : w'.cell? ⟨w.heap.size, 1, none⟩ = some (.int .i64 b) := (step_blk hb K0_1.out).cell 1
       have y2 : w'.cell? ⟨w.heap.size + 1, 0, none⟩ = some (.int .i64 c) := (step_blk hb K1_1.out).cell 0
       have y3 : w'.cell? ⟨w.heap.size + 1, 1, none⟩ = some (.int .i64 d) := (step_blk hb K1_1.out).cell 1
       clear hx hk hD hb hm1 hm2 hne
       go_simp
       try rfl
     simp only [Act.put, List.setIfInBounds_toArray, List.set_cons_zero, List.set_cons_succ])
  first
  | (refine Fx.WM.skip 3 (by rfl) (by kernel_rfl) (by kernel_rfl) (by kernel_rfl) (by rfl) (fun g f w h => h) ?_; simp only [Act.put, List.setIfInBounds_toArray, List.set_cons_zero, List.set_cons_succ])
  | (refine Fx.WM.val_ 3 ?_ (by rfl) (by kernel_rfl) (by kernel_rfl) (by kernel_rfl) (by rfl) ?_ (fun g f w h => h) ?_
     rotate_left
     · intro g f w' hx hD hk
       obtain ⟨hb, hm1, hm2, hne⟩ := id hD
       have y0 : w'.cell? ⟨w.heap.size, 0, none⟩ = some (.int .i64 a) := (step_blk hb K0_1.out).cell 0
       have y1 : w'.cell? ⟨w.heap.size, 1, none⟩ = some (.int .i64 b) := (step_blk hb K0_1.out).cell 1
       have y2 : w'.cell? ⟨w.heap.size + 1, 0, none⟩ = some (.int .i64 c) := (step_blk hb K1_1.out).cell 0
       have y3 : w'.cell? ⟨w.heap.size + 1, 1, none⟩ = some (.int .i64 d) := (step_blk hb K1_1.out).cell 1
       clear hx hk hD hb hm1 hm2 hne
       go_simp
       try rfl
     simp only [Act.put, List.setIfInBounds_toArray, List.set_cons_zero, List.set_cons_succ])
  first
  | (refine Fx.WM.skip 4 (by rfl) (by kernel_rfl) (by kernel_rfl) (by kernel_rfl) (by rfl) (fun g f w h => h) ?_; simp only [Act.put, List.setIfInBounds_toArray, List.set_cons_zero, List.set_cons_succ])
  | (refine Fx.WM.val_ 4 ?_ (by rfl) (by kernel_rfl) (by kernel_rfl) (by kernel_rfl) (by rfl) ?_ (fun g f w h => h) ?_
     rotate_left
     · intro g f w' hx hD hk
       obtain ⟨hb, hm1, hm2, hne⟩ := id hD
       have y0 : w'.cell? ⟨w.heap.size, 0, none⟩ = some (.int .i64 a) := (step_blk hb K0_1.out).cell 0
       have y1 : w'.cell? ⟨w.heap.size, 1, none⟩ = some (.int .i64 b) := (step_blk hb K0_1.out).cell 1
       have y2 : w'.cell? ⟨w.heap.size + 1, 0, none⟩ = some (.int .i64 c) := (step_blk hb K1_1.out).cell 0
       have y3 : w'.cell? ⟨w.heap.size + 1, 1, none⟩ = some (.int .i64 d) := (step_blk hb K1_1.out).cell 1
       clear hx hk hD hb hm1 hm2 hne
       go_simp
       try rfl
     simp only [Act.put, List.setIfInBounds_toArray, List.set_cons_zero, List.set_cons_succ])
  first
  | (refine Fx.WM.skip 5 (by rfl) (by kernel_rfl) (by kernel_rfl) (by kernel_rfl) (by rfl) (fun g f w h => h) ?_; simp only [Act.put, List.setIfInBounds_toArray, List.set_cons_zero, List.set_cons_succ])
  | (refine Fx.WM.val_ 5 ?_ (by rfl) (by kernel_rfl) (by kernel_rfl) (by kernel_rfl) (by rfl) ?_ (fun g f w h => h) ?_
     rotate_left
     · intro g f w' hx hD hk
       obtain ⟨hb, hm1, hm2, hne⟩ := id hD
       have y0 : w'.cell? ⟨w.heap.size, 0, none⟩ = some (.int .i64 a) := (step_blk hb K0_1.out).cell 0
       have y1 : w'.cell? ⟨w.heap.size, 1, none⟩ = some (.int .i64 b) := (step_blk hb K0_1.out).cell 1
       have y2 : w'.cell? ⟨w.heap.size + 1, 0, none⟩ = some (.int .i64 c) := (step_blk hb K1_1.out).cell 0
       have y3 : w'.cell? ⟨w.heap.size + 1, 1, none⟩ = some (.int .i64 d) := (step_blk hb K1_1.out).cell 1
       clear hx hk hD hb hm1 hm2 hne
       go_simp
       try rfl
     simp only [Act.put, List.setIfInBounds_toArray, List.set_cons_zero, List.set_cons_succ])
  first
  | (refine Fx.WM.skip 6 (by rfl) (by kernel_rfl) (by kernel_rfl) (by kernel_rfl) (by rfl) (fun g f w h => h) ?_; simp only [Act.put, List.setIfInBounds_toArray, List.set_cons_zero, List.set_cons_succ])
  | (refine Fx.WM.val_ 6 ?_ (by rfl) (by kernel_rfl) (by kernel_rfl) (by kernel_rfl) (by rfl) ?_ (fun g f w h => h) ?_
     rotate_left
     · intro g f w' hx hD hk
       obtain ⟨hb, hm1, hm2, hne⟩ := id hD
       have y0 : w'.cell? ⟨w.heap.size, 0, none⟩ = some (.int .i64 a) := (step_blk hb K0_1.out).cell 0
       have y1 : w'.cell? ⟨w.heap.size, 1, none⟩ = some (.int .i64 b) := (step_blk hb K0_1.out).cell 1
       have y2 : w'.cell? ⟨w.heap.size + 1, 0, none⟩ = some (.int .i64 c) := (step_blk hb K1_1.out).cell 0
       have y3 : w'.cell? ⟨w.heap.size + 1, 1, none⟩ = some (.int .i64 d) := (step_blk hb K1_1.out).cell 1
       clear hx hk hD hb hm1 hm2 hne
       go_simp
       try rfl
     simp only [Act.put, List.setIfInBounds_toArray, List.set_cons_zero, List.set_cons_succ])
  first
  | (refine Fx.WM.skip 7 (by rfl) (by kernel_rfl) (by kernel_rfl) (by kernel_rfl) (by rfl) (fun g f w h => h) ?_; simp only [Act.put, List.setIfInBounds_toArray, List.set_cons_zero, List.set_cons_succ])
  | (refine Fx.WM.val_ 7 ?_ (by rfl) (by kernel_rfl) (by kernel_rfl) (by kernel_rfl) (by rfl) ?_ (fun g f w h => h) ?_
     rotate_left
     · intro g f w' hx hD hk
       obtain ⟨hb, hm1, hm2, hne⟩ := id hD
       have y0 : w'.cell? ⟨w.heap.size, 0, none⟩ = some (.int .i64 a) := (step_blk hb K0_1.out).cell 0
       have y1 : w'.cell? ⟨w.heap.size, 1, none⟩ = some (.int .i64 b) := (step_blk hb K0_1.out).cell 1
       have y2 : w'.cell? ⟨w.heap.size + 1, 0, none⟩ = some (.int .i64 c) := (step_blk hb K1_1.out).cell 0
       have y3 : w'.cell? ⟨w.heap.size + 1, 1, none⟩ = some (.int .i64 d) := (step_blk hb K1_1.out).cell 1
       clear hx hk hD hb hm1 hm2 hne
       go_simp
       try rfl
     simp only [Act.put, List.setIfInBounds_toArray, List.set_cons_zero, List.set_cons_succ])
  first
  | (refine Fx.WM.skip 8 (by rfl) (by kernel_rfl) (by kernel_rfl) (by kernel_rfl) (by rfl) (fun g f w h => h) ?_; simp only [Act.put, List.setIfInBounds_toArray, List.set_cons_zero, List.set_cons_succ])
  | (refine Fx.WM.val_ 8 ?_ (by rfl) (by kernel_rfl) (by kernel_rfl) (by kernel_rfl) (by rfl) ?_ (fun g f w h => h) ?_
     rotate_left
     · intro g f w' hx hD hk
       obtain ⟨hb, hm1, hm2, hne⟩ := id hD
       have y0 : w'.cell? ⟨w.heap.size, 0, none⟩ = some (.int .i64 a) := (step_blk hb K0_1.out).cell 0
       have y1 : w'.cell? ⟨w.heap.size, 1, none⟩ = some (.int .i64 b) := (step_blk hb K0_1.out).cell 1
       have y2 : w'.cell? ⟨w.heap.size + 1, 0, none⟩ = some (.int .i64 c) := (step_blk hb K1_1.out).cell 0
       have y3 : w'.cell? ⟨w.heap.size + 1, 1, none⟩ = some (.int .i64 d) := (step_blk hb K1_1.out).cell 1
       clear hx hk hD hb hm1 hm2 hne
       go_simp
       try rfl
     simp only [Act.put, List.setIfInBounds_toArray, List.set_cons_zero, List.set_cons_succ])
  first
  | (refine Fx.WM.skip 9 (by rfl) (by kernel_rfl) (by kernel_rfl) (by kernel_rfl) (by rfl) (fun g f w h => h) ?_; simp only [Act.put, List.setIfInBounds_toArray, List.set_cons_zero, List.set_cons_succ])
  | (refine Fx.WM.val_ 9 ?_ (by rfl) (by kernel_rfl) (by kernel_rfl) (by kernel_rfl) (by rfl) ?_ (fun g f w h => h) ?_
     rotate_left
     · intro g f w' hx hD hk
       obtain ⟨hb, hm1, hm2, hne⟩ := id hD
       have y0 : w'.cell? ⟨w.heap.size, 0, none⟩ = some (.int .i64 a) := (step_blk hb K0_1.out).cell 0
       have y1 : w'.cell? ⟨w.heap.size, 1, none⟩ = some (.int .i64 b) := (step_blk hb K0_1.out).cell 1
       have y2 : w'.cell? ⟨w.heap.size + 1, 0, none⟩ = some (.int .i64 c) := (step_blk hb K1_1.out).cell 0
       have y3 : w'.cell? ⟨w.heap.size + 1, 1, none⟩ = some (.int .i64 d) := (step_blk hb K1_1.out).cell 1
       clear hx hk hD hb hm1 hm2 hne
       go_simp
       try rfl
     simp only [Act.put, List.setIfInBounds_toArray, List.set_cons_zero, List.set_cons_succ])
  first
  | (refine Fx.WM.skip 10 (by rfl) (by kernel_rfl) (by kernel_rfl) (by kernel_rfl) (by rfl) (fun g f w h => h) ?_; simp only [Act.put, List.setIfInBounds_toArray, List.set_cons_zero, List.set_cons_succ])
  | (refine Fx.WM.val_ 10 ?_ (by rfl) (by kernel_rfl) (by kernel_rfl) (by kernel_rfl) (by rfl) ?_ (fun g f w h => h) ?_
     rotate_left
     · intro g f w' hx hD hk
       obtain ⟨hb, hm1, hm2, hne⟩ := id hD
       have y0 : w'.cell? ⟨w.heap.size, 0, none⟩ = some (.int .i64 a) := (step_blk hb K0_1.out).cell 0
       have y1 : w'.cell? ⟨w.heap.size, 1, none⟩ = some (.int .i64 b) := (step_blk hb K0_1.out).cell 1
       have y2 : w'.cell? ⟨w.heap.size + 1, 0, none⟩ = some (.int .i64 c) := (step_blk hb K1_1.out).cell 0
       have y3 : w'.cell? ⟨w.heap.size + 1, 1, none⟩ = some (.int .i64 d) := (step_blk hb K1_1.out).cell 1
       clear hx hk hD hb hm1 hm2 hne
       go_simp
       try rfl
     simp only [Act.put, List.setIfInBounds_toArray, List.set_cons_zero, List.set_cons_succ])
  first
  | (refine Fx.WM.skip 11 (by rfl) (by kernel_rfl) (by kernel_rfl) (by kernel_rfl) (by rfl) (fun g f w h => h) ?_; simp only [Act.put, List.setIfInBounds_toArray, List.set_cons_zero, List.set_cons_succ])
  | (refine Fx.WM.val_ 11 ?_ (by rfl) (by kernel_rfl) (by kernel_rfl) (by kernel_rfl) (by rfl) ?_ (fun g f w h => h) ?_
     rotate_left
     · intro g f w' hx hD hk
       obtain ⟨hb, hm1, hm2, hne⟩ := id hD
       have y0 : w'.cell? ⟨w.heap.size, 0, none⟩ = some (.int .i64 a) := (step_blk hb K0_1.out).cell 0
       have y1 : w'.cell? ⟨w.heap.size, 1, none⟩ = some (.int .i64 b) := (step_blk hb K0_1.out).cell 1
       have y2 : w'.cell? ⟨w.heap.size + 1, 0, none⟩ = some (.int .i64 c) := (step_blk hb K1_1.out).cell 0
       have y3 : w'.cell? ⟨w.heap.size + 1, 1, none⟩ = some (.int .i64 d) := (step_blk hb K1_1.out).cell 1
       clear hx hk hD hb hm1 hm2 hne
       go_simp
       try rfl
     simp only [Act.put, List.setIfInBounds_toArray, List.set_cons_zero, List.set_cons_succ])
  first
  | (refine Fx.WM.skip 12 (by rfl) (by kernel_rfl) (by kernel_rfl) (by kernel_rfl) (by rfl) (fun g f w h => h) ?_; simp only [Act.put, List.setIfInBounds_toArray, List.set_cons_zero, List.set_cons_succ])
  | (refine Fx.WM.val_ 12 ?_ (by rfl) (by kernel_rfl) (by kernel_rfl) (by kernel_rfl) (by rfl) ?_ (fun g f w h => h) ?_
     rotate_left
     · intro g f w' hx hD hk
       obtain ⟨hb, hm1, hm2, hne⟩ := id hD
       have y0 : w'.cell? ⟨w.heap.size, 0, none⟩ = some (.int .i64 a) := (step_blk hb K0_1.out).cell 0
       have y1 : w'.cell? ⟨w.heap.size, 1, none⟩ = some (.int .i64 b) := (step_blk hb K0_1.out).cell 1
       have y2 : w'.cell? ⟨w.heap.size + 1, 0, none⟩ = some (.int .i64 c) := (step_blk hb K1_1.out).cell 0
       have y3 : w'.cell? ⟨w.heap.size + 1, 1, none⟩ = some (.int .i64 d) := (step_blk hb K1_1.out).cell 1
       clear hx hk hD hb hm1 hm2 hne
       go_simp
       try rfl
     simp only [Act.put, List.setIfInBounds_toArray, List.set_cons_zero, List.set_cons_succ])
  first
  | (refine Fx.WM.skip 13 (by rfl) (by kernel_rfl) (by kernel_rfl) (by kernel_rfl) (by rfl) (fun g f w h => h) ?_; simp only [Act.put, List.setIfInBounds_toArray, List.set_cons_zero, List.set_cons_succ])
  | (refine Fx.WM.val_ 13 ?_ (by rfl) (by kernel_rfl) (by kernel_rfl) (by kernel_rfl) (by rfl) ?_ (fun g f w h => h) ?_
     rotate_left
     · intro g f w' hx hD hk
       obtain ⟨hb, hm1, hm2, hne⟩ := id hD
       have y0 : w'.cell? ⟨w.heap.size, 0, none⟩ = some (.int .i64 a) := (step_blk hb K0_1.out).cell 0
       have y1 : w'.cell? ⟨w.heap.size, 1, none⟩ = some (.int .i64 b) := (step_blk hb K0_1.out).cell 1
       have y2 : w'.cell? ⟨w.heap.size + 1, 0, none⟩ = some (.int .i64 c) := (step_blk hb K1_1.out).cell 0
       have y3 : w'.cell? ⟨w.heap.size + 1, 1, none⟩ = some (.int .i64 d) := (step_blk hb K1_1.out).cell 1
       clear hx hk hD hb hm1 hm2 hne
       go_simp
       try rfl
     simp only [Act.put, List.setIfInBounds_toArray, List.set_cons_zero, List.set_cons_succ])
  first
  | (refine Fx.WM.skip 14 (by rfl) (by kernel_rfl) (by kernel_rfl) (by kernel_rfl) (by rfl) (fun g f w h => h) ?_; simp only [Act.put, List.setIfInBounds_toArray, List.set_cons_zero, List.set_cons_succ])
  | (refine Fx.WM.val_ 14 ?_ (by rfl) (by kernel_rfl) (by kernel_rfl) (by kernel_rfl) (by rfl) ?_ (fun g f w h => h) ?_
     rotate_left
     · intro g f w' hx hD hk
       obtain ⟨hb, hm1, hm2, hne⟩ := id hD
       have y0 : w'.cell? ⟨w.heap.size, 0, none⟩ = some (.int .i64 a) := (step_blk hb K0_1.out).cell 0
       have y1 : w'.cell? ⟨w.heap.size, 1, none⟩ = some (.int .i64 b) := (step_blk hb K0_1.out).cell 1
       have y2 : w'.cell? ⟨w.heap.size + 1, 0, none⟩ = some (.int .i64 c) := (step_blk hb K1_1.out).cell 0
       have y3 : w'.cell? ⟨w.heap.size + 1, 1, none⟩ = some (.int .i64 d) := (step_blk hb K1_1.out).cell 1
       clear hx hk hD hb hm1 hm2 hne
       go_simp
       try rfl
     simp only [Act.put, List.setIfInBounds_toArray, List.set_cons_zero, List.set_cons_succ])
  first
  | (refine Fx.WM.skip 15 (by rfl) (by kernel_rfl) (by kernel_rfl) (by kernel_rfl) (by rfl) (fun g f w h => h) ?_; simp only [Act.put, List.setIfInBounds_toArray, List.set_cons_zero, List.set_cons_succ])
  | (refine Fx.WM.val_ 15 ?_ (by rfl) (by kernel_rfl) (by kernel_rfl) (by kernel_rfl) (by rfl) ?_ (fun g f w h => h) ?_
     rotate_left
     · intro g f w' hx hD hk
       obtain ⟨hb, hm1, hm2, hne⟩ := id hD
       have y0 : w'.cell? ⟨w.heap.size, 0, none⟩ = some (.int .i64 a) := (step_blk hb K0_1.out).cell 0
       have y1 : w'.cell? ⟨w.heap.size, 1, none⟩ = some (.int .i64 b) := (step_blk hb K0_1.out).cell 1
       have y2 : w'.cell? ⟨w.heap.size + 1, 0, none⟩ = some (.int .i64 c) := (step_blk hb K1_1.out).cell 0
       have y3 : w'.cell? ⟨w.heap.size + 1, 1, none⟩ = some (.int .i64 d) := (step_blk hb K1_1.out).cell 1
       clear hx hk hD hb hm1 hm2 hne
       go_simp
       try rfl
     simp only [Act.put, List.setIfInBounds_toArray, List.set_cons_zero, List.set_cons_succ])
  first
  | (refine Fx.WM.skip 16 (by rfl) (by kernel_rfl) (by kernel_rfl) (by kernel_rfl) (by rfl) (fun g f w h => h) ?_; simp only [Act.put, List.setIfInBounds_toArray, List.set_cons_zero, List.set_cons_succ])
  | (refine Fx.WM.val_ 16 ?_ (by rfl) (by kernel_rfl) (by kernel_rfl) (by kernel_rfl) (by rfl) ?_ (fun g f w h => h) ?_
     rotate_left
     · intro g f w' hx hD hk
       obtain ⟨hb, hm1, hm2, hne⟩ := id hD
       have y0 : w'.cell? ⟨w.heap.size, 0, none⟩ = some (.int .i64 a) := (step_blk hb K0_1.out).cell 0
       have y1 : w'.cell? ⟨w.heap.size, 1, none⟩ = some (.int .i64 b) := (step_blk hb K0_1.out).cell 1
       have y2 : w'.cell? ⟨w.heap.size + 1, 0, none⟩ = some (.int .i64 c) := (step_blk hb K1_1.out).cell 0
       have y3 : w'.cell? ⟨w.heap.size + 1, 1, none⟩ = some (.int .i64 d) := (step_blk hb K1_1.out).cell 1
       clear hx hk hD hb hm1 hm2 hne
       go_simp
       try rfl
     simp only [Act.put, List.setIfInBounds_toArray, List.set_cons_zero, List.set_cons_succ])
  first
  | (refine Fx.WM.skip 17 (by rfl) (by kernel_rfl) (by kernel_rfl) (by kernel_rfl) (by rfl) (fun g f w h => h) ?_; simp only [Act.put, List.setIfInBounds_toArray, List.set_cons_zero, List.set_cons_succ])
  | (refine Fx.WM.val_ 17 ?_ (by rfl) (by kernel_rfl) (by kernel_rfl) (by kernel_rfl) (by rfl) ?_ (fun g f w h => h) ?_
     rotate_left
     · intro g f w' hx hD hk
       obtain ⟨hb, hm1, hm2, hne⟩ := id hD
       have y0 : w'.cell? ⟨w.heap.size, 0, none⟩ = some (.int .i64 a) := (step_blk hb K0_1.out).cell 0
       have y1 : w'.cell? ⟨w.heap.size, 1, none⟩ = some (.int .i64 b) := (step_blk hb K0_1.out).cell 1
       have y2 : w'.cell? ⟨w.heap.size + 1, 0, none⟩ = some (.int .i64 c) := (step_blk hb K1_1.out).cell 0
       have y3 : w'.cell? ⟨w.heap.size + 1, 1, none⟩ = some (.int .i64 d) := (step_blk hb K1_1.out).cell 1
       clear hx hk hD hb hm1 hm2 hne
       go_simp
       try rfl
     simp only [Act.put, List.setIfInBounds_toArray, List.set_cons_zero, List.set_cons_succ])
  refine Fx.WM.choose2 18 19 (by rfl) (by rfl) (by kernel_rfl) (by rfl) (by rfl) ?_ ?_ ?_ ?_
  · skip
    refine Fx.Chooses.make (by rfl) ?_
    intro f w' hD hk
    obtain ⟨hb, hm1, hm2, hne⟩ := id hD
    refine ⟨(some ⟨w'.heap.size, 0, none⟩, 0), w'.alloc (.cells #[.int .i64 0, .int .i64 0] 23), ?_, ?_⟩
    · clear hk hD
      go_simp
      try rfl
    · exact ⟨hb.alloc hb.size _, MkM.make hb.size (hk.2.1 20 (by kernel_rfl)) (by decide), (hm2.step ((Below.refl _ _).alloc (Nat.le_refl _) _) (by decide)).other (by decide), fun x y bx by_ h1 h2 => by cases h2⟩
  · skip
    refine Fx.Chooses.make (by rfl) ?_
    intro f w' hD hk
    obtain ⟨hb, hm1, hm2, hne⟩ := id hD
    refine ⟨(some ⟨w'.heap.size, 0, none⟩, 0), w'.alloc (.cells #[.int .i64 0, .int .i64 0] 23), ?_, ?_⟩
    · clear hk hD
      go_simp
      try rfl
    · exact ⟨hb.alloc hb.size _, (hm1.step ((Below.refl _ _).alloc (Nat.le_refl _) _) (by decide)).other (by decide), MkM.make hb.size (hk.2.1 21 (by kernel_rfl)) (by decide), fun x y bx by_ h1 h2 => by cases h1⟩
  intro x
  simp only [Act.put, List.setIfInBounds_toArray, List.set_cons_zero, List.set_cons_succ]
  refine Fx.WM.choose 19 (by rfl) (by kernel_rfl) (by rfl) ?_ ?_
  · skip
    refine Fx.Chooses.make (by rfl) ?_
    intro f w' hD hk
    obtain ⟨hb, hm1, hm2, hne⟩ := id hD
    refine ⟨(some ⟨w'.heap.size, 0, none⟩, 0), w'.alloc (.cells #[.int .i64 0, .int .i64 0] 23), ?_, ?_⟩
    · clear hk hD
      go_simp
      try rfl
    · exact ⟨hb.alloc hb.size _, (hm1.step ((Below.refl _ _).alloc (Nat.le_refl _) _) (by decide)).other (by decide), MkM.make hb.size (hk.2.1 21 (by kernel_rfl)) (by decide), MkM.fresh hm1 (by decide)⟩
  intro y
  simp only [Act.put, List.setIfInBounds_toArray, List.set_cons_zero, List.set_cons_succ]
  refine Fx.WM.eff 20 undef (by rfl) (by kernel_rfl) (by kernel_rfl) (by kernel_rfl) (by rfl) ?_ ?_
  · intro g f w' hx hD hk
    obtain ⟨hb, hm1, hm2, hne⟩ := id hD
    obtain ⟨bx, e0, e1, r0, r1, r2, r3, r4, r5⟩ := MkM.cells hm1 (hx 18 _ rfl)
    refine Fx.gives_skip (w' := (w'.setCell ⟨bx, 0, none⟩ (.int .i64 P1)).setCell ⟨bx, 1, none⟩ (.int .i64 P2)) ?_ ?_
    · clear hx hk hD hb hm1 hm2 hne
      go_simp
      try rfl
    · exact ⟨below_store hb r1, hm1.store (hx 18 _ rfl) r0, hm2.far (by decide) (fun y b' h1 h2 => (hne _ y _ b' (hx 18 _ rfl) h1 r0 h2).symm), hne⟩
  simp only [Act.put, List.setIfInBounds_toArray, List.set_cons_zero, List.set_cons_succ]
  refine Fx.WM.eff 21 undef (by rfl) (by kernel_rfl) (by kernel_rfl) (by kernel_rfl) (by rfl) ?_ ?_
  · intro g f w' hx hD hk
    obtain ⟨hb, hm1, hm2, hne⟩ := id hD
    obtain ⟨by_, e0, e1, r0, r1, r2, r3, r4, r5⟩ := MkM.cells hm2 (hx 19 _ rfl)
    refine Fx.gives_skip (w' := (w'.setCell ⟨by_, 0, none⟩ (.int .i64 Q1)).setCell ⟨by_, 1, none⟩ (.int .i64 Q2)) ?_ ?_
    · clear hx hk hD hb hm1 hm2 hne
      go_simp
      try rfl
    · exact ⟨below_store hb r1, hm1.far (by decide) (fun y b' h1 h2 => hne y _ b' _ h1 (hx 19 _ rfl) h2 r0), hm2.store (hx 19 _ rfl) r0, hne⟩
  simp only [Act.put, List.setIfInBounds_toArray, List.set_cons_zero, List.set_cons_succ]
  refine Fx.WM.nil (by kernel_rfl) ?_
  intro w2 hD
  obtain ⟨hb, hm1, hm2, hne⟩ := hD
  obtain ⟨bx, hx1, hx2, hxb⟩ := hm1.end_ (x := x) (by rfl) (by rfl)
  obtain ⟨by_, hy1, hy2, hyb⟩ := hm2.end_ (x := y) (by rfl) (by rfl)
  obtain ⟨x1, x2⟩ := x
  obtain ⟨y1, y2⟩ := y
  simp only at hx1 hy1
  subst hx1 hy1
  clear hm1 hm2 hne hx2 hy2
  rotate_left
  intro y
  simp only [Act.put, List.setIfInBounds_toArray, List.set_cons_zero, List.set_cons_succ]
  refine Fx.WM.choose 18 (by rfl) (by kernel_rfl) (by rfl) ?_ ?_
  · skip
    refine Fx.Chooses.make (by rfl) ?_
    intro f w' hD hk
    obtain ⟨hb, hm1, hm2, hne⟩ := id hD
    refine ⟨(some ⟨w'.heap.size, 0, none⟩, 0), w'.alloc (.cells #[.int .i64 0, .int .i64 0] 23), ?_, ?_⟩
    · clear hk hD
      go_simp
      try rfl
    · exact ⟨hb.alloc hb.size _, MkM.make hb.size (hk.2.1 20 (by kernel_rfl)) (by decide), (hm2.step ((Below.refl _ _).alloc (Nat.le_refl _) _) (by decide)).other (by decide), fun x y bx by_ h1 h2 e1 e2 => (MkM.fresh hm2 (by decide) y x by_ bx h2 h1 e2 e1).symm⟩
  intro x
  simp only [Act.put, List.setIfInBounds_toArray, List.set_cons_zero, List.set_cons_succ]
  refine Fx.WM.eff 20 undef (by rfl) (by kernel_rfl) (by kernel_rfl) (by kernel_rfl) (by rfl) ?_ ?_
  · intro g f w' hx hD hk
    obtain ⟨hb, hm1, hm2, hne⟩ := id hD
    obtain ⟨bx, e0, e1, r0, r1, r2, r3, r4, r5⟩ := MkM.cells hm1 (hx 18 _ rfl)
    refine Fx.gives_skip (w' := (w'.setCell ⟨bx, 0, none⟩ (.int .i64 P1)).setCell ⟨bx, 1, none⟩ (.int .i64 P2)) ?_ ?_
    · clear hx hk hD hb hm1 hm2 hne
      go_simp
      try rfl
    · exact ⟨below_store hb r1, hm1.store (hx 18 _ rfl) r0, hm2.far (by decide) (fun y b' h1 h2 => (hne _ y _ b' (hx 18 _ rfl) h1 r0 h2).symm), hne⟩
  simp only [Act.put, List.setIfInBounds_toArray, List.set_cons_zero, List.set_cons_succ]
  refine Fx.WM.eff 21 undef (by rfl) (by kernel_rfl) (by kernel_rfl) (by kernel_rfl) (by rfl) ?_ ?_
  · intro g f w' hx hD hk
    obtain ⟨hb, hm1, hm2, hne⟩ := id hD
    obtain ⟨by_, e0, e1, r0, r1, r2, r3, r4, r5⟩ := MkM.cells hm2 (hx 19 _ rfl)
    refine Fx.gives_skip (w' := (w'.setCell ⟨by_, 0, none⟩ (.int .i64 Q1)).setCell ⟨by_, 1, none⟩ (.int .i64 Q2)) ?_ ?_
    · clear hx hk hD hb hm1 hm2 hne
      go_simp
      try rfl
    · exact ⟨below_store hb r1, hm1.far (by decide) (fun y b' h1 h2 => hne y _ b' _ h1 (hx 19 _ rfl) h2 r0), hm2.store (hx 19 _ rfl) r0, hne⟩
  simp only [Act.put, List.setIfInBounds_toArray, List.set_cons_zero, List.set_cons_succ]
  refine Fx.WM.nil (by kernel_rfl) ?_
  intro w2 hD
  obtain ⟨hb, hm1, hm2, hne⟩ := hD
  obtain ⟨bx, hx1, hx2, hxb⟩ := hm1.end_ (x := x) (by rfl) (by rfl)
  obtain ⟨by_, hy1, hy2, hyb⟩ := hm2.end_ (x := y) (by rfl) (by rfl)
  obtain ⟨x1, x2⟩ := x
  obtain ⟨y1, y2⟩ := y
  simp only at hx1 hy1
  subst hx1 hy1
  clear hm1 hm2 hne hx2 hy2
  all_goals
    have HB2 := Lib.hid (show Below w.heap.size w w2 from step_below hb (by repeat' (first | exact Below.refl _ _ | exact HB1.out | refine below_drewN ?_ _ | refine Below.drew ?_ | refine Below.alloc ?_ (by first | omega | (simp; done) | (simp; omega) | (simp [World.setCell]; omega)) _ | refine Below.setCell ?_ (by first | omega | (simp; done) | (simp; omega)) _ | assumption)))
    have K0_2 := Lib.hid (step_blk hb (show Blk _ (w.heap.size) 23 #[.int .i64 (a), .int .i64 (b)] by repeat' (first | exact K0_1.out | exact K1_1.out | exact K2_1.out | exact Blk.at_ _ (by first | rfl | (simp; done) | (simp; omega)) _ _ | refine Blk.drewN ?_ _ | refine Blk.drew ?_ | refine Blk.alloc ?_ _ | refine Blk.far ?_ (by first | omega | (simp; done) | (simp; omega)) _ | assumption)))
    have K1_2 := Lib.hid (step_blk hb (show Blk _ (w.heap.size + 1) 23 #[.int .i64 (c), .int .i64 (d)] by repeat' (first | exact K0_1.out | exact K1_1.out | exact K2_1.out | exact Blk.at_ _ (by first | rfl | (simp; done) | (simp; omega)) _ _ | refine Blk.drewN ?_ _ | refine Blk.drew ?_ | refine Blk.alloc ?_ _ | refine Blk.far ?_ (by first | omega | (simp; done) | (simp; omega)) _ | assumption)))
    have K2_2 := Lib.hid (step_blk hb (show Blk _ (w.heap.size + 2) 23 #[.int .i64 (0), .int .i64 (0)] by repeat' (first | exact K0_1.out | exact K1_1.out | exact K2_1.out | exact Blk.at_ _ (by first | rfl | (simp; done) | (simp; omega)) _ _ | refine Blk.drewN ?_ _ | refine Blk.drew ?_ | refine Blk.alloc ?_ _ | refine Blk.far ?_ (by first | omega | (simp; done) | (simp; omega)) _ | assumption)))
    have hz2 := hb.size
    try simp only [World.size_alloc, World.drewN, World.drew] at hz2
    clear hb K0_1 K1_1 K2_1 z0_0_1 z0_1_1 l0_1 z1_0_1 z1_1_1 l1_1 z2_0_1 z2_1_1 l2_1
    have l0_2 : w.heap.size < w2.heap.size := K0_2.out.lt
    have z0_0_2 : w2.cell? ⟨w.heap.size, 0, none⟩ = some (.int .i64 (a)) := K0_2.out.cell 0
    have z0_1_2 : w2.cell? ⟨w.heap.size, 1, none⟩ = some (.int .i64 (b)) := K0_2.out.cell 1
    have l1_2 : w.heap.size + 1 < w2.heap.size := K1_2.out.lt
    have z1_0_2 : w2.cell? ⟨w.heap.size + 1, 0, none⟩ = some (.int .i64 (c)) := K1_2.out.cell 0
    have z1_1_2 : w2.cell? ⟨w.heap.size + 1, 1, none⟩ = some (.int .i64 (d)) := K1_2.out.cell 1
    have l2_2 : w.heap.size + 2 < w2.heap.size := K2_2.out.lt
    have z2_0_2 : w2.cell? ⟨w.heap.size + 2, 0, none⟩ = some (.int .i64 (0)) := K2_2.out.cell 0
    have z2_1_2 : w2.cell? ⟨w.heap.size + 2, 1, none⟩ = some (.int .i64 (0)) := K2_2.out.cell 1
    go_wp2
    by_cases m1 : D1 < P1
    · have h1 := HM1.out.1 m1
      have hT := HT.out
      rw [if_pos (.inl h1)] at hT
      cases hT
      refine Fx.regionW (fun W f w' => Below W.heap.size W w') (by kernel_rfl) (by kernel_rfl) ?_ ?_
      · intro f hf0
        exact below_drewN (Below.refl _ _) 1
      repeat (first
        | (refine Fx.skip_ (by rfl) (fun f w h => h) ?_; simp only [Act.put, List.setIfInBounds_toArray, List.set_cons_zero, List.set_cons_succ])
        | (refine Fx.val_ ?_ (by rfl) ?_ (fun f w h => h) ?_
           rotate_left
           · intro f w' hD hk
             have hb := hD
             have y0_0 : w'.cell? ⟨w.heap.size, 0, none⟩ = some (.int .i64 (a)) := (step_blk hb (show Blk _ (w.heap.size) 23 #[.int .i64 (a), .int .i64 (b)] by repeat' (first | exact K0_2.out | exact K1_2.out | exact K2_2.out | exact Blk.at_ _ (by first | rfl | (simp; done) | (simp; omega)) _ _ | refine Blk.drewN ?_ _ | refine Blk.drew ?_ | refine Blk.alloc ?_ _ | refine Blk.far ?_ (by first | omega | (simp; done) | (simp; omega)) _ | assumption))).cell 0
             have y0_1 : w'.cell? ⟨w.heap.size, 1, none⟩ = some (.int .i64 (b)) := (step_blk hb (show Blk _ (w.heap.size) 23 #[.int .i64 (a), .int .i64 (b)] by repeat' (first | exact K0_2.out | exact K1_2.out | exact K2_2.out | exact Blk.at_ _ (by first | rfl | (simp; done) | (simp; omega)) _ _ | refine Blk.drewN ?_ _ | refine Blk.drew ?_ | refine Blk.alloc ?_ _ | refine Blk.far ?_ (by first | omega | (simp; done) | (simp; omega)) _ | assumption))).cell 1
             have y1_0 : w'.cell? ⟨w.heap.size + 1, 0, none⟩ = some (.int .i64 (c)) := (step_blk hb (show Blk _ (w.heap.size + 1) 23 #[.int .i64 (c), .int .i64 (d)] by repeat' (first | exact K0_2.out | exact K1_2.out | exact K2_2.out | exact Blk.at_ _ (by first | rfl | (simp; done) | (simp; omega)) _ _ | refine Blk.drewN ?_ _ | refine Blk.drew ?_ | refine Blk.alloc ?_ _ | refine Blk.far ?_ (by first | omega | (simp; done) | (simp; omega)) _ | assumption))).cell 0
             have y1_1 : w'.cell? ⟨w.heap.size + 1, 1, none⟩ = some (.int .i64 (d)) := (step_blk hb (show Blk _ (w.heap.size + 1) 23 #[.int .i64 (c), .int .i64 (d)] by repeat' (first | exact K0_2.out | exact K1_2.out | exact K2_2.out | exact Blk.at_ _ (by first | rfl | (simp; done) | (simp; omega)) _ _ | refine Blk.drewN ?_ _ | refine Blk.drew ?_ | refine Blk.alloc ?_ _ | refine Blk.far ?_ (by first | omega | (simp; done) | (simp; omega)) _ | assumption))).cell 1
             have y2_0 : w'.cell? ⟨w.heap.size + 2, 0, none⟩ = some (.int .i64 (0)) := (step_blk hb (show Blk _ (w.heap.size + 2) 23 #[.int .i64 (0), .int .i64 (0)] by repeat' (first | exact K0_2.out | exact K1_2.out | exact K2_2.out | exact Blk.at_ _ (by first | rfl | (simp; done) | (simp; omega)) _ _ | refine Blk.drewN ?_ _ | refine Blk.drew ?_ | refine Blk.alloc ?_ _ | refine Blk.far ?_ (by first | omega | (simp; done) | (simp; omega)) _ | assumption))).cell 0
             have y2_1 : w'.cell? ⟨w.heap.size + 2, 1, none⟩ = some (.int .i64 (0)) := (step_blk hb (show Blk _ (w.heap.size + 2) 23 #[.int .i64 (0), .int .i64 (0)] by repeat' (first | exact K0_2.out | exact K1_2.out | exact K2_2.out | exact Blk.at_ _ (by first | rfl | (simp; done) | (simp; omega)) _ _ | refine Blk.drewN ?_ _ | refine Blk.drew ?_ | refine Blk.alloc ?_ _ | refine Blk.far ?_ (by first | omega | (simp; done) | (simp; omega)) _ | assumption))).cell 1
             have x0 : w'.cell? ⟨bx, 0, none⟩ = some (.int .i64 P1) := (step_blk hb hxb).cell 0
             have x1 : w'.cell? ⟨bx, 1, none⟩ = some (.int .i64 P2) := (step_blk hb hxb).cell 1
             have x2 : w'.cell? ⟨by_, 0, none⟩ = some (.int .i64 Q1) := (step_blk hb hyb).cell 0
             have x3 : w'.cell? ⟨by_, 1, none⟩ = some (.int .i64 Q2) := (step_blk hb hyb).cell 1
             clear hk hD hb
             go_simp
             try rfl
           simp only [Act.put, List.setIfInBounds_toArray, List.set_cons_zero, List.set_cons_succ]))
      refine Fx.nil_ ?_
      intro f w3 hall hb3
      try clear hall
      have hx3 := step_blk hb3 hxb
      have hy3 := step_blk hb3 hyb
      have x0 : w3.cell? ⟨bx, 0, none⟩ = some (.int .i64 P1) := hx3.cell 0
      have x1 : w3.cell? ⟨bx, 1, none⟩ = some (.int .i64 P2) := hx3.cell 1
      have x2 : w3.cell? ⟨by_, 0, none⟩ = some (.int .i64 Q1) := hy3.cell 0
      have x3 : w3.cell? ⟨by_, 1, none⟩ = some (.int .i64 Q2) := hy3.cell 1
      clear hxb hyb hx3 hy3
      have HB3 := Lib.hid (show Below w.heap.size w w3 from step_below hb3 (by repeat' (first | exact Below.refl _ _ | exact HB2.out | refine below_drewN ?_ _ | refine Below.drew ?_ | refine Below.alloc ?_ (by first | omega | (simp; done) | (simp; omega) | (simp [World.setCell]; omega)) _ | refine Below.setCell ?_ (by first | omega | (simp; done) | (simp; omega)) _ | assumption)))
      have K0_3 := Lib.hid (step_blk hb3 (show Blk _ (w.heap.size) 23 #[.int .i64 (a), .int .i64 (b)] by repeat' (first | exact K0_2.out | exact K1_2.out | exact K2_2.out | exact Blk.at_ _ (by first | rfl | (simp; done) | (simp; omega)) _ _ | refine Blk.drewN ?_ _ | refine Blk.drew ?_ | refine Blk.alloc ?_ _ | refine Blk.far ?_ (by first | omega | (simp; done) | (simp; omega)) _ | assumption)))
      have K1_3 := Lib.hid (step_blk hb3 (show Blk _ (w.heap.size + 1) 23 #[.int .i64 (c), .int .i64 (d)] by repeat' (first | exact K0_2.out | exact K1_2.out | exact K2_2.out | exact Blk.at_ _ (by first | rfl | (simp; done) | (simp; omega)) _ _ | refine Blk.drewN ?_ _ | refine Blk.drew ?_ | refine Blk.alloc ?_ _ | refine Blk.far ?_ (by first | omega | (simp; done) | (simp; omega)) _ | assumption)))
      have K2_3 := Lib.hid (step_blk hb3 (show Blk _ (w.heap.size + 2) 23 #[.int .i64 (0), .int .i64 (0)] by repeat' (first | exact K0_2.out | exact K1_2.out | exact K2_2.out | exact Blk.at_ _ (by first | rfl | (simp; done) | (simp; omega)) _ _ | refine Blk.drewN ?_ _ | refine Blk.drew ?_ | refine Blk.alloc ?_ _ | refine Blk.far ?_ (by first | omega | (simp; done) | (simp; omega)) _ | assumption)))
      have hz3 := hb3.size
      try simp only [World.size_alloc, World.drewN, World.drew] at hz3
      clear hb3 K0_2 K1_2 K2_2 z0_0_2 z0_1_2 l0_2 z1_0_2 z1_1_2 l1_2 z2_0_2 z2_1_2 l2_2
      have l0_3 : w.heap.size < w3.heap.size := K0_3.out.lt
      have z0_0_3 : w3.cell? ⟨w.heap.size, 0, none⟩ = some (.int .i64 (a)) := K0_3.out.cell 0
      have z0_1_3 : w3.cell? ⟨w.heap.size, 1, none⟩ = some (.int .i64 (b)) := K0_3.out.cell 1
      have l1_3 : w.heap.size + 1 < w3.heap.size := K1_3.out.lt
      have z1_0_3 : w3.cell? ⟨w.heap.size + 1, 0, none⟩ = some (.int .i64 (c)) := K1_3.out.cell 0
      have z1_1_3 : w3.cell? ⟨w.heap.size + 1, 1, none⟩ = some (.int .i64 (d)) := K1_3.out.cell 1
      have l2_3 : w.heap.size + 2 < w3.heap.size := K2_3.out.lt
      have z2_0_3 : w3.cell? ⟨w.heap.size + 2, 0, none⟩ = some (.int .i64 (0)) := K2_3.out.cell 0
      have z2_1_3 : w3.cell? ⟨w.heap.size + 2, 1, none⟩ = some (.int .i64 (0)) := K2_3.out.cell 1
      have zf2_0 := K2_3.out.frozen 0
      have zf2_1 := K2_3.out.frozen 1
      go_wp2
      exact bodyPost_ret (v := .tuple #[.agg #[.int .i64 0, .int .i64 0], .bool false]) (by simp [results, Try.results97, go_sem, z2_0_3, z2_1_3, l2_3]) rfl ⟨rfl, by repeat' (first | exact Below.refl _ _ | exact HB3.out | refine below_drewN ?_ _ | refine Below.drew ?_ | refine Below.alloc ?_ (by first | omega | (simp; done) | (simp; omega) | (simp [World.setCell]; omega)) _ | refine Below.setCell ?_ (by first | omega | (simp; done) | (simp; omega)) _ | assumption)⟩
    by_cases m2 : D2 < P2
    · skip
      have h1 := HM2.out.1 m2
      have hT := HT.out
      rw [if_pos (.inr h1)] at hT
      cases hT
      refine Fx.regionW (fun W f w' => Below W.heap.size W w') (by kernel_rfl) (by kernel_rfl) ?_ ?_
      · intro f hf0
        exact below_drewN (Below.refl _ _) 1
      repeat (first
        | (refine Fx.skip_ (by rfl) (fun f w h => h) ?_; simp only [Act.put, List.setIfInBounds_toArray, List.set_cons_zero, List.set_cons_succ])
        | (refine Fx.val_ ?_ (by rfl) ?_ (fun f w h => h) ?_
           rotate_left
           · intro f w' hD hk
             have hb := hD
             have y0_0 : w'.cell? ⟨w.heap.size, 0, none⟩ = some (.int .i64 (a)) := (step_blk hb (show Blk _ (w.heap.size) 23 #[.int .i64 (a), .int .i64 (b)] by repeat' (first | exact K0_2.out | exact K1_2.out | exact K2_2.out | exact Blk.at_ _ (by first | rfl | (simp; done) | (simp; omega)) _ _ | refine Blk.drewN ?_ _ | refine Blk.drew ?_ | refine Blk.alloc ?_ _ | refine Blk.far ?_ (by first | omega | (simp; done) | (simp; omega)) _ | assumption))).cell 0
             have y0_1 : w'.cell? ⟨w.heap.size, 1, none⟩ = some (.int .i64 (b)) := (step_blk hb (show Blk _ (w.heap.size) 23 #[.int .i64 (a), .int .i64 (b)] by repeat' (first | exact K0_2.out | exact K1_2.out | exact K2_2.out | exact Blk.at_ _ (by first | rfl | (simp; done) | (simp; omega)) _ _ | refine Blk.drewN ?_ _ | refine Blk.drew ?_ | refine Blk.alloc ?_ _ | refine Blk.far ?_ (by first | omega | (simp; done) | (simp; omega)) _ | assumption))).cell 1
             have y1_0 : w'.cell? ⟨w.heap.size + 1, 0, none⟩ = some (.int .i64 (c)) := (step_blk hb (show Blk _ (w.heap.size + 1) 23 #[.int .i64 (c), .int .i64 (d)] by repeat' (first | exact K0_2.out | exact K1_2.out | exact K2_2.out | exact Blk.at_ _ (by first | rfl | (simp; done) | (simp; omega)) _ _ | refine Blk.drewN ?_ _ | refine Blk.drew ?_ | refine Blk.alloc ?_ _ | refine Blk.far ?_ (by first | omega | (simp; done) | (simp; omega)) _ | assumption))).cell 0
             have y1_1 : w'.cell? ⟨w.heap.size + 1, 1, none⟩ = some (.int .i64 (d)) := (step_blk hb (show Blk _ (w.heap.size + 1) 23 #[.int .i64 (c), .int .i64 (d)] by repeat' (first | exact K0_2.out | exact K1_2.out | exact K2_2.out | exact Blk.at_ _ (by first | rfl | (simp; done) | (simp; omega)) _ _ | refine Blk.drewN ?_ _ | refine Blk.drew ?_ | refine Blk.alloc ?_ _ | refine Blk.far ?_ (by first | omega | (simp; done) | (simp; omega)) _ | assumption))).cell 1
             have y2_0 : w'.cell? ⟨w.heap.size + 2, 0, none⟩ = some (.int .i64 (0)) := (step_blk hb (show Blk _ (w.heap.size + 2) 23 #[.int .i64 (0), .int .i64 (0)] by repeat' (first | exact K0_2.out | exact K1_2.out | exact K2_2.out | exact Blk.at_ _ (by first | rfl | (simp; done) | (simp; omega)) _ _ | refine Blk.drewN ?_ _ | refine Blk.drew ?_ | refine Blk.alloc ?_ _ | refine Blk.far ?_ (by first | omega | (simp; done) | (simp; omega)) _ | assumption))).cell 0
             have y2_1 : w'.cell? ⟨w.heap.size + 2, 1, none⟩ = some (.int .i64 (0)) := (step_blk hb (show Blk _ (w.heap.size + 2) 23 #[.int .i64 (0), .int .i64 (0)] by repeat' (first | exact K0_2.out | exact K1_2.out | exact K2_2.out | exact Blk.at_ _ (by first | rfl | (simp; done) | (simp; omega)) _ _ | refine Blk.drewN ?_ _ | refine Blk.drew ?_ | refine Blk.alloc ?_ _ | refine Blk.far ?_ (by first | omega | (simp; done) | (simp; omega)) _ | assumption))).cell 1
             have x0 : w'.cell? ⟨bx, 0, none⟩ = some (.int .i64 P1) := (step_blk hb hxb).cell 0
             have x1 : w'.cell? ⟨bx, 1, none⟩ = some (.int .i64 P2) := (step_blk hb hxb).cell 1
             have x2 : w'.cell? ⟨by_, 0, none⟩ = some (.int .i64 Q1) := (step_blk hb hyb).cell 0
             have x3 : w'.cell? ⟨by_, 1, none⟩ = some (.int .i64 Q2) := (step_blk hb hyb).cell 1
             clear hk hD hb
             go_simp
             try rfl
           simp only [Act.put, List.setIfInBounds_toArray, List.set_cons_zero, List.set_cons_succ]))
      refine Fx.nil_ ?_
      intro f w3 hall hb3
      try clear hall
      have hx3 := step_blk hb3 hxb
      have hy3 := step_blk hb3 hyb
      have x0 : w3.cell? ⟨bx, 0, none⟩ = some (.int .i64 P1) := hx3.cell 0
      have x1 : w3.cell? ⟨bx, 1, none⟩ = some (.int .i64 P2) := hx3.cell 1
      have x2 : w3.cell? ⟨by_, 0, none⟩ = some (.int .i64 Q1) := hy3.cell 0
      have x3 : w3.cell? ⟨by_, 1, none⟩ = some (.int .i64 Q2) := hy3.cell 1
      clear hxb hyb hx3 hy3
      have HB3 := Lib.hid (show Below w.heap.size w w3 from step_below hb3 (by repeat' (first | exact Below.refl _ _ | exact HB2.out | refine below_drewN ?_ _ | refine Below.drew ?_ | refine Below.alloc ?_ (by first | omega | (simp; done) | (simp; omega) | (simp [World.setCell]; omega)) _ | refine Below.setCell ?_ (by first | omega | (simp; done) | (simp; omega)) _ | assumption)))
      have K0_3 := Lib.hid (step_blk hb3 (show Blk _ (w.heap.size) 23 #[.int .i64 (a), .int .i64 (b)] by repeat' (first | exact K0_2.out | exact K1_2.out | exact K2_2.out | exact Blk.at_ _ (by first | rfl | (simp; done) | (simp; omega)) _ _ | refine Blk.drewN ?_ _ | refine Blk.drew ?_ | refine Blk.alloc ?_ _ | refine Blk.far ?_ (by first | omega | (simp; done) | (simp; omega)) _ | assumption)))
      have K1_3 := Lib.hid (step_blk hb3 (show Blk _ (w.heap.size + 1) 23 #[.int .i64 (c), .int .i64 (d)] by repeat' (first | exact K0_2.out | exact K1_2.out | exact K2_2.out | exact Blk.at_ _ (by first | rfl | (simp; done) | (simp; omega)) _ _ | refine Blk.drewN ?_ _ | refine Blk.drew ?_ | refine Blk.alloc ?_ _ | refine Blk.far ?_ (by first | omega | (simp; done) | (simp; omega)) _ | assumption)))
      have K2_3 := Lib.hid (step_blk hb3 (show Blk _ (w.heap.size + 2) 23 #[.int .i64 (0), .int .i64 (0)] by repeat' (first | exact K0_2.out | exact K1_2.out | exact K2_2.out | exact Blk.at_ _ (by first | rfl | (simp; done) | (simp; omega)) _ _ | refine Blk.drewN ?_ _ | refine Blk.drew ?_ | refine Blk.alloc ?_ _ | refine Blk.far ?_ (by first | omega | (simp; done) | (simp; omega)) _ | assumption)))
      have hz3 := hb3.size
      try simp only [World.size_alloc, World.drewN, World.drew] at hz3
      clear hb3 K0_2 K1_2 K2_2 z0_0_2 z0_1_2 l0_2 z1_0_2 z1_1_2 l1_2 z2_0_2 z2_1_2 l2_2
      have l0_3 : w.heap.size < w3.heap.size := K0_3.out.lt
      have z0_0_3 : w3.cell? ⟨w.heap.size, 0, none⟩ = some (.int .i64 (a)) := K0_3.out.cell 0
      have z0_1_3 : w3.cell? ⟨w.heap.size, 1, none⟩ = some (.int .i64 (b)) := K0_3.out.cell 1
      have l1_3 : w.heap.size + 1 < w3.heap.size := K1_3.out.lt
      have z1_0_3 : w3.cell? ⟨w.heap.size + 1, 0, none⟩ = some (.int .i64 (c)) := K1_3.out.cell 0
      have z1_1_3 : w3.cell? ⟨w.heap.size + 1, 1, none⟩ = some (.int .i64 (d)) := K1_3.out.cell 1
      have l2_3 : w.heap.size + 2 < w3.heap.size := K2_3.out.lt
      have z2_0_3 : w3.cell? ⟨w.heap.size + 2, 0, none⟩ = some (.int .i64 (0)) := K2_3.out.cell 0
      have z2_1_3 : w3.cell? ⟨w.heap.size + 2, 1, none⟩ = some (.int .i64 (0)) := K2_3.out.cell 1
      have zf2_0 := K2_3.out.frozen 0
      have zf2_1 := K2_3.out.frozen 1
      go_wp2
      exact bodyPost_ret (v := .tuple #[.agg #[.int .i64 0, .int .i64 0], .bool false]) (by simp [results, Try.results97, go_sem, z2_0_3, z2_1_3, l2_3]) rfl ⟨rfl, by repeat' (first | exact Below.refl _ _ | exact HB3.out | refine below_drewN ?_ _ | refine Below.drew ?_ | refine Below.alloc ?_ (by first | omega | (simp; done) | (simp; omega) | (simp [World.setCell]; omega)) _ | refine Below.setCell ?_ (by first | omega | (simp; done) | (simp; omega)) _ | assumption)⟩
    · skip
      have h1 := mt HM1.out.2 m1
      have h2 := mt HM2.out.2 m2
      have hT := HT.out
      rw [if_neg (by omega)] at hT
      cases hT
      have n1 := Int.mul_pos (show 0 < P1 by omega) (show 0 < Q1 by omega)
      have n2 := Int.mul_pos (show 0 < P2 by omega) (show 0 < Q2 by omega)
      have w7 := IntWalk.i64_in (P1 * Q1) ⟨by omega, by omega⟩
      have w8 := IntWalk.i64_in (P2 * Q2) ⟨by omega, by omega⟩
      refine Fx.regionW (fun W f w' => Below W.heap.size W w') (by kernel_rfl) (by kernel_rfl) ?_ ?_
      · intro f hf0
        exact below_drewN (Below.refl _ _) 1
      repeat (first
        | (refine Fx.skip_ (by rfl) (fun f w h => h) ?_; simp only [Act.put, List.setIfInBounds_toArray, List.set_cons_zero, List.set_cons_succ])
        | (refine Fx.val_ ?_ (by rfl) ?_ (fun f w h => h) ?_
           rotate_left
           · intro f w' hD hk
             have hb := hD
             have y0_0 : w'.cell? ⟨w.heap.size, 0, none⟩ = some (.int .i64 (a)) := (step_blk hb (show Blk _ (w.heap.size) 23 #[.int .i64 (a), .int .i64 (b)] by repeat' (first | exact K0_2.out | exact K1_2.out | exact K2_2.out | exact Blk.at_ _ (by first | rfl | (simp; done) | (simp; omega)) _ _ | refine Blk.drewN ?_ _ | refine Blk.drew ?_ | refine Blk.alloc ?_ _ | refine Blk.far ?_ (by first | omega | (simp; done) | (simp; omega)) _ | assumption))).cell 0
             have y0_1 : w'.cell? ⟨w.heap.size, 1, none⟩ = some (.int .i64 (b)) := (step_blk hb (show Blk _ (w.heap.size) 23 #[.int .i64 (a), .int .i64 (b)] by repeat' (first | exact K0_2.out | exact K1_2.out | exact K2_2.out | exact Blk.at_ _ (by first | rfl | (simp; done) | (simp; omega)) _ _ | refine Blk.drewN ?_ _ | refine Blk.drew ?_ | refine Blk.alloc ?_ _ | refine Blk.far ?_ (by first | omega | (simp; done) | (simp; omega)) _ | assumption))).cell 1
             have y1_0 : w'.cell? ⟨w.heap.size + 1, 0, none⟩ = some (.int .i64 (c)) := (step_blk hb (show Blk _ (w.heap.size + 1) 23 #[.int .i64 (c), .int .i64 (d)] by repeat' (first | exact K0_2.out | exact K1_2.out | exact K2_2.out | exact Blk.at_ _ (by first | rfl | (simp; done) | (simp; omega)) _ _ | refine Blk.drewN ?_ _ | refine Blk.drew ?_ | refine Blk.alloc ?_ _ | refine Blk.far ?_ (by first | omega | (simp; done) | (simp; omega)) _ | assumption))).cell 0
             have y1_1 : w'.cell? ⟨w.heap.size + 1, 1, none⟩ = some (.int .i64 (d)) := (step_blk hb (show Blk _ (w.heap.size + 1) 23 #[.int .i64 (c), .int .i64 (d)] by repeat' (first | exact K0_2.out | exact K1_2.out | exact K2_2.out | exact Blk.at_ _ (by first | rfl | (simp; done) | (simp; omega)) _ _ | refine Blk.drewN ?_ _ | refine Blk.drew ?_ | refine Blk.alloc ?_ _ | refine Blk.far ?_ (by first | omega | (simp; done) | (simp; omega)) _ | assumption))).cell 1
             have y2_0 : w'.cell? ⟨w.heap.size + 2, 0, none⟩ = some (.int .i64 (0)) := (step_blk hb (show Blk _ (w.heap.size + 2) 23 #[.int .i64 (0), .int .i64 (0)] by repeat' (first | exact K0_2.out | exact K1_2.out | exact K2_2.out | exact Blk.at_ _ (by first | rfl | (simp; done) | (simp; omega)) _ _ | refine Blk.drewN ?_ _ | refine Blk.drew ?_ | refine Blk.alloc ?_ _ | refine Blk.far ?_ (by first | omega | (simp; done) | (simp; omega)) _ | assumption))).cell 0
             have y2_1 : w'.cell? ⟨w.heap.size + 2, 1, none⟩ = some (.int .i64 (0)) := (step_blk hb (show Blk _ (w.heap.size + 2) 23 #[.int .i64 (0), .int .i64 (0)] by repeat' (first | exact K0_2.out | exact K1_2.out | exact K2_2.out | exact Blk.at_ _ (by first | rfl | (simp; done) | (simp; omega)) _ _ | refine Blk.drewN ?_ _ | refine Blk.drew ?_ | refine Blk.alloc ?_ _ | refine Blk.far ?_ (by first | omega | (simp; done) | (simp; omega)) _ | assumption))).cell 1
             have x0 : w'.cell? ⟨bx, 0, none⟩ = some (.int .i64 P1) := (step_blk hb hxb).cell 0
             have x1 : w'.cell? ⟨bx, 1, none⟩ = some (.int .i64 P2) := (step_blk hb hxb).cell 1
             have x2 : w'.cell? ⟨by_, 0, none⟩ = some (.int .i64 Q1) := (step_blk hb hyb).cell 0
             have x3 : w'.cell? ⟨by_, 1, none⟩ = some (.int .i64 Q2) := (step_blk hb hyb).cell 1
             clear hk hD hb
             go_simp
             try rfl
           simp only [Act.put, List.setIfInBounds_toArray, List.set_cons_zero, List.set_cons_succ]))
      refine Fx.nil_ ?_
      intro f w3 hall hb3
      try clear hall
      have hx3 := step_blk hb3 hxb
      have hy3 := step_blk hb3 hyb
      have x0 : w3.cell? ⟨bx, 0, none⟩ = some (.int .i64 P1) := hx3.cell 0
      have x1 : w3.cell? ⟨bx, 1, none⟩ = some (.int .i64 P2) := hx3.cell 1
      have x2 : w3.cell? ⟨by_, 0, none⟩ = some (.int .i64 Q1) := hy3.cell 0
      have x3 : w3.cell? ⟨by_, 1, none⟩ = some (.int .i64 Q2) := hy3.cell 1
      clear hxb hyb hx3 hy3
      have HB3 := Lib.hid (show Below w.heap.size w w3 from step_below hb3 (by repeat' (first | exact Below.refl _ _ | exact HB2.out | refine below_drewN ?_ _ | refine Below.drew ?_ | refine Below.alloc ?_ (by first | omega | (simp; done) | (simp; omega) | (simp [World.setCell]; omega)) _ | refine Below.setCell ?_ (by first | omega | (simp; done) | (simp; omega)) _ | assumption)))
      have K0_3 := Lib.hid (step_blk hb3 (show Blk _ (w.heap.size) 23 #[.int .i64 (a), .int .i64 (b)] by repeat' (first | exact K0_2.out | exact K1_2.out | exact K2_2.out | exact Blk.at_ _ (by first | rfl | (simp; done) | (simp; omega)) _ _ | refine Blk.drewN ?_ _ | refine Blk.drew ?_ | refine Blk.alloc ?_ _ | refine Blk.far ?_ (by first | omega | (simp; done) | (simp; omega)) _ | assumption)))
      have K1_3 := Lib.hid (step_blk hb3 (show Blk _ (w.heap.size + 1) 23 #[.int .i64 (c), .int .i64 (d)] by repeat' (first | exact K0_2.out | exact K1_2.out | exact K2_2.out | exact Blk.at_ _ (by first | rfl | (simp; done) | (simp; omega)) _ _ | refine Blk.drewN ?_ _ | refine Blk.drew ?_ | refine Blk.alloc ?_ _ | refine Blk.far ?_ (by first | omega | (simp; done) | (simp; omega)) _ | assumption)))
      have K2_3 := Lib.hid (step_blk hb3 (show Blk _ (w.heap.size + 2) 23 #[.int .i64 (0), .int .i64 (0)] by repeat' (first | exact K0_2.out | exact K1_2.out | exact K2_2.out | exact Blk.at_ _ (by first | rfl | (simp; done) | (simp; omega)) _ _ | refine Blk.drewN ?_ _ | refine Blk.drew ?_ | refine Blk.alloc ?_ _ | refine Blk.far ?_ (by first | omega | (simp; done) | (simp; omega)) _ | assumption)))
      have hz3 := hb3.size
      try simp only [World.size_alloc, World.drewN, World.drew] at hz3
      clear hb3 K0_2 K1_2 K2_2 z0_0_2 z0_1_2 l0_2 z1_0_2 z1_1_2 l1_2 z2_0_2 z2_1_2 l2_2
      have l0_3 : w.heap.size < w3.heap.size := K0_3.out.lt
      have z0_0_3 : w3.cell? ⟨w.heap.size, 0, none⟩ = some (.int .i64 (a)) := K0_3.out.cell 0
      have z0_1_3 : w3.cell? ⟨w.heap.size, 1, none⟩ = some (.int .i64 (b)) := K0_3.out.cell 1
      have l1_3 : w.heap.size + 1 < w3.heap.size := K1_3.out.lt
      have z1_0_3 : w3.cell? ⟨w.heap.size + 1, 0, none⟩ = some (.int .i64 (c)) := K1_3.out.cell 0
      have z1_1_3 : w3.cell? ⟨w.heap.size + 1, 1, none⟩ = some (.int .i64 (d)) := K1_3.out.cell 1
      have l2_3 : w.heap.size + 2 < w3.heap.size := K2_3.out.lt
      have z2_0_3 : w3.cell? ⟨w.heap.size + 2, 0, none⟩ = some (.int .i64 (0)) := K2_3.out.cell 0
      have z2_1_3 : w3.cell? ⟨w.heap.size + 2, 1, none⟩ = some (.int .i64 (0)) := K2_3.out.cell 1
      have zf2_0 := K2_3.out.frozen 0
      have zf2_1 := K2_3.out.frozen 1
      go_wp2
      exact bodyPost_ret (v := .tuple #[.agg #[.int .i64 (P1 * Q1), .int .i64 (P2 * Q2)], .bool true]) (by simp [results, Try.results97, go_sem, z2_0_3, z2_1_3, l2_3]) rfl ⟨rfl, by repeat' (first | exact Below.refl _ _ | exact HB3.out | refine below_drewN ?_ _ | refine Below.drew ?_ | refine Below.alloc ?_ (by first | omega | (simp; done) | (simp; omega) | (simp [World.setCell]; omega)) _ | refine Below.setCell ?_ (by first | omega | (simp; done) | (simp; omega)) _ | assumption)⟩

end Go.Proofs.Ytmioamcgbihhjaa
