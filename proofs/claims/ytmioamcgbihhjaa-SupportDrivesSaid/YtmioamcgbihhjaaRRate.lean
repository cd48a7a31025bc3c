/- The contract of the reference's Rate. -/
import Derived.Test.YtmioamcgbihhjaaRate
namespace Go.Proofs.Ytmioamcgbihhjaa
open Go.RowKit

set_option maxRecDepth 100000 in
set_option maxHeartbeats 3000000 in
theorem rrate_any (A : Option Addr) (n c N : Nat) (l : List (Int × Int)) (s p : Int) (ht0 : trainErr l = 0) (w : World) (hx : Reads w N 2 A n (cells2 l)) (hN : N ≤ w.heap.size) (u v e : Int) (hR : rateF l s p = ((u, v), e)) :
    Calls Try.prog 58 #[.slice A n c, .int .i64 s, .int .i64 p] w fun en w' => en = .returned (.tuple #[.agg #[.int .i64 u, .int .i64 v], .int .i64 e]) ∧ Below w.heap.size w w' := by
  have HX := Lib.hid hx
  clear hx
  obtain ⟨R, hRR⟩ : ∃ R, ratioF l = R := ⟨_, rfl⟩
  obtain ⟨⟨x, y⟩, re⟩ := R
  unfold rateF at hR
  rw [hRR] at hR
  have HQ := Lib.hid (rratio_any A n c N l ht0 x y re hRR)
  have HRR := Lib.hid hRR
  clear hRR
  by_cases h0 : re = 0
  rotate_left
  · rw [if_pos h0] at hR
    cases hR
    have e0 : (re != 0) = true := by simpa using h0
    go_enter Try.func58, Try.ntmps58
    go_wp2_with fail
    refine (HQ.out _ (HX.out.belowLe ((Below.refl _ _).alloc (Nat.le_refl _) _) hN) (by simp; omega)).mono ?_
    rintro e w1 ⟨rfl, hb⟩
    have HB1 := Lib.hid (show Below w.heap.size w w1 from step_below hb (by repeat' (first | exact Below.refl _ _ | exact HB0.out | refine below_drewN ?_ _ | refine Below.drew ?_ | refine Below.alloc ?_ (by first | omega | (simp; done) | (simp; omega) | (simp [World.setCell]; omega)) _ | refine Below.setCell ?_ (by first | omega | (simp; done) | (simp; omega)) _ | assumption)))
    have K0_1 := Lib.hid (step_blk hb (show Blk _ (w.heap.size) 23 #[.int .i64 (0), .int .i64 (0)] by repeat' (first | exact Blk.at_ _ (by first | rfl | (simp; done) | (simp; omega)) _ _ | refine Blk.drewN ?_ _ | refine Blk.drew ?_ | refine Blk.alloc ?_ _ | refine Blk.far ?_ (by first | omega | (simp; done) | (simp; omega)) _ | assumption)))
    have hz1 := hb.size
    try simp only [World.size_alloc, World.drewN, World.drew] at hz1
    clear hb
    have l0_1 : w.heap.size < w1.heap.size := K0_1.out.lt
    have z0_0_1 : w1.cell? ⟨w.heap.size, 0, none⟩ = some (.int .i64 (0)) := K0_1.out.cell 0
    have z0_1_1 : w1.cell? ⟨w.heap.size, 1, none⟩ = some (.int .i64 (0)) := K0_1.out.cell 1
    have zf0_0 := K0_1.out.frozen 0
    have zf0_1 := K0_1.out.frozen 1
    go_wp2
    exact bodyPost_ret (v := .tuple #[.agg #[.int .i64 0, .int .i64 0], .int .i64 re]) (by simp [results, Try.results58, go_sem, z0_0_1, z0_1_1, l0_1]) rfl ⟨rfl, by repeat' (first | exact Below.refl _ _ | exact HB1.out | refine below_drewN ?_ _ | refine Below.drew ?_ | refine Below.alloc ?_ (by first | omega | (simp; done) | (simp; omega) | (simp [World.setCell]; omega)) _ | refine Below.setCell ?_ (by first | omega | (simp; done) | (simp; omega)) _ | assumption)⟩
  subst h0
  rw [if_neg (by simp)] at hR
  obtain ⟨-, px, py⟩ := ratio_part HRR.out
  obtain ⟨px1, px2⟩ := px
  obtain ⟨py1, py2⟩ := py
  unfold rateIn at hR
  cases g1 : withinB s 1 1000000 with
  | false =>
    rw [if_pos (.inl g1)] at hR
    cases hR
    have G1 := Lib.hid g1
    clear g1
    go_enter Try.func58, Try.ntmps58
    go_wp2_with fail
    refine (HQ.out _ (HX.out.belowLe ((Below.refl _ _).alloc (Nat.le_refl _) _) hN) (by simp; omega)).mono ?_
    rintro e w1 ⟨rfl, hb⟩
    have HB1 := Lib.hid (show Below w.heap.size w w1 from step_below hb (by repeat' (first | exact Below.refl _ _ | exact HB0.out | refine below_drewN ?_ _ | refine Below.drew ?_ | refine Below.alloc ?_ (by first | omega | (simp; done) | (simp; omega) | (simp [World.setCell]; omega)) _ | refine Below.setCell ?_ (by first | omega | (simp; done) | (simp; omega)) _ | assumption)))
    have K0_1 := Lib.hid (step_blk hb (show Blk _ (w.heap.size) 23 #[.int .i64 (0), .int .i64 (0)] by repeat' (first | exact Blk.at_ _ (by first | rfl | (simp; done) | (simp; omega)) _ _ | refine Blk.drewN ?_ _ | refine Blk.drew ?_ | refine Blk.alloc ?_ _ | refine Blk.far ?_ (by first | omega | (simp; done) | (simp; omega)) _ | assumption)))
    have hz1 := hb.size
    try simp only [World.size_alloc, World.drewN, World.drew] at hz1
    clear hb
    have l0_1 : w.heap.size < w1.heap.size := K0_1.out.lt
    have z0_0_1 : w1.cell? ⟨w.heap.size, 0, none⟩ = some (.int .i64 (0)) := K0_1.out.cell 0
    have z0_1_1 : w1.cell? ⟨w.heap.size, 1, none⟩ = some (.int .i64 (0)) := K0_1.out.cell 1
    have zf0_0 := K0_1.out.frozen 0
    have zf0_1 := K0_1.out.frozen 1
    go_wp2_with (first | (go_at_call 31; refine (withinref_is _ _ _ _ G1.out _).mono ?_; rintro e w' ⟨rfl, rfl⟩))
    exact bodyPost_ret (v := .tuple #[.agg #[.int .i64 0, .int .i64 0], .int .i64 2]) (by simp [results, Try.results58, go_sem, z0_0_1, z0_1_1, l0_1]) rfl ⟨rfl, by repeat' (first | exact Below.refl _ _ | exact HB1.out | refine below_drewN ?_ _ | refine Below.drew ?_ | refine Below.alloc ?_ (by first | omega | (simp; done) | (simp; omega) | (simp [World.setCell]; omega)) _ | refine Below.setCell ?_ (by first | omega | (simp; done) | (simp; omega)) _ | assumption)⟩
  | true =>
  cases g2 : withinB p 1 1000000 with
  | false =>
    rw [if_pos (.inr g2)] at hR
    cases hR
    have G1 := Lib.hid g1
    have G2 := Lib.hid g2
    clear g1 g2
    go_enter Try.func58, Try.ntmps58
    go_wp2_with fail
    refine (HQ.out _ (HX.out.belowLe ((Below.refl _ _).alloc (Nat.le_refl _) _) hN) (by simp; omega)).mono ?_
    rintro e w1 ⟨rfl, hb⟩
    have HB1 := Lib.hid (show Below w.heap.size w w1 from step_below hb (by repeat' (first | exact Below.refl _ _ | exact HB0.out | refine below_drewN ?_ _ | refine Below.drew ?_ | refine Below.alloc ?_ (by first | omega | (simp; done) | (simp; omega) | (simp [World.setCell]; omega)) _ | refine Below.setCell ?_ (by first | omega | (simp; done) | (simp; omega)) _ | assumption)))
    have K0_1 := Lib.hid (step_blk hb (show Blk _ (w.heap.size) 23 #[.int .i64 (0), .int .i64 (0)] by repeat' (first | exact Blk.at_ _ (by first | rfl | (simp; done) | (simp; omega)) _ _ | refine Blk.drewN ?_ _ | refine Blk.drew ?_ | refine Blk.alloc ?_ _ | refine Blk.far ?_ (by first | omega | (simp; done) | (simp; omega)) _ | assumption)))
    have hz1 := hb.size
    try simp only [World.size_alloc, World.drewN, World.drew] at hz1
    clear hb
    have l0_1 : w.heap.size < w1.heap.size := K0_1.out.lt
    have z0_0_1 : w1.cell? ⟨w.heap.size, 0, none⟩ = some (.int .i64 (0)) := K0_1.out.cell 0
    have z0_1_1 : w1.cell? ⟨w.heap.size, 1, none⟩ = some (.int .i64 (0)) := K0_1.out.cell 1
    have zf0_0 := K0_1.out.frozen 0
    have zf0_1 := K0_1.out.frozen 1
    go_wp2_with fail
    refine (withinref_is _ _ _ _ G1.out _).mono ?_
    rintro en w' ⟨rfl, rfl⟩
    go_wp2_with fail
    refine (withinref_is _ _ _ _ G2.out _).mono ?_
    rintro en w' ⟨rfl, rfl⟩
    go_wp2
    exact bodyPost_ret (v := .tuple #[.agg #[.int .i64 0, .int .i64 0], .int .i64 2]) (by simp [results, Try.results58, go_sem, z0_0_1, z0_1_1, l0_1]) rfl ⟨rfl, by repeat' (first | exact Below.refl _ _ | exact HB1.out | refine below_drewN ?_ _ | refine Below.drew ?_ | refine Below.alloc ?_ (by first | omega | (simp; done) | (simp; omega) | (simp [World.setCell]; omega)) _ | refine Below.setCell ?_ (by first | omega | (simp; done) | (simp; omega)) _ | assumption)⟩
  | true =>
  rw [if_neg (by rw [g1, g2]; simp)] at hR
  have w1 := (withinB_iff _ _ _).1 g1
  have w2 := (withinB_iff _ _ _).1 g2
  obtain ⟨s1, s2⟩ := w1
  obtain ⟨p1, p2⟩ := w2
  have G1 := Lib.hid g1
  have G2 := Lib.hid g2
  clear g1 g2
  rw [Int.mul_comm 1296000 s] at hR
  have v1 := IntWalk.i64_in (s * 1296000) ⟨by omega, by omega⟩
  obtain ⟨k1, k2, k3, k4, k5⟩ := div_gcd_pos (a := s * 1296000) (b := p) (by omega) p1
  have e1 := tdiv_gcd_left (s * 1296000) p
  have e2 := tdiv_gcd_right (s * 1296000) p
  have HG := Lib.hid (gcdref_ret (s * 1296000) p)
  obtain ⟨G, hG⟩ : ∃ G, (Int.gcd (s * 1296000) p : Int) = G := ⟨_, rfl⟩
  rw [hG] at hR k1 k2 k3 k4 k5 e1 e2
  have HGE := Lib.hid hG
  clear hG
  obtain ⟨a, ha⟩ : ∃ a, s * 1296000 / G = a := ⟨_, rfl⟩
  obtain ⟨b, hb⟩ : ∃ b, p / G = b := ⟨_, rfl⟩
  rw [ha] at hR k2 k3 e1
  rw [hb] at hR k4 k5 e2
  clear ha hb
  have v2 := IntWalk.i64_in a ⟨by omega, by omega⟩
  have v3 := IntWalk.i64_in b ⟨by omega, by omega⟩
  have G0 : ¬ G = 0 := by omega
  unfold timesF at hR
  obtain ⟨g1, q1, q2, r1, r2⟩ := div_gcd_pos (a := x) (b := b) px1 (by omega)
  obtain ⟨h1, q3, q4, r3, r4⟩ := div_gcd_pos (a := a) (b := y) (by omega) py1
  have e3 := tdiv_gcd_left x b
  have e4 := tdiv_gcd_right x b
  have e5 := tdiv_gcd_left a y
  have e6 := tdiv_gcd_right a y
  have HG2 := Lib.hid (gcdref_ret x b)
  have HG3 := Lib.hid (gcdref_ret a y)
  obtain ⟨G', hG'⟩ : ∃ G', (Int.gcd x b : Int) = G' := ⟨_, rfl⟩
  obtain ⟨H, hH⟩ : ∃ H, (Int.gcd a y : Int) = H := ⟨_, rfl⟩
  rw [hG'] at g1 q1 q2 r1 r2 e3 e4 hR
  rw [hH] at h1 q3 q4 r3 r4 e5 e6 hR
  have HG2E := Lib.hid hG'
  have HG3E := Lib.hid hH
  clear hG' hH
  obtain ⟨P1, hP1⟩ : ∃ P1, x / G' = P1 := ⟨_, rfl⟩
  obtain ⟨P2, hP2⟩ : ∃ P2, y / H = P2 := ⟨_, rfl⟩
  obtain ⟨Q1, hQ1⟩ : ∃ Q1, a / H = Q1 := ⟨_, rfl⟩
  obtain ⟨Q2, hQ2⟩ : ∃ Q2, b / G' = Q2 := ⟨_, rfl⟩
  rw [hP1] at q1 q2 e3 hR
  rw [hP2] at r3 r4 e6 hR
  rw [hQ1] at q3 q4 e5 hR
  rw [hQ2] at r1 r2 e4 hR
  clear hP1 hP2 hQ1 hQ2
  have G0' : ¬ G' = 0 := by omega
  have H0 : ¬ H = 0 := by omega
  have w1 := IntWalk.i64_in P1 ⟨by omega, by omega⟩
  have w2 := IntWalk.i64_in P2 ⟨by omega, by omega⟩
  have w3 := IntWalk.i64_in Q1 ⟨by omega, by omega⟩
  have w4 := IntWalk.i64_in Q2 ⟨by omega, by omega⟩
  obtain ⟨D1, hD1⟩ : ∃ D1, (1000000000 : Int).tdiv P1 = D1 := ⟨_, rfl⟩
  obtain ⟨D2, hD2⟩ : ∃ D2, (1000000000 : Int).tdiv Q2 = D2 := ⟨_, rfl⟩
  have hd1 : 0 ≤ D1 ∧ D1 ≤ 1000000000 := by rw [← hD1, Int.tdiv_eq_ediv_of_nonneg (by decide)]; exact ⟨Int.ediv_nonneg (by decide) (by omega), Int.ediv_le_self _ (by decide)⟩
  have hd2 : 0 ≤ D2 ∧ D2 ≤ 1000000000 := by rw [← hD2, Int.tdiv_eq_ediv_of_nonneg (by decide)]; exact ⟨Int.ediv_nonneg (by decide) (by omega), Int.ediv_le_self _ (by decide)⟩
  have hm1 := most_div (p := Q1) (q := P1) q1
  have hm2 := most_div (p := P2) (q := Q2) r1
  rw [hD1, Int.mul_comm] at hm1
  rw [hD2] at hm2
  have w5 := IntWalk.i64_in D1 ⟨by omega, by omega⟩
  have w6 := IntWalk.i64_in D2 ⟨by omega, by omega⟩
  have P10 : ¬ P1 = 0 := by omega
  have Q20 : ¬ Q2 = 0 := by omega
  have HM1 := Lib.hid hm1
  have HM2 := Lib.hid hm2
  have HR := Lib.hid hR
  clear hm1 hm2 hR
  go_enter Try.func58, Try.ntmps58
  go_wp2_with fail
  refine (HQ.out _ (HX.out.belowLe ((Below.refl _ _).alloc (Nat.le_refl _) _) hN) (by simp; omega)).mono ?_
  rintro e w1 ⟨rfl, hb⟩
  have HB1 := Lib.hid (show Below w.heap.size w w1 from step_below hb (by repeat' (first | exact Below.refl _ _ | exact HB0.out | refine below_drewN ?_ _ | refine Below.drew ?_ | refine Below.alloc ?_ (by first | omega | (simp; done) | (simp; omega) | (simp [World.setCell]; omega)) _ | refine Below.setCell ?_ (by first | omega | (simp; done) | (simp; omega)) _ | assumption)))
  have K0_1 := Lib.hid (step_blk hb (show Blk _ (w.heap.size) 23 #[.int .i64 (0), .int .i64 (0)] by repeat' (first | exact Blk.at_ _ (by first | rfl | (simp; done) | (simp; omega)) _ _ | refine Blk.drewN ?_ _ | refine Blk.drew ?_ | refine Blk.alloc ?_ _ | refine Blk.far ?_ (by first | omega | (simp; done) | (simp; omega)) _ | assumption)))
  have hz1 := hb.size
  try simp only [World.size_alloc, World.drewN, World.drew] at hz1
  clear hb
  have l0_1 : w.heap.size < w1.heap.size := K0_1.out.lt
  have z0_0_1 : w1.cell? ⟨w.heap.size, 0, none⟩ = some (.int .i64 (0)) := K0_1.out.cell 0
  have z0_1_1 : w1.cell? ⟨w.heap.size, 1, none⟩ = some (.int .i64 (0)) := K0_1.out.cell 1
  go_wp2_with fail
  refine (withinref_is _ _ _ _ G1.out _).mono ?_
  rintro en w' ⟨rfl, rfl⟩
  go_wp2_with fail
  refine (withinref_is _ _ _ _ G2.out _).mono ?_
  rintro en w' ⟨rfl, rfl⟩
  go_wp2_with fail
  refine (HGE.out ▸ HG.out _ (by omega) (by omega) p1 (by omega)).mono ?_
  rintro en w2 ⟨rfl, q, hw⟩
  have hb : Below (w1.alloc (.cells #[.int .i64 x, .int .i64 y] 23)).heap.size (w1.alloc (.cells #[.int .i64 x, .int .i64 y] 23)) w2 := by rw [hw]; exact below_drewN (Below.refl _ _) q
  clear hw
  have HB2 := Lib.hid (show Below w.heap.size w w2 from step_below hb (by repeat' (first | exact Below.refl _ _ | exact HB1.out | refine below_drewN ?_ _ | refine Below.drew ?_ | refine Below.alloc ?_ (by first | omega | (simp; done) | (simp; omega) | (simp [World.setCell]; omega)) _ | refine Below.setCell ?_ (by first | omega | (simp; done) | (simp; omega)) _ | assumption)))
  have K0_2 := Lib.hid (step_blk hb (show Blk _ (w.heap.size) 23 #[.int .i64 (0), .int .i64 (0)] by repeat' (first | exact K0_1.out | exact Blk.at_ _ (by first | rfl | (simp; done) | (simp; omega)) _ _ | refine Blk.drewN ?_ _ | refine Blk.drew ?_ | refine Blk.alloc ?_ _ | refine Blk.far ?_ (by first | omega | (simp; done) | (simp; omega)) _ | assumption)))
  have K1_2 := Lib.hid (step_blk hb (show Blk _ (w1.heap.size) 23 #[.int .i64 (x), .int .i64 (y)] by repeat' (first | exact K0_1.out | exact Blk.at_ _ (by first | rfl | (simp; done) | (simp; omega)) _ _ | refine Blk.drewN ?_ _ | refine Blk.drew ?_ | refine Blk.alloc ?_ _ | refine Blk.far ?_ (by first | omega | (simp; done) | (simp; omega)) _ | assumption)))
  have hz2 := hb.size
  try simp only [World.size_alloc, World.drewN, World.drew] at hz2
  clear hb K0_1 z0_0_1 z0_1_1 l0_1
  have l0_2 : w.heap.size < w2.heap.size := K0_2.out.lt
  have z0_0_2 : w2.cell? ⟨w.heap.size, 0, none⟩ = some (.int .i64 (0)) := K0_2.out.cell 0
  have z0_1_2 : w2.cell? ⟨w.heap.size, 1, none⟩ = some (.int .i64 (0)) := K0_2.out.cell 1
  have l1_2 : w1.heap.size < w2.heap.size := K1_2.out.lt
  have z1_0_2 : w2.cell? ⟨w1.heap.size, 0, none⟩ = some (.int .i64 (x)) := K1_2.out.cell 0
  have z1_1_2 : w2.cell? ⟨w1.heap.size, 1, none⟩ = some (.int .i64 (y)) := K1_2.out.cell 1
  go_wp2
  refine Fx.regionW (fun W f w' => Below W.heap.size W w') (by kernel_rfl) (by kernel_rfl) ?_ ?_
  · intro f hf0
    exact below_drewN (Below.refl _ _) 1
  repeat (first
    | (refine Fx.skip_ (by rfl) (fun f w h => h) ?_; simp only [Act.put, List.setIfInBounds_toArray, List.set_cons_zero, List.set_cons_succ])
    | (refine Fx.val_ ?_ (by rfl) ?_ (fun f w h => h) ?_
       rotate_left
       · intro f w' hD hk
         have hb := hD
         have y0_0 : w'.cell? ⟨w.heap.size, 0, none⟩ = some (.int .i64 (0)) := (step_blk hb (show Blk _ (w.heap.size) 23 #[.int .i64 (0), .int .i64 (0)] by repeat' (first | exact K0_2.out | exact K1_2.out | exact Blk.at_ _ (by first | rfl | (simp; done) | (simp; omega)) _ _ | refine Blk.drewN ?_ _ | refine Blk.drew ?_ | refine Blk.alloc ?_ _ | refine Blk.far ?_ (by first | omega | (simp; done) | (simp; omega)) _ | assumption))).cell 0
         have y0_1 : w'.cell? ⟨w.heap.size, 1, none⟩ = some (.int .i64 (0)) := (step_blk hb (show Blk _ (w.heap.size) 23 #[.int .i64 (0), .int .i64 (0)] by repeat' (first | exact K0_2.out | exact K1_2.out | exact Blk.at_ _ (by first | rfl | (simp; done) | (simp; omega)) _ _ | refine Blk.drewN ?_ _ | refine Blk.drew ?_ | refine Blk.alloc ?_ _ | refine Blk.far ?_ (by first | omega | (simp; done) | (simp; omega)) _ | assumption))).cell 1
         have y1_0 : w'.cell? ⟨w1.heap.size, 0, none⟩ = some (.int .i64 (x)) := (step_blk hb (show Blk _ (w1.heap.size) 23 #[.int .i64 (x), .int .i64 (y)] by repeat' (first | exact K0_2.out | exact K1_2.out | exact Blk.at_ _ (by first | rfl | (simp; done) | (simp; omega)) _ _ | refine Blk.drewN ?_ _ | refine Blk.drew ?_ | refine Blk.alloc ?_ _ | refine Blk.far ?_ (by first | omega | (simp; done) | (simp; omega)) _ | assumption))).cell 0
         have y1_1 : w'.cell? ⟨w1.heap.size, 1, none⟩ = some (.int .i64 (y)) := (step_blk hb (show Blk _ (w1.heap.size) 23 #[.int .i64 (x), .int .i64 (y)] by repeat' (first | exact K0_2.out | exact K1_2.out | exact Blk.at_ _ (by first | rfl | (simp; done) | (simp; omega)) _ _ | refine Blk.drewN ?_ _ | refine Blk.drew ?_ | refine Blk.alloc ?_ _ | refine Blk.far ?_ (by first | omega | (simp; done) | (simp; omega)) _ | assumption))).cell 1
         clear hk hD hb
         go_simp
         try rfl
       simp only [Act.put, List.setIfInBounds_toArray, List.set_cons_zero, List.set_cons_succ]))
  refine Fx.nil_ ?_
  intro f w3 hall hb
  try clear hall
  have HB3 := Lib.hid (show Below w.heap.size w w3 from step_below hb (by repeat' (first | exact Below.refl _ _ | exact HB2.out | refine below_drewN ?_ _ | refine Below.drew ?_ | refine Below.alloc ?_ (by first | omega | (simp; done) | (simp; omega) | (simp [World.setCell]; omega)) _ | refine Below.setCell ?_ (by first | omega | (simp; done) | (simp; omega)) _ | assumption)))
  have K0_3 := Lib.hid (step_blk hb (show Blk _ (w.heap.size) 23 #[.int .i64 (0), .int .i64 (0)] by repeat' (first | exact K0_2.out | exact K1_2.out | exact Blk.at_ _ (by first | rfl | (simp; done) | (simp; omega)) _ _ | refine Blk.drewN ?_ _ | refine Blk.drew ?_ | refine Blk.alloc ?_ _ | refine Blk.far ?_ (by first | omega | (simp; done) | (simp; omega)) _ | assumption)))
  have K1_3 := Lib.hid (step_blk hb (show Blk _ (w1.heap.size) 23 #[.int .i64 (x), .int .i64 (y)] by repeat' (first | exact K0_2.out | exact K1_2.out | exact Blk.at_ _ (by first | rfl | (simp; done) | (simp; omega)) _ _ | refine Blk.drewN ?_ _ | refine Blk.drew ?_ | refine Blk.alloc ?_ _ | refine Blk.far ?_ (by first | omega | (simp; done) | (simp; omega)) _ | assumption)))
  have hz3 := hb.size
  try simp only [World.size_alloc, World.drewN, World.drew] at hz3
  clear hb K0_2 K1_2 z0_0_2 z0_1_2 l0_2 z1_0_2 z1_1_2 l1_2
  have l0_3 : w.heap.size < w3.heap.size := K0_3.out.lt
  have z0_0_3 : w3.cell? ⟨w.heap.size, 0, none⟩ = some (.int .i64 (0)) := K0_3.out.cell 0
  have z0_1_3 : w3.cell? ⟨w.heap.size, 1, none⟩ = some (.int .i64 (0)) := K0_3.out.cell 1
  have l1_3 : w1.heap.size < w3.heap.size := K1_3.out.lt
  have z1_0_3 : w3.cell? ⟨w1.heap.size, 0, none⟩ = some (.int .i64 (x)) := K1_3.out.cell 0
  have z1_1_3 : w3.cell? ⟨w1.heap.size, 1, none⟩ = some (.int .i64 (y)) := K1_3.out.cell 1
  go_wp2_with fail
  refine (HG3E.out ▸ HG3.out _ (by omega) (by omega) py1 (by omega)).mono ?_
  rintro en w4 ⟨rfl, q, hw⟩
  have hb : Below w3.heap.size w3 w4 := by rw [hw]; exact below_drewN (Below.refl _ _) q
  clear hw
  have HB4 := Lib.hid (show Below w.heap.size w w4 from step_below hb (by repeat' (first | exact Below.refl _ _ | exact HB3.out | refine below_drewN ?_ _ | refine Below.drew ?_ | refine Below.alloc ?_ (by first | omega | (simp; done) | (simp; omega) | (simp [World.setCell]; omega)) _ | refine Below.setCell ?_ (by first | omega | (simp; done) | (simp; omega)) _ | assumption)))
  have K0_4 := Lib.hid (step_blk hb (show Blk _ (w.heap.size) 23 #[.int .i64 (0), .int .i64 (0)] by repeat' (first | exact K0_3.out | exact K1_3.out | exact Blk.at_ _ (by first | rfl | (simp; done) | (simp; omega)) _ _ | refine Blk.drewN ?_ _ | refine Blk.drew ?_ | refine Blk.alloc ?_ _ | refine Blk.far ?_ (by first | omega | (simp; done) | (simp; omega)) _ | assumption)))
  have K1_4 := Lib.hid (step_blk hb (show Blk _ (w1.heap.size) 23 #[.int .i64 (x), .int .i64 (y)] by repeat' (first | exact K0_3.out | exact K1_3.out | exact Blk.at_ _ (by first | rfl | (simp; done) | (simp; omega)) _ _ | refine Blk.drewN ?_ _ | refine Blk.drew ?_ | refine Blk.alloc ?_ _ | refine Blk.far ?_ (by first | omega | (simp; done) | (simp; omega)) _ | assumption)))
  have hz4 := hb.size
  try simp only [World.size_alloc, World.drewN, World.drew] at hz4
  clear hb K0_3 K1_3 z0_0_3 z0_1_3 l0_3 z1_0_3 z1_1_3 l1_3
  have l0_4 : w.heap.size < w4.heap.size := K0_4.out.lt
  have z0_0_4 : w4.cell? ⟨w.heap.size, 0, none⟩ = some (.int .i64 (0)) := K0_4.out.cell 0
  have z0_1_4 : w4.cell? ⟨w.heap.size, 1, none⟩ = some (.int .i64 (0)) := K0_4.out.cell 1
  have l1_4 : w1.heap.size < w4.heap.size := K1_4.out.lt
  have z1_0_4 : w4.cell? ⟨w1.heap.size, 0, none⟩ = some (.int .i64 (x)) := K1_4.out.cell 0
  have z1_1_4 : w4.cell? ⟨w1.heap.size, 1, none⟩ = some (.int .i64 (y)) := K1_4.out.cell 1
  go_wp2
  refine Fx.regionW (fun W f w' => UpD 23 (w1.heap.size) (.int .i64 (x)) (.int .i64 (y)) (.int .i64 (x)) (.int .i64 (P2)) 99 9 W f w') (by kernel_rfl) (by kernel_rfl) ?_ ?_
  · intro f hf0
    exact UpD.start (below_drewN (Below.refl _ _) 1) (Blk.drewN K1_4.out 1) (hf0 99) (hf0 9)
  iterate 7 (first
    | (refine Fx.skip_ (by rfl) (fun f w h => h) ?_; simp only [Act.put, List.setIfInBounds_toArray, List.set_cons_zero, List.set_cons_succ])
    | (refine Fx.val_ ?_ (by rfl) ?_ (fun f w h => h) ?_
       rotate_left
       · intro f w' hD hk
         obtain ⟨hb, hrest⟩ := id hD
         have uq1 := (UpD.read1 hD (hk.2.1 9 (by kernel_rfl))).1
         clear hk hD hb hrest
         go_simp
         try rfl
       simp only [Act.put, List.setIfInBounds_toArray, List.set_cons_zero, List.set_cons_succ]))
  repeat (first
    | (refine Fx.skip_ (by rfl) (fun f w h => h) ?_; simp only [Act.put, List.setIfInBounds_toArray, List.set_cons_zero, List.set_cons_succ])
    | (refine Fx.val_ ?_ (by rfl) ?_ (fun f w h => h) ?_
       rotate_left
       · intro f w' hD hk
         obtain ⟨hb, hrest⟩ := id hD
         clear hk hD hb hrest
         go_simp
         try rfl
       simp only [Act.put, List.setIfInBounds_toArray, List.set_cons_zero, List.set_cons_succ]))
  refine Fx.store_ (fun w' => w'.setCell ⟨w1.heap.size, 1, none⟩ (.int .i64 (P2))) (by rfl) ?_ ?_ ?_
  · intro f w' hD hk
    obtain ⟨hb, hrest⟩ := id hD
    obtain ⟨uq0, uq1⟩ := UpD.read1 hD hk.1
    clear hb hrest
    clear hk hD
    go_simp
  · intro f w' hD hk
    obtain ⟨hb, hrest⟩ := id hD
    obtain ⟨uq0, uq1⟩ := UpD.read1 hD hk.1
    clear hb hrest
    exact hD.store1 (by decide)
  simp only [Act.put, List.setIfInBounds_toArray, List.set_cons_zero, List.set_cons_succ]
  refine Fx.nil_ ?_
  intro f w5 hall hD
  obtain ⟨hb, hblk⟩ := UpD.end1 hD (hall 9 (by simp))
  clear hall hD
  have HBn := HB4.out.trans (hb.mono (by omega))
  have K0n := K0_4.out.below hb (by omega)
  have HB5 := Lib.hid HBn
  have K0_5 := Lib.hid (show Blk w5 (w.heap.size) 23 #[.int .i64 (0), .int .i64 (0)] from K0n)
  have K1_5 := Lib.hid (show Blk w5 (w1.heap.size) 23 #[.int .i64 (x), .int .i64 (P2)] from hblk)
  clear HBn K0n hblk
  have l0_5 : w.heap.size < w5.heap.size := K0_5.out.lt
  have z0_0_5 : w5.cell? ⟨w.heap.size, 0, none⟩ = some (.int .i64 (0)) := K0_5.out.cell 0
  have z0_1_5 : w5.cell? ⟨w.heap.size, 1, none⟩ = some (.int .i64 (0)) := K0_5.out.cell 1
  have l1_5 : w1.heap.size < w5.heap.size := K1_5.out.lt
  have z1_0_5 : w5.cell? ⟨w1.heap.size, 0, none⟩ = some (.int .i64 (x)) := K1_5.out.cell 0
  have z1_1_5 : w5.cell? ⟨w1.heap.size, 1, none⟩ = some (.int .i64 (P2)) := K1_5.out.cell 1
  clear hb
  go_wp2_with fail
  refine (HG2E.out ▸ HG2.out _ px1 (by omega) (by omega) (by omega)).mono ?_
  rintro en w6 ⟨rfl, q, hw⟩
  have hb : Below w5.heap.size w5 w6 := by rw [hw]; exact below_drewN (Below.refl _ _) q
  clear hw
  have HB6 := Lib.hid (show Below w.heap.size w w6 from step_below hb (by repeat' (first | exact Below.refl _ _ | exact HB5.out | refine below_drewN ?_ _ | refine Below.drew ?_ | refine Below.alloc ?_ (by first | omega | (simp; done) | (simp; omega) | (simp [World.setCell]; omega)) _ | refine Below.setCell ?_ (by first | omega | (simp; done) | (simp; omega)) _ | assumption)))
  have K0_6 := Lib.hid (step_blk hb (show Blk _ (w.heap.size) 23 #[.int .i64 (0), .int .i64 (0)] by repeat' (first | exact K0_5.out | exact K1_5.out | exact Blk.at_ _ (by first | rfl | (simp; done) | (simp; omega)) _ _ | refine Blk.drewN ?_ _ | refine Blk.drew ?_ | refine Blk.alloc ?_ _ | refine Blk.far ?_ (by first | omega | (simp; done) | (simp; omega)) _ | assumption)))
  have K1_6 := Lib.hid (step_blk hb (show Blk _ (w1.heap.size) 23 #[.int .i64 (x), .int .i64 (P2)] by repeat' (first | exact K0_5.out | exact K1_5.out | exact Blk.at_ _ (by first | rfl | (simp; done) | (simp; omega)) _ _ | refine Blk.drewN ?_ _ | refine Blk.drew ?_ | refine Blk.alloc ?_ _ | refine Blk.far ?_ (by first | omega | (simp; done) | (simp; omega)) _ | assumption)))
  have hz6 := hb.size
  try simp only [World.size_alloc, World.drewN, World.drew] at hz6
  clear hb K0_5 K1_5 z0_0_5 z0_1_5 l0_5 z1_0_5 z1_1_5 l1_5
  have l0_6 : w.heap.size < w6.heap.size := K0_6.out.lt
  have z0_0_6 : w6.cell? ⟨w.heap.size, 0, none⟩ = some (.int .i64 (0)) := K0_6.out.cell 0
  have z0_1_6 : w6.cell? ⟨w.heap.size, 1, none⟩ = some (.int .i64 (0)) := K0_6.out.cell 1
  have l1_6 : w1.heap.size < w6.heap.size := K1_6.out.lt
  have z1_0_6 : w6.cell? ⟨w1.heap.size, 0, none⟩ = some (.int .i64 (x)) := K1_6.out.cell 0
  have z1_1_6 : w6.cell? ⟨w1.heap.size, 1, none⟩ = some (.int .i64 (P2)) := K1_6.out.cell 1
  go_wp2
  refine Fx.regionW (fun W f w' => UpD 23 (w1.heap.size) (.int .i64 (x)) (.int .i64 (P2)) (.int .i64 (P1)) (.int .i64 (P2)) 8 99 W f w') (by kernel_rfl) (by kernel_rfl) ?_ ?_
  · intro f hf0
    exact UpD.start (below_drewN (Below.refl _ _) 1) (Blk.drewN K1_6.out 1) (hf0 8) (hf0 99)
  iterate 4 (first
    | (refine Fx.skip_ (by rfl) (fun f w h => h) ?_; simp only [Act.put, List.setIfInBounds_toArray, List.set_cons_zero, List.set_cons_succ])
    | (refine Fx.val_ ?_ (by rfl) ?_ (fun f w h => h) ?_
       rotate_left
       · intro f w' hD hk
         obtain ⟨hb, hrest⟩ := id hD
         have uq0 := (UpD.read0 hD (hk.2.1 8 (by kernel_rfl))).1
         clear hk hD hb hrest
         go_simp
         try rfl
       simp only [Act.put, List.setIfInBounds_toArray, List.set_cons_zero, List.set_cons_succ]))
  repeat (first
    | (refine Fx.skip_ (by rfl) (fun f w h => h) ?_; simp only [Act.put, List.setIfInBounds_toArray, List.set_cons_zero, List.set_cons_succ])
    | (refine Fx.val_ ?_ (by rfl) ?_ (fun f w h => h) ?_
       rotate_left
       · intro f w' hD hk
         obtain ⟨hb, hrest⟩ := id hD
         clear hk hD hb hrest
         go_simp
         try rfl
       simp only [Act.put, List.setIfInBounds_toArray, List.set_cons_zero, List.set_cons_succ]))
  refine Fx.store_ (fun w' => w'.setCell ⟨w1.heap.size, 0, none⟩ (.int .i64 (P1))) (by rfl) ?_ ?_ ?_
  · intro f w' hD hk
    obtain ⟨hb, hrest⟩ := id hD
    obtain ⟨uq0, uq1⟩ := UpD.read0 hD hk.1
    clear hb hrest
    clear hk hD
    go_simp
  · intro f w' hD hk
    obtain ⟨hb, hrest⟩ := id hD
    obtain ⟨uq0, uq1⟩ := UpD.read0 hD hk.1
    clear hb hrest
    exact hD.store0 (by decide)
  simp only [Act.put, List.setIfInBounds_toArray, List.set_cons_zero, List.set_cons_succ]
  repeat (first
    | (refine Fx.skip_ (by rfl) (fun f w h => h) ?_; simp only [Act.put, List.setIfInBounds_toArray, List.set_cons_zero, List.set_cons_succ])
    | (refine Fx.val_ ?_ (by rfl) ?_ (fun f w h => h) ?_
       rotate_left
       · intro f w' hD hk
         obtain ⟨hb, hrest⟩ := id hD
         clear hk hD hb hrest
         go_simp
         try rfl
       simp only [Act.put, List.setIfInBounds_toArray, List.set_cons_zero, List.set_cons_succ]))
  refine Fx.nil_ ?_
  intro f w7 hall hD
  obtain ⟨hb, hblk⟩ := UpD.end0 hD (hall 8 (by simp))
  clear hall hD
  have HBn := HB6.out.trans (hb.mono (by omega))
  have K0n := K0_6.out.below hb (by omega)
  have HB7 := Lib.hid HBn
  have K0_7 := Lib.hid (show Blk w7 (w.heap.size) 23 #[.int .i64 (0), .int .i64 (0)] from K0n)
  have K1_7 := Lib.hid (show Blk w7 (w1.heap.size) 23 #[.int .i64 (P1), .int .i64 (P2)] from hblk)
  clear HBn K0n hblk
  have l0_7 : w.heap.size < w7.heap.size := K0_7.out.lt
  have z0_0_7 : w7.cell? ⟨w.heap.size, 0, none⟩ = some (.int .i64 (0)) := K0_7.out.cell 0
  have z0_1_7 : w7.cell? ⟨w.heap.size, 1, none⟩ = some (.int .i64 (0)) := K0_7.out.cell 1
  have l1_7 : w1.heap.size < w7.heap.size := K1_7.out.lt
  have z1_0_7 : w7.cell? ⟨w1.heap.size, 0, none⟩ = some (.int .i64 (P1)) := K1_7.out.cell 0
  have z1_1_7 : w7.cell? ⟨w1.heap.size, 1, none⟩ = some (.int .i64 (P2)) := K1_7.out.cell 1
  clear hb
  go_wp2
  by_cases m1 : D1 < Q1
  · have h1 := HM1.out.1 m1
    have hT := HR.out
    rw [if_pos (by rw [if_pos (.inl h1)])] at hT
    cases hT
    refine Fx.regionW (fun W f w' => Below W.heap.size W w') (by kernel_rfl) (by kernel_rfl) ?_ ?_
    · intro f hf0
      exact below_drewN (Below.refl _ _) 1
    repeat (first
      | (refine Fx.skip_ (by rfl) (fun f w h => h) ?_; simp only [Act.put, List.setIfInBounds_toArray, List.set_cons_zero, List.set_cons_succ])
      | (refine Fx.val_ ?_ (by rfl) ?_ (fun f w h => h) ?_
         rotate_left
         · intro f w' hD hk
           have hb := hD
           have y0_0 : w'.cell? ⟨w.heap.size, 0, none⟩ = some (.int .i64 (0)) := (step_blk hb (show Blk _ (w.heap.size) 23 #[.int .i64 (0), .int .i64 (0)] by repeat' (first | exact K0_7.out | exact K1_7.out | exact Blk.at_ _ (by first | rfl | (simp; done) | (simp; omega)) _ _ | refine Blk.drewN ?_ _ | refine Blk.drew ?_ | refine Blk.alloc ?_ _ | refine Blk.far ?_ (by first | omega | (simp; done) | (simp; omega)) _ | assumption))).cell 0
           have y0_1 : w'.cell? ⟨w.heap.size, 1, none⟩ = some (.int .i64 (0)) := (step_blk hb (show Blk _ (w.heap.size) 23 #[.int .i64 (0), .int .i64 (0)] by repeat' (first | exact K0_7.out | exact K1_7.out | exact Blk.at_ _ (by first | rfl | (simp; done) | (simp; omega)) _ _ | refine Blk.drewN ?_ _ | refine Blk.drew ?_ | refine Blk.alloc ?_ _ | refine Blk.far ?_ (by first | omega | (simp; done) | (simp; omega)) _ | assumption))).cell 1
           have y1_0 : w'.cell? ⟨w1.heap.size, 0, none⟩ = some (.int .i64 (P1)) := (step_blk hb (show Blk _ (w1.heap.size) 23 #[.int .i64 (P1), .int .i64 (P2)] by repeat' (first | exact K0_7.out | exact K1_7.out | exact Blk.at_ _ (by first | rfl | (simp; done) | (simp; omega)) _ _ | refine Blk.drewN ?_ _ | refine Blk.drew ?_ | refine Blk.alloc ?_ _ | refine Blk.far ?_ (by first | omega | (simp; done) | (simp; omega)) _ | assumption))).cell 0
           have y1_1 : w'.cell? ⟨w1.heap.size, 1, none⟩ = some (.int .i64 (P2)) := (step_blk hb (show Blk _ (w1.heap.size) 23 #[.int .i64 (P1), .int .i64 (P2)] by repeat' (first | exact K0_7.out | exact K1_7.out | exact Blk.at_ _ (by first | rfl | (simp; done) | (simp; omega)) _ _ | refine Blk.drewN ?_ _ | refine Blk.drew ?_ | refine Blk.alloc ?_ _ | refine Blk.far ?_ (by first | omega | (simp; done) | (simp; omega)) _ | assumption))).cell 1
           clear hk hD hb
           go_simp
           try rfl
         simp only [Act.put, List.setIfInBounds_toArray, List.set_cons_zero, List.set_cons_succ]))
    refine Fx.nil_ ?_
    intro f w8 hall hb
    try clear hall
    have HB8 := Lib.hid (show Below w.heap.size w w8 from step_below hb (by repeat' (first | exact Below.refl _ _ | exact HB7.out | refine below_drewN ?_ _ | refine Below.drew ?_ | refine Below.alloc ?_ (by first | omega | (simp; done) | (simp; omega) | (simp [World.setCell]; omega)) _ | refine Below.setCell ?_ (by first | omega | (simp; done) | (simp; omega)) _ | assumption)))
    have K0_8 := Lib.hid (step_blk hb (show Blk _ (w.heap.size) 23 #[.int .i64 (0), .int .i64 (0)] by repeat' (first | exact K0_7.out | exact K1_7.out | exact Blk.at_ _ (by first | rfl | (simp; done) | (simp; omega)) _ _ | refine Blk.drewN ?_ _ | refine Blk.drew ?_ | refine Blk.alloc ?_ _ | refine Blk.far ?_ (by first | omega | (simp; done) | (simp; omega)) _ | assumption)))
    have K1_8 := Lib.hid (step_blk hb (show Blk _ (w1.heap.size) 23 #[.int .i64 (P1), .int .i64 (P2)] by repeat' (first | exact K0_7.out | exact K1_7.out | exact Blk.at_ _ (by first | rfl | (simp; done) | (simp; omega)) _ _ | refine Blk.drewN ?_ _ | refine Blk.drew ?_ | refine Blk.alloc ?_ _ | refine Blk.far ?_ (by first | omega | (simp; done) | (simp; omega)) _ | assumption)))
    have hz8 := hb.size
    try simp only [World.size_alloc, World.drewN, World.drew] at hz8
    clear hb K0_7 K1_7 z0_0_7 z0_1_7 l0_7 z1_0_7 z1_1_7 l1_7
    have l0_8 : w.heap.size < w8.heap.size := K0_8.out.lt
    have z0_0_8 : w8.cell? ⟨w.heap.size, 0, none⟩ = some (.int .i64 (0)) := K0_8.out.cell 0
    have z0_1_8 : w8.cell? ⟨w.heap.size, 1, none⟩ = some (.int .i64 (0)) := K0_8.out.cell 1
    have l1_8 : w1.heap.size < w8.heap.size := K1_8.out.lt
    have z1_0_8 : w8.cell? ⟨w1.heap.size, 0, none⟩ = some (.int .i64 (P1)) := K1_8.out.cell 0
    have z1_1_8 : w8.cell? ⟨w1.heap.size, 1, none⟩ = some (.int .i64 (P2)) := K1_8.out.cell 1
    have zf0_0 := K0_8.out.frozen 0
    have zf0_1 := K0_8.out.frozen 1
    go_wp2
    exact bodyPost_ret (v := .tuple #[.agg #[.int .i64 0, .int .i64 0], .int .i64 8]) (by simp [results, Try.results58, go_sem, z0_0_8, z0_1_8, l0_8]) rfl ⟨rfl, by repeat' (first | exact Below.refl _ _ | exact HB8.out | refine below_drewN ?_ _ | refine Below.drew ?_ | refine Below.alloc ?_ (by first | omega | (simp; done) | (simp; omega) | (simp [World.setCell]; omega)) _ | refine Below.setCell ?_ (by first | omega | (simp; done) | (simp; omega)) _ | assumption)⟩
  by_cases m2 : D2 < P2
  · skip
    have h1 := HM2.out.1 m2
    have hT := HR.out
    rw [if_pos (by rw [if_pos (.inr h1)])] at hT
    cases hT
    refine Fx.regionW (fun W f w' => Below W.heap.size W w') (by kernel_rfl) (by kernel_rfl) ?_ ?_
    · intro f hf0
      exact below_drewN (Below.refl _ _) 1
    repeat (first
      | (refine Fx.skip_ (by rfl) (fun f w h => h) ?_; simp only [Act.put, List.setIfInBounds_toArray, List.set_cons_zero, List.set_cons_succ])
      | (refine Fx.val_ ?_ (by rfl) ?_ (fun f w h => h) ?_
         rotate_left
         · intro f w' hD hk
           have hb := hD
           have y0_0 : w'.cell? ⟨w.heap.size, 0, none⟩ = some (.int .i64 (0)) := (step_blk hb (show Blk _ (w.heap.size) 23 #[.int .i64 (0), .int .i64 (0)] by repeat' (first | exact K0_7.out | exact K1_7.out | exact Blk.at_ _ (by first | rfl | (simp; done) | (simp; omega)) _ _ | refine Blk.drewN ?_ _ | refine Blk.drew ?_ | refine Blk.alloc ?_ _ | refine Blk.far ?_ (by first | omega | (simp; done) | (simp; omega)) _ | assumption))).cell 0
           have y0_1 : w'.cell? ⟨w.heap.size, 1, none⟩ = some (.int .i64 (0)) := (step_blk hb (show Blk _ (w.heap.size) 23 #[.int .i64 (0), .int .i64 (0)] by repeat' (first | exact K0_7.out | exact K1_7.out | exact Blk.at_ _ (by first | rfl | (simp; done) | (simp; omega)) _ _ | refine Blk.drewN ?_ _ | refine Blk.drew ?_ | refine Blk.alloc ?_ _ | refine Blk.far ?_ (by first | omega | (simp; done) | (simp; omega)) _ | assumption))).cell 1
           have y1_0 : w'.cell? ⟨w1.heap.size, 0, none⟩ = some (.int .i64 (P1)) := (step_blk hb (show Blk _ (w1.heap.size) 23 #[.int .i64 (P1), .int .i64 (P2)] by repeat' (first | exact K0_7.out | exact K1_7.out | exact Blk.at_ _ (by first | rfl | (simp; done) | (simp; omega)) _ _ | refine Blk.drewN ?_ _ | refine Blk.drew ?_ | refine Blk.alloc ?_ _ | refine Blk.far ?_ (by first | omega | (simp; done) | (simp; omega)) _ | assumption))).cell 0
           have y1_1 : w'.cell? ⟨w1.heap.size, 1, none⟩ = some (.int .i64 (P2)) := (step_blk hb (show Blk _ (w1.heap.size) 23 #[.int .i64 (P1), .int .i64 (P2)] by repeat' (first | exact K0_7.out | exact K1_7.out | exact Blk.at_ _ (by first | rfl | (simp; done) | (simp; omega)) _ _ | refine Blk.drewN ?_ _ | refine Blk.drew ?_ | refine Blk.alloc ?_ _ | refine Blk.far ?_ (by first | omega | (simp; done) | (simp; omega)) _ | assumption))).cell 1
           clear hk hD hb
           go_simp
           try rfl
         simp only [Act.put, List.setIfInBounds_toArray, List.set_cons_zero, List.set_cons_succ]))
    refine Fx.nil_ ?_
    intro f w8 hall hb
    try clear hall
    have HB8 := Lib.hid (show Below w.heap.size w w8 from step_below hb (by repeat' (first | exact Below.refl _ _ | exact HB7.out | refine below_drewN ?_ _ | refine Below.drew ?_ | refine Below.alloc ?_ (by first | omega | (simp; done) | (simp; omega) | (simp [World.setCell]; omega)) _ | refine Below.setCell ?_ (by first | omega | (simp; done) | (simp; omega)) _ | assumption)))
    have K0_8 := Lib.hid (step_blk hb (show Blk _ (w.heap.size) 23 #[.int .i64 (0), .int .i64 (0)] by repeat' (first | exact K0_7.out | exact K1_7.out | exact Blk.at_ _ (by first | rfl | (simp; done) | (simp; omega)) _ _ | refine Blk.drewN ?_ _ | refine Blk.drew ?_ | refine Blk.alloc ?_ _ | refine Blk.far ?_ (by first | omega | (simp; done) | (simp; omega)) _ | assumption)))
    have K1_8 := Lib.hid (step_blk hb (show Blk _ (w1.heap.size) 23 #[.int .i64 (P1), .int .i64 (P2)] by repeat' (first | exact K0_7.out | exact K1_7.out | exact Blk.at_ _ (by first | rfl | (simp; done) | (simp; omega)) _ _ | refine Blk.drewN ?_ _ | refine Blk.drew ?_ | refine Blk.alloc ?_ _ | refine Blk.far ?_ (by first | omega | (simp; done) | (simp; omega)) _ | assumption)))
    have hz8 := hb.size
    try simp only [World.size_alloc, World.drewN, World.drew] at hz8
    clear hb K0_7 K1_7 z0_0_7 z0_1_7 l0_7 z1_0_7 z1_1_7 l1_7
    have l0_8 : w.heap.size < w8.heap.size := K0_8.out.lt
    have z0_0_8 : w8.cell? ⟨w.heap.size, 0, none⟩ = some (.int .i64 (0)) := K0_8.out.cell 0
    have z0_1_8 : w8.cell? ⟨w.heap.size, 1, none⟩ = some (.int .i64 (0)) := K0_8.out.cell 1
    have l1_8 : w1.heap.size < w8.heap.size := K1_8.out.lt
    have z1_0_8 : w8.cell? ⟨w1.heap.size, 0, none⟩ = some (.int .i64 (P1)) := K1_8.out.cell 0
    have z1_1_8 : w8.cell? ⟨w1.heap.size, 1, none⟩ = some (.int .i64 (P2)) := K1_8.out.cell 1
    have zf0_0 := K0_8.out.frozen 0
    have zf0_1 := K0_8.out.frozen 1
    go_wp2
    exact bodyPost_ret (v := .tuple #[.agg #[.int .i64 0, .int .i64 0], .int .i64 8]) (by simp [results, Try.results58, go_sem, z0_0_8, z0_1_8, l0_8]) rfl ⟨rfl, by repeat' (first | exact Below.refl _ _ | exact HB8.out | refine below_drewN ?_ _ | refine Below.drew ?_ | refine Below.alloc ?_ (by first | omega | (simp; done) | (simp; omega) | (simp [World.setCell]; omega)) _ | refine Below.setCell ?_ (by first | omega | (simp; done) | (simp; omega)) _ | assumption)⟩
  · skip
    have h1 := mt HM1.out.2 m1
    have h2 := mt HM2.out.2 m2
    have hT := HR.out
    rw [if_neg (show ¬ (1000000000 < P1 * Q1 ∨ 1000000000 < P2 * Q2) by omega), if_neg (by simp)] at hT
    cases hT
    have n1 := Int.mul_pos (show 0 < P1 by omega) (show 0 < Q1 by omega)
    have n2 := Int.mul_pos (show 0 < P2 by omega) (show 0 < Q2 by omega)
    have hcm := Int.mul_comm Q1 P1
    have w7 : IntKind.i64.wrap (Q1 * P1) = Q1 * P1 := IntWalk.i64_in (Q1 * P1) ⟨by omega, by omega⟩
    have w8 := IntWalk.i64_in (P2 * Q2) ⟨by omega, by omega⟩
    have HCM := Lib.hid hcm
    clear hcm
    refine Fx.regionW (fun W f w' => Below W.heap.size W w') (by kernel_rfl) (by kernel_rfl) ?_ ?_
    · intro f hf0
      exact below_drewN (Below.refl _ _) 1
    repeat (first
      | (refine Fx.skip_ (by rfl) (fun f w h => h) ?_; simp only [Act.put, List.setIfInBounds_toArray, List.set_cons_zero, List.set_cons_succ])
      | (refine Fx.val_ ?_ (by rfl) ?_ (fun f w h => h) ?_
         rotate_left
         · intro f w' hD hk
           have hb := hD
           have y0_0 : w'.cell? ⟨w.heap.size, 0, none⟩ = some (.int .i64 (0)) := (step_blk hb (show Blk _ (w.heap.size) 23 #[.int .i64 (0), .int .i64 (0)] by repeat' (first | exact K0_7.out | exact K1_7.out | exact Blk.at_ _ (by first | rfl | (simp; done) | (simp; omega)) _ _ | refine Blk.drewN ?_ _ | refine Blk.drew ?_ | refine Blk.alloc ?_ _ | refine Blk.far ?_ (by first | omega | (simp; done) | (simp; omega)) _ | assumption))).cell 0
           have y0_1 : w'.cell? ⟨w.heap.size, 1, none⟩ = some (.int .i64 (0)) := (step_blk hb (show Blk _ (w.heap.size) 23 #[.int .i64 (0), .int .i64 (0)] by repeat' (first | exact K0_7.out | exact K1_7.out | exact Blk.at_ _ (by first | rfl | (simp; done) | (simp; omega)) _ _ | refine Blk.drewN ?_ _ | refine Blk.drew ?_ | refine Blk.alloc ?_ _ | refine Blk.far ?_ (by first | omega | (simp; done) | (simp; omega)) _ | assumption))).cell 1
           have y1_0 : w'.cell? ⟨w1.heap.size, 0, none⟩ = some (.int .i64 (P1)) := (step_blk hb (show Blk _ (w1.heap.size) 23 #[.int .i64 (P1), .int .i64 (P2)] by repeat' (first | exact K0_7.out | exact K1_7.out | exact Blk.at_ _ (by first | rfl | (simp; done) | (simp; omega)) _ _ | refine Blk.drewN ?_ _ | refine Blk.drew ?_ | refine Blk.alloc ?_ _ | refine Blk.far ?_ (by first | omega | (simp; done) | (simp; omega)) _ | assumption))).cell 0
           have y1_1 : w'.cell? ⟨w1.heap.size, 1, none⟩ = some (.int .i64 (P2)) := (step_blk hb (show Blk _ (w1.heap.size) 23 #[.int .i64 (P1), .int .i64 (P2)] by repeat' (first | exact K0_7.out | exact K1_7.out | exact Blk.at_ _ (by first | rfl | (simp; done) | (simp; omega)) _ _ | refine Blk.drewN ?_ _ | refine Blk.drew ?_ | refine Blk.alloc ?_ _ | refine Blk.far ?_ (by first | omega | (simp; done) | (simp; omega)) _ | assumption))).cell 1
           clear hk hD hb
           go_simp
           try rfl
         simp only [Act.put, List.setIfInBounds_toArray, List.set_cons_zero, List.set_cons_succ]))
    refine Fx.nil_ ?_
    intro f w8 hall hb
    try clear hall
    have HB8 := Lib.hid (show Below w.heap.size w w8 from step_below hb (by repeat' (first | exact Below.refl _ _ | exact HB7.out | refine below_drewN ?_ _ | refine Below.drew ?_ | refine Below.alloc ?_ (by first | omega | (simp; done) | (simp; omega) | (simp [World.setCell]; omega)) _ | refine Below.setCell ?_ (by first | omega | (simp; done) | (simp; omega)) _ | assumption)))
    have K0_8 := Lib.hid (step_blk hb (show Blk _ (w.heap.size) 23 #[.int .i64 (0), .int .i64 (0)] by repeat' (first | exact K0_7.out | exact K1_7.out | exact Blk.at_ _ (by first | rfl | (simp; done) | (simp; omega)) _ _ | refine Blk.drewN ?_ _ | refine Blk.drew ?_ | refine Blk.alloc ?_ _ | refine Blk.far ?_ (by first | omega | (simp; done) | (simp; omega)) _ | assumption)))
    have K1_8 := Lib.hid (step_blk hb (show Blk _ (w1.heap.size) 23 #[.int .i64 (P1), .int .i64 (P2)] by repeat' (first | exact K0_7.out | exact K1_7.out | exact Blk.at_ _ (by first | rfl | (simp; done) | (simp; omega)) _ _ | refine Blk.drewN ?_ _ | refine Blk.drew ?_ | refine Blk.alloc ?_ _ | refine Blk.far ?_ (by first | omega | (simp; done) | (simp; omega)) _ | assumption)))
    have hz8 := hb.size
    try simp only [World.size_alloc, World.drewN, World.drew] at hz8
    clear hb K0_7 K1_7 z0_0_7 z0_1_7 l0_7 z1_0_7 z1_1_7 l1_7
    have l0_8 : w.heap.size < w8.heap.size := K0_8.out.lt
    have z0_0_8 : w8.cell? ⟨w.heap.size, 0, none⟩ = some (.int .i64 (0)) := K0_8.out.cell 0
    have z0_1_8 : w8.cell? ⟨w.heap.size, 1, none⟩ = some (.int .i64 (0)) := K0_8.out.cell 1
    have l1_8 : w1.heap.size < w8.heap.size := K1_8.out.lt
    have z1_0_8 : w8.cell? ⟨w1.heap.size, 0, none⟩ = some (.int .i64 (P1)) := K1_8.out.cell 0
    have z1_1_8 : w8.cell? ⟨w1.heap.size, 1, none⟩ = some (.int .i64 (P2)) := K1_8.out.cell 1
    have zf0_0 := K0_8.out.frozen 0
    have zf0_1 := K0_8.out.frozen 1
    go_wp2
    exact bodyPost_ret (v := .tuple #[.agg #[.int .i64 (Q1 * P1), .int .i64 (P2 * Q2)], .int .i64 0]) (by simp [results, Try.results58, go_sem, z0_0_8, z0_1_8, l0_8]) rfl ⟨by rw [HCM.out], by repeat' (first | exact Below.refl _ _ | exact HB8.out | refine below_drewN ?_ _ | refine Below.drew ?_ | refine Below.alloc ?_ (by first | omega | (simp; done) | (simp; omega) | (simp [World.setCell]; omega)) _ | refine Below.setCell ?_ (by first | omega | (simp; done) | (simp; omega)) _ | assumption)⟩

end Go.Proofs.Ytmioamcgbihhjaa
