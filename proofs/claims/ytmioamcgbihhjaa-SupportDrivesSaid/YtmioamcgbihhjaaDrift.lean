/- The contracts of Drift, of the program and of the reference. -/
import Derived.Test.YtmioamcgbihhjaaRRate
namespace Go.Proofs.Ytmioamcgbihhjaa
open Go.RowKit

/-- What a drive with a rate is ahead of the sky. -/
def driftIn (u v sec : Int) : (Int × Int) × Int :=
  if withinB sec 0 1000000 = false then ((0, 0), 2)
  else if smallB (u * 21541 - 324000000 * v) (v * 21541) = false then ((0, 0), 8)
  else ((redN (u * 21541 - 324000000 * v) (v * 21541) * sec / (redD (u * 21541 - 324000000 * v) (v * 21541) * 1000), -((-(redN (u * 21541 - 324000000 * v) (v * 21541) * sec)) / (redD (u * 21541 - 324000000 * v) (v * 21541) * 1000))), 0)
def driftF (l : List (Int × Int)) (s p sec : Int) : (Int × Int) × Int := if (rateF l s p).2 ≠ 0 then ((0, 0), (rateF l s p).2) else driftIn (rateF l s p).1.1 (rateF l s p).1.2 sec

theorem rate_part {l : List (Int × Int)} {s p u v : Int} (h : rateF l s p = ((u, v), 0)) : Part u ∧ Part v := by
  unfold rateF at h
  split at h
  · rename_i h1
    exact absurd (congrArg (fun q => q.2) h) h1
  · rename_i h0
    obtain ⟨R, hr⟩ : ∃ R, ratioF l = R := ⟨_, rfl⟩
    obtain ⟨⟨x, y⟩, re⟩ := R
    rw [hr] at h h0
    have hre : re = 0 := by simpa using h0
    subst hre
    obtain ⟨-, px, py⟩ := ratio_part hr
    obtain ⟨px1, px2⟩ := px
    obtain ⟨py1, py2⟩ := py
    unfold rateIn at h
    simp only at h
    split at h
    · cases h
    · rename_i hw
      have g1 : withinB s 1 1000000 = true := by cases g : withinB s 1 1000000 with | true => rfl | false => exact absurd (.inl g) hw
      have g2 : withinB p 1 1000000 = true := by cases g : withinB p 1 1000000 with | true => rfl | false => exact absurd (.inr g) hw
      obtain ⟨s1, s2⟩ := (withinB_iff _ _ _).1 g1
      obtain ⟨p1, p2⟩ := (withinB_iff _ _ _).1 g2
      obtain ⟨k1, k2, k3, k4, k5⟩ := div_gcd_pos (a := 1296000 * s) (b := p) (by omega) p1
      split at h
      · cases h
      · rename_i ht
        obtain ⟨a, ha⟩ : ∃ a, 1296000 * s / (Int.gcd (1296000 * s) p : Int) = a := ⟨_, rfl⟩
        obtain ⟨b, hb⟩ : ∃ b, p / (Int.gcd (1296000 * s) p : Int) = b := ⟨_, rfl⟩
        rw [ha] at k2 ht h
        rw [hb] at k4 ht h
        obtain ⟨g1, q1, q2, r1, r2⟩ := div_gcd_pos (a := x) (b := b) px1 (by omega)
        obtain ⟨h1, q3, q4, r3, r4⟩ := div_gcd_pos (a := a) (b := y) (by omega) py1
        unfold timesF at ht h
        split at ht
        · exact absurd rfl ht
        · rename_i hc
          rw [if_neg hc] at h
          have n1 := Int.mul_pos (show 0 < x / (Int.gcd x b : Int) by omega) (show 0 < a / (Int.gcd a y : Int) by omega)
          have n2 := Int.mul_pos (show 0 < y / (Int.gcd a y : Int) by omega) (show 0 < b / (Int.gcd x b : Int) by omega)
          cases h
          exact ⟨⟨by omega, by omega⟩, ⟨by omega, by omega⟩⟩

theorem small_tt (a b x y : Int) (hx : redN a b = x) (hy : redD a b = y) (ht : smallB a b = true) (w : World) (h1 : -9223372036854775808 < a) (h2 : a ≤ 9223372036854775807) (h3 : 1 ≤ b) (h4 : b ≤ 9223372036854775807) :
    Calls Try.prog 85 #[.int .i64 a, .int .i64 b] w fun e w' => e = .returned (.tuple #[.agg #[.int .i64 x, .int .i64 y], .bool true]) ∧ Below w.heap.size w w' := by
  have := small_red a b w h1 h2 h3 h4
  rw [hx, hy, ht] at this
  exact this
theorem made_okx (a b x y : Int) (hx : redN a b = x) (hy : redD a b = y) (ht : smallB a b = true) (w : World) (h1 : -9223372036854775808 < a) (h2 : a ≤ 9223372036854775807) (h3 : 1 ≤ b) (h4 : b ≤ 9223372036854775807) :
    Calls Try.prog 126 #[.int .i64 a, .int .i64 b] w fun e w' => e = .returned (.tuple #[.agg #[.int .i64 x, .int .i64 y], .int .i64 0]) ∧ Below w.heap.size w w' := hx ▸ hy ▸ made_ok a b ht w h1 h2 h3 h4
theorem small_t (a b : Int) (t : Bool) (ht : smallB a b = t) (w : World) (h1 : -9223372036854775808 < a) (h2 : a ≤ 9223372036854775807) (h3 : 1 ≤ b) (h4 : b ≤ 9223372036854775807) :
    Calls Try.prog 85 #[.int .i64 a, .int .i64 b] w fun e w' => e = .returned (.tuple #[.agg #[.int .i64 (redN a b), .int .i64 (redD a b)], .bool t]) ∧ Below w.heap.size w w' := ht ▸ small_red a b w h1 h2 h3 h4

set_option maxRecDepth 100000 in
theorem subref_ok (u v x y : Int) (hx : redN (u * 21541 - 324000000 * v) (v * 21541) = x) (hy : redD (u * 21541 - 324000000 * v) (v * 21541) = y) (ht : smallB (u * 21541 - 324000000 * v) (v * 21541) = true) (w : World) (u1 : 1 ≤ u) (u2 : u ≤ 1000000000) (k1 : 1 ≤ v) (k2 : v ≤ 1000000000) :
    Calls Try.prog 100 #[.agg #[.int .i64 u, .int .i64 v], .agg #[.int .i64 324000000, .int .i64 21541]] w fun e w' => e = .returned (.tuple #[.agg #[.int .i64 x, .int .i64 y], .int .i64 0]) ∧ Below w.heap.size w w' := by
  have v1 := IntWalk.i64_in (u * 21541) ⟨by omega, by omega⟩
  have v2 := IntWalk.i64_in (324000000 * v) ⟨by omega, by omega⟩
  have v3 := IntWalk.i64_in (u * 21541 - 324000000 * v) ⟨by omega, by omega⟩
  have v4 := IntWalk.i64_in (v * 21541) ⟨by omega, by omega⟩
  have HT := Lib.hid ht
  clear ht
  have HXX := Lib.hid hx
  have HYY := Lib.hid hy
  clear hx hy
  go_enter Try.func100, Try.ntmps100
  go_wp2_with fail
  refine (made_okx (u * 21541 - 324000000 * v) (v * 21541) x y HXX.out HYY.out HT.out _ (by omega) (by omega) (by omega) (by omega)).mono ?_
  rintro e w1 ⟨rfl, hb⟩
  have HB1 := Lib.hid (show Below w.heap.size w w1 from step_below hb (by repeat' (first | exact Below.refl _ _ | exact HB0.out | refine below_drewN ?_ _ | refine Below.drew ?_ | refine Below.alloc ?_ (by first | omega | (simp; done) | (simp; omega) | (simp [World.setCell]; omega)) _ | refine Below.setCell ?_ (by first | omega | (simp; done) | (simp; omega)) _ | assumption)))
  have K0_1 := Lib.hid (step_blk hb (show Blk _ (w.heap.size) 23 #[.int .i64 (u), .int .i64 (v)] by repeat' (first | exact Blk.at_ _ (by first | rfl | (simp; done) | (simp; omega)) _ _ | refine Blk.drewN ?_ _ | refine Blk.drew ?_ | refine Blk.alloc ?_ _ | refine Blk.far ?_ (by first | omega | (simp; done) | (simp; omega)) _ | assumption)))
  have K1_1 := Lib.hid (step_blk hb (show Blk _ (w.heap.size + 1) 23 #[.int .i64 (324000000), .int .i64 (21541)] by repeat' (first | exact Blk.at_ _ (by first | rfl | (simp; done) | (simp; omega)) _ _ | refine Blk.drewN ?_ _ | refine Blk.drew ?_ | refine Blk.alloc ?_ _ | refine Blk.far ?_ (by first | omega | (simp; done) | (simp; omega)) _ | assumption)))
  have K2_1 := Lib.hid (step_blk hb (show Blk _ (w.heap.size + 2) 23 #[.int .i64 (0), .int .i64 (0)] by repeat' (first | exact Blk.at_ _ (by first | rfl | (simp; done) | (simp; omega)) _ _ | refine Blk.drewN ?_ _ | refine Blk.drew ?_ | refine Blk.alloc ?_ _ | refine Blk.far ?_ (by first | omega | (simp; done) | (simp; omega)) _ | assumption)))
  have hz1 := hb.size
  try simp only [World.size_alloc, World.drewN, World.drew] at hz1
  clear hb
  have l0_1 : w.heap.size < w1.heap.size := K0_1.out.lt
  have z0_0_1 : w1.cell? ⟨w.heap.size, 0, none⟩ = some (.int .i64 (u)) := K0_1.out.cell 0
  have z0_1_1 : w1.cell? ⟨w.heap.size, 1, none⟩ = some (.int .i64 (v)) := K0_1.out.cell 1
  have l1_1 : w.heap.size + 1 < w1.heap.size := K1_1.out.lt
  have z1_0_1 : w1.cell? ⟨w.heap.size + 1, 0, none⟩ = some (.int .i64 (324000000)) := K1_1.out.cell 0
  have z1_1_1 : w1.cell? ⟨w.heap.size + 1, 1, none⟩ = some (.int .i64 (21541)) := K1_1.out.cell 1
  have l2_1 : w.heap.size + 2 < w1.heap.size := K2_1.out.lt
  have z2_0_1 : w1.cell? ⟨w.heap.size + 2, 0, none⟩ = some (.int .i64 (0)) := K2_1.out.cell 0
  have z2_1_1 : w1.cell? ⟨w.heap.size + 2, 1, none⟩ = some (.int .i64 (0)) := K2_1.out.cell 1
  have zf2_0 := K2_1.out.frozen 0
  have zf2_1 := K2_1.out.frozen 1
  go_wp2
  exact bodyPost_ret (v := .tuple #[.agg #[.int .i64 x, .int .i64 y], .int .i64 0]) (by simp [results, Try.results100, go_sem, z2_0_1, z2_1_1, l2_1]) rfl ⟨rfl, by repeat' (first | exact Below.refl _ _ | exact HB1.out | refine below_drewN ?_ _ | refine Below.drew ?_ | refine Below.alloc ?_ (by first | omega | (simp; done) | (simp; omega) | (simp [World.setCell]; omega)) _ | refine Below.setCell ?_ (by first | omega | (simp; done) | (simp; omega)) _ | assumption)⟩

set_option maxRecDepth 100000 in
theorem subref_no (u v : Int) (ht : smallB (u * 21541 - 324000000 * v) (v * 21541) = false) (w : World) (u1 : 1 ≤ u) (u2 : u ≤ 1000000000) (k1 : 1 ≤ v) (k2 : v ≤ 1000000000) :
    Calls Try.prog 100 #[.agg #[.int .i64 u, .int .i64 v], .agg #[.int .i64 324000000, .int .i64 21541]] w fun e w' => e = .returned (.tuple #[.agg #[.int .i64 0, .int .i64 0], .int .i64 8]) ∧ Below w.heap.size w w' := by
  have v1 := IntWalk.i64_in (u * 21541) ⟨by omega, by omega⟩
  have v2 := IntWalk.i64_in (324000000 * v) ⟨by omega, by omega⟩
  have v3 := IntWalk.i64_in (u * 21541 - 324000000 * v) ⟨by omega, by omega⟩
  have v4 := IntWalk.i64_in (v * 21541) ⟨by omega, by omega⟩
  have HT := Lib.hid ht
  clear ht
  go_enter Try.func100, Try.ntmps100
  go_wp2_with fail
  refine (made_no (u * 21541 - 324000000 * v) (v * 21541) HT.out _ (by omega) (by omega) (by omega) (by omega)).mono ?_
  rintro e w1 ⟨rfl, hb⟩
  have HB1 := Lib.hid (show Below w.heap.size w w1 from step_below hb (by repeat' (first | exact Below.refl _ _ | exact HB0.out | refine below_drewN ?_ _ | refine Below.drew ?_ | refine Below.alloc ?_ (by first | omega | (simp; done) | (simp; omega) | (simp [World.setCell]; omega)) _ | refine Below.setCell ?_ (by first | omega | (simp; done) | (simp; omega)) _ | assumption)))
  have K0_1 := Lib.hid (step_blk hb (show Blk _ (w.heap.size) 23 #[.int .i64 (u), .int .i64 (v)] by repeat' (first | exact Blk.at_ _ (by first | rfl | (simp; done) | (simp; omega)) _ _ | refine Blk.drewN ?_ _ | refine Blk.drew ?_ | refine Blk.alloc ?_ _ | refine Blk.far ?_ (by first | omega | (simp; done) | (simp; omega)) _ | assumption)))
  have K1_1 := Lib.hid (step_blk hb (show Blk _ (w.heap.size + 1) 23 #[.int .i64 (324000000), .int .i64 (21541)] by repeat' (first | exact Blk.at_ _ (by first | rfl | (simp; done) | (simp; omega)) _ _ | refine Blk.drewN ?_ _ | refine Blk.drew ?_ | refine Blk.alloc ?_ _ | refine Blk.far ?_ (by first | omega | (simp; done) | (simp; omega)) _ | assumption)))
  have K2_1 := Lib.hid (step_blk hb (show Blk _ (w.heap.size + 2) 23 #[.int .i64 (0), .int .i64 (0)] by repeat' (first | exact Blk.at_ _ (by first | rfl | (simp; done) | (simp; omega)) _ _ | refine Blk.drewN ?_ _ | refine Blk.drew ?_ | refine Blk.alloc ?_ _ | refine Blk.far ?_ (by first | omega | (simp; done) | (simp; omega)) _ | assumption)))
  have hz1 := hb.size
  try simp only [World.size_alloc, World.drewN, World.drew] at hz1
  clear hb
  have l0_1 : w.heap.size < w1.heap.size := K0_1.out.lt
  have z0_0_1 : w1.cell? ⟨w.heap.size, 0, none⟩ = some (.int .i64 (u)) := K0_1.out.cell 0
  have z0_1_1 : w1.cell? ⟨w.heap.size, 1, none⟩ = some (.int .i64 (v)) := K0_1.out.cell 1
  have l1_1 : w.heap.size + 1 < w1.heap.size := K1_1.out.lt
  have z1_0_1 : w1.cell? ⟨w.heap.size + 1, 0, none⟩ = some (.int .i64 (324000000)) := K1_1.out.cell 0
  have z1_1_1 : w1.cell? ⟨w.heap.size + 1, 1, none⟩ = some (.int .i64 (21541)) := K1_1.out.cell 1
  have l2_1 : w.heap.size + 2 < w1.heap.size := K2_1.out.lt
  have z2_0_1 : w1.cell? ⟨w.heap.size + 2, 0, none⟩ = some (.int .i64 (0)) := K2_1.out.cell 0
  have z2_1_1 : w1.cell? ⟨w.heap.size + 2, 1, none⟩ = some (.int .i64 (0)) := K2_1.out.cell 1
  have zf2_0 := K2_1.out.frozen 0
  have zf2_1 := K2_1.out.frozen 1
  go_wp2
  exact bodyPost_ret (v := .tuple #[.agg #[.int .i64 0, .int .i64 0], .int .i64 8]) (by simp [results, Try.results100, go_sem, z2_0_1, z2_1_1, l2_1]) rfl ⟨rfl, by repeat' (first | exact Below.refl _ _ | exact HB1.out | refine below_drewN ?_ _ | refine Below.drew ?_ | refine Below.alloc ?_ (by first | omega | (simp; done) | (simp; omega) | (simp [World.setCell]; omega)) _ | refine Below.setCell ?_ (by first | omega | (simp; done) | (simp; omega)) _ | assumption)⟩

set_option maxRecDepth 100000 in
set_option maxHeartbeats 3000000 in
theorem drift_any (A : Option Addr) (n c N : Nat) (l : List (Int × Int)) (s p sec : Int) (w : World) (hx : Reads w N 2 A n (cells2 l)) (hN : N ≤ w.heap.size) (hn : n ≤ 9223372036854775807) (x y e : Int) (hR : driftF l s p sec = ((x, y), e)) :
    Calls Try.prog 57 #[.slice A n c, .agg #[.int .i64 s, .int .i64 p], .int .i64 sec] w fun en w' => en = .returned (.tuple #[.agg #[.int .i64 x, .int .i64 y], .int .i64 e]) ∧ Below w.heap.size w w' := by
  have HX := Lib.hid hx
  clear hx
  obtain ⟨R, hRR⟩ : ∃ R, rateF l s p = R := ⟨_, rfl⟩
  obtain ⟨⟨u, v⟩, re⟩ := R
  unfold driftF at hR
  rw [hRR] at hR
  have HRA : Hid (∀ w, Reads w N 2 A n (cells2 l) → N ≤ w.heap.size → Calls Try.prog 56 #[.slice A n c, .int .i64 s, .int .i64 p] w fun en w' => en = .returned (.tuple #[.agg #[.int .i64 u, .int .i64 v], .int .i64 re]) ∧ Below w.heap.size w w') := fun w h1 h2 => rate_any A n c N l s p w h1 h2 hn u v re hRR
  by_cases h0 : re = 0
  rotate_left
  · rw [if_pos h0] at hR
    cases hR
    have e0 : (re != 0) = true := by simpa using h0
    clear hRR
    go_enter Try.func57, Try.ntmps57
    go_wp2_with fail
    refine (HRA.out _ (HX.out.belowLe (((Below.refl _ _).alloc (Nat.le_refl _) _).alloc (by simp) _) hN) (by simp; omega)).mono ?_
    rintro e w1 ⟨rfl, hb⟩
    have HB1 := Lib.hid (show Below w.heap.size w w1 from step_below hb (by repeat' (first | exact Below.refl _ _ | exact HB0.out | refine below_drewN ?_ _ | refine Below.drew ?_ | refine Below.alloc ?_ (by first | omega | (simp; done) | (simp; omega) | (simp [World.setCell]; omega)) _ | refine Below.setCell ?_ (by first | omega | (simp; done) | (simp; omega)) _ | assumption)))
    have K0_1 := Lib.hid (step_blk hb (show Blk _ (w.heap.size) 51 #[.int .i64 (s), .int .i64 (p)] by repeat' (first | exact Blk.at_ _ (by first | rfl | (simp; done) | (simp; omega)) _ _ | refine Blk.drewN ?_ _ | refine Blk.drew ?_ | refine Blk.alloc ?_ _ | refine Blk.far ?_ (by first | omega | (simp; done) | (simp; omega)) _ | assumption)))
    have K1_1 := Lib.hid (step_blk hb (show Blk _ (w.heap.size + 1) 64 #[.int .i64 (0), .int .i64 (0)] by repeat' (first | exact Blk.at_ _ (by first | rfl | (simp; done) | (simp; omega)) _ _ | refine Blk.drewN ?_ _ | refine Blk.drew ?_ | refine Blk.alloc ?_ _ | refine Blk.far ?_ (by first | omega | (simp; done) | (simp; omega)) _ | assumption)))
    have hz1 := hb.size
    try simp only [World.size_alloc, World.drewN, World.drew] at hz1
    clear hb
    have l0_1 : w.heap.size < w1.heap.size := K0_1.out.lt
    have z0_0_1 : w1.cell? ⟨w.heap.size, 0, none⟩ = some (.int .i64 (s)) := K0_1.out.cell 0
    have z0_1_1 : w1.cell? ⟨w.heap.size, 1, none⟩ = some (.int .i64 (p)) := K0_1.out.cell 1
    have l1_1 : w.heap.size + 1 < w1.heap.size := K1_1.out.lt
    have z1_0_1 : w1.cell? ⟨w.heap.size + 1, 0, none⟩ = some (.int .i64 (0)) := K1_1.out.cell 0
    have z1_1_1 : w1.cell? ⟨w.heap.size + 1, 1, none⟩ = some (.int .i64 (0)) := K1_1.out.cell 1
    have zf1_0 := K1_1.out.frozen 0
    have zf1_1 := K1_1.out.frozen 1
    go_wp2
    exact bodyPost_ret (v := .tuple #[.agg #[.int .i64 0, .int .i64 0], .int .i64 re]) (by simp [results, Try.results57, go_sem, z1_0_1, z1_1_1, l1_1]) rfl ⟨rfl, by repeat' (first | exact Below.refl _ _ | exact HB1.out | refine below_drewN ?_ _ | refine Below.drew ?_ | refine Below.alloc ?_ (by first | omega | (simp; done) | (simp; omega) | (simp [World.setCell]; omega)) _ | refine Below.setCell ?_ (by first | omega | (simp; done) | (simp; omega)) _ | assumption)⟩
  subst h0
  rw [if_neg (by simp)] at hR
  obtain ⟨pu, pv⟩ := rate_part hRR
  obtain ⟨pu1, pu2⟩ := pu
  obtain ⟨pv1, pv2⟩ := pv
  clear hRR
  unfold driftIn at hR
  simp only at hR
  cases g1 : withinB sec 0 1000000 with
  | false =>
    rw [if_pos g1] at hR
    cases hR
    have G1 := Lib.hid g1
    clear g1
    go_enter Try.func57, Try.ntmps57
    go_wp2_with fail
    refine (HRA.out _ (HX.out.belowLe (((Below.refl _ _).alloc (Nat.le_refl _) _).alloc (by simp) _) hN) (by simp; omega)).mono ?_
    rintro e w1 ⟨rfl, hb⟩
    have HB1 := Lib.hid (show Below w.heap.size w w1 from step_below hb (by repeat' (first | exact Below.refl _ _ | exact HB0.out | refine below_drewN ?_ _ | refine Below.drew ?_ | refine Below.alloc ?_ (by first | omega | (simp; done) | (simp; omega) | (simp [World.setCell]; omega)) _ | refine Below.setCell ?_ (by first | omega | (simp; done) | (simp; omega)) _ | assumption)))
    have K0_1 := Lib.hid (step_blk hb (show Blk _ (w.heap.size) 51 #[.int .i64 (s), .int .i64 (p)] by repeat' (first | exact Blk.at_ _ (by first | rfl | (simp; done) | (simp; omega)) _ _ | refine Blk.drewN ?_ _ | refine Blk.drew ?_ | refine Blk.alloc ?_ _ | refine Blk.far ?_ (by first | omega | (simp; done) | (simp; omega)) _ | assumption)))
    have K1_1 := Lib.hid (step_blk hb (show Blk _ (w.heap.size + 1) 64 #[.int .i64 (0), .int .i64 (0)] by repeat' (first | exact Blk.at_ _ (by first | rfl | (simp; done) | (simp; omega)) _ _ | refine Blk.drewN ?_ _ | refine Blk.drew ?_ | refine Blk.alloc ?_ _ | refine Blk.far ?_ (by first | omega | (simp; done) | (simp; omega)) _ | assumption)))
    have hz1 := hb.size
    try simp only [World.size_alloc, World.drewN, World.drew] at hz1
    clear hb
    have l0_1 : w.heap.size < w1.heap.size := K0_1.out.lt
    have z0_0_1 : w1.cell? ⟨w.heap.size, 0, none⟩ = some (.int .i64 (s)) := K0_1.out.cell 0
    have z0_1_1 : w1.cell? ⟨w.heap.size, 1, none⟩ = some (.int .i64 (p)) := K0_1.out.cell 1
    have l1_1 : w.heap.size + 1 < w1.heap.size := K1_1.out.lt
    have z1_0_1 : w1.cell? ⟨w.heap.size + 1, 0, none⟩ = some (.int .i64 (0)) := K1_1.out.cell 0
    have z1_1_1 : w1.cell? ⟨w.heap.size + 1, 1, none⟩ = some (.int .i64 (0)) := K1_1.out.cell 1
    have zf1_0 := K1_1.out.frozen 0
    have zf1_1 := K1_1.out.frozen 1
    go_wp2_with (first | (go_at_call 79; refine (withinsup_is _ _ _ _ G1.out _).mono ?_; rintro e w' ⟨rfl, rfl⟩))
    exact bodyPost_ret (v := .tuple #[.agg #[.int .i64 0, .int .i64 0], .int .i64 2]) (by simp [results, Try.results57, go_sem, z1_0_1, z1_1_1, l1_1]) rfl ⟨rfl, by repeat' (first | exact Below.refl _ _ | exact HB1.out | refine below_drewN ?_ _ | refine Below.drew ?_ | refine Below.alloc ?_ (by first | omega | (simp; done) | (simp; omega) | (simp [World.setCell]; omega)) _ | refine Below.setCell ?_ (by first | omega | (simp; done) | (simp; omega)) _ | assumption)⟩
  | true =>
  rw [if_neg (by rw [g1]; simp)] at hR
  obtain ⟨s1, s2⟩ := (withinB_iff _ _ _).1 g1
  have G1 := Lib.hid g1
  clear g1
  have v1 := IntWalk.i64_in (u * 21541) ⟨by omega, by omega⟩
  have v2 := IntWalk.i64_in (324000000 * v) ⟨by omega, by omega⟩
  have v3 := IntWalk.i64_in (u * 21541 - 324000000 * v) ⟨by omega, by omega⟩
  have v4 := IntWalk.i64_in (v * 21541) ⟨by omega, by omega⟩
  obtain ⟨b1, b2, b3, b4⟩ := red_in (a := u * 21541 - 324000000 * v) (b := v * 21541) (by omega) (by omega) (by omega) (by omega)
  cases hsm : smallB (u * 21541 - 324000000 * v) (v * 21541) with
  | false =>
    rw [if_pos hsm] at hR
    cases hR
    have HS := Lib.hid hsm
    clear hsm
    go_enter Try.func57, Try.ntmps57
    go_wp2_with fail
    refine (HRA.out _ (HX.out.belowLe (((Below.refl _ _).alloc (Nat.le_refl _) _).alloc (by simp) _) hN) (by simp; omega)).mono ?_
    rintro e w1 ⟨rfl, hb⟩
    have HB1 := Lib.hid (show Below w.heap.size w w1 from step_below hb (by repeat' (first | exact Below.refl _ _ | exact HB0.out | refine below_drewN ?_ _ | refine Below.drew ?_ | refine Below.alloc ?_ (by first | omega | (simp; done) | (simp; omega) | (simp [World.setCell]; omega)) _ | refine Below.setCell ?_ (by first | omega | (simp; done) | (simp; omega)) _ | assumption)))
    have K0_1 := Lib.hid (step_blk hb (show Blk _ (w.heap.size) 51 #[.int .i64 (s), .int .i64 (p)] by repeat' (first | exact Blk.at_ _ (by first | rfl | (simp; done) | (simp; omega)) _ _ | refine Blk.drewN ?_ _ | refine Blk.drew ?_ | refine Blk.alloc ?_ _ | refine Blk.far ?_ (by first | omega | (simp; done) | (simp; omega)) _ | assumption)))
    have K1_1 := Lib.hid (step_blk hb (show Blk _ (w.heap.size + 1) 64 #[.int .i64 (0), .int .i64 (0)] by repeat' (first | exact Blk.at_ _ (by first | rfl | (simp; done) | (simp; omega)) _ _ | refine Blk.drewN ?_ _ | refine Blk.drew ?_ | refine Blk.alloc ?_ _ | refine Blk.far ?_ (by first | omega | (simp; done) | (simp; omega)) _ | assumption)))
    have hz1 := hb.size
    try simp only [World.size_alloc, World.drewN, World.drew] at hz1
    clear hb
    have l0_1 : w.heap.size < w1.heap.size := K0_1.out.lt
    have z0_0_1 : w1.cell? ⟨w.heap.size, 0, none⟩ = some (.int .i64 (s)) := K0_1.out.cell 0
    have z0_1_1 : w1.cell? ⟨w.heap.size, 1, none⟩ = some (.int .i64 (p)) := K0_1.out.cell 1
    have l1_1 : w.heap.size + 1 < w1.heap.size := K1_1.out.lt
    have z1_0_1 : w1.cell? ⟨w.heap.size + 1, 0, none⟩ = some (.int .i64 (0)) := K1_1.out.cell 0
    have z1_1_1 : w1.cell? ⟨w.heap.size + 1, 1, none⟩ = some (.int .i64 (0)) := K1_1.out.cell 1
    go_wp2_with fail
    refine (withinsup_is _ _ _ _ G1.out _).mono ?_
    rintro en w' ⟨rfl, rfl⟩
    go_wp2_with fail
    refine (small_t (u * 21541 - 324000000 * v) (v * 21541) false HS.out _ (by omega) (by omega) (by omega) (by omega)).mono ?_
    rintro e w2 ⟨rfl, hb⟩
    have HB2 := Lib.hid (show Below w.heap.size w w2 from step_below hb (by repeat' (first | exact Below.refl _ _ | exact HB1.out | refine below_drewN ?_ _ | refine Below.drew ?_ | refine Below.alloc ?_ (by first | omega | (simp; done) | (simp; omega) | (simp [World.setCell]; omega)) _ | refine Below.setCell ?_ (by first | omega | (simp; done) | (simp; omega)) _ | assumption)))
    have K0_2 := Lib.hid (step_blk hb (show Blk _ (w.heap.size) 51 #[.int .i64 (s), .int .i64 (p)] by repeat' (first | exact K0_1.out | exact K1_1.out | exact Blk.at_ _ (by first | rfl | (simp; done) | (simp; omega)) _ _ | refine Blk.drewN ?_ _ | refine Blk.drew ?_ | refine Blk.alloc ?_ _ | refine Blk.far ?_ (by first | omega | (simp; done) | (simp; omega)) _ | assumption)))
    have K1_2 := Lib.hid (step_blk hb (show Blk _ (w.heap.size + 1) 64 #[.int .i64 (0), .int .i64 (0)] by repeat' (first | exact K0_1.out | exact K1_1.out | exact Blk.at_ _ (by first | rfl | (simp; done) | (simp; omega)) _ _ | refine Blk.drewN ?_ _ | refine Blk.drew ?_ | refine Blk.alloc ?_ _ | refine Blk.far ?_ (by first | omega | (simp; done) | (simp; omega)) _ | assumption)))
    have K2_2 := Lib.hid (step_blk hb (show Blk _ (w1.heap.size) 23 #[.int .i64 (u), .int .i64 (v)] by repeat' (first | exact K0_1.out | exact K1_1.out | exact Blk.at_ _ (by first | rfl | (simp; done) | (simp; omega)) _ _ | refine Blk.drewN ?_ _ | refine Blk.drew ?_ | refine Blk.alloc ?_ _ | refine Blk.far ?_ (by first | omega | (simp; done) | (simp; omega)) _ | assumption)))
    have hz2 := hb.size
    try simp only [World.size_alloc, World.drewN, World.drew] at hz2
    clear hb K0_1 K1_1 z0_0_1 z0_1_1 l0_1 z1_0_1 z1_1_1 l1_1
    have l0_2 : w.heap.size < w2.heap.size := K0_2.out.lt
    have z0_0_2 : w2.cell? ⟨w.heap.size, 0, none⟩ = some (.int .i64 (s)) := K0_2.out.cell 0
    have z0_1_2 : w2.cell? ⟨w.heap.size, 1, none⟩ = some (.int .i64 (p)) := K0_2.out.cell 1
    have l1_2 : w.heap.size + 1 < w2.heap.size := K1_2.out.lt
    have z1_0_2 : w2.cell? ⟨w.heap.size + 1, 0, none⟩ = some (.int .i64 (0)) := K1_2.out.cell 0
    have z1_1_2 : w2.cell? ⟨w.heap.size + 1, 1, none⟩ = some (.int .i64 (0)) := K1_2.out.cell 1
    have l2_2 : w1.heap.size < w2.heap.size := K2_2.out.lt
    have z2_0_2 : w2.cell? ⟨w1.heap.size, 0, none⟩ = some (.int .i64 (u)) := K2_2.out.cell 0
    have z2_1_2 : w2.cell? ⟨w1.heap.size, 1, none⟩ = some (.int .i64 (v)) := K2_2.out.cell 1
    have zf1_0 := K1_2.out.frozen 0
    have zf1_1 := K1_2.out.frozen 1
    go_wp2
    exact bodyPost_ret (v := .tuple #[.agg #[.int .i64 0, .int .i64 0], .int .i64 8]) (by simp [results, Try.results57, go_sem, z1_0_2, z1_1_2, l1_2]) rfl ⟨rfl, by repeat' (first | exact Below.refl _ _ | exact HB2.out | refine below_drewN ?_ _ | refine Below.drew ?_ | refine Below.alloc ?_ (by first | omega | (simp; done) | (simp; omega) | (simp [World.setCell]; omega)) _ | refine Below.setCell ?_ (by first | omega | (simp; done) | (simp; omega)) _ | assumption)⟩
  | true =>
    rw [if_neg (by rw [hsm]; simp)] at hR
    have hpt : 1 ≤ redD (u * 21541 - 324000000 * v) (v * 21541) ∧ redD (u * 21541 - 324000000 * v) (v * 21541) ≤ 1000000000 ∧ -1000000000 ≤ redN (u * 21541 - 324000000 * v) (v * 21541) ∧ redN (u * 21541 - 324000000 * v) (v * 21541) ≤ 1000000000 := by
      have hp : 0 < Int.gcd (u * 21541 - 324000000 * v) (v * 21541) := Int.gcd_pos_of_ne_zero_right _ (by omega)
      have hd : 0 < redD (u * 21541 - 324000000 * v) (v * 21541) := Int.ediv_pos_of_pos_of_dvd (by omega) (by omega) (Int.gcd_dvd_right _ _)
      have h := hsm
      unfold smallB at h
      simp only [Bool.and_eq_true, withinB_iff, decide_eq_true_eq] at h
      unfold redD redN at *
      omega
    have HS := Lib.hid hsm
    obtain ⟨X, hX⟩ : ∃ X, redN (u * 21541 - 324000000 * v) (v * 21541) = X := ⟨_, rfl⟩
    obtain ⟨Y, hY⟩ : ∃ Y, redD (u * 21541 - 324000000 * v) (v * 21541) = Y := ⟨_, rfl⟩
    rw [hX, hY] at hR hpt
    obtain ⟨y1, y2, x1, x2⟩ := hpt
    have HXX := Lib.hid hX
    have HYY := Lib.hid hY
    have m1 := Int.mul_le_mul_of_nonneg_right x2 s1
    have m2 := Int.mul_le_mul_of_nonneg_right x1 s1
    have v5 := IntWalk.i64_in (X * sec) ⟨by omega, by omega⟩
    have v6 := IntWalk.i64_in (Y * 1000) ⟨by omega, by omega⟩
    cases hR
    clear hsm hX hY b1 b2 b3 b4
    go_enter Try.func57, Try.ntmps57
    go_wp2_with fail
    refine (HRA.out _ (HX.out.belowLe (((Below.refl _ _).alloc (Nat.le_refl _) _).alloc (by simp) _) hN) (by simp; omega)).mono ?_
    rintro e w1 ⟨rfl, hb⟩
    have HB1 := Lib.hid (show Below w.heap.size w w1 from step_below hb (by repeat' (first | exact Below.refl _ _ | exact HB0.out | refine below_drewN ?_ _ | refine Below.drew ?_ | refine Below.alloc ?_ (by first | omega | (simp; done) | (simp; omega) | (simp [World.setCell]; omega)) _ | refine Below.setCell ?_ (by first | omega | (simp; done) | (simp; omega)) _ | assumption)))
    have K0_1 := Lib.hid (step_blk hb (show Blk _ (w.heap.size) 51 #[.int .i64 (s), .int .i64 (p)] by repeat' (first | exact Blk.at_ _ (by first | rfl | (simp; done) | (simp; omega)) _ _ | refine Blk.drewN ?_ _ | refine Blk.drew ?_ | refine Blk.alloc ?_ _ | refine Blk.far ?_ (by first | omega | (simp; done) | (simp; omega)) _ | assumption)))
    have K1_1 := Lib.hid (step_blk hb (show Blk _ (w.heap.size + 1) 64 #[.int .i64 (0), .int .i64 (0)] by repeat' (first | exact Blk.at_ _ (by first | rfl | (simp; done) | (simp; omega)) _ _ | refine Blk.drewN ?_ _ | refine Blk.drew ?_ | refine Blk.alloc ?_ _ | refine Blk.far ?_ (by first | omega | (simp; done) | (simp; omega)) _ | assumption)))
    have hz1 := hb.size
    try simp only [World.size_alloc, World.drewN, World.drew] at hz1
    clear hb
    have l0_1 : w.heap.size < w1.heap.size := K0_1.out.lt
    have z0_0_1 : w1.cell? ⟨w.heap.size, 0, none⟩ = some (.int .i64 (s)) := K0_1.out.cell 0
    have z0_1_1 : w1.cell? ⟨w.heap.size, 1, none⟩ = some (.int .i64 (p)) := K0_1.out.cell 1
    have l1_1 : w.heap.size + 1 < w1.heap.size := K1_1.out.lt
    have z1_0_1 : w1.cell? ⟨w.heap.size + 1, 0, none⟩ = some (.int .i64 (0)) := K1_1.out.cell 0
    have z1_1_1 : w1.cell? ⟨w.heap.size + 1, 1, none⟩ = some (.int .i64 (0)) := K1_1.out.cell 1
    go_wp2_with fail
    refine (withinsup_is _ _ _ _ G1.out _).mono ?_
    rintro en w' ⟨rfl, rfl⟩
    go_wp2_with fail
    refine (small_tt (u * 21541 - 324000000 * v) (v * 21541) X Y HXX.out HYY.out HS.out _ (by omega) (by omega) (by omega) (by omega)).mono ?_
    rintro e w2 ⟨rfl, hb⟩
    have HB2 := Lib.hid (show Below w.heap.size w w2 from step_below hb (by repeat' (first | exact Below.refl _ _ | exact HB1.out | refine below_drewN ?_ _ | refine Below.drew ?_ | refine Below.alloc ?_ (by first | omega | (simp; done) | (simp; omega) | (simp [World.setCell]; omega)) _ | refine Below.setCell ?_ (by first | omega | (simp; done) | (simp; omega)) _ | assumption)))
    have K0_2 := Lib.hid (step_blk hb (show Blk _ (w.heap.size) 51 #[.int .i64 (s), .int .i64 (p)] by repeat' (first | exact K0_1.out | exact K1_1.out | exact Blk.at_ _ (by first | rfl | (simp; done) | (simp; omega)) _ _ | refine Blk.drewN ?_ _ | refine Blk.drew ?_ | refine Blk.alloc ?_ _ | refine Blk.far ?_ (by first | omega | (simp; done) | (simp; omega)) _ | assumption)))
    have K1_2 := Lib.hid (step_blk hb (show Blk _ (w.heap.size + 1) 64 #[.int .i64 (0), .int .i64 (0)] by repeat' (first | exact K0_1.out | exact K1_1.out | exact Blk.at_ _ (by first | rfl | (simp; done) | (simp; omega)) _ _ | refine Blk.drewN ?_ _ | refine Blk.drew ?_ | refine Blk.alloc ?_ _ | refine Blk.far ?_ (by first | omega | (simp; done) | (simp; omega)) _ | assumption)))
    have K2_2 := Lib.hid (step_blk hb (show Blk _ (w1.heap.size) 23 #[.int .i64 (u), .int .i64 (v)] by repeat' (first | exact K0_1.out | exact K1_1.out | exact Blk.at_ _ (by first | rfl | (simp; done) | (simp; omega)) _ _ | refine Blk.drewN ?_ _ | refine Blk.drew ?_ | refine Blk.alloc ?_ _ | refine Blk.far ?_ (by first | omega | (simp; done) | (simp; omega)) _ | assumption)))
    have hz2 := hb.size
    try simp only [World.size_alloc, World.drewN, World.drew] at hz2
    clear hb K0_1 K1_1 z0_0_1 z0_1_1 l0_1 z1_0_1 z1_1_1 l1_1
    have l0_2 : w.heap.size < w2.heap.size := K0_2.out.lt
    have z0_0_2 : w2.cell? ⟨w.heap.size, 0, none⟩ = some (.int .i64 (s)) := K0_2.out.cell 0
    have z0_1_2 : w2.cell? ⟨w.heap.size, 1, none⟩ = some (.int .i64 (p)) := K0_2.out.cell 1
    have l1_2 : w.heap.size + 1 < w2.heap.size := K1_2.out.lt
    have z1_0_2 : w2.cell? ⟨w.heap.size + 1, 0, none⟩ = some (.int .i64 (0)) := K1_2.out.cell 0
    have z1_1_2 : w2.cell? ⟨w.heap.size + 1, 1, none⟩ = some (.int .i64 (0)) := K1_2.out.cell 1
    have l2_2 : w1.heap.size < w2.heap.size := K2_2.out.lt
    have z2_0_2 : w2.cell? ⟨w1.heap.size, 0, none⟩ = some (.int .i64 (u)) := K2_2.out.cell 0
    have z2_1_2 : w2.cell? ⟨w1.heap.size, 1, none⟩ = some (.int .i64 (v)) := K2_2.out.cell 1
    have z1 : (w2.alloc (.cells #[.int .i64 X, .int .i64 Y] 23)).frozen? ⟨w.heap.size + 1, 0, none⟩ = false := (K1_2.out.alloc _).frozen 0
    have z2 : (w2.alloc (.cells #[.int .i64 X, .int .i64 Y] 23)).frozen? ⟨w.heap.size + 1, 1, none⟩ = false := (K1_2.out.alloc _).frozen 1
    have z1' := K1_2.out.frozen 0
    have z2' := K1_2.out.frozen 1
    go_wp2
    refine Fx.regionW (fun W f w' => (f 17 = false → ∃ q, w' = W.drewN q) ∧ (f 17 = true → ∃ q, w' = ((W.drewN q).setCell ⟨w.heap.size + 1, 0, none⟩ (.int .i64 (X * sec / (Y * 1000)))).setCell ⟨w.heap.size + 1, 1, none⟩ (.int .i64 (-((-(X * sec)) / (Y * 1000)))))) (by kernel_rfl) (by kernel_rfl) ?_ ?_
    · intro f hf0
      exact ⟨fun _ => ⟨1, rfl⟩, fun h => by rw [hf0 17] at h; cases h⟩
    repeat (first
      | (refine Fx.skip_ (by rfl) (fun f w h => h) ?_; simp only [Act.put, List.setIfInBounds_toArray, List.set_cons_zero, List.set_cons_succ])
      | (refine Fx.val_ ?_ (by rfl) ?_ (fun f w h => h) ?_
         rotate_left
         · intro f w' hD hk
           obtain ⟨h1, h2⟩ := id hD
           obtain ⟨q, rfl⟩ := h1 (hk.2.1 17 (by kernel_rfl))
           clear hk hD h1 h2
           go_simp
           try rfl
         simp only [Act.put, List.setIfInBounds_toArray, List.set_cons_zero, List.set_cons_succ]))
    refine Fx.call_ (.int .i64 (X * sec / (Y * 1000))) ?_ ?_ (by rfl) ?_ ?_ ?_
    rotate_left 2
    · intro w'
      go_simp
      refine ⟨?_, ?_⟩ <;> rfl
    · intro f w' hD hk
      obtain ⟨h1, h2⟩ := id hD
      obtain ⟨q, rfl⟩ := h1 (hk.2.1 17 (by kernel_rfl))
      have h17 : f 17 = false := hk.2.1 17 (by kernel_rfl)
      exact (floorsup_any (X * sec) (Y * 1000) _ (by omega) (by omega) (by omega) (by omega)).mono fun e w'' ⟨he, hw⟩ => ⟨he, fun _ => ⟨q, hw.symm⟩, fun h => by simp [Fx.add, h17] at h⟩
    simp only [Act.put, List.setIfInBounds_toArray, List.set_cons_zero, List.set_cons_succ]
    repeat (first
      | (refine Fx.skip_ (by rfl) (fun f w h => h) ?_; simp only [Act.put, List.setIfInBounds_toArray, List.set_cons_zero, List.set_cons_succ])
      | (refine Fx.val_ ?_ (by rfl) ?_ (fun f w h => h) ?_
         rotate_left
         · intro f w' hD hk
           obtain ⟨h1, h2⟩ := id hD
           obtain ⟨q, rfl⟩ := h1 (hk.2.1 17 (by kernel_rfl))
           clear hk hD h1 h2
           go_simp
           try rfl
         simp only [Act.put, List.setIfInBounds_toArray, List.set_cons_zero, List.set_cons_succ]))
    refine Fx.call_ (.int .i64 (-((-(X * sec)) / (Y * 1000)))) ?_ ?_ (by rfl) ?_ ?_ ?_
    rotate_left 2
    · intro w'
      go_simp
      refine ⟨?_, ?_⟩ <;> rfl
    · intro f w' hD hk
      obtain ⟨h1, h2⟩ := id hD
      obtain ⟨q, rfl⟩ := h1 (hk.2.1 17 (by kernel_rfl))
      have h17 : f 17 = false := hk.2.1 17 (by kernel_rfl)
      exact (ceilsup_any (X * sec) (Y * 1000) _ (by omega) (by omega) (by omega) (by omega)).mono fun e w'' ⟨he, hw⟩ => ⟨he, fun _ => ⟨q, hw.symm⟩, fun h => by simp [Fx.add, h17] at h⟩
    simp only [Act.put, List.setIfInBounds_toArray, List.set_cons_zero, List.set_cons_succ]
    repeat (first
      | (refine Fx.skip_ (by rfl) (fun f w h => h) ?_; simp only [Act.put, List.setIfInBounds_toArray, List.set_cons_zero, List.set_cons_succ])
      | (refine Fx.val_ ?_ (by rfl) ?_ (fun f w h => h) ?_
         rotate_left
         · intro f w' hD hk
           obtain ⟨h1, h2⟩ := id hD
           obtain ⟨q, rfl⟩ := h1 (hk.2.1 17 (by kernel_rfl))
           clear hk hD h1 h2
           go_simp
           try rfl
         simp only [Act.put, List.setIfInBounds_toArray, List.set_cons_zero, List.set_cons_succ]))
    refine Fx.store_ (fun w' => (w'.setCell ⟨w.heap.size + 1, 0, none⟩ (.int .i64 (X * sec / (Y * 1000)))).setCell ⟨w.heap.size + 1, 1, none⟩ (.int .i64 (-((-(X * sec)) / (Y * 1000))))) (by rfl) ?_ ?_ ?_
    · intro f w' hD hk
      obtain ⟨h1, h2⟩ := id hD
      obtain ⟨q, rfl⟩ := h1 hk.1
      clear h1 h2
      clear hk hD
      go_simp
    · intro f w' hD hk
      obtain ⟨h1, h2⟩ := id hD
      obtain ⟨q, rfl⟩ := h1 hk.1
      clear h1 h2
      exact ⟨fun h => by simp [Fx.add] at h, fun _ => ⟨q, rfl⟩⟩
    simp only [Act.put, List.setIfInBounds_toArray, List.set_cons_zero, List.set_cons_succ]
    repeat (first
      | (refine Fx.skip_ (by rfl) (fun f w h => h) ?_; simp only [Act.put, List.setIfInBounds_toArray, List.set_cons_zero, List.set_cons_succ])
      | (refine Fx.val_ ?_ (by rfl) ?_ (fun f w h => h) ?_
         rotate_left
         · intro f w' hD hk
           obtain ⟨h1, h2⟩ := id hD
           clear hk hD h1 h2
           go_simp
           try rfl
         simp only [Act.put, List.setIfInBounds_toArray, List.set_cons_zero, List.set_cons_succ]))
    refine Fx.nil_ ?_
    intro f w1 hall hD
    have hf17 := hall 17 (by simp)
    obtain ⟨_, h2⟩ := hD
    simp only [hf17, if_true] at *
    obtain ⟨q, rfl⟩ := h2 (by first | rfl | trivial)
    clear h2
    go_wp2
    exact bodyPost_ret (v := .tuple #[.agg #[.int .i64 (X * sec / (Y * 1000)), .int .i64 (-((-(X * sec)) / (Y * 1000)))], .int .i64 0]) (by simp [results, Try.results57, go_sem, z1_0_2, z1_1_2, l1_2]) rfl ⟨rfl, by repeat' (first | exact Below.refl _ _ | exact HB2.out | refine below_drewN ?_ _ | refine Below.drew ?_ | refine Below.alloc ?_ (by first | omega | (simp; done) | (simp; omega) | (simp [World.setCell]; omega)) _ | refine Below.setCell ?_ (by first | omega | (simp; done) | (simp; omega)) _ | assumption)⟩

set_option maxRecDepth 100000 in
set_option maxHeartbeats 3000000 in
theorem rdrift_any (A : Option Addr) (n c N : Nat) (l : List (Int × Int)) (s p sec : Int) (ht0 : trainErr l = 0) (w : World) (hx : Reads w N 2 A n (cells2 l)) (hN : N ≤ w.heap.size) (hn : n ≤ 9223372036854775807) (x y e : Int) (hR : driftF l s p sec = ((x, y), e)) :
    Calls Try.prog 59 #[.slice A n c, .agg #[.int .i64 s, .int .i64 p], .int .i64 sec] w fun en w' => en = .returned (.tuple #[.agg #[.int .i64 x, .int .i64 y], .int .i64 e]) ∧ Below w.heap.size w w' := by
  have HX := Lib.hid hx
  clear hx
  obtain ⟨R, hRR⟩ : ∃ R, rateF l s p = R := ⟨_, rfl⟩
  obtain ⟨⟨u, v⟩, re⟩ := R
  unfold driftF at hR
  rw [hRR] at hR
  have HRA : Hid (∀ w, Reads w N 2 A n (cells2 l) → N ≤ w.heap.size → Calls Try.prog 58 #[.slice A n c, .int .i64 s, .int .i64 p] w fun en w' => en = .returned (.tuple #[.agg #[.int .i64 u, .int .i64 v], .int .i64 re]) ∧ Below w.heap.size w w') := fun w h1 h2 => rrate_any A n c N l s p ht0 w h1 h2 u v re hRR
  by_cases h0 : re = 0
  rotate_left
  · rw [if_pos h0] at hR
    cases hR
    have e0 : (re != 0) = true := by simpa using h0
    clear hRR
    go_enter Try.func59, Try.ntmps59
    go_wp2_with fail
    refine (HRA.out _ (HX.out.belowLe (((Below.refl _ _).alloc (Nat.le_refl _) _).alloc (by simp) _) hN) (by simp; omega)).mono ?_
    rintro e w1 ⟨rfl, hb⟩
    have HB1 := Lib.hid (show Below w.heap.size w w1 from step_below hb (by repeat' (first | exact Below.refl _ _ | exact HB0.out | refine below_drewN ?_ _ | refine Below.drew ?_ | refine Below.alloc ?_ (by first | omega | (simp; done) | (simp; omega) | (simp [World.setCell]; omega)) _ | refine Below.setCell ?_ (by first | omega | (simp; done) | (simp; omega)) _ | assumption)))
    have K0_1 := Lib.hid (step_blk hb (show Blk _ (w.heap.size) 51 #[.int .i64 (s), .int .i64 (p)] by repeat' (first | exact Blk.at_ _ (by first | rfl | (simp; done) | (simp; omega)) _ _ | refine Blk.drewN ?_ _ | refine Blk.drew ?_ | refine Blk.alloc ?_ _ | refine Blk.far ?_ (by first | omega | (simp; done) | (simp; omega)) _ | assumption)))
    have K1_1 := Lib.hid (step_blk hb (show Blk _ (w.heap.size + 1) 64 #[.int .i64 (0), .int .i64 (0)] by repeat' (first | exact Blk.at_ _ (by first | rfl | (simp; done) | (simp; omega)) _ _ | refine Blk.drewN ?_ _ | refine Blk.drew ?_ | refine Blk.alloc ?_ _ | refine Blk.far ?_ (by first | omega | (simp; done) | (simp; omega)) _ | assumption)))
    have hz1 := hb.size
    try simp only [World.size_alloc, World.drewN, World.drew] at hz1
    clear hb
    have l0_1 : w.heap.size < w1.heap.size := K0_1.out.lt
    have z0_0_1 : w1.cell? ⟨w.heap.size, 0, none⟩ = some (.int .i64 (s)) := K0_1.out.cell 0
    have z0_1_1 : w1.cell? ⟨w.heap.size, 1, none⟩ = some (.int .i64 (p)) := K0_1.out.cell 1
    have l1_1 : w.heap.size + 1 < w1.heap.size := K1_1.out.lt
    have z1_0_1 : w1.cell? ⟨w.heap.size + 1, 0, none⟩ = some (.int .i64 (0)) := K1_1.out.cell 0
    have z1_1_1 : w1.cell? ⟨w.heap.size + 1, 1, none⟩ = some (.int .i64 (0)) := K1_1.out.cell 1
    have zf1_0 := K1_1.out.frozen 0
    have zf1_1 := K1_1.out.frozen 1
    go_wp2
    exact bodyPost_ret (v := .tuple #[.agg #[.int .i64 0, .int .i64 0], .int .i64 re]) (by simp [results, Try.results59, go_sem, z1_0_1, z1_1_1, l1_1]) rfl ⟨rfl, by repeat' (first | exact Below.refl _ _ | exact HB1.out | refine below_drewN ?_ _ | refine Below.drew ?_ | refine Below.alloc ?_ (by first | omega | (simp; done) | (simp; omega) | (simp [World.setCell]; omega)) _ | refine Below.setCell ?_ (by first | omega | (simp; done) | (simp; omega)) _ | assumption)⟩
  subst h0
  rw [if_neg (by simp)] at hR
  obtain ⟨pu, pv⟩ := rate_part hRR
  obtain ⟨pu1, pu2⟩ := pu
  obtain ⟨pv1, pv2⟩ := pv
  clear hRR
  unfold driftIn at hR
  simp only at hR
  cases g1 : withinB sec 0 1000000 with
  | false =>
    rw [if_pos g1] at hR
    cases hR
    have G1 := Lib.hid g1
    clear g1
    go_enter Try.func59, Try.ntmps59
    go_wp2_with fail
    refine (HRA.out _ (HX.out.belowLe (((Below.refl _ _).alloc (Nat.le_refl _) _).alloc (by simp) _) hN) (by simp; omega)).mono ?_
    rintro e w1 ⟨rfl, hb⟩
    have HB1 := Lib.hid (show Below w.heap.size w w1 from step_below hb (by repeat' (first | exact Below.refl _ _ | exact HB0.out | refine below_drewN ?_ _ | refine Below.drew ?_ | refine Below.alloc ?_ (by first | omega | (simp; done) | (simp; omega) | (simp [World.setCell]; omega)) _ | refine Below.setCell ?_ (by first | omega | (simp; done) | (simp; omega)) _ | assumption)))
    have K0_1 := Lib.hid (step_blk hb (show Blk _ (w.heap.size) 51 #[.int .i64 (s), .int .i64 (p)] by repeat' (first | exact Blk.at_ _ (by first | rfl | (simp; done) | (simp; omega)) _ _ | refine Blk.drewN ?_ _ | refine Blk.drew ?_ | refine Blk.alloc ?_ _ | refine Blk.far ?_ (by first | omega | (simp; done) | (simp; omega)) _ | assumption)))
    have K1_1 := Lib.hid (step_blk hb (show Blk _ (w.heap.size + 1) 64 #[.int .i64 (0), .int .i64 (0)] by repeat' (first | exact Blk.at_ _ (by first | rfl | (simp; done) | (simp; omega)) _ _ | refine Blk.drewN ?_ _ | refine Blk.drew ?_ | refine Blk.alloc ?_ _ | refine Blk.far ?_ (by first | omega | (simp; done) | (simp; omega)) _ | assumption)))
    have hz1 := hb.size
    try simp only [World.size_alloc, World.drewN, World.drew] at hz1
    clear hb
    have l0_1 : w.heap.size < w1.heap.size := K0_1.out.lt
    have z0_0_1 : w1.cell? ⟨w.heap.size, 0, none⟩ = some (.int .i64 (s)) := K0_1.out.cell 0
    have z0_1_1 : w1.cell? ⟨w.heap.size, 1, none⟩ = some (.int .i64 (p)) := K0_1.out.cell 1
    have l1_1 : w.heap.size + 1 < w1.heap.size := K1_1.out.lt
    have z1_0_1 : w1.cell? ⟨w.heap.size + 1, 0, none⟩ = some (.int .i64 (0)) := K1_1.out.cell 0
    have z1_1_1 : w1.cell? ⟨w.heap.size + 1, 1, none⟩ = some (.int .i64 (0)) := K1_1.out.cell 1
    have zf1_0 := K1_1.out.frozen 0
    have zf1_1 := K1_1.out.frozen 1
    go_wp2_with (first | (go_at_call 31; refine (withinref_is _ _ _ _ G1.out _).mono ?_; rintro e w' ⟨rfl, rfl⟩))
    exact bodyPost_ret (v := .tuple #[.agg #[.int .i64 0, .int .i64 0], .int .i64 2]) (by simp [results, Try.results59, go_sem, z1_0_1, z1_1_1, l1_1]) rfl ⟨rfl, by repeat' (first | exact Below.refl _ _ | exact HB1.out | refine below_drewN ?_ _ | refine Below.drew ?_ | refine Below.alloc ?_ (by first | omega | (simp; done) | (simp; omega) | (simp [World.setCell]; omega)) _ | refine Below.setCell ?_ (by first | omega | (simp; done) | (simp; omega)) _ | assumption)⟩
  | true =>
  rw [if_neg (by rw [g1]; simp)] at hR
  obtain ⟨s1, s2⟩ := (withinB_iff _ _ _).1 g1
  have G1 := Lib.hid g1
  clear g1
  have v1 := IntWalk.i64_in (u * 21541) ⟨by omega, by omega⟩
  have v2 := IntWalk.i64_in (324000000 * v) ⟨by omega, by omega⟩
  have v3 := IntWalk.i64_in (u * 21541 - 324000000 * v) ⟨by omega, by omega⟩
  have v4 := IntWalk.i64_in (v * 21541) ⟨by omega, by omega⟩
  obtain ⟨b1, b2, b3, b4⟩ := red_in (a := u * 21541 - 324000000 * v) (b := v * 21541) (by omega) (by omega) (by omega) (by omega)
  cases hsm : smallB (u * 21541 - 324000000 * v) (v * 21541) with
  | false =>
    rw [if_pos hsm] at hR
    cases hR
    have HS := Lib.hid hsm
    clear hsm
    go_enter Try.func59, Try.ntmps59
    go_wp2_with fail
    refine (HRA.out _ (HX.out.belowLe (((Below.refl _ _).alloc (Nat.le_refl _) _).alloc (by simp) _) hN) (by simp; omega)).mono ?_
    rintro e w1 ⟨rfl, hb⟩
    have HB1 := Lib.hid (show Below w.heap.size w w1 from step_below hb (by repeat' (first | exact Below.refl _ _ | exact HB0.out | refine below_drewN ?_ _ | refine Below.drew ?_ | refine Below.alloc ?_ (by first | omega | (simp; done) | (simp; omega) | (simp [World.setCell]; omega)) _ | refine Below.setCell ?_ (by first | omega | (simp; done) | (simp; omega)) _ | assumption)))
    have K0_1 := Lib.hid (step_blk hb (show Blk _ (w.heap.size) 51 #[.int .i64 (s), .int .i64 (p)] by repeat' (first | exact Blk.at_ _ (by first | rfl | (simp; done) | (simp; omega)) _ _ | refine Blk.drewN ?_ _ | refine Blk.drew ?_ | refine Blk.alloc ?_ _ | refine Blk.far ?_ (by first | omega | (simp; done) | (simp; omega)) _ | assumption)))
    have K1_1 := Lib.hid (step_blk hb (show Blk _ (w.heap.size + 1) 64 #[.int .i64 (0), .int .i64 (0)] by repeat' (first | exact Blk.at_ _ (by first | rfl | (simp; done) | (simp; omega)) _ _ | refine Blk.drewN ?_ _ | refine Blk.drew ?_ | refine Blk.alloc ?_ _ | refine Blk.far ?_ (by first | omega | (simp; done) | (simp; omega)) _ | assumption)))
    have hz1 := hb.size
    try simp only [World.size_alloc, World.drewN, World.drew] at hz1
    clear hb
    have l0_1 : w.heap.size < w1.heap.size := K0_1.out.lt
    have z0_0_1 : w1.cell? ⟨w.heap.size, 0, none⟩ = some (.int .i64 (s)) := K0_1.out.cell 0
    have z0_1_1 : w1.cell? ⟨w.heap.size, 1, none⟩ = some (.int .i64 (p)) := K0_1.out.cell 1
    have l1_1 : w.heap.size + 1 < w1.heap.size := K1_1.out.lt
    have z1_0_1 : w1.cell? ⟨w.heap.size + 1, 0, none⟩ = some (.int .i64 (0)) := K1_1.out.cell 0
    have z1_1_1 : w1.cell? ⟨w.heap.size + 1, 1, none⟩ = some (.int .i64 (0)) := K1_1.out.cell 1
    go_wp2_with fail
    refine (withinref_is _ _ _ _ G1.out _).mono ?_
    rintro en w' ⟨rfl, rfl⟩
    go_wp2_with fail
    refine (subref_no u v HS.out _ pu1 pu2 pv1 pv2).mono ?_
    rintro e w2 ⟨rfl, hb⟩
    have HB2 := Lib.hid (show Below w.heap.size w w2 from step_below hb (by repeat' (first | exact Below.refl _ _ | exact HB1.out | refine below_drewN ?_ _ | refine Below.drew ?_ | refine Below.alloc ?_ (by first | omega | (simp; done) | (simp; omega) | (simp [World.setCell]; omega)) _ | refine Below.setCell ?_ (by first | omega | (simp; done) | (simp; omega)) _ | assumption)))
    have K0_2 := Lib.hid (step_blk hb (show Blk _ (w.heap.size) 51 #[.int .i64 (s), .int .i64 (p)] by repeat' (first | exact K0_1.out | exact K1_1.out | exact Blk.at_ _ (by first | rfl | (simp; done) | (simp; omega)) _ _ | refine Blk.drewN ?_ _ | refine Blk.drew ?_ | refine Blk.alloc ?_ _ | refine Blk.far ?_ (by first | omega | (simp; done) | (simp; omega)) _ | assumption)))
    have K1_2 := Lib.hid (step_blk hb (show Blk _ (w.heap.size + 1) 64 #[.int .i64 (0), .int .i64 (0)] by repeat' (first | exact K0_1.out | exact K1_1.out | exact Blk.at_ _ (by first | rfl | (simp; done) | (simp; omega)) _ _ | refine Blk.drewN ?_ _ | refine Blk.drew ?_ | refine Blk.alloc ?_ _ | refine Blk.far ?_ (by first | omega | (simp; done) | (simp; omega)) _ | assumption)))
    have K2_2 := Lib.hid (step_blk hb (show Blk _ (w1.heap.size) 23 #[.int .i64 (u), .int .i64 (v)] by repeat' (first | exact K0_1.out | exact K1_1.out | exact Blk.at_ _ (by first | rfl | (simp; done) | (simp; omega)) _ _ | refine Blk.drewN ?_ _ | refine Blk.drew ?_ | refine Blk.alloc ?_ _ | refine Blk.far ?_ (by first | omega | (simp; done) | (simp; omega)) _ | assumption)))
    have hz2 := hb.size
    try simp only [World.size_alloc, World.drewN, World.drew] at hz2
    clear hb K0_1 K1_1 z0_0_1 z0_1_1 l0_1 z1_0_1 z1_1_1 l1_1
    have l0_2 : w.heap.size < w2.heap.size := K0_2.out.lt
    have z0_0_2 : w2.cell? ⟨w.heap.size, 0, none⟩ = some (.int .i64 (s)) := K0_2.out.cell 0
    have z0_1_2 : w2.cell? ⟨w.heap.size, 1, none⟩ = some (.int .i64 (p)) := K0_2.out.cell 1
    have l1_2 : w.heap.size + 1 < w2.heap.size := K1_2.out.lt
    have z1_0_2 : w2.cell? ⟨w.heap.size + 1, 0, none⟩ = some (.int .i64 (0)) := K1_2.out.cell 0
    have z1_1_2 : w2.cell? ⟨w.heap.size + 1, 1, none⟩ = some (.int .i64 (0)) := K1_2.out.cell 1
    have l2_2 : w1.heap.size < w2.heap.size := K2_2.out.lt
    have z2_0_2 : w2.cell? ⟨w1.heap.size, 0, none⟩ = some (.int .i64 (u)) := K2_2.out.cell 0
    have z2_1_2 : w2.cell? ⟨w1.heap.size, 1, none⟩ = some (.int .i64 (v)) := K2_2.out.cell 1
    have zf1_0 := K1_2.out.frozen 0
    have zf1_1 := K1_2.out.frozen 1
    go_wp2
    exact bodyPost_ret (v := .tuple #[.agg #[.int .i64 0, .int .i64 0], .int .i64 8]) (by simp [results, Try.results59, go_sem, z1_0_2, z1_1_2, l1_2]) rfl ⟨rfl, by repeat' (first | exact Below.refl _ _ | exact HB2.out | refine below_drewN ?_ _ | refine Below.drew ?_ | refine Below.alloc ?_ (by first | omega | (simp; done) | (simp; omega) | (simp [World.setCell]; omega)) _ | refine Below.setCell ?_ (by first | omega | (simp; done) | (simp; omega)) _ | assumption)⟩
  | true =>
    rw [if_neg (by rw [hsm]; simp)] at hR
    have hpt : 1 ≤ redD (u * 21541 - 324000000 * v) (v * 21541) ∧ redD (u * 21541 - 324000000 * v) (v * 21541) ≤ 1000000000 ∧ -1000000000 ≤ redN (u * 21541 - 324000000 * v) (v * 21541) ∧ redN (u * 21541 - 324000000 * v) (v * 21541) ≤ 1000000000 := by
      have hp : 0 < Int.gcd (u * 21541 - 324000000 * v) (v * 21541) := Int.gcd_pos_of_ne_zero_right _ (by omega)
      have hd : 0 < redD (u * 21541 - 324000000 * v) (v * 21541) := Int.ediv_pos_of_pos_of_dvd (by omega) (by omega) (Int.gcd_dvd_right _ _)
      have h := hsm
      unfold smallB at h
      simp only [Bool.and_eq_true, withinB_iff, decide_eq_true_eq] at h
      unfold redD redN at *
      omega
    have HS := Lib.hid hsm
    obtain ⟨X, hX⟩ : ∃ X, redN (u * 21541 - 324000000 * v) (v * 21541) = X := ⟨_, rfl⟩
    obtain ⟨Y, hY⟩ : ∃ Y, redD (u * 21541 - 324000000 * v) (v * 21541) = Y := ⟨_, rfl⟩
    rw [hX, hY] at hR hpt
    obtain ⟨y1, y2, x1, x2⟩ := hpt
    have HXX := Lib.hid hX
    have HYY := Lib.hid hY
    have m1 := Int.mul_le_mul_of_nonneg_right x2 s1
    have m2 := Int.mul_le_mul_of_nonneg_right x1 s1
    have v5 := IntWalk.i64_in (X * sec) ⟨by omega, by omega⟩
    have v6 := IntWalk.i64_in (Y * 1000) ⟨by omega, by omega⟩
    cases hR
    clear hsm hX hY b1 b2 b3 b4
    go_enter Try.func59, Try.ntmps59
    go_wp2_with fail
    refine (HRA.out _ (HX.out.belowLe (((Below.refl _ _).alloc (Nat.le_refl _) _).alloc (by simp) _) hN) (by simp; omega)).mono ?_
    rintro e w1 ⟨rfl, hb⟩
    have HB1 := Lib.hid (show Below w.heap.size w w1 from step_below hb (by repeat' (first | exact Below.refl _ _ | exact HB0.out | refine below_drewN ?_ _ | refine Below.drew ?_ | refine Below.alloc ?_ (by first | omega | (simp; done) | (simp; omega) | (simp [World.setCell]; omega)) _ | refine Below.setCell ?_ (by first | omega | (simp; done) | (simp; omega)) _ | assumption)))
    have K0_1 := Lib.hid (step_blk hb (show Blk _ (w.heap.size) 51 #[.int .i64 (s), .int .i64 (p)] by repeat' (first | exact Blk.at_ _ (by first | rfl | (simp; done) | (simp; omega)) _ _ | refine Blk.drewN ?_ _ | refine Blk.drew ?_ | refine Blk.alloc ?_ _ | refine Blk.far ?_ (by first | omega | (simp; done) | (simp; omega)) _ | assumption)))
    have K1_1 := Lib.hid (step_blk hb (show Blk _ (w.heap.size + 1) 64 #[.int .i64 (0), .int .i64 (0)] by repeat' (first | exact Blk.at_ _ (by first | rfl | (simp; done) | (simp; omega)) _ _ | refine Blk.drewN ?_ _ | refine Blk.drew ?_ | refine Blk.alloc ?_ _ | refine Blk.far ?_ (by first | omega | (simp; done) | (simp; omega)) _ | assumption)))
    have hz1 := hb.size
    try simp only [World.size_alloc, World.drewN, World.drew] at hz1
    clear hb
    have l0_1 : w.heap.size < w1.heap.size := K0_1.out.lt
    have z0_0_1 : w1.cell? ⟨w.heap.size, 0, none⟩ = some (.int .i64 (s)) := K0_1.out.cell 0
    have z0_1_1 : w1.cell? ⟨w.heap.size, 1, none⟩ = some (.int .i64 (p)) := K0_1.out.cell 1
    have l1_1 : w.heap.size + 1 < w1.heap.size := K1_1.out.lt
    have z1_0_1 : w1.cell? ⟨w.heap.size + 1, 0, none⟩ = some (.int .i64 (0)) := K1_1.out.cell 0
    have z1_1_1 : w1.cell? ⟨w.heap.size + 1, 1, none⟩ = some (.int .i64 (0)) := K1_1.out.cell 1
    go_wp2_with fail
    refine (withinref_is _ _ _ _ G1.out _).mono ?_
    rintro en w' ⟨rfl, rfl⟩
    go_wp2_with fail
    refine (subref_ok u v X Y HXX.out HYY.out HS.out _ pu1 pu2 pv1 pv2).mono ?_
    rintro e w2 ⟨rfl, hb⟩
    have HB2 := Lib.hid (show Below w.heap.size w w2 from step_below hb (by repeat' (first | exact Below.refl _ _ | exact HB1.out | refine below_drewN ?_ _ | refine Below.drew ?_ | refine Below.alloc ?_ (by first | omega | (simp; done) | (simp; omega) | (simp [World.setCell]; omega)) _ | refine Below.setCell ?_ (by first | omega | (simp; done) | (simp; omega)) _ | assumption)))
    have K0_2 := Lib.hid (step_blk hb (show Blk _ (w.heap.size) 51 #[.int .i64 (s), .int .i64 (p)] by repeat' (first | exact K0_1.out | exact K1_1.out | exact Blk.at_ _ (by first | rfl | (simp; done) | (simp; omega)) _ _ | refine Blk.drewN ?_ _ | refine Blk.drew ?_ | refine Blk.alloc ?_ _ | refine Blk.far ?_ (by first | omega | (simp; done) | (simp; omega)) _ | assumption)))
    have K1_2 := Lib.hid (step_blk hb (show Blk _ (w.heap.size + 1) 64 #[.int .i64 (0), .int .i64 (0)] by repeat' (first | exact K0_1.out | exact K1_1.out | exact Blk.at_ _ (by first | rfl | (simp; done) | (simp; omega)) _ _ | refine Blk.drewN ?_ _ | refine Blk.drew ?_ | refine Blk.alloc ?_ _ | refine Blk.far ?_ (by first | omega | (simp; done) | (simp; omega)) _ | assumption)))
    have K2_2 := Lib.hid (step_blk hb (show Blk _ (w1.heap.size) 23 #[.int .i64 (u), .int .i64 (v)] by repeat' (first | exact K0_1.out | exact K1_1.out | exact Blk.at_ _ (by first | rfl | (simp; done) | (simp; omega)) _ _ | refine Blk.drewN ?_ _ | refine Blk.drew ?_ | refine Blk.alloc ?_ _ | refine Blk.far ?_ (by first | omega | (simp; done) | (simp; omega)) _ | assumption)))
    have hz2 := hb.size
    try simp only [World.size_alloc, World.drewN, World.drew] at hz2
    clear hb K0_1 K1_1 z0_0_1 z0_1_1 l0_1 z1_0_1 z1_1_1 l1_1
    have l0_2 : w.heap.size < w2.heap.size := K0_2.out.lt
    have z0_0_2 : w2.cell? ⟨w.heap.size, 0, none⟩ = some (.int .i64 (s)) := K0_2.out.cell 0
    have z0_1_2 : w2.cell? ⟨w.heap.size, 1, none⟩ = some (.int .i64 (p)) := K0_2.out.cell 1
    have l1_2 : w.heap.size + 1 < w2.heap.size := K1_2.out.lt
    have z1_0_2 : w2.cell? ⟨w.heap.size + 1, 0, none⟩ = some (.int .i64 (0)) := K1_2.out.cell 0
    have z1_1_2 : w2.cell? ⟨w.heap.size + 1, 1, none⟩ = some (.int .i64 (0)) := K1_2.out.cell 1
    have l2_2 : w1.heap.size < w2.heap.size := K2_2.out.lt
    have z2_0_2 : w2.cell? ⟨w1.heap.size, 0, none⟩ = some (.int .i64 (u)) := K2_2.out.cell 0
    have z2_1_2 : w2.cell? ⟨w1.heap.size, 1, none⟩ = some (.int .i64 (v)) := K2_2.out.cell 1
    have z1 : (w2.alloc (.cells #[.int .i64 X, .int .i64 Y] 23)).frozen? ⟨w.heap.size + 1, 0, none⟩ = false := (K1_2.out.alloc _).frozen 0
    have z2 : (w2.alloc (.cells #[.int .i64 X, .int .i64 Y] 23)).frozen? ⟨w.heap.size + 1, 1, none⟩ = false := (K1_2.out.alloc _).frozen 1
    have z1' := K1_2.out.frozen 0
    have z2' := K1_2.out.frozen 1
    go_wp2
    refine Fx.regionW (fun W f w' => (f 17 = false → ∃ q, w' = W.drewN q) ∧ (f 17 = true → ∃ q, w' = ((W.drewN q).setCell ⟨w.heap.size + 1, 0, none⟩ (.int .i64 (X * sec / (Y * 1000)))).setCell ⟨w.heap.size + 1, 1, none⟩ (.int .i64 (-((-(X * sec)) / (Y * 1000)))))) (by kernel_rfl) (by kernel_rfl) ?_ ?_
    · intro f hf0
      exact ⟨fun _ => ⟨1, rfl⟩, fun h => by rw [hf0 17] at h; cases h⟩
    repeat (first
      | (refine Fx.skip_ (by rfl) (fun f w h => h) ?_; simp only [Act.put, List.setIfInBounds_toArray, List.set_cons_zero, List.set_cons_succ])
      | (refine Fx.val_ ?_ (by rfl) ?_ (fun f w h => h) ?_
         rotate_left
         · intro f w' hD hk
           obtain ⟨h1, h2⟩ := id hD
           obtain ⟨q, rfl⟩ := h1 (hk.2.1 17 (by kernel_rfl))
           clear hk hD h1 h2
           go_simp
           try rfl
         simp only [Act.put, List.setIfInBounds_toArray, List.set_cons_zero, List.set_cons_succ]))
    refine Fx.call_ (.int .i64 (X * sec / (Y * 1000))) ?_ ?_ (by rfl) ?_ ?_ ?_
    rotate_left 2
    · intro w'
      go_simp
      refine ⟨?_, ?_⟩ <;> rfl
    · intro f w' hD hk
      obtain ⟨h1, h2⟩ := id hD
      obtain ⟨q, rfl⟩ := h1 (hk.2.1 17 (by kernel_rfl))
      have h17 : f 17 = false := hk.2.1 17 (by kernel_rfl)
      exact (floorref_any (X * sec) (Y * 1000) _ (by omega) (by omega) (by omega) (by omega)).mono fun e w'' ⟨he, hw⟩ => ⟨he, fun _ => ⟨q, hw.symm⟩, fun h => by simp [Fx.add, h17] at h⟩
    simp only [Act.put, List.setIfInBounds_toArray, List.set_cons_zero, List.set_cons_succ]
    repeat (first
      | (refine Fx.skip_ (by rfl) (fun f w h => h) ?_; simp only [Act.put, List.setIfInBounds_toArray, List.set_cons_zero, List.set_cons_succ])
      | (refine Fx.val_ ?_ (by rfl) ?_ (fun f w h => h) ?_
         rotate_left
         · intro f w' hD hk
           obtain ⟨h1, h2⟩ := id hD
           obtain ⟨q, rfl⟩ := h1 (hk.2.1 17 (by kernel_rfl))
           clear hk hD h1 h2
           go_simp
           try rfl
         simp only [Act.put, List.setIfInBounds_toArray, List.set_cons_zero, List.set_cons_succ]))
    refine Fx.call_ (.int .i64 (-((-(X * sec)) / (Y * 1000)))) ?_ ?_ (by rfl) ?_ ?_ ?_
    rotate_left 2
    · intro w'
      go_simp
      refine ⟨?_, ?_⟩ <;> rfl
    · intro f w' hD hk
      obtain ⟨h1, h2⟩ := id hD
      obtain ⟨q, rfl⟩ := h1 (hk.2.1 17 (by kernel_rfl))
      have h17 : f 17 = false := hk.2.1 17 (by kernel_rfl)
      exact (ceilref_any (X * sec) (Y * 1000) _ (by omega) (by omega) (by omega) (by omega)).mono fun e w'' ⟨he, hw⟩ => ⟨he, fun _ => ⟨q, hw.symm⟩, fun h => by simp [Fx.add, h17] at h⟩
    simp only [Act.put, List.setIfInBounds_toArray, List.set_cons_zero, List.set_cons_succ]
    repeat (first
      | (refine Fx.skip_ (by rfl) (fun f w h => h) ?_; simp only [Act.put, List.setIfInBounds_toArray, List.set_cons_zero, List.set_cons_succ])
      | (refine Fx.val_ ?_ (by rfl) ?_ (fun f w h => h) ?_
         rotate_left
         · intro f w' hD hk
           obtain ⟨h1, h2⟩ := id hD
           obtain ⟨q, rfl⟩ := h1 (hk.2.1 17 (by kernel_rfl))
           clear hk hD h1 h2
           go_simp
           try rfl
         simp only [Act.put, List.setIfInBounds_toArray, List.set_cons_zero, List.set_cons_succ]))
    refine Fx.store_ (fun w' => (w'.setCell ⟨w.heap.size + 1, 0, none⟩ (.int .i64 (X * sec / (Y * 1000)))).setCell ⟨w.heap.size + 1, 1, none⟩ (.int .i64 (-((-(X * sec)) / (Y * 1000))))) (by rfl) ?_ ?_ ?_
    · intro f w' hD hk
      obtain ⟨h1, h2⟩ := id hD
      obtain ⟨q, rfl⟩ := h1 hk.1
      clear h1 h2
      clear hk hD
      go_simp
    · intro f w' hD hk
      obtain ⟨h1, h2⟩ := id hD
      obtain ⟨q, rfl⟩ := h1 hk.1
      clear h1 h2
      exact ⟨fun h => by simp [Fx.add] at h, fun _ => ⟨q, rfl⟩⟩
    simp only [Act.put, List.setIfInBounds_toArray, List.set_cons_zero, List.set_cons_succ]
    repeat (first
      | (refine Fx.skip_ (by rfl) (fun f w h => h) ?_; simp only [Act.put, List.setIfInBounds_toArray, List.set_cons_zero, List.set_cons_succ])
      | (refine Fx.val_ ?_ (by rfl) ?_ (fun f w h => h) ?_
         rotate_left
         · intro f w' hD hk
           obtain ⟨h1, h2⟩ := id hD
           clear hk hD h1 h2
           go_simp
           try rfl
         simp only [Act.put, List.setIfInBounds_toArray, List.set_cons_zero, List.set_cons_succ]))
    refine Fx.nil_ ?_
    intro f w1 hall hD
    have hf17 := hall 17 (by simp)
    obtain ⟨_, h2⟩ := hD
    simp only [hf17, if_true] at *
    obtain ⟨q, rfl⟩ := h2 (by first | rfl | trivial)
    clear h2
    go_wp2
    exact bodyPost_ret (v := .tuple #[.agg #[.int .i64 (X * sec / (Y * 1000)), .int .i64 (-((-(X * sec)) / (Y * 1000)))], .int .i64 0]) (by simp [results, Try.results59, go_sem, z1_0_2, z1_1_2, l1_2]) rfl ⟨rfl, by repeat' (first | exact Below.refl _ _ | exact HB2.out | refine below_drewN ?_ _ | refine Below.drew ?_ | refine Below.alloc ?_ (by first | omega | (simp; done) | (simp; omega) | (simp [World.setCell]; omega)) _ | refine Below.setCell ?_ (by first | omega | (simp; done) | (simp; omega)) _ | assumption)⟩

end Go.Proofs.Ytmioamcgbihhjaa
