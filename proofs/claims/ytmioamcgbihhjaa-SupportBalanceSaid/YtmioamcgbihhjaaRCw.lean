/- The contract of the reference's Counterweight. -/
import Derived.Test.YtmioamcgbihhjaaCw
namespace Go.Proofs.Ytmioamcgbihhjaa
open Go.RowKit

theorem redN_neg {a b : Int} (hb : 1 ≤ b) : redN a b < 0 ↔ a < 0 := by
  have hp : 0 < Int.gcd a b := Int.gcd_pos_of_ne_zero_right a (by omega)
  have e1 : (Int.gcd a b : Int) * redN a b = a := Int.mul_ediv_cancel' (Int.gcd_dvd_left a b)
  obtain ⟨g, hg⟩ : ∃ g, (Int.gcd a b : Int) = g := ⟨_, rfl⟩
  rw [hg] at e1
  constructor
  · intro h
    have := Int.mul_neg_of_pos_of_neg (show 0 < g by omega) h
    omega
  · intro h
    rcases Int.lt_or_le (redN a b) 0 with h1 | h1
    · exact h1
    · have := Int.mul_nonneg (show 0 ≤ g by omega) h1
      omega

set_option maxRecDepth 100000 in
set_option maxHeartbeats 4000000 in
theorem rcw_tail00 (A : Option Addr) (n c N : Nat) (l : List (Int × Int × Int)) (arm mx my : Int) (w : World) (HX : Hid (Reads w N 3 A n (cells3 l))) (hN : N ≤ w.heap.size) (x y e : Int)
    (HMM : Hid (∀ w, Reads w N 3 A n (cells3 l) → N ≤ w.heap.size → Calls Try.prog 46 #[.slice A n c] w fun en w' => en = .returned (.agg #[.int .i64 mx, .int .i64 my]) ∧ Below w.heap.size w w'))
    (b1 : -6000000000000000 ≤ mx) (b2 : mx ≤ 6000000000000000) (b3 : -6000000000000000 ≤ my) (b4 : my ≤ 6000000000000000) (G1 : Hid (withinB 0 0 1 = true)) (G2 : Hid (withinB arm (-10000000) 10000000 = true)) (a3 : -10000000 ≤ arm) (a4 : arm ≤ 10000000) (harm : ¬ arm = 0) (h : arm < 0) (HF : Hid (tailF (mx) (-arm) = ((x, y), e))) :
    Calls Try.prog 45 #[.slice A n c, .int .i64 0, .int .i64 arm] w fun en w' => en = .returned (.tuple #[.agg #[.int .i64 x, .int .i64 y], .int .i64 e]) ∧ Below w.heap.size w w' := by
  have hF := HF.out
  clear HF
  unfold tailF at hF
  have v1 := IntWalk.i64_in (-mx) ⟨by omega, by omega⟩
  have v2 := IntWalk.i64_in (-my) ⟨by omega, by omega⟩
  have i0 : ∀ w, (Instr.index 51 (.agg #[.int .i64 mx, .int .i64 my]) (.int .i64 0)).run Try.prog w = .ok (.int .i64 mx) w := fun _ => by kernel_rfl
  obtain ⟨c1, c2, c3, c4⟩ := red_in (a := mx) (b := -arm) (by omega) (by omega) (by omega) (by omega)
  have hse := small_err (a := mx) (b := -arm) (by omega)
  have hng := redN_neg (a := mx) (b := -arm) (by omega)
  obtain ⟨X, hX⟩ : ∃ X, redN (mx) (-arm) = X := ⟨_, rfl⟩
  obtain ⟨Y, hY⟩ : ∃ Y, redD (mx) (-arm) = Y := ⟨_, rfl⟩
  rw [hX] at c1 c2 hng
  rw [hY] at c3 c4
  rw [hX, hY] at hse hF
  obtain ⟨T, hT⟩ : ∃ T, fracErr X Y = T := ⟨_, rfl⟩
  rw [hT] at hse
  have HX1 := Lib.hid hX
  have HY1 := Lib.hid hY
  have HT := Lib.hid hT
  have HNG := Lib.hid hng
  have HSE := Lib.hid hse
  clear hX hY hT hng hse
  go_enter Try.func45, Try.ntmps45
  go_wp2_with fail
  refine (withinref_is _ _ _ _ G1.out _).mono ?_
  rintro en w' ⟨rfl, rfl⟩
  go_wp2_with fail
  refine (withinref_is _ _ _ _ G2.out _).mono ?_
  rintro en w' ⟨rfl, rfl⟩
  go_wp2_with fail
  refine (HMM.out _ (HX.out.belowLe ((Below.refl _ _).alloc (Nat.le_refl _) _) hN) (by simp; omega)).mono ?_
  rintro e w1 ⟨rfl, hb⟩
  have HB1 := Lib.hid (show Below w.heap.size w w1 from step_below hb (by repeat' (first | exact Below.refl _ _ | exact HB0.out | assumption | refine below_drewN ?_ _ | refine Below.drew ?_ | refine Below.alloc ?_ (by first | omega | (simp; done) | (simp; omega) | (simp [World.setCell]; omega)) _ | refine Below.setCell ?_ (by first | omega | (simp; done) | (simp; omega)) _)))
  have K0_1 := Lib.hid (step_blk hb (show Blk _ (w.heap.size) 23 #[.int .i64 (0), .int .i64 (0)] by repeat' (first | assumption | exact Blk.at_ _ (by first | rfl | (simp; done) | (simp; omega)) _ _ | refine Blk.drewN ?_ _ | refine Blk.drew ?_ | refine Blk.alloc ?_ _ | refine Blk.far ?_ (by first | omega | (simp; done) | (simp; omega)) _)))
  have hz1 := hb.size
  try simp only [World.size_alloc, World.drewN, World.drew] at hz1
  clear hb
  have l0_1 : w.heap.size < w1.heap.size := K0_1.out.lt
  have z0_0_1 : w1.cell? ⟨w.heap.size, 0, none⟩ = some (.int .i64 (0)) := K0_1.out.cell 0
  have z0_1_1 : w1.cell? ⟨w.heap.size, 1, none⟩ = some (.int .i64 (0)) := K0_1.out.cell 1
  go_wp2_with fail
  refine (lowest_neg (-mx) arm X Y (by rw [Int.neg_neg]; exact HX1.out) (by rw [Int.neg_neg]; exact HY1.out) _ (by omega) (by omega) (by omega) (by omega)).mono ?_
  rintro e w2 ⟨rfl, hb⟩
  have HB2 := Lib.hid (show Below w.heap.size w w2 from step_below hb (by repeat' (first | exact Below.refl _ _ | exact HB1.out | assumption | refine below_drewN ?_ _ | refine Below.drew ?_ | refine Below.alloc ?_ (by first | omega | (simp; done) | (simp; omega) | (simp [World.setCell]; omega)) _ | refine Below.setCell ?_ (by first | omega | (simp; done) | (simp; omega)) _)))
  have K0_2 := Lib.hid (step_blk hb (show Blk _ (w.heap.size) 23 #[.int .i64 (0), .int .i64 (0)] by repeat' (first | assumption | exact K0_1.out | exact Blk.at_ _ (by first | rfl | (simp; done) | (simp; omega)) _ _ | refine Blk.drewN ?_ _ | refine Blk.drew ?_ | refine Blk.alloc ?_ _ | refine Blk.far ?_ (by first | omega | (simp; done) | (simp; omega)) _)))
  have hz2 := hb.size
  try simp only [World.size_alloc, World.drewN, World.drew] at hz2
  clear hb K0_1 z0_0_1 z0_1_1 l0_1
  have l0_2 : w.heap.size < w2.heap.size := K0_2.out.lt
  have z0_0_2 : w2.cell? ⟨w.heap.size, 0, none⟩ = some (.int .i64 (0)) := K0_2.out.cell 0
  have z0_1_2 : w2.cell? ⟨w.heap.size, 1, none⟩ = some (.int .i64 (0)) := K0_2.out.cell 1
  by_cases hneg : X < 0
  · have hneg' := HNG.out.1 hneg
    rw [if_pos hneg'] at hF
    cases hF
    have zf0_0 := K0_2.out.frozen 0
    have zf0_1 := K0_2.out.frozen 1
    go_wp2
    exact bodyPost_ret (v := .tuple #[.agg #[.int .i64 0, .int .i64 0], .int .i64 12]) (by simp [results, Try.results45, go_sem, z0_0_2, z0_1_2, l0_2]) rfl ⟨rfl, by repeat' (first | exact Below.refl _ _ | exact HB2.out | assumption | refine below_drewN ?_ _ | refine Below.drew ?_ | refine Below.alloc ?_ (by first | omega | (simp; done) | (simp; omega) | (simp [World.setCell]; omega)) _ | refine Below.setCell ?_ (by first | omega | (simp; done) | (simp; omega)) _)⟩
  · have hneg' := mt HNG.out.2 hneg
    rw [if_neg hneg'] at hF
    go_wp2_with fail
    refine (fracref_is _ _ _ HT.out _ (by omega) c2 (by omega) c4).mono ?_
    rintro e w3 ⟨rfl, hb⟩
    have HB3 := Lib.hid (show Below w.heap.size w w3 from step_below hb (by repeat' (first | exact Below.refl _ _ | exact HB2.out | assumption | refine below_drewN ?_ _ | refine Below.drew ?_ | refine Below.alloc ?_ (by first | omega | (simp; done) | (simp; omega) | (simp [World.setCell]; omega)) _ | refine Below.setCell ?_ (by first | omega | (simp; done) | (simp; omega)) _)))
    have K0_3 := Lib.hid (step_blk hb (show Blk _ (w.heap.size) 23 #[.int .i64 (0), .int .i64 (0)] by repeat' (first | assumption | exact K0_2.out | exact Blk.at_ _ (by first | rfl | (simp; done) | (simp; omega)) _ _ | refine Blk.drewN ?_ _ | refine Blk.drew ?_ | refine Blk.alloc ?_ _ | refine Blk.far ?_ (by first | omega | (simp; done) | (simp; omega)) _)))
    have K1_3 := Lib.hid (step_blk hb (show Blk _ (w2.heap.size) 23 #[.int .i64 (X), .int .i64 (Y)] by repeat' (first | assumption | exact K0_2.out | exact Blk.at_ _ (by first | rfl | (simp; done) | (simp; omega)) _ _ | refine Blk.drewN ?_ _ | refine Blk.drew ?_ | refine Blk.alloc ?_ _ | refine Blk.far ?_ (by first | omega | (simp; done) | (simp; omega)) _)))
    have hz3 := hb.size
    try simp only [World.size_alloc, World.drewN, World.drew] at hz3
    clear hb K0_2 z0_0_2 z0_1_2 l0_2
    have l0_3 : w.heap.size < w3.heap.size := K0_3.out.lt
    have z0_0_3 : w3.cell? ⟨w.heap.size, 0, none⟩ = some (.int .i64 (0)) := K0_3.out.cell 0
    have z0_1_3 : w3.cell? ⟨w.heap.size, 1, none⟩ = some (.int .i64 (0)) := K0_3.out.cell 1
    have l1_3 : w2.heap.size < w3.heap.size := K1_3.out.lt
    have z1_0_3 : w3.cell? ⟨w2.heap.size, 0, none⟩ = some (.int .i64 (X)) := K1_3.out.cell 0
    have z1_1_3 : w3.cell? ⟨w2.heap.size, 1, none⟩ = some (.int .i64 (Y)) := K1_3.out.cell 1
    have zf0_0 := K0_3.out.frozen 0
    have zf0_1 := K0_3.out.frozen 1
    by_cases hT0 : T = 0
    · have hsm := HSE.out.2 hT0
      rw [if_neg (by rw [hsm]; simp)] at hF
      cases hF
      subst hT0
      clear hsm
      go_wp2
      exact bodyPost_ret (v := .tuple #[.agg #[.int .i64 x, .int .i64 y], .int .i64 0]) (by simp [results, Try.results45, go_sem, z0_0_3, z0_1_3, z1_0_3, z1_1_3, l0_3, l1_3]) rfl ⟨rfl, by repeat' (first | exact Below.refl _ _ | exact HB3.out | assumption | refine below_drewN ?_ _ | refine Below.drew ?_ | refine Below.alloc ?_ (by first | omega | (simp; done) | (simp; omega) | (simp [World.setCell]; omega)) _ | refine Below.setCell ?_ (by first | omega | (simp; done) | (simp; omega)) _)⟩
    · have e0 : (T != 0) = true := by simpa using hT0
      have hsm : smallB (mx) (-arm) = false := by
        cases hs : smallB (mx) (-arm) with
        | false => rfl
        | true => exact absurd (HSE.out.1 hs) hT0
      rw [if_pos hsm] at hF
      cases hF
      clear hsm
      go_wp2
      exact bodyPost_ret (v := .tuple #[.agg #[.int .i64 0, .int .i64 0], .int .i64 8]) (by simp [results, Try.results45, go_sem, z0_0_3, z0_1_3, z1_0_3, z1_1_3, l0_3, l1_3]) rfl ⟨rfl, by repeat' (first | exact Below.refl _ _ | exact HB3.out | assumption | refine below_drewN ?_ _ | refine Below.drew ?_ | refine Below.alloc ?_ (by first | omega | (simp; done) | (simp; omega) | (simp [World.setCell]; omega)) _ | refine Below.setCell ?_ (by first | omega | (simp; done) | (simp; omega)) _)⟩

set_option maxRecDepth 100000 in
set_option maxHeartbeats 4000000 in
theorem rcw_tail01 (A : Option Addr) (n c N : Nat) (l : List (Int × Int × Int)) (arm mx my : Int) (w : World) (HX : Hid (Reads w N 3 A n (cells3 l))) (hN : N ≤ w.heap.size) (x y e : Int)
    (HMM : Hid (∀ w, Reads w N 3 A n (cells3 l) → N ≤ w.heap.size → Calls Try.prog 46 #[.slice A n c] w fun en w' => en = .returned (.agg #[.int .i64 mx, .int .i64 my]) ∧ Below w.heap.size w w'))
    (b1 : -6000000000000000 ≤ mx) (b2 : mx ≤ 6000000000000000) (b3 : -6000000000000000 ≤ my) (b4 : my ≤ 6000000000000000) (G1 : Hid (withinB 0 0 1 = true)) (G2 : Hid (withinB arm (-10000000) 10000000 = true)) (a3 : -10000000 ≤ arm) (a4 : arm ≤ 10000000) (harm : ¬ arm = 0) (h : ¬ arm < 0) (HF : Hid (tailF (-mx) (arm) = ((x, y), e))) :
    Calls Try.prog 45 #[.slice A n c, .int .i64 0, .int .i64 arm] w fun en w' => en = .returned (.tuple #[.agg #[.int .i64 x, .int .i64 y], .int .i64 e]) ∧ Below w.heap.size w w' := by
  have hF := HF.out
  clear HF
  unfold tailF at hF
  have v1 := IntWalk.i64_in (-mx) ⟨by omega, by omega⟩
  have v2 := IntWalk.i64_in (-my) ⟨by omega, by omega⟩
  have i0 : ∀ w, (Instr.index 51 (.agg #[.int .i64 mx, .int .i64 my]) (.int .i64 0)).run Try.prog w = .ok (.int .i64 mx) w := fun _ => by kernel_rfl
  obtain ⟨c1, c2, c3, c4⟩ := red_in (a := -mx) (b := arm) (by omega) (by omega) (by omega) (by omega)
  have hse := small_err (a := -mx) (b := arm) (by omega)
  have hng := redN_neg (a := -mx) (b := arm) (by omega)
  obtain ⟨X, hX⟩ : ∃ X, redN (-mx) (arm) = X := ⟨_, rfl⟩
  obtain ⟨Y, hY⟩ : ∃ Y, redD (-mx) (arm) = Y := ⟨_, rfl⟩
  rw [hX] at c1 c2 hng
  rw [hY] at c3 c4
  rw [hX, hY] at hse hF
  obtain ⟨T, hT⟩ : ∃ T, fracErr X Y = T := ⟨_, rfl⟩
  rw [hT] at hse
  have HX1 := Lib.hid hX
  have HY1 := Lib.hid hY
  have HT := Lib.hid hT
  have HNG := Lib.hid hng
  have HSE := Lib.hid hse
  clear hX hY hT hng hse
  go_enter Try.func45, Try.ntmps45
  go_wp2_with fail
  refine (withinref_is _ _ _ _ G1.out _).mono ?_
  rintro en w' ⟨rfl, rfl⟩
  go_wp2_with fail
  refine (withinref_is _ _ _ _ G2.out _).mono ?_
  rintro en w' ⟨rfl, rfl⟩
  go_wp2_with fail
  refine (HMM.out _ (HX.out.belowLe ((Below.refl _ _).alloc (Nat.le_refl _) _) hN) (by simp; omega)).mono ?_
  rintro e w1 ⟨rfl, hb⟩
  have HB1 := Lib.hid (show Below w.heap.size w w1 from step_below hb (by repeat' (first | exact Below.refl _ _ | exact HB0.out | assumption | refine below_drewN ?_ _ | refine Below.drew ?_ | refine Below.alloc ?_ (by first | omega | (simp; done) | (simp; omega) | (simp [World.setCell]; omega)) _ | refine Below.setCell ?_ (by first | omega | (simp; done) | (simp; omega)) _)))
  have K0_1 := Lib.hid (step_blk hb (show Blk _ (w.heap.size) 23 #[.int .i64 (0), .int .i64 (0)] by repeat' (first | assumption | exact Blk.at_ _ (by first | rfl | (simp; done) | (simp; omega)) _ _ | refine Blk.drewN ?_ _ | refine Blk.drew ?_ | refine Blk.alloc ?_ _ | refine Blk.far ?_ (by first | omega | (simp; done) | (simp; omega)) _)))
  have hz1 := hb.size
  try simp only [World.size_alloc, World.drewN, World.drew] at hz1
  clear hb
  have l0_1 : w.heap.size < w1.heap.size := K0_1.out.lt
  have z0_0_1 : w1.cell? ⟨w.heap.size, 0, none⟩ = some (.int .i64 (0)) := K0_1.out.cell 0
  have z0_1_1 : w1.cell? ⟨w.heap.size, 1, none⟩ = some (.int .i64 (0)) := K0_1.out.cell 1
  go_wp2_with fail
  refine (lowest_red (-mx) arm X Y HX1.out HY1.out _ (by omega) (by omega) (by omega) (by omega)).mono ?_
  rintro e w2 ⟨rfl, hb⟩
  have HB2 := Lib.hid (show Below w.heap.size w w2 from step_below hb (by repeat' (first | exact Below.refl _ _ | exact HB1.out | assumption | refine below_drewN ?_ _ | refine Below.drew ?_ | refine Below.alloc ?_ (by first | omega | (simp; done) | (simp; omega) | (simp [World.setCell]; omega)) _ | refine Below.setCell ?_ (by first | omega | (simp; done) | (simp; omega)) _)))
  have K0_2 := Lib.hid (step_blk hb (show Blk _ (w.heap.size) 23 #[.int .i64 (0), .int .i64 (0)] by repeat' (first | assumption | exact K0_1.out | exact Blk.at_ _ (by first | rfl | (simp; done) | (simp; omega)) _ _ | refine Blk.drewN ?_ _ | refine Blk.drew ?_ | refine Blk.alloc ?_ _ | refine Blk.far ?_ (by first | omega | (simp; done) | (simp; omega)) _)))
  have hz2 := hb.size
  try simp only [World.size_alloc, World.drewN, World.drew] at hz2
  clear hb K0_1 z0_0_1 z0_1_1 l0_1
  have l0_2 : w.heap.size < w2.heap.size := K0_2.out.lt
  have z0_0_2 : w2.cell? ⟨w.heap.size, 0, none⟩ = some (.int .i64 (0)) := K0_2.out.cell 0
  have z0_1_2 : w2.cell? ⟨w.heap.size, 1, none⟩ = some (.int .i64 (0)) := K0_2.out.cell 1
  by_cases hneg : X < 0
  · have hneg' := HNG.out.1 hneg
    rw [if_pos hneg'] at hF
    cases hF
    have zf0_0 := K0_2.out.frozen 0
    have zf0_1 := K0_2.out.frozen 1
    go_wp2
    exact bodyPost_ret (v := .tuple #[.agg #[.int .i64 0, .int .i64 0], .int .i64 12]) (by simp [results, Try.results45, go_sem, z0_0_2, z0_1_2, l0_2]) rfl ⟨rfl, by repeat' (first | exact Below.refl _ _ | exact HB2.out | assumption | refine below_drewN ?_ _ | refine Below.drew ?_ | refine Below.alloc ?_ (by first | omega | (simp; done) | (simp; omega) | (simp [World.setCell]; omega)) _ | refine Below.setCell ?_ (by first | omega | (simp; done) | (simp; omega)) _)⟩
  · have hneg' := mt HNG.out.2 hneg
    rw [if_neg hneg'] at hF
    go_wp2_with fail
    refine (fracref_is _ _ _ HT.out _ (by omega) c2 (by omega) c4).mono ?_
    rintro e w3 ⟨rfl, hb⟩
    have HB3 := Lib.hid (show Below w.heap.size w w3 from step_below hb (by repeat' (first | exact Below.refl _ _ | exact HB2.out | assumption | refine below_drewN ?_ _ | refine Below.drew ?_ | refine Below.alloc ?_ (by first | omega | (simp; done) | (simp; omega) | (simp [World.setCell]; omega)) _ | refine Below.setCell ?_ (by first | omega | (simp; done) | (simp; omega)) _)))
    have K0_3 := Lib.hid (step_blk hb (show Blk _ (w.heap.size) 23 #[.int .i64 (0), .int .i64 (0)] by repeat' (first | assumption | exact K0_2.out | exact Blk.at_ _ (by first | rfl | (simp; done) | (simp; omega)) _ _ | refine Blk.drewN ?_ _ | refine Blk.drew ?_ | refine Blk.alloc ?_ _ | refine Blk.far ?_ (by first | omega | (simp; done) | (simp; omega)) _)))
    have K1_3 := Lib.hid (step_blk hb (show Blk _ (w2.heap.size) 23 #[.int .i64 (X), .int .i64 (Y)] by repeat' (first | assumption | exact K0_2.out | exact Blk.at_ _ (by first | rfl | (simp; done) | (simp; omega)) _ _ | refine Blk.drewN ?_ _ | refine Blk.drew ?_ | refine Blk.alloc ?_ _ | refine Blk.far ?_ (by first | omega | (simp; done) | (simp; omega)) _)))
    have hz3 := hb.size
    try simp only [World.size_alloc, World.drewN, World.drew] at hz3
    clear hb K0_2 z0_0_2 z0_1_2 l0_2
    have l0_3 : w.heap.size < w3.heap.size := K0_3.out.lt
    have z0_0_3 : w3.cell? ⟨w.heap.size, 0, none⟩ = some (.int .i64 (0)) := K0_3.out.cell 0
    have z0_1_3 : w3.cell? ⟨w.heap.size, 1, none⟩ = some (.int .i64 (0)) := K0_3.out.cell 1
    have l1_3 : w2.heap.size < w3.heap.size := K1_3.out.lt
    have z1_0_3 : w3.cell? ⟨w2.heap.size, 0, none⟩ = some (.int .i64 (X)) := K1_3.out.cell 0
    have z1_1_3 : w3.cell? ⟨w2.heap.size, 1, none⟩ = some (.int .i64 (Y)) := K1_3.out.cell 1
    have zf0_0 := K0_3.out.frozen 0
    have zf0_1 := K0_3.out.frozen 1
    by_cases hT0 : T = 0
    · have hsm := HSE.out.2 hT0
      rw [if_neg (by rw [hsm]; simp)] at hF
      cases hF
      subst hT0
      clear hsm
      go_wp2
      exact bodyPost_ret (v := .tuple #[.agg #[.int .i64 x, .int .i64 y], .int .i64 0]) (by simp [results, Try.results45, go_sem, z0_0_3, z0_1_3, z1_0_3, z1_1_3, l0_3, l1_3]) rfl ⟨rfl, by repeat' (first | exact Below.refl _ _ | exact HB3.out | assumption | refine below_drewN ?_ _ | refine Below.drew ?_ | refine Below.alloc ?_ (by first | omega | (simp; done) | (simp; omega) | (simp [World.setCell]; omega)) _ | refine Below.setCell ?_ (by first | omega | (simp; done) | (simp; omega)) _)⟩
    · have e0 : (T != 0) = true := by simpa using hT0
      have hsm : smallB (-mx) (arm) = false := by
        cases hs : smallB (-mx) (arm) with
        | false => rfl
        | true => exact absurd (HSE.out.1 hs) hT0
      rw [if_pos hsm] at hF
      cases hF
      clear hsm
      go_wp2
      exact bodyPost_ret (v := .tuple #[.agg #[.int .i64 0, .int .i64 0], .int .i64 8]) (by simp [results, Try.results45, go_sem, z0_0_3, z0_1_3, z1_0_3, z1_1_3, l0_3, l1_3]) rfl ⟨rfl, by repeat' (first | exact Below.refl _ _ | exact HB3.out | assumption | refine below_drewN ?_ _ | refine Below.drew ?_ | refine Below.alloc ?_ (by first | omega | (simp; done) | (simp; omega) | (simp [World.setCell]; omega)) _ | refine Below.setCell ?_ (by first | omega | (simp; done) | (simp; omega)) _)⟩

set_option maxRecDepth 100000 in
set_option maxHeartbeats 4000000 in
theorem rcw_tail10 (A : Option Addr) (n c N : Nat) (l : List (Int × Int × Int)) (arm mx my : Int) (w : World) (HX : Hid (Reads w N 3 A n (cells3 l))) (hN : N ≤ w.heap.size) (x y e : Int)
    (HMM : Hid (∀ w, Reads w N 3 A n (cells3 l) → N ≤ w.heap.size → Calls Try.prog 46 #[.slice A n c] w fun en w' => en = .returned (.agg #[.int .i64 mx, .int .i64 my]) ∧ Below w.heap.size w w'))
    (b1 : -6000000000000000 ≤ mx) (b2 : mx ≤ 6000000000000000) (b3 : -6000000000000000 ≤ my) (b4 : my ≤ 6000000000000000) (G1 : Hid (withinB 1 0 1 = true)) (G2 : Hid (withinB arm (-10000000) 10000000 = true)) (a3 : -10000000 ≤ arm) (a4 : arm ≤ 10000000) (harm : ¬ arm = 0) (h : arm < 0) (HF : Hid (tailF (my) (-arm) = ((x, y), e))) :
    Calls Try.prog 45 #[.slice A n c, .int .i64 1, .int .i64 arm] w fun en w' => en = .returned (.tuple #[.agg #[.int .i64 x, .int .i64 y], .int .i64 e]) ∧ Below w.heap.size w w' := by
  have hF := HF.out
  clear HF
  unfold tailF at hF
  have v1 := IntWalk.i64_in (-mx) ⟨by omega, by omega⟩
  have v2 := IntWalk.i64_in (-my) ⟨by omega, by omega⟩
  have i0 : ∀ w, (Instr.index 51 (.agg #[.int .i64 mx, .int .i64 my]) (.int .i64 1)).run Try.prog w = .ok (.int .i64 my) w := fun _ => by kernel_rfl
  obtain ⟨c1, c2, c3, c4⟩ := red_in (a := my) (b := -arm) (by omega) (by omega) (by omega) (by omega)
  have hse := small_err (a := my) (b := -arm) (by omega)
  have hng := redN_neg (a := my) (b := -arm) (by omega)
  obtain ⟨X, hX⟩ : ∃ X, redN (my) (-arm) = X := ⟨_, rfl⟩
  obtain ⟨Y, hY⟩ : ∃ Y, redD (my) (-arm) = Y := ⟨_, rfl⟩
  rw [hX] at c1 c2 hng
  rw [hY] at c3 c4
  rw [hX, hY] at hse hF
  obtain ⟨T, hT⟩ : ∃ T, fracErr X Y = T := ⟨_, rfl⟩
  rw [hT] at hse
  have HX1 := Lib.hid hX
  have HY1 := Lib.hid hY
  have HT := Lib.hid hT
  have HNG := Lib.hid hng
  have HSE := Lib.hid hse
  clear hX hY hT hng hse
  go_enter Try.func45, Try.ntmps45
  go_wp2_with fail
  refine (withinref_is _ _ _ _ G1.out _).mono ?_
  rintro en w' ⟨rfl, rfl⟩
  go_wp2_with fail
  refine (withinref_is _ _ _ _ G2.out _).mono ?_
  rintro en w' ⟨rfl, rfl⟩
  go_wp2_with fail
  refine (HMM.out _ (HX.out.belowLe ((Below.refl _ _).alloc (Nat.le_refl _) _) hN) (by simp; omega)).mono ?_
  rintro e w1 ⟨rfl, hb⟩
  have HB1 := Lib.hid (show Below w.heap.size w w1 from step_below hb (by repeat' (first | exact Below.refl _ _ | exact HB0.out | assumption | refine below_drewN ?_ _ | refine Below.drew ?_ | refine Below.alloc ?_ (by first | omega | (simp; done) | (simp; omega) | (simp [World.setCell]; omega)) _ | refine Below.setCell ?_ (by first | omega | (simp; done) | (simp; omega)) _)))
  have K0_1 := Lib.hid (step_blk hb (show Blk _ (w.heap.size) 23 #[.int .i64 (0), .int .i64 (0)] by repeat' (first | assumption | exact Blk.at_ _ (by first | rfl | (simp; done) | (simp; omega)) _ _ | refine Blk.drewN ?_ _ | refine Blk.drew ?_ | refine Blk.alloc ?_ _ | refine Blk.far ?_ (by first | omega | (simp; done) | (simp; omega)) _)))
  have hz1 := hb.size
  try simp only [World.size_alloc, World.drewN, World.drew] at hz1
  clear hb
  have l0_1 : w.heap.size < w1.heap.size := K0_1.out.lt
  have z0_0_1 : w1.cell? ⟨w.heap.size, 0, none⟩ = some (.int .i64 (0)) := K0_1.out.cell 0
  have z0_1_1 : w1.cell? ⟨w.heap.size, 1, none⟩ = some (.int .i64 (0)) := K0_1.out.cell 1
  go_wp2_with fail
  refine (lowest_neg (-my) arm X Y (by rw [Int.neg_neg]; exact HX1.out) (by rw [Int.neg_neg]; exact HY1.out) _ (by omega) (by omega) (by omega) (by omega)).mono ?_
  rintro e w2 ⟨rfl, hb⟩
  have HB2 := Lib.hid (show Below w.heap.size w w2 from step_below hb (by repeat' (first | exact Below.refl _ _ | exact HB1.out | assumption | refine below_drewN ?_ _ | refine Below.drew ?_ | refine Below.alloc ?_ (by first | omega | (simp; done) | (simp; omega) | (simp [World.setCell]; omega)) _ | refine Below.setCell ?_ (by first | omega | (simp; done) | (simp; omega)) _)))
  have K0_2 := Lib.hid (step_blk hb (show Blk _ (w.heap.size) 23 #[.int .i64 (0), .int .i64 (0)] by repeat' (first | assumption | exact K0_1.out | exact Blk.at_ _ (by first | rfl | (simp; done) | (simp; omega)) _ _ | refine Blk.drewN ?_ _ | refine Blk.drew ?_ | refine Blk.alloc ?_ _ | refine Blk.far ?_ (by first | omega | (simp; done) | (simp; omega)) _)))
  have hz2 := hb.size
  try simp only [World.size_alloc, World.drewN, World.drew] at hz2
  clear hb K0_1 z0_0_1 z0_1_1 l0_1
  have l0_2 : w.heap.size < w2.heap.size := K0_2.out.lt
  have z0_0_2 : w2.cell? ⟨w.heap.size, 0, none⟩ = some (.int .i64 (0)) := K0_2.out.cell 0
  have z0_1_2 : w2.cell? ⟨w.heap.size, 1, none⟩ = some (.int .i64 (0)) := K0_2.out.cell 1
  by_cases hneg : X < 0
  · have hneg' := HNG.out.1 hneg
    rw [if_pos hneg'] at hF
    cases hF
    have zf0_0 := K0_2.out.frozen 0
    have zf0_1 := K0_2.out.frozen 1
    go_wp2
    exact bodyPost_ret (v := .tuple #[.agg #[.int .i64 0, .int .i64 0], .int .i64 12]) (by simp [results, Try.results45, go_sem, z0_0_2, z0_1_2, l0_2]) rfl ⟨rfl, by repeat' (first | exact Below.refl _ _ | exact HB2.out | assumption | refine below_drewN ?_ _ | refine Below.drew ?_ | refine Below.alloc ?_ (by first | omega | (simp; done) | (simp; omega) | (simp [World.setCell]; omega)) _ | refine Below.setCell ?_ (by first | omega | (simp; done) | (simp; omega)) _)⟩
  · have hneg' := mt HNG.out.2 hneg
    rw [if_neg hneg'] at hF
    go_wp2_with fail
    refine (fracref_is _ _ _ HT.out _ (by omega) c2 (by omega) c4).mono ?_
    rintro e w3 ⟨rfl, hb⟩
    have HB3 := Lib.hid (show Below w.heap.size w w3 from step_below hb (by repeat' (first | exact Below.refl _ _ | exact HB2.out | assumption | refine below_drewN ?_ _ | refine Below.drew ?_ | refine Below.alloc ?_ (by first | omega | (simp; done) | (simp; omega) | (simp [World.setCell]; omega)) _ | refine Below.setCell ?_ (by first | omega | (simp; done) | (simp; omega)) _)))
    have K0_3 := Lib.hid (step_blk hb (show Blk _ (w.heap.size) 23 #[.int .i64 (0), .int .i64 (0)] by repeat' (first | assumption | exact K0_2.out | exact Blk.at_ _ (by first | rfl | (simp; done) | (simp; omega)) _ _ | refine Blk.drewN ?_ _ | refine Blk.drew ?_ | refine Blk.alloc ?_ _ | refine Blk.far ?_ (by first | omega | (simp; done) | (simp; omega)) _)))
    have K1_3 := Lib.hid (step_blk hb (show Blk _ (w2.heap.size) 23 #[.int .i64 (X), .int .i64 (Y)] by repeat' (first | assumption | exact K0_2.out | exact Blk.at_ _ (by first | rfl | (simp; done) | (simp; omega)) _ _ | refine Blk.drewN ?_ _ | refine Blk.drew ?_ | refine Blk.alloc ?_ _ | refine Blk.far ?_ (by first | omega | (simp; done) | (simp; omega)) _)))
    have hz3 := hb.size
    try simp only [World.size_alloc, World.drewN, World.drew] at hz3
    clear hb K0_2 z0_0_2 z0_1_2 l0_2
    have l0_3 : w.heap.size < w3.heap.size := K0_3.out.lt
    have z0_0_3 : w3.cell? ⟨w.heap.size, 0, none⟩ = some (.int .i64 (0)) := K0_3.out.cell 0
    have z0_1_3 : w3.cell? ⟨w.heap.size, 1, none⟩ = some (.int .i64 (0)) := K0_3.out.cell 1
    have l1_3 : w2.heap.size < w3.heap.size := K1_3.out.lt
    have z1_0_3 : w3.cell? ⟨w2.heap.size, 0, none⟩ = some (.int .i64 (X)) := K1_3.out.cell 0
    have z1_1_3 : w3.cell? ⟨w2.heap.size, 1, none⟩ = some (.int .i64 (Y)) := K1_3.out.cell 1
    have zf0_0 := K0_3.out.frozen 0
    have zf0_1 := K0_3.out.frozen 1
    by_cases hT0 : T = 0
    · have hsm := HSE.out.2 hT0
      rw [if_neg (by rw [hsm]; simp)] at hF
      cases hF
      subst hT0
      clear hsm
      go_wp2
      exact bodyPost_ret (v := .tuple #[.agg #[.int .i64 x, .int .i64 y], .int .i64 0]) (by simp [results, Try.results45, go_sem, z0_0_3, z0_1_3, z1_0_3, z1_1_3, l0_3, l1_3]) rfl ⟨rfl, by repeat' (first | exact Below.refl _ _ | exact HB3.out | assumption | refine below_drewN ?_ _ | refine Below.drew ?_ | refine Below.alloc ?_ (by first | omega | (simp; done) | (simp; omega) | (simp [World.setCell]; omega)) _ | refine Below.setCell ?_ (by first | omega | (simp; done) | (simp; omega)) _)⟩
    · have e0 : (T != 0) = true := by simpa using hT0
      have hsm : smallB (my) (-arm) = false := by
        cases hs : smallB (my) (-arm) with
        | false => rfl
        | true => exact absurd (HSE.out.1 hs) hT0
      rw [if_pos hsm] at hF
      cases hF
      clear hsm
      go_wp2
      exact bodyPost_ret (v := .tuple #[.agg #[.int .i64 0, .int .i64 0], .int .i64 8]) (by simp [results, Try.results45, go_sem, z0_0_3, z0_1_3, z1_0_3, z1_1_3, l0_3, l1_3]) rfl ⟨rfl, by repeat' (first | exact Below.refl _ _ | exact HB3.out | assumption | refine below_drewN ?_ _ | refine Below.drew ?_ | refine Below.alloc ?_ (by first | omega | (simp; done) | (simp; omega) | (simp [World.setCell]; omega)) _ | refine Below.setCell ?_ (by first | omega | (simp; done) | (simp; omega)) _)⟩

set_option maxRecDepth 100000 in
set_option maxHeartbeats 4000000 in
theorem rcw_tail11 (A : Option Addr) (n c N : Nat) (l : List (Int × Int × Int)) (arm mx my : Int) (w : World) (HX : Hid (Reads w N 3 A n (cells3 l))) (hN : N ≤ w.heap.size) (x y e : Int)
    (HMM : Hid (∀ w, Reads w N 3 A n (cells3 l) → N ≤ w.heap.size → Calls Try.prog 46 #[.slice A n c] w fun en w' => en = .returned (.agg #[.int .i64 mx, .int .i64 my]) ∧ Below w.heap.size w w'))
    (b1 : -6000000000000000 ≤ mx) (b2 : mx ≤ 6000000000000000) (b3 : -6000000000000000 ≤ my) (b4 : my ≤ 6000000000000000) (G1 : Hid (withinB 1 0 1 = true)) (G2 : Hid (withinB arm (-10000000) 10000000 = true)) (a3 : -10000000 ≤ arm) (a4 : arm ≤ 10000000) (harm : ¬ arm = 0) (h : ¬ arm < 0) (HF : Hid (tailF (-my) (arm) = ((x, y), e))) :
    Calls Try.prog 45 #[.slice A n c, .int .i64 1, .int .i64 arm] w fun en w' => en = .returned (.tuple #[.agg #[.int .i64 x, .int .i64 y], .int .i64 e]) ∧ Below w.heap.size w w' := by
  have hF := HF.out
  clear HF
  unfold tailF at hF
  have v1 := IntWalk.i64_in (-mx) ⟨by omega, by omega⟩
  have v2 := IntWalk.i64_in (-my) ⟨by omega, by omega⟩
  have i0 : ∀ w, (Instr.index 51 (.agg #[.int .i64 mx, .int .i64 my]) (.int .i64 1)).run Try.prog w = .ok (.int .i64 my) w := fun _ => by kernel_rfl
  obtain ⟨c1, c2, c3, c4⟩ := red_in (a := -my) (b := arm) (by omega) (by omega) (by omega) (by omega)
  have hse := small_err (a := -my) (b := arm) (by omega)
  have hng := redN_neg (a := -my) (b := arm) (by omega)
  obtain ⟨X, hX⟩ : ∃ X, redN (-my) (arm) = X := ⟨_, rfl⟩
  obtain ⟨Y, hY⟩ : ∃ Y, redD (-my) (arm) = Y := ⟨_, rfl⟩
  rw [hX] at c1 c2 hng
  rw [hY] at c3 c4
  rw [hX, hY] at hse hF
  obtain ⟨T, hT⟩ : ∃ T, fracErr X Y = T := ⟨_, rfl⟩
  rw [hT] at hse
  have HX1 := Lib.hid hX
  have HY1 := Lib.hid hY
  have HT := Lib.hid hT
  have HNG := Lib.hid hng
  have HSE := Lib.hid hse
  clear hX hY hT hng hse
  go_enter Try.func45, Try.ntmps45
  go_wp2_with fail
  refine (withinref_is _ _ _ _ G1.out _).mono ?_
  rintro en w' ⟨rfl, rfl⟩
  go_wp2_with fail
  refine (withinref_is _ _ _ _ G2.out _).mono ?_
  rintro en w' ⟨rfl, rfl⟩
  go_wp2_with fail
  refine (HMM.out _ (HX.out.belowLe ((Below.refl _ _).alloc (Nat.le_refl _) _) hN) (by simp; omega)).mono ?_
  rintro e w1 ⟨rfl, hb⟩
  have HB1 := Lib.hid (show Below w.heap.size w w1 from step_below hb (by repeat' (first | exact Below.refl _ _ | exact HB0.out | assumption | refine below_drewN ?_ _ | refine Below.drew ?_ | refine Below.alloc ?_ (by first | omega | (simp; done) | (simp; omega) | (simp [World.setCell]; omega)) _ | refine Below.setCell ?_ (by first | omega | (simp; done) | (simp; omega)) _)))
  have K0_1 := Lib.hid (step_blk hb (show Blk _ (w.heap.size) 23 #[.int .i64 (0), .int .i64 (0)] by repeat' (first | assumption | exact Blk.at_ _ (by first | rfl | (simp; done) | (simp; omega)) _ _ | refine Blk.drewN ?_ _ | refine Blk.drew ?_ | refine Blk.alloc ?_ _ | refine Blk.far ?_ (by first | omega | (simp; done) | (simp; omega)) _)))
  have hz1 := hb.size
  try simp only [World.size_alloc, World.drewN, World.drew] at hz1
  clear hb
  have l0_1 : w.heap.size < w1.heap.size := K0_1.out.lt
  have z0_0_1 : w1.cell? ⟨w.heap.size, 0, none⟩ = some (.int .i64 (0)) := K0_1.out.cell 0
  have z0_1_1 : w1.cell? ⟨w.heap.size, 1, none⟩ = some (.int .i64 (0)) := K0_1.out.cell 1
  go_wp2_with fail
  refine (lowest_red (-my) arm X Y HX1.out HY1.out _ (by omega) (by omega) (by omega) (by omega)).mono ?_
  rintro e w2 ⟨rfl, hb⟩
  have HB2 := Lib.hid (show Below w.heap.size w w2 from step_below hb (by repeat' (first | exact Below.refl _ _ | exact HB1.out | assumption | refine below_drewN ?_ _ | refine Below.drew ?_ | refine Below.alloc ?_ (by first | omega | (simp; done) | (simp; omega) | (simp [World.setCell]; omega)) _ | refine Below.setCell ?_ (by first | omega | (simp; done) | (simp; omega)) _)))
  have K0_2 := Lib.hid (step_blk hb (show Blk _ (w.heap.size) 23 #[.int .i64 (0), .int .i64 (0)] by repeat' (first | assumption | exact K0_1.out | exact Blk.at_ _ (by first | rfl | (simp; done) | (simp; omega)) _ _ | refine Blk.drewN ?_ _ | refine Blk.drew ?_ | refine Blk.alloc ?_ _ | refine Blk.far ?_ (by first | omega | (simp; done) | (simp; omega)) _)))
  have hz2 := hb.size
  try simp only [World.size_alloc, World.drewN, World.drew] at hz2
  clear hb K0_1 z0_0_1 z0_1_1 l0_1
  have l0_2 : w.heap.size < w2.heap.size := K0_2.out.lt
  have z0_0_2 : w2.cell? ⟨w.heap.size, 0, none⟩ = some (.int .i64 (0)) := K0_2.out.cell 0
  have z0_1_2 : w2.cell? ⟨w.heap.size, 1, none⟩ = some (.int .i64 (0)) := K0_2.out.cell 1
  by_cases hneg : X < 0
  · have hneg' := HNG.out.1 hneg
    rw [if_pos hneg'] at hF
    cases hF
    have zf0_0 := K0_2.out.frozen 0
    have zf0_1 := K0_2.out.frozen 1
    go_wp2
    exact bodyPost_ret (v := .tuple #[.agg #[.int .i64 0, .int .i64 0], .int .i64 12]) (by simp [results, Try.results45, go_sem, z0_0_2, z0_1_2, l0_2]) rfl ⟨rfl, by repeat' (first | exact Below.refl _ _ | exact HB2.out | assumption | refine below_drewN ?_ _ | refine Below.drew ?_ | refine Below.alloc ?_ (by first | omega | (simp; done) | (simp; omega) | (simp [World.setCell]; omega)) _ | refine Below.setCell ?_ (by first | omega | (simp; done) | (simp; omega)) _)⟩
  · have hneg' := mt HNG.out.2 hneg
    rw [if_neg hneg'] at hF
    go_wp2_with fail
    refine (fracref_is _ _ _ HT.out _ (by omega) c2 (by omega) c4).mono ?_
    rintro e w3 ⟨rfl, hb⟩
    have HB3 := Lib.hid (show Below w.heap.size w w3 from step_below hb (by repeat' (first | exact Below.refl _ _ | exact HB2.out | assumption | refine below_drewN ?_ _ | refine Below.drew ?_ | refine Below.alloc ?_ (by first | omega | (simp; done) | (simp; omega) | (simp [World.setCell]; omega)) _ | refine Below.setCell ?_ (by first | omega | (simp; done) | (simp; omega)) _)))
    have K0_3 := Lib.hid (step_blk hb (show Blk _ (w.heap.size) 23 #[.int .i64 (0), .int .i64 (0)] by repeat' (first | assumption | exact K0_2.out | exact Blk.at_ _ (by first | rfl | (simp; done) | (simp; omega)) _ _ | refine Blk.drewN ?_ _ | refine Blk.drew ?_ | refine Blk.alloc ?_ _ | refine Blk.far ?_ (by first | omega | (simp; done) | (simp; omega)) _)))
    have K1_3 := Lib.hid (step_blk hb (show Blk _ (w2.heap.size) 23 #[.int .i64 (X), .int .i64 (Y)] by repeat' (first | assumption | exact K0_2.out | exact Blk.at_ _ (by first | rfl | (simp; done) | (simp; omega)) _ _ | refine Blk.drewN ?_ _ | refine Blk.drew ?_ | refine Blk.alloc ?_ _ | refine Blk.far ?_ (by first | omega | (simp; done) | (simp; omega)) _)))
    have hz3 := hb.size
    try simp only [World.size_alloc, World.drewN, World.drew] at hz3
    clear hb K0_2 z0_0_2 z0_1_2 l0_2
    have l0_3 : w.heap.size < w3.heap.size := K0_3.out.lt
    have z0_0_3 : w3.cell? ⟨w.heap.size, 0, none⟩ = some (.int .i64 (0)) := K0_3.out.cell 0
    have z0_1_3 : w3.cell? ⟨w.heap.size, 1, none⟩ = some (.int .i64 (0)) := K0_3.out.cell 1
    have l1_3 : w2.heap.size < w3.heap.size := K1_3.out.lt
    have z1_0_3 : w3.cell? ⟨w2.heap.size, 0, none⟩ = some (.int .i64 (X)) := K1_3.out.cell 0
    have z1_1_3 : w3.cell? ⟨w2.heap.size, 1, none⟩ = some (.int .i64 (Y)) := K1_3.out.cell 1
    have zf0_0 := K0_3.out.frozen 0
    have zf0_1 := K0_3.out.frozen 1
    by_cases hT0 : T = 0
    · have hsm := HSE.out.2 hT0
      rw [if_neg (by rw [hsm]; simp)] at hF
      cases hF
      subst hT0
      clear hsm
      go_wp2
      exact bodyPost_ret (v := .tuple #[.agg #[.int .i64 x, .int .i64 y], .int .i64 0]) (by simp [results, Try.results45, go_sem, z0_0_3, z0_1_3, z1_0_3, z1_1_3, l0_3, l1_3]) rfl ⟨rfl, by repeat' (first | exact Below.refl _ _ | exact HB3.out | assumption | refine below_drewN ?_ _ | refine Below.drew ?_ | refine Below.alloc ?_ (by first | omega | (simp; done) | (simp; omega) | (simp [World.setCell]; omega)) _ | refine Below.setCell ?_ (by first | omega | (simp; done) | (simp; omega)) _)⟩
    · have e0 : (T != 0) = true := by simpa using hT0
      have hsm : smallB (-my) (arm) = false := by
        cases hs : smallB (-my) (arm) with
        | false => rfl
        | true => exact absurd (HSE.out.1 hs) hT0
      rw [if_pos hsm] at hF
      cases hF
      clear hsm
      go_wp2
      exact bodyPost_ret (v := .tuple #[.agg #[.int .i64 0, .int .i64 0], .int .i64 8]) (by simp [results, Try.results45, go_sem, z0_0_3, z0_1_3, z1_0_3, z1_1_3, l0_3, l1_3]) rfl ⟨rfl, by repeat' (first | exact Below.refl _ _ | exact HB3.out | assumption | refine below_drewN ?_ _ | refine Below.drew ?_ | refine Below.alloc ?_ (by first | omega | (simp; done) | (simp; omega) | (simp [World.setCell]; omega)) _ | refine Below.setCell ?_ (by first | omega | (simp; done) | (simp; omega)) _)⟩

set_option maxRecDepth 100000 in
set_option maxHeartbeats 4000000 in
theorem rcw_any (A : Option Addr) (n c N : Nat) (l : List (Int × Int × Int)) (axis arm : Int) (w : World) (hx : Reads w N 3 A n (cells3 l)) (hN : N ≤ w.heap.size) (h0 : loadsErr l = 0) (x y e : Int) (hR : cwF (momF l) axis arm = ((x, y), e)) :
    Calls Try.prog 45 #[.slice A n c, .int .i64 axis, .int .i64 arm] w fun en w' => en = .returned (.tuple #[.agg #[.int .i64 x, .int .i64 y], .int .i64 e]) ∧ Below w.heap.size w w' := by
  have HX := Lib.hid hx
  clear hx
  obtain ⟨b1, b2, b3, b4⟩ := mom_in h0
  obtain ⟨mx, hmx⟩ : ∃ mx, (momF l).1 = mx := ⟨_, rfl⟩
  obtain ⟨my, hmy⟩ : ∃ my, (momF l).2 = my := ⟨_, rfl⟩
  unfold cwF at hR
  rw [hmx] at b1 b2
  rw [hmy] at b3 b4
  rw [hmx, hmy] at hR
  have HMM : Hid (∀ w, Reads w N 3 A n (cells3 l) → N ≤ w.heap.size → Calls Try.prog 46 #[.slice A n c] w fun en w' => en = .returned (.agg #[.int .i64 mx, .int .i64 my]) ∧ Below w.heap.size w w') :=
    fun w h1 h2 => rmoments_any A n c N l w h1 h2 h0 mx my (Prod.ext hmx hmy)
  clear hmx hmy h0
  cases g1 : withinB axis 0 1 with
  | false =>
    rw [if_pos (.inl g1)] at hR
    cases hR
    have G1 := Lib.hid g1
    clear g1
    go_enter Try.func45, Try.ntmps45
    go_wp2_with (first | (go_at_call 31; refine (withinref_is _ _ _ _ G1.out _).mono ?_; rintro e w' ⟨rfl, rfl⟩))
    exact bodyPost_ret (v := .tuple #[.agg #[.int .i64 0, .int .i64 0], .int .i64 2]) (by simp [results, Try.results45, go_sem]) rfl ⟨rfl, by repeat' (first | exact Below.refl _ _ | exact HB0.out | assumption | refine below_drewN ?_ _ | refine Below.drew ?_ | refine Below.alloc ?_ (by first | omega | (simp; done) | (simp; omega) | (simp [World.setCell]; omega)) _ | refine Below.setCell ?_ (by first | omega | (simp; done) | (simp; omega)) _)⟩
  | true =>
  cases g2 : withinB arm (-10000000) 10000000 with
  | false =>
    rw [if_pos (.inr g2)] at hR
    cases hR
    have G1 := Lib.hid g1
    have G2 := Lib.hid g2
    clear g1 g2
    go_enter Try.func45, Try.ntmps45
    go_wp2_with fail
    refine (withinref_is _ _ _ _ G1.out _).mono ?_
    rintro en w' ⟨rfl, rfl⟩
    go_wp2_with fail
    refine (withinref_is _ _ _ _ G2.out _).mono ?_
    rintro en w' ⟨rfl, rfl⟩
    go_wp2
    exact bodyPost_ret (v := .tuple #[.agg #[.int .i64 0, .int .i64 0], .int .i64 2]) (by simp [results, Try.results45, go_sem]) rfl ⟨rfl, by repeat' (first | exact Below.refl _ _ | exact HB0.out | assumption | refine below_drewN ?_ _ | refine Below.drew ?_ | refine Below.alloc ?_ (by first | omega | (simp; done) | (simp; omega) | (simp [World.setCell]; omega)) _ | refine Below.setCell ?_ (by first | omega | (simp; done) | (simp; omega)) _)⟩
  | true =>
  rw [if_neg (by rw [g1, g2]; simp)] at hR
  obtain ⟨a1, a2⟩ := within_yes g1
  obtain ⟨a3, a4⟩ := within_yes g2
  have G1 := Lib.hid g1
  have G2 := Lib.hid g2
  clear g1 g2
  by_cases harm : arm = 0
  · rw [if_pos harm] at hR
    cases hR
    subst harm
    go_enter Try.func45, Try.ntmps45
    go_wp2_with fail
    refine (withinref_is _ _ _ _ G1.out _).mono ?_
    rintro en w' ⟨rfl, rfl⟩
    go_wp2_with fail
    refine (withinref_is _ _ _ _ G2.out _).mono ?_
    rintro en w' ⟨rfl, rfl⟩
    go_wp2
    exact bodyPost_ret (v := .tuple #[.agg #[.int .i64 0, .int .i64 0], .int .i64 11]) (by simp [results, Try.results45, go_sem]) rfl ⟨rfl, by repeat' (first | exact Below.refl _ _ | exact HB0.out | assumption | refine below_drewN ?_ _ | refine Below.drew ?_ | refine Below.alloc ?_ (by first | omega | (simp; done) | (simp; omega) | (simp [World.setCell]; omega)) _ | refine Below.setCell ?_ (by first | omega | (simp; done) | (simp; omega)) _)⟩
  rw [if_neg harm] at hR
  have hax : axis = 0 ∨ axis = 1 := by omega
  have hs : arm < 0 ∨ ¬ arm < 0 := by omega
  obtain ⟨a, b, hab, hF⟩ : ∃ a b, ((arm < 0 ∧ a = (if axis = 0 then mx else my) ∧ b = -arm) ∨ (¬ arm < 0 ∧ a = -(if axis = 0 then mx else my) ∧ b = arm)) ∧ tailF a b = ((x, y), e) := by
    rcases hs with h | h
    · refine ⟨_, _, .inl ⟨h, rfl, rfl⟩, ?_⟩
      rw [cwOf_neg h] at hR
      rw [← hR]
      congr 1
      split <;> omega
    · refine ⟨_, _, .inr ⟨h, rfl, rfl⟩, ?_⟩
      rw [cwOf_pos h] at hR
      rw [← hR]
      congr 1
      split <;> rfl
  have HF := Lib.hid hF
  have HAB := Lib.hid hab
  clear hR hF hab hs
  rcases hax with rfl | rfl
  · rcases HAB.out with ⟨h, ha, hb⟩ | ⟨h, ha, hb⟩
    · rw [if_pos rfl] at ha
      subst a b
      exact rcw_tail00 A n c N l arm mx my w HX hN x y e HMM b1 b2 b3 b4 G1 G2 a3 a4 harm h HF
    · rw [if_pos rfl] at ha
      subst a b
      exact rcw_tail01 A n c N l arm mx my w HX hN x y e HMM b1 b2 b3 b4 G1 G2 a3 a4 harm h HF
  · rcases HAB.out with ⟨h, ha, hb⟩ | ⟨h, ha, hb⟩
    · rw [if_neg (by decide)] at ha
      subst a b
      exact rcw_tail10 A n c N l arm mx my w HX hN x y e HMM b1 b2 b3 b4 G1 G2 a3 a4 harm h HF
    · rw [if_neg (by decide)] at ha
      subst a b
      exact rcw_tail11 A n c N l arm mx my w HX hN x y e HMM b1 b2 b3 b4 G1 G2 a3 a4 harm h HF

end Go.Proofs.Ytmioamcgbihhjaa
