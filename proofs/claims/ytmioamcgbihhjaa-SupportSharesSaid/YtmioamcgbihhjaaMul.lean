/- Contracts of the reference's products of fractions, and of the ratio of a pair of gears. -/
import Derived.Test.YtmioamcgbihhjaaNear
import Derived.Test.YtmioamcgbihhjaaTrain
namespace Go.Proofs.Ytmioamcgbihhjaa
open Go.RowKit

theorem small_err {a b : Int} (hb : 1 ≤ b) : smallB a b = true ↔ fracErr (redN a b) (redD a b) = 0 := by
  have hp : 0 < Int.gcd a b := Int.gcd_pos_of_ne_zero_right a (by omega)
  have hg : Int.gcd (a / (Int.gcd a b : Int)) (b / (Int.gcd a b : Int)) = 1 := Int.gcd_ediv_gcd_ediv_gcd hp
  have hd : 0 < b / (Int.gcd a b : Int) := Int.ediv_pos_of_pos_of_dvd (by omega) (by omega) (Int.gcd_dvd_right a b)
  unfold smallB fracErr redN redD
  rw [hg]
  simp only [Bool.and_eq_true, withinB_iff, decide_eq_true_eq]
  constructor
  · rintro ⟨⟨h1, h2⟩, h3⟩
    rw [if_neg (by omega), if_neg (by omega)]
  · intro h
    rw [if_neg (by omega)] at h
    split at h
    · cases h
    · omega

/-- A common factor goes away. -/
theorem red_scale {k : Int} (hk : 0 < k) (a b : Int) : redN (k * a) (k * b) = redN a b ∧ redD (k * a) (k * b) = redD a b ∧ smallB (k * a) (k * b) = smallB a b := by
  have hg : (Int.gcd (k * a) (k * b) : Int) = k * (Int.gcd a b : Int) := by
    rw [Int.gcd_mul_left]
    push_cast
    rw [Int.natAbs_of_nonneg (by omega)]
  have h1 : redN (k * a) (k * b) = redN a b := by unfold redN; rw [hg, Int.mul_ediv_mul_of_pos _ _ hk]
  have h2 : redD (k * a) (k * b) = redD a b := by unfold redD; rw [hg, Int.mul_ediv_mul_of_pos _ _ hk]
  refine ⟨h1, h2, ?_⟩
  unfold redN at h1
  unfold redD at h2
  unfold smallB
  rw [h1, h2]

theorem red_in {a b : Int} (h1 : -9223372036854775808 < a) (h2 : a ≤ 9223372036854775807) (h3 : 1 ≤ b) (h4 : b ≤ 9223372036854775807) :
    -9223372036854775808 < redN a b ∧ redN a b ≤ 9223372036854775807 ∧ -9223372036854775808 < redD a b ∧ redD a b ≤ 9223372036854775807 := by
  have hp : 0 < Int.gcd a b := Int.gcd_pos_of_ne_zero_right a (by omega)
  have x := div_gcd_in a b h1 h2 (by omega)
  have y := div_gcd_in b a (by omega) h4 (by rw [Int.gcd_comm]; omega)
  rw [Int.gcd_comm] at y
  exact ⟨x.1, x.2, y.1, y.2⟩

theorem lowest_red (a b x y : Int) (hx : redN a b = x) (hy : redD a b = y) (w : World) (h1 : -9223372036854775808 < a) (h2 : a ≤ 9223372036854775807) (h3 : 1 ≤ b) (h4 : b ≤ 9223372036854775807) :
    Calls Try.prog 87 #[.int .i64 a, .int .i64 b] w fun e w' => e = .returned (.agg #[.int .i64 x, .int .i64 y]) ∧ Below w.heap.size w w' :=
  hx ▸ hy ▸ lowest_any a b w h1 h2 h3 h4
theorem fracref_is (n d t : Int) (h : fracErr n d = t) (w : World) (h1 : -9223372036854775808 ≤ n) (h2 : n ≤ 9223372036854775807) (h3 : -9223372036854775808 ≤ d) (h4 : d ≤ 9223372036854775807) :
    Calls Try.prog 17 #[.agg #[.int .i64 n, .int .i64 d]] w fun e w' => e = .returned (.int .i64 t) ∧ Below w.heap.size w w' := h ▸ checkfracref_any n d w h1 h2 h3 h4

set_option maxRecDepth 100000 in
theorem made_ok (a b : Int) (ht : smallB a b = true) (w : World) (h1 : -9223372036854775808 < a) (h2 : a ≤ 9223372036854775807) (h3 : 1 ≤ b) (h4 : b ≤ 9223372036854775807) :
    Calls Try.prog 126 #[.int .i64 a, .int .i64 b] w fun e w' => e = .returned (.tuple #[.agg #[.int .i64 (redN a b), .int .i64 (redD a b)], .int .i64 0]) ∧ Below w.heap.size w w' := by
  have hE := (small_err h3).1 ht
  obtain ⟨b1, b2, b3, b4⟩ := red_in h1 h2 h3 h4
  obtain ⟨X, hX⟩ : ∃ X, redN a b = X := ⟨_, rfl⟩
  obtain ⟨Y, hY⟩ : ∃ Y, redD a b = Y := ⟨_, rfl⟩
  rw [hX, hY]
  rw [hX, hY] at hE
  rw [hX] at b1 b2
  rw [hY] at b3 b4
  have HX := Lib.hid hX
  have HY := Lib.hid hY
  have HE := Lib.hid hE
  clear hX hY hE ht
  go_enter Try.func126, Try.ntmps126
  go_wp2_with fail
  refine (lowest_red a b X Y HX.out HY.out _ h1 h2 h3 h4).mono ?_
  rintro e w1 ⟨rfl, hb⟩
  have HB1 := Lib.hid (show Below w.heap.size w w1 from step_below hb (by repeat' (first | exact Below.refl _ _ | exact HB0.out | refine below_drewN ?_ _ | refine Below.drew ?_ | refine Below.alloc ?_ (by first | omega | (simp; done) | (simp; omega) | (simp [World.setCell]; omega)) _ | refine Below.setCell ?_ (by first | omega | (simp; done) | (simp; omega)) _ | assumption)))
  have K0_1 := Lib.hid (step_blk hb (show Blk _ (w.heap.size) 23 #[.int .i64 (0), .int .i64 (0)] by repeat' (first | exact Blk.at_ _ (by first | rfl | (simp; done) | (simp; omega)) _ _ | refine Blk.drewN ?_ _ | refine Blk.drew ?_ | refine Blk.alloc ?_ _ | refine Blk.far ?_ (by first | omega | (simp; done) | (simp; omega)) _ | assumption)))
  have hz1 := hb.size
  try simp only [World.size_alloc, World.drewN, World.drew] at hz1
  clear hb
  have l0_1 : w.heap.size < w1.heap.size := K0_1.out.lt
  have z0_0_1 : w1.cell? ⟨w.heap.size, 0, none⟩ = some (.int .i64 (0)) := K0_1.out.cell 0
  have z0_1_1 : w1.cell? ⟨w.heap.size, 1, none⟩ = some (.int .i64 (0)) := K0_1.out.cell 1
  go_wp2_with fail
  refine (fracref_is _ _ _ HE.out _ (by omega) b2 (by omega) b4).mono ?_
  rintro e w2 ⟨rfl, hb⟩
  have HB2 := Lib.hid (show Below w.heap.size w w2 from step_below hb (by repeat' (first | exact Below.refl _ _ | exact HB1.out | refine below_drewN ?_ _ | refine Below.drew ?_ | refine Below.alloc ?_ (by first | omega | (simp; done) | (simp; omega) | (simp [World.setCell]; omega)) _ | refine Below.setCell ?_ (by first | omega | (simp; done) | (simp; omega)) _ | assumption)))
  have K0_2 := Lib.hid (step_blk hb (show Blk _ (w.heap.size) 23 #[.int .i64 (0), .int .i64 (0)] by repeat' (first | exact K0_1.out | exact Blk.at_ _ (by first | rfl | (simp; done) | (simp; omega)) _ _ | refine Blk.drewN ?_ _ | refine Blk.drew ?_ | refine Blk.alloc ?_ _ | refine Blk.far ?_ (by first | omega | (simp; done) | (simp; omega)) _ | assumption)))
  have K1_2 := Lib.hid (step_blk hb (show Blk _ (w1.heap.size) 23 #[.int .i64 (X), .int .i64 (Y)] by repeat' (first | exact K0_1.out | exact Blk.at_ _ (by first | rfl | (simp; done) | (simp; omega)) _ _ | refine Blk.drewN ?_ _ | refine Blk.drew ?_ | refine Blk.alloc ?_ _ | refine Blk.far ?_ (by first | omega | (simp; done) | (simp; omega)) _ | assumption)))
  have hz2 := hb.size
  try simp only [World.size_alloc, World.drewN, World.drew] at hz2
  clear hb K0_1 z0_0_1 z0_1_1 l0_1
  have l0_2 : w.heap.size < w2.heap.size := K0_2.out.lt
  have z0_0_2 : w2.cell? ⟨w.heap.size, 0, none⟩ = some (.int .i64 (0)) := K0_2.out.cell 0
  have z0_1_2 : w2.cell? ⟨w.heap.size, 1, none⟩ = some (.int .i64 (0)) := K0_2.out.cell 1
  have l1_2 : w1.heap.size < w2.heap.size := K1_2.out.lt
  have z1_0_2 : w2.cell? ⟨w1.heap.size, 0, none⟩ = some (.int .i64 (X)) := K1_2.out.cell 0
  have z1_1_2 : w2.cell? ⟨w1.heap.size, 1, none⟩ = some (.int .i64 (Y)) := K1_2.out.cell 1
  have zf0_0 := K0_2.out.frozen 0
  have zf0_1 := K0_2.out.frozen 1
  go_wp2
  exact bodyPost_ret (v := .tuple #[.agg #[.int .i64 X, .int .i64 Y], .int .i64 0]) (by simp [results, Try.results126, go_sem, z0_0_2, z0_1_2, z1_0_2, z1_1_2, l0_2, l1_2]) rfl ⟨rfl, by repeat' (first | exact Below.refl _ _ | exact HB2.out | refine below_drewN ?_ _ | refine Below.drew ?_ | refine Below.alloc ?_ (by first | omega | (simp; done) | (simp; omega) | (simp [World.setCell]; omega)) _ | refine Below.setCell ?_ (by first | omega | (simp; done) | (simp; omega)) _ | assumption)⟩

set_option maxRecDepth 100000 in
theorem made_no (a b : Int) (ht : smallB a b = false) (w : World) (h1 : -9223372036854775808 < a) (h2 : a ≤ 9223372036854775807) (h3 : 1 ≤ b) (h4 : b ≤ 9223372036854775807) :
    Calls Try.prog 126 #[.int .i64 a, .int .i64 b] w fun e w' => e = .returned (.tuple #[.agg #[.int .i64 0, .int .i64 0], .int .i64 8]) ∧ Below w.heap.size w w' := by
  have hE : fracErr (redN a b) (redD a b) ≠ 0 := fun h => by have := (small_err h3).2 h; rw [ht] at this; cases this
  obtain ⟨b1, b2, b3, b4⟩ := red_in h1 h2 h3 h4
  obtain ⟨X, hX⟩ : ∃ X, redN a b = X := ⟨_, rfl⟩
  obtain ⟨Y, hY⟩ : ∃ Y, redD a b = Y := ⟨_, rfl⟩
  rw [hX, hY] at hE
  rw [hX] at b1 b2
  rw [hY] at b3 b4
  obtain ⟨T, hT⟩ : ∃ T, fracErr X Y = T := ⟨_, rfl⟩
  rw [hT] at hE
  have e0 : (T != 0) = true := by simpa using hE
  have HX := Lib.hid hX
  have HY := Lib.hid hY
  have HT := Lib.hid hT
  clear hX hY hE ht hT
  go_enter Try.func126, Try.ntmps126
  go_wp2_with fail
  refine (lowest_red a b X Y HX.out HY.out _ h1 h2 h3 h4).mono ?_
  rintro e w1 ⟨rfl, hb⟩
  have HB1 := Lib.hid (show Below w.heap.size w w1 from step_below hb (by repeat' (first | exact Below.refl _ _ | exact HB0.out | refine below_drewN ?_ _ | refine Below.drew ?_ | refine Below.alloc ?_ (by first | omega | (simp; done) | (simp; omega) | (simp [World.setCell]; omega)) _ | refine Below.setCell ?_ (by first | omega | (simp; done) | (simp; omega)) _ | assumption)))
  have K0_1 := Lib.hid (step_blk hb (show Blk _ (w.heap.size) 23 #[.int .i64 (0), .int .i64 (0)] by repeat' (first | exact Blk.at_ _ (by first | rfl | (simp; done) | (simp; omega)) _ _ | refine Blk.drewN ?_ _ | refine Blk.drew ?_ | refine Blk.alloc ?_ _ | refine Blk.far ?_ (by first | omega | (simp; done) | (simp; omega)) _ | assumption)))
  have hz1 := hb.size
  try simp only [World.size_alloc, World.drewN, World.drew] at hz1
  clear hb
  have l0_1 : w.heap.size < w1.heap.size := K0_1.out.lt
  have z0_0_1 : w1.cell? ⟨w.heap.size, 0, none⟩ = some (.int .i64 (0)) := K0_1.out.cell 0
  have z0_1_1 : w1.cell? ⟨w.heap.size, 1, none⟩ = some (.int .i64 (0)) := K0_1.out.cell 1
  go_wp2_with fail
  refine (fracref_is _ _ T HT.out _ (by omega) b2 (by omega) b4).mono ?_
  rintro e w2 ⟨rfl, hb⟩
  have HB2 := Lib.hid (show Below w.heap.size w w2 from step_below hb (by repeat' (first | exact Below.refl _ _ | exact HB1.out | refine below_drewN ?_ _ | refine Below.drew ?_ | refine Below.alloc ?_ (by first | omega | (simp; done) | (simp; omega) | (simp [World.setCell]; omega)) _ | refine Below.setCell ?_ (by first | omega | (simp; done) | (simp; omega)) _ | assumption)))
  have K0_2 := Lib.hid (step_blk hb (show Blk _ (w.heap.size) 23 #[.int .i64 (0), .int .i64 (0)] by repeat' (first | exact K0_1.out | exact Blk.at_ _ (by first | rfl | (simp; done) | (simp; omega)) _ _ | refine Blk.drewN ?_ _ | refine Blk.drew ?_ | refine Blk.alloc ?_ _ | refine Blk.far ?_ (by first | omega | (simp; done) | (simp; omega)) _ | assumption)))
  have K1_2 := Lib.hid (step_blk hb (show Blk _ (w1.heap.size) 23 #[.int .i64 (X), .int .i64 (Y)] by repeat' (first | exact K0_1.out | exact Blk.at_ _ (by first | rfl | (simp; done) | (simp; omega)) _ _ | refine Blk.drewN ?_ _ | refine Blk.drew ?_ | refine Blk.alloc ?_ _ | refine Blk.far ?_ (by first | omega | (simp; done) | (simp; omega)) _ | assumption)))
  have hz2 := hb.size
  try simp only [World.size_alloc, World.drewN, World.drew] at hz2
  clear hb K0_1 z0_0_1 z0_1_1 l0_1
  have l0_2 : w.heap.size < w2.heap.size := K0_2.out.lt
  have z0_0_2 : w2.cell? ⟨w.heap.size, 0, none⟩ = some (.int .i64 (0)) := K0_2.out.cell 0
  have z0_1_2 : w2.cell? ⟨w.heap.size, 1, none⟩ = some (.int .i64 (0)) := K0_2.out.cell 1
  have l1_2 : w1.heap.size < w2.heap.size := K1_2.out.lt
  have z1_0_2 : w2.cell? ⟨w1.heap.size, 0, none⟩ = some (.int .i64 (X)) := K1_2.out.cell 0
  have z1_1_2 : w2.cell? ⟨w1.heap.size, 1, none⟩ = some (.int .i64 (Y)) := K1_2.out.cell 1
  have zf0_0 := K0_2.out.frozen 0
  have zf0_1 := K0_2.out.frozen 1
  go_wp2
  exact bodyPost_ret (v := .tuple #[.agg #[.int .i64 0, .int .i64 0], .int .i64 8]) (by simp [results, Try.results126, go_sem, z0_0_2, z0_1_2, z1_0_2, z1_1_2, l0_2, l1_2]) rfl ⟨rfl, by repeat' (first | exact Below.refl _ _ | exact HB2.out | refine below_drewN ?_ _ | refine Below.drew ?_ | refine Below.alloc ?_ (by first | omega | (simp; done) | (simp; omega) | (simp [World.setCell]; omega)) _ | refine Below.setCell ?_ (by first | omega | (simp; done) | (simp; omega)) _ | assumption)⟩

/-- What the reference's product answers. -/
def madeV (a b : Int) : Value := if smallB a b then .tuple #[.agg #[.int .i64 (redN a b), .int .i64 (redD a b)], .int .i64 0] else .tuple #[.agg #[.int .i64 0, .int .i64 0], .int .i64 8]

set_option maxRecDepth 100000 in
theorem mulref_ok (an ad bn bd : Int) (ht : smallB (an * bn) (ad * bd) = true) (w : World) (h1 : -9223372036854775808 < an * bn) (h2 : an * bn ≤ 9223372036854775807) (h3 : 1 ≤ ad * bd) (h4 : ad * bd ≤ 9223372036854775807) :
    Calls Try.prog 112 #[.agg #[.int .i64 an, .int .i64 ad], .agg #[.int .i64 bn, .int .i64 bd]] w fun e w' => e = .returned (.tuple #[.agg #[.int .i64 (redN (an * bn) (ad * bd)), .int .i64 (redD (an * bn) (ad * bd))], .int .i64 0]) ∧ Below w.heap.size w w' := by
  have v1 := IntWalk.i64_in (an * bn) ⟨by omega, by omega⟩
  have v2 := IntWalk.i64_in (ad * bd) ⟨by omega, by omega⟩
  have HT := Lib.hid ht
  clear ht
  go_enter Try.func112, Try.ntmps112
  go_wp2_with fail
  refine (made_ok (an * bn) (ad * bd) HT.out _ h1 h2 h3 h4).mono ?_
  rintro e w1 ⟨rfl, hb⟩
  have HB1 := Lib.hid (show Below w.heap.size w w1 from step_below hb (by repeat' (first | exact Below.refl _ _ | exact HB0.out | refine below_drewN ?_ _ | refine Below.drew ?_ | refine Below.alloc ?_ (by first | omega | (simp; done) | (simp; omega) | (simp [World.setCell]; omega)) _ | refine Below.setCell ?_ (by first | omega | (simp; done) | (simp; omega)) _ | assumption)))
  have K0_1 := Lib.hid (step_blk hb (show Blk _ (w.heap.size) 23 #[.int .i64 (an), .int .i64 (ad)] by repeat' (first | exact Blk.at_ _ (by first | rfl | (simp; done) | (simp; omega)) _ _ | refine Blk.drewN ?_ _ | refine Blk.drew ?_ | refine Blk.alloc ?_ _ | refine Blk.far ?_ (by first | omega | (simp; done) | (simp; omega)) _ | assumption)))
  have K1_1 := Lib.hid (step_blk hb (show Blk _ (w.heap.size + 1) 23 #[.int .i64 (bn), .int .i64 (bd)] by repeat' (first | exact Blk.at_ _ (by first | rfl | (simp; done) | (simp; omega)) _ _ | refine Blk.drewN ?_ _ | refine Blk.drew ?_ | refine Blk.alloc ?_ _ | refine Blk.far ?_ (by first | omega | (simp; done) | (simp; omega)) _ | assumption)))
  have K2_1 := Lib.hid (step_blk hb (show Blk _ (w.heap.size + 2) 23 #[.int .i64 (0), .int .i64 (0)] by repeat' (first | exact Blk.at_ _ (by first | rfl | (simp; done) | (simp; omega)) _ _ | refine Blk.drewN ?_ _ | refine Blk.drew ?_ | refine Blk.alloc ?_ _ | refine Blk.far ?_ (by first | omega | (simp; done) | (simp; omega)) _ | assumption)))
  have hz1 := hb.size
  try simp only [World.size_alloc, World.drewN, World.drew] at hz1
  clear hb
  have l0_1 : w.heap.size < w1.heap.size := K0_1.out.lt
  have z0_0_1 : w1.cell? ⟨w.heap.size, 0, none⟩ = some (.int .i64 (an)) := K0_1.out.cell 0
  have z0_1_1 : w1.cell? ⟨w.heap.size, 1, none⟩ = some (.int .i64 (ad)) := K0_1.out.cell 1
  have l1_1 : w.heap.size + 1 < w1.heap.size := K1_1.out.lt
  have z1_0_1 : w1.cell? ⟨w.heap.size + 1, 0, none⟩ = some (.int .i64 (bn)) := K1_1.out.cell 0
  have z1_1_1 : w1.cell? ⟨w.heap.size + 1, 1, none⟩ = some (.int .i64 (bd)) := K1_1.out.cell 1
  have l2_1 : w.heap.size + 2 < w1.heap.size := K2_1.out.lt
  have z2_0_1 : w1.cell? ⟨w.heap.size + 2, 0, none⟩ = some (.int .i64 (0)) := K2_1.out.cell 0
  have z2_1_1 : w1.cell? ⟨w.heap.size + 2, 1, none⟩ = some (.int .i64 (0)) := K2_1.out.cell 1
  have zf2_0 := K2_1.out.frozen 0
  have zf2_1 := K2_1.out.frozen 1
  go_wp2
  exact bodyPost_ret (v := .tuple #[.agg #[.int .i64 (redN (an * bn) (ad * bd)), .int .i64 (redD (an * bn) (ad * bd))], .int .i64 0]) (by simp [results, Try.results112, go_sem, z2_0_1, z2_1_1, l2_1]) rfl ⟨rfl, by repeat' (first | exact Below.refl _ _ | exact HB1.out | refine below_drewN ?_ _ | refine Below.drew ?_ | refine Below.alloc ?_ (by first | omega | (simp; done) | (simp; omega) | (simp [World.setCell]; omega)) _ | refine Below.setCell ?_ (by first | omega | (simp; done) | (simp; omega)) _ | assumption)⟩

set_option maxRecDepth 100000 in
theorem mulref_no (an ad bn bd : Int) (ht : smallB (an * bn) (ad * bd) = false) (w : World) (h1 : -9223372036854775808 < an * bn) (h2 : an * bn ≤ 9223372036854775807) (h3 : 1 ≤ ad * bd) (h4 : ad * bd ≤ 9223372036854775807) :
    Calls Try.prog 112 #[.agg #[.int .i64 an, .int .i64 ad], .agg #[.int .i64 bn, .int .i64 bd]] w fun e w' => e = .returned (.tuple #[.agg #[.int .i64 0, .int .i64 0], .int .i64 8]) ∧ Below w.heap.size w w' := by
  have v1 := IntWalk.i64_in (an * bn) ⟨by omega, by omega⟩
  have v2 := IntWalk.i64_in (ad * bd) ⟨by omega, by omega⟩
  have HT := Lib.hid ht
  clear ht
  go_enter Try.func112, Try.ntmps112
  go_wp2_with fail
  refine (made_no (an * bn) (ad * bd) HT.out _ h1 h2 h3 h4).mono ?_
  rintro e w1 ⟨rfl, hb⟩
  have HB1 := Lib.hid (show Below w.heap.size w w1 from step_below hb (by repeat' (first | exact Below.refl _ _ | exact HB0.out | refine below_drewN ?_ _ | refine Below.drew ?_ | refine Below.alloc ?_ (by first | omega | (simp; done) | (simp; omega) | (simp [World.setCell]; omega)) _ | refine Below.setCell ?_ (by first | omega | (simp; done) | (simp; omega)) _ | assumption)))
  have K0_1 := Lib.hid (step_blk hb (show Blk _ (w.heap.size) 23 #[.int .i64 (an), .int .i64 (ad)] by repeat' (first | exact Blk.at_ _ (by first | rfl | (simp; done) | (simp; omega)) _ _ | refine Blk.drewN ?_ _ | refine Blk.drew ?_ | refine Blk.alloc ?_ _ | refine Blk.far ?_ (by first | omega | (simp; done) | (simp; omega)) _ | assumption)))
  have K1_1 := Lib.hid (step_blk hb (show Blk _ (w.heap.size + 1) 23 #[.int .i64 (bn), .int .i64 (bd)] by repeat' (first | exact Blk.at_ _ (by first | rfl | (simp; done) | (simp; omega)) _ _ | refine Blk.drewN ?_ _ | refine Blk.drew ?_ | refine Blk.alloc ?_ _ | refine Blk.far ?_ (by first | omega | (simp; done) | (simp; omega)) _ | assumption)))
  have K2_1 := Lib.hid (step_blk hb (show Blk _ (w.heap.size + 2) 23 #[.int .i64 (0), .int .i64 (0)] by repeat' (first | exact Blk.at_ _ (by first | rfl | (simp; done) | (simp; omega)) _ _ | refine Blk.drewN ?_ _ | refine Blk.drew ?_ | refine Blk.alloc ?_ _ | refine Blk.far ?_ (by first | omega | (simp; done) | (simp; omega)) _ | assumption)))
  have hz1 := hb.size
  try simp only [World.size_alloc, World.drewN, World.drew] at hz1
  clear hb
  have l0_1 : w.heap.size < w1.heap.size := K0_1.out.lt
  have z0_0_1 : w1.cell? ⟨w.heap.size, 0, none⟩ = some (.int .i64 (an)) := K0_1.out.cell 0
  have z0_1_1 : w1.cell? ⟨w.heap.size, 1, none⟩ = some (.int .i64 (ad)) := K0_1.out.cell 1
  have l1_1 : w.heap.size + 1 < w1.heap.size := K1_1.out.lt
  have z1_0_1 : w1.cell? ⟨w.heap.size + 1, 0, none⟩ = some (.int .i64 (bn)) := K1_1.out.cell 0
  have z1_1_1 : w1.cell? ⟨w.heap.size + 1, 1, none⟩ = some (.int .i64 (bd)) := K1_1.out.cell 1
  have l2_1 : w.heap.size + 2 < w1.heap.size := K2_1.out.lt
  have z2_0_1 : w1.cell? ⟨w.heap.size + 2, 0, none⟩ = some (.int .i64 (0)) := K2_1.out.cell 0
  have z2_1_1 : w1.cell? ⟨w.heap.size + 2, 1, none⟩ = some (.int .i64 (0)) := K2_1.out.cell 1
  have zf2_0 := K2_1.out.frozen 0
  have zf2_1 := K2_1.out.frozen 1
  go_wp2
  exact bodyPost_ret (v := .tuple #[.agg #[.int .i64 0, .int .i64 0], .int .i64 8]) (by simp [results, Try.results112, go_sem, z2_0_1, z2_1_1, l2_1]) rfl ⟨rfl, by repeat' (first | exact Below.refl _ _ | exact HB1.out | refine below_drewN ?_ _ | refine Below.drew ?_ | refine Below.alloc ?_ (by first | omega | (simp; done) | (simp; omega) | (simp [World.setCell]; omega)) _ | refine Below.setCell ?_ (by first | omega | (simp; done) | (simp; omega)) _ | assumption)⟩

set_option maxRecDepth 100000 in
theorem of_any (d v : Int) (w : World) (h1 : 1 ≤ d) (h2 : d ≤ 9223372036854775807) (h3 : 1 ≤ v) (h4 : v ≤ 9223372036854775807) :
    Calls Try.prog 113 #[.agg #[.int .i64 d, .int .i64 v]] w fun e w' => e = .returned (.agg #[.int .i64 (redN d v), .int .i64 (redD d v)]) ∧ Below w.heap.size w w' := by
  go_enter Try.func113, Try.ntmps113
  go_wp2_with fail
  refine (lowest_red d v _ _ rfl rfl _ (by omega) h2 h3 h4).mono ?_
  rintro e w1 ⟨rfl, hb⟩
  have HB1 := Lib.hid (show Below w.heap.size w w1 from step_below hb (by repeat' (first | exact Below.refl _ _ | exact HB0.out | refine below_drewN ?_ _ | refine Below.drew ?_ | refine Below.alloc ?_ (by first | omega | (simp; done) | (simp; omega) | (simp [World.setCell]; omega)) _ | refine Below.setCell ?_ (by first | omega | (simp; done) | (simp; omega)) _ | assumption)))
  have K0_1 := Lib.hid (step_blk hb (show Blk _ (w.heap.size) 45 #[.int .i64 (d), .int .i64 (v)] by repeat' (first | exact Blk.at_ _ (by first | rfl | (simp; done) | (simp; omega)) _ _ | refine Blk.drewN ?_ _ | refine Blk.drew ?_ | refine Blk.alloc ?_ _ | refine Blk.far ?_ (by first | omega | (simp; done) | (simp; omega)) _ | assumption)))
  have K1_1 := Lib.hid (step_blk hb (show Blk _ (w.heap.size + 1) 23 #[.int .i64 (0), .int .i64 (0)] by repeat' (first | exact Blk.at_ _ (by first | rfl | (simp; done) | (simp; omega)) _ _ | refine Blk.drewN ?_ _ | refine Blk.drew ?_ | refine Blk.alloc ?_ _ | refine Blk.far ?_ (by first | omega | (simp; done) | (simp; omega)) _ | assumption)))
  have hz1 := hb.size
  try simp only [World.size_alloc, World.drewN, World.drew] at hz1
  clear hb
  have l0_1 : w.heap.size < w1.heap.size := K0_1.out.lt
  have z0_0_1 : w1.cell? ⟨w.heap.size, 0, none⟩ = some (.int .i64 (d)) := K0_1.out.cell 0
  have z0_1_1 : w1.cell? ⟨w.heap.size, 1, none⟩ = some (.int .i64 (v)) := K0_1.out.cell 1
  have l1_1 : w.heap.size + 1 < w1.heap.size := K1_1.out.lt
  have z1_0_1 : w1.cell? ⟨w.heap.size + 1, 0, none⟩ = some (.int .i64 (0)) := K1_1.out.cell 0
  have z1_1_1 : w1.cell? ⟨w.heap.size + 1, 1, none⟩ = some (.int .i64 (0)) := K1_1.out.cell 1
  have zf1_0 := K1_1.out.frozen 0
  have zf1_1 := K1_1.out.frozen 1
  go_wp2
  exact bodyPost_ret (v := .agg #[.int .i64 (redN d v), .int .i64 (redD d v)]) (by simp [results, Try.results113, go_sem, z1_0_1, z1_1_1, l1_1]) rfl ⟨rfl, by repeat' (first | exact Below.refl _ _ | exact HB1.out | refine below_drewN ?_ _ | refine Below.drew ?_ | refine Below.alloc ?_ (by first | omega | (simp; done) | (simp; omega) | (simp [World.setCell]; omega)) _ | refine Below.setCell ?_ (by first | omega | (simp; done) | (simp; omega)) _ | assumption)⟩

end Go.Proofs.Ytmioamcgbihhjaa
