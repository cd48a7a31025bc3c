import Derived.Test.YtoiconebcmneiabQ9
import Derived.Test.YtoiconebcmneiabQ6
import Derived.Test.YtoiconebcmneiabQ2

section
/- Contracts of the reference's products of fractions, and of the ratio of a pair of gears. -/
namespace Go.Proofs.Ytoiconebcmneiab
open Go.RowKit

theorem small_err {a b : Int} (hb : 1 ≤ b) : smallB a b = true ↔ fracErr (redN a b) (redD a b) = 0 := by
  have hp : 0 < Int.gcd a b := Int.gcd_pos_of_ne_zero_right a (by omega)
  have hg : Int.gcd (a / (Int.gcd a b : Int)) (b / (Int.gcd a b : Int)) = 1 := Int.gcd_ediv_gcd_ediv_gcd hp
  have hd : 0 < b / (Int.gcd a b : Int) := Int.ediv_pos_of_pos_of_dvd (by omega) (by omega) (Int.gcd_dvd_right a b)
  unfold smallB fracErr redN redD
  rw [hg]
  simp only [Bool.and_eq_true, withinB_iff, decide_eq_true_eq]
  constructor
  · rintro ⟨⟨h1, h2⟩, h3⟩
    rw [if_neg (by omega), if_neg (by omega)]
  · intro h
    rw [if_neg (by omega)] at h
    split at h
    · cases h
    · omega

/-- A common factor goes away. -/
theorem red_scale {k : Int} (hk : 0 < k) (a b : Int) : redN (k * a) (k * b) = redN a b ∧ redD (k * a) (k * b) = redD a b ∧ smallB (k * a) (k * b) = smallB a b := by
  have hg : (Int.gcd (k * a) (k * b) : Int) = k * (Int.gcd a b : Int) := by
    rw [Int.gcd_mul_left]
    push_cast
    rw [Int.natAbs_of_nonneg (by omega)]
  have h1 : redN (k * a) (k * b) = redN a b := by unfold redN; rw [hg, Int.mul_ediv_mul_of_pos _ _ hk]
  have h2 : redD (k * a) (k * b) = redD a b := by unfold redD; rw [hg, Int.mul_ediv_mul_of_pos _ _ hk]
  refine ⟨h1, h2, ?_⟩
  unfold redN at h1
  unfold redD at h2
  unfold smallB
  rw [h1, h2]

theorem red_in {a b : Int} (h1 : -9223372036854775808 < a) (h2 : a ≤ 9223372036854775807) (h3 : 1 ≤ b) (h4 : b ≤ 9223372036854775807) :
    -9223372036854775808 < redN a b ∧ redN a b ≤ 9223372036854775807 ∧ -9223372036854775808 < redD a b ∧ redD a b ≤ 9223372036854775807 := by
  have hp : 0 < Int.gcd a b := Int.gcd_pos_of_ne_zero_right a (by omega)
  have x := div_gcd_in a b h1 h2 (by omega)
  have y := div_gcd_in b a (by omega) h4 (by rw [Int.gcd_comm]; omega)
  rw [Int.gcd_comm] at y
  exact ⟨x.1, x.2, y.1, y.2⟩

theorem lowest_red (a b x y : Int) (hx : redN a b = x) (hy : redD a b = y) (w : World) (h1 : -9223372036854775808 < a) (h2 : a ≤ 9223372036854775807) (h3 : 1 ≤ b) (h4 : b ≤ 9223372036854775807) :
    Calls Try.prog 25 #[.int .i64 a, .int .i64 b] w fun e w' => e = .returned (.agg #[.int .i64 x, .int .i64 y]) ∧ Below w.heap.size w w' :=
  hx ▸ hy ▸ lowest_any a b w h1 h2 h3 h4

theorem fracref_is (n d t : Int) (h : fracErr n d = t) (w : World) (h1 : -9223372036854775808 ≤ n) (h2 : n ≤ 9223372036854775807) (h3 : -9223372036854775808 ≤ d) (h4 : d ≤ 9223372036854775807) :
    Calls Try.prog 33 #[.agg #[.int .i64 n, .int .i64 d]] w fun e w' => e = .returned (.int .i64 t) ∧ Below w.heap.size w w' := h ▸ checkfracref_any n d w h1 h2 h3 h4

set_option maxRecDepth 100000 in
theorem made_ok (a b : Int) (ht : smallB a b = true) (w : World) (h1 : -9223372036854775808 < a) (h2 : a ≤ 9223372036854775807) (h3 : 1 ≤ b) (h4 : b ≤ 9223372036854775807) :
    Calls Try.prog 108 #[.int .i64 a, .int .i64 b] w fun e w' => e = .returned (.tuple #[.agg #[.int .i64 (redN a b), .int .i64 (redD a b)], .int .i64 0]) ∧ Below w.heap.size w w' := by
  have hE := (small_err h3).1 ht
  obtain ⟨b1, b2, b3, b4⟩ := red_in h1 h2 h3 h4
  obtain ⟨X, hX⟩ : ∃ X, redN a b = X := ⟨_, rfl⟩
  obtain ⟨Y, hY⟩ : ∃ Y, redD a b = Y := ⟨_, rfl⟩
  rw [hX, hY]
  rw [hX, hY] at hE
  rw [hX] at b1 b2
  rw [hY] at b3 b4
  have HX := Lib.hid hX
  have HY := Lib.hid hY
  have HE := Lib.hid hE
  clear hX hY hE ht
  go_enter Try.func108, Try.ntmps108
  go_wp2_with fail
  refine (lowest_red a b X Y HX.out HY.out _ h1 h2 h3 h4).mono ?_
  rintro e w1 ⟨rfl, hb⟩
  have HB1 := Lib.hid (show Below w.heap.size w w1 from step_below hb (by repeat' (first | exact Below.refl _ _ | exact HB0.out | refine below_drewN ?_ _ | refine Below.drew ?_ | refine Below.alloc ?_ (by first | omega | (simp; done) | (simp; omega) | (simp [World.setCell]; omega)) _ | refine Below.setCell ?_ (by first | omega | (simp; done) | (simp; omega)) _ | assumption)))
  have K0_1 := Lib.hid (step_blk hb (show Blk _ (w.heap.size) 53 #[.int .i64 (0), .int .i64 (0)] by repeat' (first | exact Blk.at_ _ (by first | rfl | (simp; done) | (simp; omega)) _ _ | refine Blk.drewN ?_ _ | refine Blk.drew ?_ | refine Blk.alloc ?_ _ | refine Blk.far ?_ (by first | omega | (simp; done) | (simp; omega)) _ | assumption)))
  have hz1 := hb.size
  try simp only [World.size_alloc, World.drewN, World.drew] at hz1
  clear hb
  have l0_1 : w.heap.size < w1.heap.size := K0_1.out.lt
  have z0_0_1 : w1.cell? ⟨w.heap.size, 0, none⟩ = some (.int .i64 (0)) := K0_1.out.cell 0
  have z0_1_1 : w1.cell? ⟨w.heap.size, 1, none⟩ = some (.int .i64 (0)) := K0_1.out.cell 1
  go_wp2_with fail
  refine (fracref_is _ _ _ HE.out _ (by omega) b2 (by omega) b4).mono ?_
  rintro e w2 ⟨rfl, hb⟩
  have HB2 := Lib.hid (show Below w.heap.size w w2 from step_below hb (by repeat' (first | exact Below.refl _ _ | exact HB1.out | refine below_drewN ?_ _ | refine Below.drew ?_ | refine Below.alloc ?_ (by first | omega | (simp; done) | (simp; omega) | (simp [World.setCell]; omega)) _ | refine Below.setCell ?_ (by first | omega | (simp; done) | (simp; omega)) _ | assumption)))
  have K0_2 := Lib.hid (step_blk hb (show Blk _ (w.heap.size) 53 #[.int .i64 (0), .int .i64 (0)] by repeat' (first | exact K0_1.out | exact Blk.at_ _ (by first | rfl | (simp; done) | (simp; omega)) _ _ | refine Blk.drewN ?_ _ | refine Blk.drew ?_ | refine Blk.alloc ?_ _ | refine Blk.far ?_ (by first | omega | (simp; done) | (simp; omega)) _ | assumption)))
  have K1_2 := Lib.hid (step_blk hb (show Blk _ (w1.heap.size) 53 #[.int .i64 (X), .int .i64 (Y)] by repeat' (first | exact K0_1.out | exact Blk.at_ _ (by first | rfl | (simp; done) | (simp; omega)) _ _ | refine Blk.drewN ?_ _ | refine Blk.drew ?_ | refine Blk.alloc ?_ _ | refine Blk.far ?_ (by first | omega | (simp; done) | (simp; omega)) _ | assumption)))
  have hz2 := hb.size
  try simp only [World.size_alloc, World.drewN, World.drew] at hz2
  clear hb K0_1 z0_0_1 z0_1_1 l0_1
  have l0_2 : w.heap.size < w2.heap.size := K0_2.out.lt
  have z0_0_2 : w2.cell? ⟨w.heap.size, 0, none⟩ = some (.int .i64 (0)) := K0_2.out.cell 0
  have z0_1_2 : w2.cell? ⟨w.heap.size, 1, none⟩ = some (.int .i64 (0)) := K0_2.out.cell 1
  have l1_2 : w1.heap.size < w2.heap.size := K1_2.out.lt
  have z1_0_2 : w2.cell? ⟨w1.heap.size, 0, none⟩ = some (.int .i64 (X)) := K1_2.out.cell 0
  have z1_1_2 : w2.cell? ⟨w1.heap.size, 1, none⟩ = some (.int .i64 (Y)) := K1_2.out.cell 1
  have zf0_0 := K0_2.out.frozen 0
  have zf0_1 := K0_2.out.frozen 1
  go_wp2
  exact bodyPost_ret (v := .tuple #[.agg #[.int .i64 X, .int .i64 Y], .int .i64 0]) (by simp [results, Try.results108, go_sem, z0_0_2, z0_1_2, z1_0_2, z1_1_2, l0_2, l1_2]) rfl ⟨rfl, by repeat' (first | exact Below.refl _ _ | exact HB2.out | refine below_drewN ?_ _ | refine Below.drew ?_ | refine Below.alloc ?_ (by first | omega | (simp; done) | (simp; omega) | (simp [World.setCell]; omega)) _ | refine Below.setCell ?_ (by first | omega | (simp; done) | (simp; omega)) _ | assumption)⟩

set_option maxRecDepth 100000 in
theorem made_no (a b : Int) (ht : smallB a b = false) (w : World) (h1 : -9223372036854775808 < a) (h2 : a ≤ 9223372036854775807) (h3 : 1 ≤ b) (h4 : b ≤ 9223372036854775807) :
    Calls Try.prog 108 #[.int .i64 a, .int .i64 b] w fun e w' => e = .returned (.tuple #[.agg #[.int .i64 0, .int .i64 0], .int .i64 8]) ∧ Below w.heap.size w w' := by
  have hE : fracErr (redN a b) (redD a b) ≠ 0 := fun h => by have := (small_err h3).2 h; rw [ht] at this; cases this
  obtain ⟨b1, b2, b3, b4⟩ := red_in h1 h2 h3 h4
  obtain ⟨X, hX⟩ : ∃ X, redN a b = X := ⟨_, rfl⟩
  obtain ⟨Y, hY⟩ : ∃ Y, redD a b = Y := ⟨_, rfl⟩
  rw [hX, hY] at hE
  rw [hX] at b1 b2
  rw [hY] at b3 b4
  obtain ⟨T, hT⟩ : ∃ T, fracErr X Y = T := ⟨_, rfl⟩
  rw [hT] at hE
  have e0 : (T != 0) = true := by simpa using hE
  have HX := Lib.hid hX
  have HY := Lib.hid hY
  have HT := Lib.hid hT
  clear hX hY hE ht hT
  go_enter Try.func108, Try.ntmps108
  go_wp2_with fail
  refine (lowest_red a b X Y HX.out HY.out _ h1 h2 h3 h4).mono ?_
  rintro e w1 ⟨rfl, hb⟩
  have HB1 := Lib.hid (show Below w.heap.size w w1 from step_below hb (by repeat' (first | exact Below.refl _ _ | exact HB0.out | refine below_drewN ?_ _ | refine Below.drew ?_ | refine Below.alloc ?_ (by first | omega | (simp; done) | (simp; omega) | (simp [World.setCell]; omega)) _ | refine Below.setCell ?_ (by first | omega | (simp; done) | (simp; omega)) _ | assumption)))
  have K0_1 := Lib.hid (step_blk hb (show Blk _ (w.heap.size) 53 #[.int .i64 (0), .int .i64 (0)] by repeat' (first | exact Blk.at_ _ (by first | rfl | (simp; done) | (simp; omega)) _ _ | refine Blk.drewN ?_ _ | refine Blk.drew ?_ | refine Blk.alloc ?_ _ | refine Blk.far ?_ (by first | omega | (simp; done) | (simp; omega)) _ | assumption)))
  have hz1 := hb.size
  try simp only [World.size_alloc, World.drewN, World.drew] at hz1
  clear hb
  have l0_1 : w.heap.size < w1.heap.size := K0_1.out.lt
  have z0_0_1 : w1.cell? ⟨w.heap.size, 0, none⟩ = some (.int .i64 (0)) := K0_1.out.cell 0
  have z0_1_1 : w1.cell? ⟨w.heap.size, 1, none⟩ = some (.int .i64 (0)) := K0_1.out.cell 1
  go_wp2_with fail
  refine (fracref_is _ _ T HT.out _ (by omega) b2 (by omega) b4).mono ?_
  rintro e w2 ⟨rfl, hb⟩
  have HB2 := Lib.hid (show Below w.heap.size w w2 from step_below hb (by repeat' (first | exact Below.refl _ _ | exact HB1.out | refine below_drewN ?_ _ | refine Below.drew ?_ | refine Below.alloc ?_ (by first | omega | (simp; done) | (simp; omega) | (simp [World.setCell]; omega)) _ | refine Below.setCell ?_ (by first | omega | (simp; done) | (simp; omega)) _ | assumption)))
  have K0_2 := Lib.hid (step_blk hb (show Blk _ (w.heap.size) 53 #[.int .i64 (0), .int .i64 (0)] by repeat' (first | exact K0_1.out | exact Blk.at_ _ (by first | rfl | (simp; done) | (simp; omega)) _ _ | refine Blk.drewN ?_ _ | refine Blk.drew ?_ | refine Blk.alloc ?_ _ | refine Blk.far ?_ (by first | omega | (simp; done) | (simp; omega)) _ | assumption)))
  have K1_2 := Lib.hid (step_blk hb (show Blk _ (w1.heap.size) 53 #[.int .i64 (X), .int .i64 (Y)] by repeat' (first | exact K0_1.out | exact Blk.at_ _ (by first | rfl | (simp; done) | (simp; omega)) _ _ | refine Blk.drewN ?_ _ | refine Blk.drew ?_ | refine Blk.alloc ?_ _ | refine Blk.far ?_ (by first | omega | (simp; done) | (simp; omega)) _ | assumption)))
  have hz2 := hb.size
  try simp only [World.size_alloc, World.drewN, World.drew] at hz2
  clear hb K0_1 z0_0_1 z0_1_1 l0_1
  have l0_2 : w.heap.size < w2.heap.size := K0_2.out.lt
  have z0_0_2 : w2.cell? ⟨w.heap.size, 0, none⟩ = some (.int .i64 (0)) := K0_2.out.cell 0
  have z0_1_2 : w2.cell? ⟨w.heap.size, 1, none⟩ = some (.int .i64 (0)) := K0_2.out.cell 1
  have l1_2 : w1.heap.size < w2.heap.size := K1_2.out.lt
  have z1_0_2 : w2.cell? ⟨w1.heap.size, 0, none⟩ = some (.int .i64 (X)) := K1_2.out.cell 0
  have z1_1_2 : w2.cell? ⟨w1.heap.size, 1, none⟩ = some (.int .i64 (Y)) := K1_2.out.cell 1
  have zf0_0 := K0_2.out.frozen 0
  have zf0_1 := K0_2.out.frozen 1
  go_wp2
  exact bodyPost_ret (v := .tuple #[.agg #[.int .i64 0, .int .i64 0], .int .i64 8]) (by simp [results, Try.results108, go_sem, z0_0_2, z0_1_2, z1_0_2, z1_1_2, l0_2, l1_2]) rfl ⟨rfl, by repeat' (first | exact Below.refl _ _ | exact HB2.out | refine below_drewN ?_ _ | refine Below.drew ?_ | refine Below.alloc ?_ (by first | omega | (simp; done) | (simp; omega) | (simp [World.setCell]; omega)) _ | refine Below.setCell ?_ (by first | omega | (simp; done) | (simp; omega)) _ | assumption)⟩

/-- What the reference's product answers. -/
def madeV (a b : Int) : Value := if smallB a b then .tuple #[.agg #[.int .i64 (redN a b), .int .i64 (redD a b)], .int .i64 0] else .tuple #[.agg #[.int .i64 0, .int .i64 0], .int .i64 8]

set_option maxRecDepth 100000 in
theorem mulref_ok (an ad bn bd : Int) (ht : smallB (an * bn) (ad * bd) = true) (w : World) (h1 : -9223372036854775808 < an * bn) (h2 : an * bn ≤ 9223372036854775807) (h3 : 1 ≤ ad * bd) (h4 : ad * bd ≤ 9223372036854775807) :
    Calls Try.prog 97 #[.agg #[.int .i64 an, .int .i64 ad], .agg #[.int .i64 bn, .int .i64 bd]] w fun e w' => e = .returned (.tuple #[.agg #[.int .i64 (redN (an * bn) (ad * bd)), .int .i64 (redD (an * bn) (ad * bd))], .int .i64 0]) ∧ Below w.heap.size w w' := by
  have v1 := IntWalk.i64_in (an * bn) ⟨by omega, by omega⟩
  have v2 := IntWalk.i64_in (ad * bd) ⟨by omega, by omega⟩
  have HT := Lib.hid ht
  clear ht
  go_enter Try.func97, Try.ntmps97
  go_wp2_with fail
  refine (made_ok (an * bn) (ad * bd) HT.out _ h1 h2 h3 h4).mono ?_
  rintro e w1 ⟨rfl, hb⟩
  have HB1 := Lib.hid (show Below w.heap.size w w1 from step_below hb (by repeat' (first | exact Below.refl _ _ | exact HB0.out | refine below_drewN ?_ _ | refine Below.drew ?_ | refine Below.alloc ?_ (by first | omega | (simp; done) | (simp; omega) | (simp [World.setCell]; omega)) _ | refine Below.setCell ?_ (by first | omega | (simp; done) | (simp; omega)) _ | assumption)))
  have K0_1 := Lib.hid (step_blk hb (show Blk _ (w.heap.size) 53 #[.int .i64 (an), .int .i64 (ad)] by repeat' (first | exact Blk.at_ _ (by first | rfl | (simp; done) | (simp; omega)) _ _ | refine Blk.drewN ?_ _ | refine Blk.drew ?_ | refine Blk.alloc ?_ _ | refine Blk.far ?_ (by first | omega | (simp; done) | (simp; omega)) _ | assumption)))
  have K1_1 := Lib.hid (step_blk hb (show Blk _ (w.heap.size + 1) 53 #[.int .i64 (bn), .int .i64 (bd)] by repeat' (first | exact Blk.at_ _ (by first | rfl | (simp; done) | (simp; omega)) _ _ | refine Blk.drewN ?_ _ | refine Blk.drew ?_ | refine Blk.alloc ?_ _ | refine Blk.far ?_ (by first | omega | (simp; done) | (simp; omega)) _ | assumption)))
  have K2_1 := Lib.hid (step_blk hb (show Blk _ (w.heap.size + 2) 53 #[.int .i64 (0), .int .i64 (0)] by repeat' (first | exact Blk.at_ _ (by first | rfl | (simp; done) | (simp; omega)) _ _ | refine Blk.drewN ?_ _ | refine Blk.drew ?_ | refine Blk.alloc ?_ _ | refine Blk.far ?_ (by first | omega | (simp; done) | (simp; omega)) _ | assumption)))
  have hz1 := hb.size
  try simp only [World.size_alloc, World.drewN, World.drew] at hz1
  clear hb
  have l0_1 : w.heap.size < w1.heap.size := K0_1.out.lt
  have z0_0_1 : w1.cell? ⟨w.heap.size, 0, none⟩ = some (.int .i64 (an)) := K0_1.out.cell 0
  have z0_1_1 : w1.cell? ⟨w.heap.size, 1, none⟩ = some (.int .i64 (ad)) := K0_1.out.cell 1
  have l1_1 : w.heap.size + 1 < w1.heap.size := K1_1.out.lt
  have z1_0_1 : w1.cell? ⟨w.heap.size + 1, 0, none⟩ = some (.int .i64 (bn)) := K1_1.out.cell 0
  have z1_1_1 : w1.cell? ⟨w.heap.size + 1, 1, none⟩ = some (.int .i64 (bd)) := K1_1.out.cell 1
  have l2_1 : w.heap.size + 2 < w1.heap.size := K2_1.out.lt
  have z2_0_1 : w1.cell? ⟨w.heap.size + 2, 0, none⟩ = some (.int .i64 (0)) := K2_1.out.cell 0
  have z2_1_1 : w1.cell? ⟨w.heap.size + 2, 1, none⟩ = some (.int .i64 (0)) := K2_1.out.cell 1
  have zf2_0 := K2_1.out.frozen 0
  have zf2_1 := K2_1.out.frozen 1
  go_wp2
  exact bodyPost_ret (v := .tuple #[.agg #[.int .i64 (redN (an * bn) (ad * bd)), .int .i64 (redD (an * bn) (ad * bd))], .int .i64 0]) (by simp [results, Try.results97, go_sem, z2_0_1, z2_1_1, l2_1]) rfl ⟨rfl, by repeat' (first | exact Below.refl _ _ | exact HB1.out | refine below_drewN ?_ _ | refine Below.drew ?_ | refine Below.alloc ?_ (by first | omega | (simp; done) | (simp; omega) | (simp [World.setCell]; omega)) _ | refine Below.setCell ?_ (by first | omega | (simp; done) | (simp; omega)) _ | assumption)⟩

set_option maxRecDepth 100000 in
theorem mulref_no (an ad bn bd : Int) (ht : smallB (an * bn) (ad * bd) = false) (w : World) (h1 : -9223372036854775808 < an * bn) (h2 : an * bn ≤ 9223372036854775807) (h3 : 1 ≤ ad * bd) (h4 : ad * bd ≤ 9223372036854775807) :
    Calls Try.prog 97 #[.agg #[.int .i64 an, .int .i64 ad], .agg #[.int .i64 bn, .int .i64 bd]] w fun e w' => e = .returned (.tuple #[.agg #[.int .i64 0, .int .i64 0], .int .i64 8]) ∧ Below w.heap.size w w' := by
  have v1 := IntWalk.i64_in (an * bn) ⟨by omega, by omega⟩
  have v2 := IntWalk.i64_in (ad * bd) ⟨by omega, by omega⟩
  have HT := Lib.hid ht
  clear ht
  go_enter Try.func97, Try.ntmps97
  go_wp2_with fail
  refine (made_no (an * bn) (ad * bd) HT.out _ h1 h2 h3 h4).mono ?_
  rintro e w1 ⟨rfl, hb⟩
  have HB1 := Lib.hid (show Below w.heap.size w w1 from step_below hb (by repeat' (first | exact Below.refl _ _ | exact HB0.out | refine below_drewN ?_ _ | refine Below.drew ?_ | refine Below.alloc ?_ (by first | omega | (simp; done) | (simp; omega) | (simp [World.setCell]; omega)) _ | refine Below.setCell ?_ (by first | omega | (simp; done) | (simp; omega)) _ | assumption)))
  have K0_1 := Lib.hid (step_blk hb (show Blk _ (w.heap.size) 53 #[.int .i64 (an), .int .i64 (ad)] by repeat' (first | exact Blk.at_ _ (by first | rfl | (simp; done) | (simp; omega)) _ _ | refine Blk.drewN ?_ _ | refine Blk.drew ?_ | refine Blk.alloc ?_ _ | refine Blk.far ?_ (by first | omega | (simp; done) | (simp; omega)) _ | assumption)))
  have K1_1 := Lib.hid (step_blk hb (show Blk _ (w.heap.size + 1) 53 #[.int .i64 (bn), .int .i64 (bd)] by repeat' (first | exact Blk.at_ _ (by first | rfl | (simp; done) | (simp; omega)) _ _ | refine Blk.drewN ?_ _ | refine Blk.drew ?_ | refine Blk.alloc ?_ _ | refine Blk.far ?_ (by first | omega | (simp; done) | (simp; omega)) _ | assumption)))
  have K2_1 := Lib.hid (step_blk hb (show Blk _ (w.heap.size + 2) 53 #[.int .i64 (0), .int .i64 (0)] by repeat' (first | exact Blk.at_ _ (by first | rfl | (simp; done) | (simp; omega)) _ _ | refine Blk.drewN ?_ _ | refine Blk.drew ?_ | refine Blk.alloc ?_ _ | refine Blk.far ?_ (by first | omega | (simp; done) | (simp; omega)) _ | assumption)))
  have hz1 := hb.size
  try simp only [World.size_alloc, World.drewN, World.drew] at hz1
  clear hb
  have l0_1 : w.heap.size < w1.heap.size := K0_1.out.lt
  have z0_0_1 : w1.cell? ⟨w.heap.size, 0, none⟩ = some (.int .i64 (an)) := K0_1.out.cell 0
  have z0_1_1 : w1.cell? ⟨w.heap.size, 1, none⟩ = some (.int .i64 (ad)) := K0_1.out.cell 1
  have l1_1 : w.heap.size + 1 < w1.heap.size := K1_1.out.lt
  have z1_0_1 : w1.cell? ⟨w.heap.size + 1, 0, none⟩ = some (.int .i64 (bn)) := K1_1.out.cell 0
  have z1_1_1 : w1.cell? ⟨w.heap.size + 1, 1, none⟩ = some (.int .i64 (bd)) := K1_1.out.cell 1
  have l2_1 : w.heap.size + 2 < w1.heap.size := K2_1.out.lt
  have z2_0_1 : w1.cell? ⟨w.heap.size + 2, 0, none⟩ = some (.int .i64 (0)) := K2_1.out.cell 0
  have z2_1_1 : w1.cell? ⟨w.heap.size + 2, 1, none⟩ = some (.int .i64 (0)) := K2_1.out.cell 1
  have zf2_0 := K2_1.out.frozen 0
  have zf2_1 := K2_1.out.frozen 1
  go_wp2
  exact bodyPost_ret (v := .tuple #[.agg #[.int .i64 0, .int .i64 0], .int .i64 8]) (by simp [results, Try.results97, go_sem, z2_0_1, z2_1_1, l2_1]) rfl ⟨rfl, by repeat' (first | exact Below.refl _ _ | exact HB1.out | refine below_drewN ?_ _ | refine Below.drew ?_ | refine Below.alloc ?_ (by first | omega | (simp; done) | (simp; omega) | (simp [World.setCell]; omega)) _ | refine Below.setCell ?_ (by first | omega | (simp; done) | (simp; omega)) _ | assumption)⟩


end Go.Proofs.Ytoiconebcmneiab

end

section
/- A rule for a region whose order is left open and which holds one call whose result is only known to exist: the class of worlds bears a ghost, which that call chooses. -/
namespace Go.Proofs.Ytoiconebcmneiab.Fx
open Go Go.RowKit

section
variable {P : Program} {ops : Array Oper} {md : Region.Mode} {X : Type}

/-- From the world w the operation yields a value and leaves a world of R. -/
def GivesX (P : Program) (o : Oper) (a : Act) (w : World) (R : Value → World → Prop) : Prop :=
  match (execOp a.eval o).run P w with
  | .ok (.value u) w' => R u w'
  | .ok (.enter f args) w' => Calls P f args w' fun e w'' => ∃ v, e = .returned v ∧ R v w''
  | _ => False

theorem GivesX.congr {o : Oper} {a a' : Act} {w : World} {R : Value → World → Prop} (h : GivesX P o a w R) (he : execOp a'.eval o = execOp a.eval o) : GivesX P o a' w R := by
  unfold GivesX; rw [he]; exact h

theorem GivesX.wp {o : Oper} {a : Act} {w : World} {R : Value → World → Prop} {K : Act → World → Prop} {Q : Exit → Act → World → Prop} (h : GivesX P o a w R) (hk : ∀ v w', R v w' → K (a.put o.dst v) w') : o.wp P a w K Q := by
  unfold Oper.wp
  unfold GivesX at h
  generalize (execOp a.eval o).run P w = r at *
  cases r with
  | halt x w' => exact h.elim
  | ok n w' =>
    cases n
    case value u => exact hk _ _ h
    case enter f args => exact Calls.mono h fun e w'' ⟨v, he, hr⟩ => by subst he; exact hk _ _ hr
    all_goals exact h.elim

/-- Where number i comes up before the ghost is chosen: it chooses it. -/
def SureX (P : Program) (md : Region.Mode) (ops : Array Oper) (C : Option X → Array Bool → World → Prop) (val : X → Value) (i : Nat) (o : Oper) (a : Act) : Prop :=
  Region.wanted o (yielded ops a.tmps) = true ∧ ∀ L w, C none L w → i ∈ Region.ready md ops L → GivesX P o a w fun v w' => ∃ x, v = val x ∧ C (some x) (L.setIfInBounds i true) w'

theorem SureX.same {C : Option X → Array Bool → World → Prop} {val : X → Value} {i : Nat} {o : Oper} {a a' : Act} (h : SureX P md ops C val i o a) (he : execOp a'.eval o = execOp a.eval o)
    (hw : Region.wanted o (yielded ops a'.tmps) = Region.wanted o (yielded ops a.tmps)) : SureX P md ops C val i o a' :=
  ⟨hw.trans h.1, fun L w hc hr => (h.2 L w hc hr).congr he⟩

def anyG (P : Program) (md : Region.Mode) (ops : Array Oper) (C : Option X → Array Bool → World → Prop) (val : X → Value) (s : Nat) (Q : Option X → Array Bool → Act → Prop) : Nat → Option X → Array Bool → Act → Prop
  | 0, g, L, a => Region.ready md ops L = [] ∧ Q g L a
  | n + 1, g, L, a => (Region.ready md ops L = [] → Q g L a) ∧
      ∀ i ∈ Region.ready md ops L, ∃ o, ops[i]? = some o ∧ ((∃ v, Sure P md ops (C g) i o v a ∧ anyG P md ops C val s Q n g (L.setIfInBounds i true) (a.put o.dst v)) ∨
        (g = none ∧ i = s ∧ SureX P md ops C val i o a ∧ ∀ x, anyG P md ops C val s Q n (some x) (L.setIfInBounds i true) (a.put o.dst (val x))))

theorem wpAny_of_anyG {C : Option X → Array Bool → World → Prop} {val : X → Value} {s : Nat} {Q : Option X → Array Bool → Act → Prop} {Q' : Exit → Act → World → Prop} (hQ : ∀ g L a w, C g L w → Q g L a → Q' .normal a w) :
    ∀ (n : Nat) (g : Option X) (L : Array Bool) (a : Act) (w : World), C g L w → anyG P md ops C val s Q n g L a → wpAny P md ops Q' n L a w
  | 0, _, _, _, _, hc, h => ⟨h.1, hQ _ _ _ _ hc h.2⟩
  | n + 1, g, L, a, w, hc, h => ⟨fun h0 => hQ _ _ _ _ hc (h.1 h0), fun i hi => by
      obtain ⟨o, ho, hcs⟩ := h.2 i hi
      unfold wpOp
      simp only [ho]
      rcases hcs with ⟨v, hs, hn⟩ | ⟨rfl, rfl, hs, hn⟩
      · rcases hs with ⟨h1, h2⟩ | ⟨h1, h2, h3⟩
        · rw [if_pos h1]
          exact .inl ((h2 L w hc hi).wp fun w' hw' => wpAny_of_anyG hQ n _ _ _ w' hw' hn)
        · rw [if_neg (by rw [h1]; exact Bool.false_ne_true)]
          subst h2
          exact wpAny_of_anyG hQ n _ _ _ w (h3 L w hc hi) hn
      · rw [if_pos hs.1]
        exact .inl ((hs.2 L w hc hi).wp fun v w' ⟨x, hv, hw'⟩ => by subst hv; exact wpAny_of_anyG hQ n _ _ _ w' hw' (hn x))⟩

theorem anyG_of_anyF {C : Option X → Array Bool → World → Prop} {val : X → Value} {s : Nat} {Q : Option X → Array Bool → Act → Prop} {x : X} :
    ∀ (n : Nat) (L : Array Bool) (a : Act), anyF P md ops (C (some x)) (Q (some x)) n L a → anyG P md ops C val s Q n (some x) L a
  | 0, _, _, h => h
  | n + 1, L, a, h => ⟨h.1, fun i hi => by
      obtain ⟨o, v, ho, hs, hn⟩ := h.2 i hi
      exact ⟨o, ho, .inl ⟨v, hs, anyG_of_anyF n _ _ hn⟩⟩⟩

/-- What may come up may be taken first, if all that could come before it is apart from it. -/
theorem anyG_first {C : Option X → Array Bool → World → Prop} {val : X → Value} {s : Nat} {Q : Option X → Array Bool → Act → Prop} {i : Nat} {oi : Oper} {v : Value} (hi : ops[i]? = some oi) (hsel : ∀ (j : Nat) (o : Oper) cs b, ops[j]? = some o → o.op ≠ .select cs b) :
    ∀ (n : Nat) (g : Option X) (L : Array Bool) (a : Act),
      (∀ j oj, ops[j]? = some oj → j ≠ i → L.getD j true = false → (∀ e ∈ oj.after, Region.binds md e = true → e.on ≠ i) → oi.apart ops oj = true) →
      i ∈ Region.ready md ops L → (∀ g, Sure P md ops (C g) i oi v a) →
      anyG P md ops C val s Q n g (L.setIfInBounds i true) (a.put oi.dst v) → anyG P md ops C val s Q (n + 1) g L a := by
  intro n
  induction n with
  | zero =>
    intro g L a _ hr hs H
    refine ⟨fun h => (by rw [h] at hr; cases hr), fun j hj => ?_⟩
    by_cases hji : j = i
    · subst hji; exact ⟨oi, hi, .inl ⟨v, hs g, H⟩⟩
    · have := ready_mono hj hji
      rw [H.1] at this
      cases this
  | succ n ih =>
    intro g L a hfree hr hs H
    refine ⟨fun h => (by rw [h] at hr; cases hr), fun j hj => ?_⟩
    by_cases hji : j = i
    · subst hji; exact ⟨oi, hi, .inl ⟨v, hs g, H⟩⟩
    · obtain ⟨oj, hoj, hcs⟩ := H.2 j (ready_mono hj hji)
      obtain ⟨hjun, oj', hoj', hall⟩ := mem_ready.1 hj
      obtain rfl : oj' = oj := Option.some.inj (hoj'.symm.trans hoj)
      have hnot : ∀ e ∈ oj'.after, Region.binds md e = true → e.on ≠ i := fun e he hb heq => by
        have h1 := hall e he hb
        have h0 := (mem_ready.1 hr).1
        rw [heq] at h1
        rcases Nat.lt_or_ge i L.size with h' | h'
        · simp [h'] at h0 h1; rw [h0] at h1; cases h1
        · simp [Array.getElem?_eq_none h'] at h1
      obtain ⟨a1, a2, a3⟩ := Oper.apart_spec (hfree j oj' hoj hji hjun hnot)
      have key : ∀ (g' : Option X) (u : Value), anyG P md ops C val s Q n g' ((L.setIfInBounds i true).setIfInBounds j true) ((a.put oi.dst v).put oj'.dst u) → anyG P md ops C val s Q (n + 1) g' (L.setIfInBounds j true) (a.put oj'.dst u) := fun g' u hn => by
        refine ih g' _ _ (fun k ok hk hki hun hno => hfree k ok hk hki ?_ hno) (ready_mono hr (Ne.symm hji))
          (fun g => (hs g).same (execOp_put oi (fun cs b => hsel i oi cs b hi) a oj'.dst u a3) (wanted_put oi a oj'.dst u a3)) ?_
        · by_cases hjk : j = k
          · subst hjk; exact hjun
          · rw [getD_set_ne true hjk] at hun; exact hun
        · rw [Array.setIfInBounds_comm _ _ hji, ← Act.put_comm a v u a2]
          exact hn
      refine ⟨oj', hoj, ?_⟩
      rcases hcs with ⟨u, hsj, hn⟩ | ⟨hg, hjs, hsj, hn⟩
      · exact .inl ⟨u, hsj.same (execOp_put oj' (fun cs b => hsel j oj' cs b hoj) a oi.dst v a1).symm (wanted_put oj' a oi.dst v a1).symm, key g u hn⟩
      · exact .inr ⟨hg, hjs, hsj.same (execOp_put oj' (fun cs b => hsel j oj' cs b hoj) a oi.dst v a1).symm (wanted_put oj' a oi.dst v a1).symm, fun x => key (some x) (val x) (hn x)⟩

/-- The first k have come up. -/
def firstTrue (k n : Nat) : Array Bool := (List.replicate k true ++ List.replicate (n - k) false).toArray

theorem firstTrue_size {k n : Nat} (h : k ≤ n) : (firstTrue k n).size = n := by simp [firstTrue]; omega
theorem firstTrue_getD (k n j : Nat) : (firstTrue k n).getD j false = decide (j < k) := by
  simp only [firstTrue, Array.getD_eq_getD_getElem?, List.getElem?_toArray, List.getElem?_append, List.length_replicate, List.getElem?_replicate]
  split
  · simp_all
  · split <;> simp_all
theorem firstTrue_set {k n : Nat} (h : k < n) : (firstTrue k n).setIfInBounds k true = firstTrue (k + 1) n := by
  unfold firstTrue
  rw [List.setIfInBounds_toArray, List.set_append_right _ _ (by simp), List.length_replicate, Nat.sub_self, show n - k = (n - (k + 1)) + 1 by omega, List.replicate_succ, List.set_cons_zero, List.replicate_succ', List.append_assoc]
  rfl
theorem firstTrue_zero (n : Nat) : firstTrue 0 n = Array.replicate n false := by simp [firstTrue]

theorem GivesX.mono {o : Oper} {a : Act} {w : World} {R R' : Value → World → Prop} (h : GivesX P o a w R) (hr : ∀ v w', R v w' → R' v w') : GivesX P o a w R' := by
  unfold GivesX at *
  generalize (execOp a.eval o).run P w = r at *
  cases r with
  | halt x w' => exact h
  | ok n w' =>
    cases n
    case value u => exact hr _ _ h
    case enter f args => exact Calls.mono h fun e w'' ⟨v, he, hx⟩ => ⟨v, he, hr _ _ hx⟩
    all_goals exact h

/-- The walk in the order of the text up to the call that chooses; behind it the plain walk. -/
def lexE (P : Program) (md : Region.Mode) (ops : Array Oper) (D : Option X → (Nat → Bool) → World → Prop) (val : X → Value) (s : Nat) (Q : X → Act → Prop) : List Oper → Nat → Act → Prop
  | [], _, _ => False
  | o :: l, k, a => (∃ v, ((Region.wanted o (yielded ops a.tmps) = true ∧ ∀ g f w, D g f w → When md ops k f → Gives P o a w v (D g (add f k))) ∨
      (Region.wanted o (yielded ops a.tmps) = false ∧ v = undef ∧ ∀ g f w, D g f w → When md ops k f → D g (add f k) w)) ∧ lexE P md ops D val s Q l (k + 1) (a.put o.dst v)) ∨
    (k = s ∧ (Region.wanted o (yielded ops a.tmps) = true ∧ ∀ f w, D none f w → When md ops k f → GivesX P o a w fun v w' => ∃ x, v = val x ∧ D (some x) (add f k) w') ∧
      ∀ x, lexD P md ops (D (some x)) (Q x) l (k + 1) (a.put o.dst (val x)))

theorem anyG_lex {D : Option X → (Nat → Bool) → World → Prop} {val : X → Value} {s n : Nat} {Q : X → Act → Prop} {Q' : Option X → Array Bool → Act → Prop} (hs : Region.noSelect ops = true) (hn : ops.size = n)
    (hS : Region.ready md ops (firstTrue s n) = [s]) (hQ : ∀ x L a, (∀ j, j < n → L.getD j false = true) → Q x a → Q' (some x) L a) :
    ∀ (l : List Oper) (k : Nat) (a : Act), k + l.length = n → (∀ j, l[j]? = ops[k + j]?) → Region.lexFrom md ops l.length k (firstTrue k n) = true → lexE P md ops D val s Q l k a →
      anyG P md ops (fun g L w => Closed md ops L ∧ D g (fun j => L.getD j false) w) val s Q' l.length none (firstTrue k n) a
  | [], _, _, _, _, _, h => h.elim
  | o :: l, k, a, hk, hl, hB, h => by
    have h0 : ops[k]? = some o := by simpa using (hl 0).symm
    have hkn : k < n := by rw [List.length_cons] at hk; omega
    have hl' : ∀ j, l[j]? = ops[k + 1 + j]? := fun j => by have := hl (j + 1); simpa [Nat.add_assoc, Nat.add_comm 1 j] using this
    simp only [List.length_cons, Region.lexFrom, Bool.and_eq_true] at hB
    obtain ⟨⟨hr, hf⟩, hB'⟩ := hB
    rw [firstTrue_set hkn] at hB'
    have hr' : k ∈ Region.ready md ops (firstTrue k n) := by simpa using hr
    rcases h with ⟨v, hv, hrest⟩ | ⟨hks, ⟨hw, hg⟩, hrest⟩
    · refine anyG_first h0 (Region.noSelect_spec hs) l.length none (firstTrue k n) a (Region.free_spec h0 hf) hr' (v := v) (fun g => ?_) ?_
      · rcases hv with ⟨h1, h2⟩ | ⟨h1, h2, h3⟩
        · refine .inl ⟨h1, fun L' w hc hrd => (h2 g _ w hc.2 (when_of_ready hc.1 hrd)).mono fun w' hw' => ⟨hc.1.set_ hrd, ?_⟩⟩
          rw [add_set (by rw [hc.1.1, hn]; exact hkn)]; exact hw'
        · refine .inr ⟨h1, h2, fun L' w hc hrd => ⟨hc.1.set_ hrd, ?_⟩⟩
          rw [add_set (by rw [hc.1.1, hn]; exact hkn)]; exact h3 g _ w hc.2 (when_of_ready hc.1 hrd)
      · rw [firstTrue_set hkn]
        exact anyG_lex hs hn hS hQ l (k + 1) _ (by rw [List.length_cons] at hk; omega) hl' hB' hrest
    · subst hks
      refine ⟨fun h => (by rw [hS] at h; cases h), fun i hi => ?_⟩
      rw [hS] at hi
      obtain rfl : i = k := by simpa using hi
      refine ⟨o, h0, .inr ⟨rfl, rfl, ⟨hw, fun L' w hc hrd => (hg _ w hc.2 (when_of_ready hc.1 hrd)).mono fun v w' ⟨x, hx, hw'⟩ => ⟨x, hx, hc.1.set_ hrd, ?_⟩⟩, fun x => anyG_of_anyF _ _ _ ?_⟩⟩
      · rw [add_set (by rw [hc.1.1, hn]; exact hkn)]; exact hw'
      · rw [firstTrue_set hkn]
        refine anyF_lex hs l (i + 1) _ _ hl' hB' (lexF_of_lexD n hn (hQ x) l (i + 1) _ _ (by rw [List.length_cons] at hk; omega) (firstTrue_size (by omega)) (fun j hj => ?_) (hrest x))
        rw [firstTrue_getD]; exact decide_eq_true hj

/-- THE RULE with a ghost. -/
theorem regionG {id : Nat} {Q : Exit → Act → World → Prop} {a : Act} {w : World} {l : List Oper} (D : World → Option X → (Nat → Bool) → World → Prop) (val : X → Value) (s : Nat) (hm : P.follows .mixedOrders = true) (hB : Region.lexB .any l.toArray = true)
    (hS : Region.ready .any l.toArray (firstTrue s l.length) = [s]) (h0 : ∀ f, (∀ j, f j = false) → D w none f (w.drewN 1))
    (h : lexE P .any l.toArray (D w) val s (fun x a' => ∀ f w', (∀ j, j < l.length → f j = true) → D w (some x) f w' → Q .normal a' w') l 0 a) : (Code.region id l.toArray true).wp P Q a w := by
  simp only [Region.lexB, Bool.and_eq_true] at hB
  have hz : firstTrue 0 l.length = Array.replicate l.toArray.size false := by rw [firstTrue_zero]; simp
  have := anyG_lex (P := P) (md := .any) (ops := l.toArray) (D := D w) (val := val) (s := s) (n := l.length) (Q := fun x a' => ∀ f w', (∀ j, j < l.length → f j = true) → D w (some x) f w' → Q .normal a' w')
    (Q' := fun g L a' => match g with | none => False | some x => ∀ w', D w (some x) (fun j => L.getD j false) w' → Q .normal a' w') hB.1 (by simp) hS (fun x L a hL hq w' hd => hq _ w' hL hd) l 0 a (by simp) (by simp) (by rw [hz]; simpa using hB.2) h
  rw [hz] at this
  refine wp_region_any hm (wpAny_of_anyG (C := fun g L w' => Closed .any l.toArray L ∧ D w g (fun j => L.getD j false) w') (val := val) (s := s)
    (Q := fun g L a' => match g with | none => False | some x => ∀ w', D w (some x) (fun j => L.getD j false) w' → Q .normal a' w') (fun g L a w hc hq => ?_) _ none _ _ _ ⟨Closed.start _ _, h0 _ (fun j => ?_)⟩ (by simpa using this))
  · cases g with
    | none => exact hq.elim
    | some x => exact hq w hc.2
  · simp only [Array.getD_eq_getD_getElem?, Array.getElem?_replicate]; split <;> rfl

/-! The steps of the walk ahead of the call. -/
variable {D : Option X → (Nat → Bool) → World → Prop} {val : X → Value} {s : Nat} {Q : X → Act → Prop} {l : List Oper} {o : Oper} {a : Act} {k : Nat}

theorem skipE_ (hw : Region.wanted o (yielded ops a.tmps) = false) (hD : ∀ g f w, D g f w → D g (add f k) w) (h : lexE P md ops D val s Q l (k + 1) (a.put o.dst undef)) : lexE P md ops D val s Q (o :: l) k a :=
  .inl ⟨undef, .inr ⟨hw, rfl, fun g f w hd _ => hD g f w hd⟩, h⟩

theorem valE_ (v : Value) (hw : Region.wanted o (yielded ops a.tmps) = true) (hr : ∀ g f w, D g f w → When md ops k f → (execOp a.eval o).run P w = .ok (.value v) w) (hD : ∀ g f w, D g f w → D g (add f k) w)
    (h : lexE P md ops D val s Q l (k + 1) (a.put o.dst v)) : lexE P md ops D val s Q (o :: l) k a :=
  .inl ⟨v, .inl ⟨hw, fun g f w hd hq => by unfold Gives; rw [hr g f w hd hq]; exact ⟨rfl, hD g f w hd⟩⟩, h⟩

/-- A call ahead of it whose result is fixed. -/
theorem callvE_ (v : Value) (n : FuncId) (args : Array Value) (hw : Region.wanted o (yielded ops a.tmps) = true) (hr : ∀ w, (execOp a.eval o).run P w = .ok (.enter n args) w)
    (hc : ∀ g f w, D g f w → When md ops k f → Calls P n args w fun e w'' => e = .returned v ∧ D g (add f k) w'')
    (h : lexE P md ops D val s Q l (k + 1) (a.put o.dst v)) : lexE P md ops D val s Q (o :: l) k a :=
  .inl ⟨v, .inl ⟨hw, fun g f w hd hq => by unfold Gives; rw [hr w]; exact hc g f w hd hq⟩, h⟩

/-- Memory that is made where it is not known ahead: the ghost is its place. -/
theorem makeE_ (hk : k = s) (hw : Region.wanted o (yielded ops a.tmps) = true)
    (hr : ∀ f w, D none f w → When md ops k f → ∃ x w', (execOp a.eval o).run P w = .ok (.value (val x)) w' ∧ D (some x) (add f k) w')
    (h : ∀ x, lexD P md ops (D (some x)) (Q x) l (k + 1) (a.put o.dst (val x))) : lexE P md ops D val s Q (o :: l) k a :=
  .inr ⟨hk, ⟨hw, fun f w hd hq => by
    obtain ⟨x, w', e, hx⟩ := hr f w hd hq
    unfold GivesX
    rw [e]
    exact ⟨x, rfl, hx⟩⟩, h⟩

/-- The call that chooses. -/
theorem callE_ (n : FuncId) (args : Array Value) (hk : k = s) (hw : Region.wanted o (yielded ops a.tmps) = true) (hr : ∀ w, (execOp a.eval o).run P w = .ok (.enter n args) w)
    (hc : ∀ f w, D none f w → When md ops k f → Calls P n args w fun e w'' => ∃ x, e = .returned (val x) ∧ D (some x) (add f k) w'')
    (h : ∀ x, lexD P md ops (D (some x)) (Q x) l (k + 1) (a.put o.dst (val x))) : lexE P md ops D val s Q (o :: l) k a :=
  .inr ⟨hk, ⟨hw, fun f w hd hq => by unfold GivesX; rw [hr w]; exact (hc f w hd hq).mono fun e w'' ⟨x, he, hx⟩ => ⟨_, he, x, rfl, hx⟩⟩, h⟩

end
end Go.Proofs.Ytoiconebcmneiab.Fx

end
