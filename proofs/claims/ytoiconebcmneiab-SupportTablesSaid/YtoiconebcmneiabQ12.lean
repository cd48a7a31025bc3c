import Derived.Test.YtoiconebcmneiabQ11
import Derived.Test.YtoiconebcmneiabQ10
import Derived.Test.YtoiconebcmneiabQ7
import Derived.Test.YtoiconebcmneiabQ1
import Derived.Test.YtoiconebcmneiabQ5
import Derived.Test.YtoiconebcmneiabQ6

section
/- Contracts of the reference's products of fractions, and of the ratio of a pair of gears. -/
namespace Go.Proofs.Ytoiconebcmneiab
open Go.RowKit

theorem small_err {a b : Int} (hb : 1 ≤ b) : smallB a b = true ↔ fracErr (redN a b) (redD a b) = 0 := by
  have hp : 0 < Int.gcd a b := Int.gcd_pos_of_ne_zero_right a (by omega)
  have hg : Int.gcd (a / (Int.gcd a b : Int)) (b / (Int.gcd a b : Int)) = 1 := Int.gcd_ediv_gcd_ediv_gcd hp
  have hd : 0 < b / (Int.gcd a b : Int) := Int.ediv_pos_of_pos_of_dvd (by omega) (by omega) (Int.gcd_dvd_right a b)
  unfold smallB fracErr redN redD
  rw [hg]
  simp only [Bool.and_eq_true, withinB_iff, decide_eq_true_eq]
  constructor
  · rintro ⟨⟨h1, h2⟩, h3⟩
    rw [if_neg (by omega), if_neg (by omega)]
  · intro h
    rw [if_neg (by omega)] at h
    split at h
    · cases h
    · omega

/-- A common factor goes away. -/
theorem red_scale {k : Int} (hk : 0 < k) (a b : Int) : redN (k * a) (k * b) = redN a b ∧ redD (k * a) (k * b) = redD a b ∧ smallB (k * a) (k * b) = smallB a b := by
  have hg : (Int.gcd (k * a) (k * b) : Int) = k * (Int.gcd a b : Int) := by
    rw [Int.gcd_mul_left]
    push_cast
    rw [Int.natAbs_of_nonneg (by omega)]
  have h1 : redN (k * a) (k * b) = redN a b := by unfold redN; rw [hg, Int.mul_ediv_mul_of_pos _ _ hk]
  have h2 : redD (k * a) (k * b) = redD a b := by unfold redD; rw [hg, Int.mul_ediv_mul_of_pos _ _ hk]
  refine ⟨h1, h2, ?_⟩
  unfold redN at h1
  unfold redD at h2
  unfold smallB
  rw [h1, h2]

theorem red_in {a b : Int} (h1 : -9223372036854775808 < a) (h2 : a ≤ 9223372036854775807) (h3 : 1 ≤ b) (h4 : b ≤ 9223372036854775807) :
    -9223372036854775808 < redN a b ∧ redN a b ≤ 9223372036854775807 ∧ -9223372036854775808 < redD a b ∧ redD a b ≤ 9223372036854775807 := by
  have hp : 0 < Int.gcd a b := Int.gcd_pos_of_ne_zero_right a (by omega)
  have x := div_gcd_in a b h1 h2 (by omega)
  have y := div_gcd_in b a (by omega) h4 (by rw [Int.gcd_comm]; omega)
  rw [Int.gcd_comm] at y
  exact ⟨x.1, x.2, y.1, y.2⟩

theorem lowest_red (a b x y : Int) (hx : redN a b = x) (hy : redD a b = y) (w : World) (h1 : -9223372036854775808 < a) (h2 : a ≤ 9223372036854775807) (h3 : 1 ≤ b) (h4 : b ≤ 9223372036854775807) :
    Calls Try.prog 25 #[.int .i64 a, .int .i64 b] w fun e w' => e = .returned (.agg #[.int .i64 x, .int .i64 y]) ∧ Below w.heap.size w w' :=
  hx ▸ hy ▸ lowest_any a b w h1 h2 h3 h4

theorem fracref_is (n d t : Int) (h : fracErr n d = t) (w : World) (h1 : -9223372036854775808 ≤ n) (h2 : n ≤ 9223372036854775807) (h3 : -9223372036854775808 ≤ d) (h4 : d ≤ 9223372036854775807) :
    Calls Try.prog 33 #[.agg #[.int .i64 n, .int .i64 d]] w fun e w' => e = .returned (.int .i64 t) ∧ Below w.heap.size w w' := h ▸ checkfracref_any n d w h1 h2 h3 h4

set_option maxRecDepth 100000 in
theorem made_ok (a b : Int) (ht : smallB a b = true) (w : World) (h1 : -9223372036854775808 < a) (h2 : a ≤ 9223372036854775807) (h3 : 1 ≤ b) (h4 : b ≤ 9223372036854775807) :
    Calls Try.prog 108 #[.int .i64 a, .int .i64 b] w fun e w' => e = .returned (.tuple #[.agg #[.int .i64 (redN a b), .int .i64 (redD a b)], .int .i64 0]) ∧ Below w.heap.size w w' := by
  have hE := (small_err h3).1 ht
  obtain ⟨b1, b2, b3, b4⟩ := red_in h1 h2 h3 h4
  obtain ⟨X, hX⟩ : ∃ X, redN a b = X := ⟨_, rfl⟩
  obtain ⟨Y, hY⟩ : ∃ Y, redD a b = Y := ⟨_, rfl⟩
  rw [hX, hY]
  rw [hX, hY] at hE
  rw [hX] at b1 b2
  rw [hY] at b3 b4
  have HX := Lib.hid hX
  have HY := Lib.hid hY
  have HE := Lib.hid hE
  clear hX hY hE ht
  go_enter Try.func108, Try.ntmps108
  go_wp2_with fail
  refine (lowest_red a b X Y HX.out HY.out _ h1 h2 h3 h4).mono ?_
  rintro e w1 ⟨rfl, hb⟩
  have HB1 := Lib.hid (show Below w.heap.size w w1 from step_below hb (by repeat' (first | exact Below.refl _ _ | exact HB0.out | refine below_drewN ?_ _ | refine Below.drew ?_ | refine Below.alloc ?_ (by first | omega | (simp; done) | (simp; omega) | (simp [World.setCell]; omega)) _ | refine Below.setCell ?_ (by first | omega | (simp; done) | (simp; omega)) _ | assumption)))
  have K0_1 := Lib.hid (step_blk hb (show Blk _ (w.heap.size) 53 #[.int .i64 (0), .int .i64 (0)] by repeat' (first | exact Blk.at_ _ (by first | rfl | (simp; done) | (simp; omega)) _ _ | refine Blk.drewN ?_ _ | refine Blk.drew ?_ | refine Blk.alloc ?_ _ | refine Blk.far ?_ (by first | omega | (simp; done) | (simp; omega)) _ | assumption)))
  have hz1 := hb.size
  try simp only [World.size_alloc, World.drewN, World.drew] at hz1
  clear hb
  have l0_1 : w.heap.size < w1.heap.size := K0_1.out.lt
  have z0_0_1 : w1.cell? ⟨w.heap.size, 0, none⟩ = some (.int .i64 (0)) := K0_1.out.cell 0
  have z0_1_1 : w1.cell? ⟨w.heap.size, 1, none⟩ = some (.int .i64 (0)) := K0_1.out.cell 1
  go_wp2_with fail
  refine (fracref_is _ _ _ HE.out _ (by omega) b2 (by omega) b4).mono ?_
  rintro e w2 ⟨rfl, hb⟩
  have HB2 := Lib.hid (show Below w.heap.size w w2 from step_below hb (by repeat' (first | exact Below.refl _ _ | exact HB1.out | refine below_drewN ?_ _ | refine Below.drew ?_ | refine Below.alloc ?_ (by first | omega | (simp; done) | (simp; omega) | (simp [World.setCell]; omega)) _ | refine Below.setCell ?_ (by first | omega | (simp; done) | (simp; omega)) _ | assumption)))
  have K0_2 := Lib.hid (step_blk hb (show Blk _ (w.heap.size) 53 #[.int .i64 (0), .int .i64 (0)] by repeat' (first | exact K0_1.out | exact Blk.at_ _ (by first | rfl | (simp; done) | (simp; omega)) _ _ | refine Blk.drewN ?_ _ | refine Blk.drew ?_ | refine Blk.alloc ?_ _ | refine Blk.far ?_ (by first | omega | (simp; done) | (simp; omega)) _ | assumption)))
  have K1_2 := Lib.hid (step_blk hb (show Blk _ (w1.heap.size) 53 #[.int .i64 (X), .int .i64 (Y)] by repeat' (first | exact K0_1.out | exact Blk.at_ _ (by first | rfl | (simp; done) | (simp; omega)) _ _ | refine Blk.drewN ?_ _ | refine Blk.drew ?_ | refine Blk.alloc ?_ _ | refine Blk.far ?_ (by first | omega | (simp; done) | (simp; omega)) _ | assumption)))
  have hz2 := hb.size
  try simp only [World.size_alloc, World.drewN, World.drew] at hz2
  clear hb K0_1 z0_0_1 z0_1_1 l0_1
  have l0_2 : w.heap.size < w2.heap.size := K0_2.out.lt
  have z0_0_2 : w2.cell? ⟨w.heap.size, 0, none⟩ = some (.int .i64 (0)) := K0_2.out.cell 0
  have z0_1_2 : w2.cell? ⟨w.heap.size, 1, none⟩ = some (.int .i64 (0)) := K0_2.out.cell 1
  have l1_2 : w1.heap.size < w2.heap.size := K1_2.out.lt
  have z1_0_2 : w2.cell? ⟨w1.heap.size, 0, none⟩ = some (.int .i64 (X)) := K1_2.out.cell 0
  have z1_1_2 : w2.cell? ⟨w1.heap.size, 1, none⟩ = some (.int .i64 (Y)) := K1_2.out.cell 1
  have zf0_0 := K0_2.out.frozen 0
  have zf0_1 := K0_2.out.frozen 1
  go_wp2
  exact bodyPost_ret (v := .tuple #[.agg #[.int .i64 X, .int .i64 Y], .int .i64 0]) (by simp [results, Try.results108, go_sem, z0_0_2, z0_1_2, z1_0_2, z1_1_2, l0_2, l1_2]) rfl ⟨rfl, by repeat' (first | exact Below.refl _ _ | exact HB2.out | refine below_drewN ?_ _ | refine Below.drew ?_ | refine Below.alloc ?_ (by first | omega | (simp; done) | (simp; omega) | (simp [World.setCell]; omega)) _ | refine Below.setCell ?_ (by first | omega | (simp; done) | (simp; omega)) _ | assumption)⟩

set_option maxRecDepth 100000 in
theorem made_no (a b : Int) (ht : smallB a b = false) (w : World) (h1 : -9223372036854775808 < a) (h2 : a ≤ 9223372036854775807) (h3 : 1 ≤ b) (h4 : b ≤ 9223372036854775807) :
    Calls Try.prog 108 #[.int .i64 a, .int .i64 b] w fun e w' => e = .returned (.tuple #[.agg #[.int .i64 0, .int .i64 0], .int .i64 8]) ∧ Below w.heap.size w w' := by
  have hE : fracErr (redN a b) (redD a b) ≠ 0 := fun h => by have := (small_err h3).2 h; rw [ht] at this; cases this
  obtain ⟨b1, b2, b3, b4⟩ := red_in h1 h2 h3 h4
  obtain ⟨X, hX⟩ : ∃ X, redN a b = X := ⟨_, rfl⟩
  obtain ⟨Y, hY⟩ : ∃ Y, redD a b = Y := ⟨_, rfl⟩
  rw [hX, hY] at hE
  rw [hX] at b1 b2
  rw [hY] at b3 b4
  obtain ⟨T, hT⟩ : ∃ T, fracErr X Y = T := ⟨_, rfl⟩
  rw [hT] at hE
  have e0 : (T != 0) = true := by simpa using hE
  have HX := Lib.hid hX
  have HY := Lib.hid hY
  have HT := Lib.hid hT
  clear hX hY hE ht hT
  go_enter Try.func108, Try.ntmps108
  go_wp2_with fail
  refine (lowest_red a b X Y HX.out HY.out _ h1 h2 h3 h4).mono ?_
  rintro e w1 ⟨rfl, hb⟩
  have HB1 := Lib.hid (show Below w.heap.size w w1 from step_below hb (by repeat' (first | exact Below.refl _ _ | exact HB0.out | refine below_drewN ?_ _ | refine Below.drew ?_ | refine Below.alloc ?_ (by first | omega | (simp; done) | (simp; omega) | (simp [World.setCell]; omega)) _ | refine Below.setCell ?_ (by first | omega | (simp; done) | (simp; omega)) _ | assumption)))
  have K0_1 := Lib.hid (step_blk hb (show Blk _ (w.heap.size) 53 #[.int .i64 (0), .int .i64 (0)] by repeat' (first | exact Blk.at_ _ (by first | rfl | (simp; done) | (simp; omega)) _ _ | refine Blk.drewN ?_ _ | refine Blk.drew ?_ | refine Blk.alloc ?_ _ | refine Blk.far ?_ (by first | omega | (simp; done) | (simp; omega)) _ | assumption)))
  have hz1 := hb.size
  try simp only [World.size_alloc, World.drewN, World.drew] at hz1
  clear hb
  have l0_1 : w.heap.size < w1.heap.size := K0_1.out.lt
  have z0_0_1 : w1.cell? ⟨w.heap.size, 0, none⟩ = some (.int .i64 (0)) := K0_1.out.cell 0
  have z0_1_1 : w1.cell? ⟨w.heap.size, 1, none⟩ = some (.int .i64 (0)) := K0_1.out.cell 1
  go_wp2_with fail
  refine (fracref_is _ _ T HT.out _ (by omega) b2 (by omega) b4).mono ?_
  rintro e w2 ⟨rfl, hb⟩
  have HB2 := Lib.hid (show Below w.heap.size w w2 from step_below hb (by repeat' (first | exact Below.refl _ _ | exact HB1.out | refine below_drewN ?_ _ | refine Below.drew ?_ | refine Below.alloc ?_ (by first | omega | (simp; done) | (simp; omega) | (simp [World.setCell]; omega)) _ | refine Below.setCell ?_ (by first | omega | (simp; done) | (simp; omega)) _ | assumption)))
  have K0_2 := Lib.hid (step_blk hb (show Blk _ (w.heap.size) 53 #[.int .i64 (0), .int .i64 (0)] by repeat' (first | exact K0_1.out | exact Blk.at_ _ (by first | rfl | (simp; done) | (simp; omega)) _ _ | refine Blk.drewN ?_ _ | refine Blk.drew ?_ | refine Blk.alloc ?_ _ | refine Blk.far ?_ (by first | omega | (simp; done) | (simp; omega)) _ | assumption)))
  have K1_2 := Lib.hid (step_blk hb (show Blk _ (w1.heap.size) 53 #[.int .i64 (X), .int .i64 (Y)] by repeat' (first | exact K0_1.out | exact Blk.at_ _ (by first | rfl | (simp; done) | (simp; omega)) _ _ | refine Blk.drewN ?_ _ | refine Blk.drew ?_ | refine Blk.alloc ?_ _ | refine Blk.far ?_ (by first | omega | (simp; done) | (simp; omega)) _ | assumption)))
  have hz2 := hb.size
  try simp only [World.size_alloc, World.drewN, World.drew] at hz2
  clear hb K0_1 z0_0_1 z0_1_1 l0_1
  have l0_2 : w.heap.size < w2.heap.size := K0_2.out.lt
  have z0_0_2 : w2.cell? ⟨w.heap.size, 0, none⟩ = some (.int .i64 (0)) := K0_2.out.cell 0
  have z0_1_2 : w2.cell? ⟨w.heap.size, 1, none⟩ = some (.int .i64 (0)) := K0_2.out.cell 1
  have l1_2 : w1.heap.size < w2.heap.size := K1_2.out.lt
  have z1_0_2 : w2.cell? ⟨w1.heap.size, 0, none⟩ = some (.int .i64 (X)) := K1_2.out.cell 0
  have z1_1_2 : w2.cell? ⟨w1.heap.size, 1, none⟩ = some (.int .i64 (Y)) := K1_2.out.cell 1
  have zf0_0 := K0_2.out.frozen 0
  have zf0_1 := K0_2.out.frozen 1
  go_wp2
  exact bodyPost_ret (v := .tuple #[.agg #[.int .i64 0, .int .i64 0], .int .i64 8]) (by simp [results, Try.results108, go_sem, z0_0_2, z0_1_2, z1_0_2, z1_1_2, l0_2, l1_2]) rfl ⟨rfl, by repeat' (first | exact Below.refl _ _ | exact HB2.out | refine below_drewN ?_ _ | refine Below.drew ?_ | refine Below.alloc ?_ (by first | omega | (simp; done) | (simp; omega) | (simp [World.setCell]; omega)) _ | refine Below.setCell ?_ (by first | omega | (simp; done) | (simp; omega)) _ | assumption)⟩

/-- What the reference's product answers. -/
def madeV (a b : Int) : Value := if smallB a b then .tuple #[.agg #[.int .i64 (redN a b), .int .i64 (redD a b)], .int .i64 0] else .tuple #[.agg #[.int .i64 0, .int .i64 0], .int .i64 8]

set_option maxRecDepth 100000 in
theorem mulref_ok (an ad bn bd : Int) (ht : smallB (an * bn) (ad * bd) = true) (w : World) (h1 : -9223372036854775808 < an * bn) (h2 : an * bn ≤ 9223372036854775807) (h3 : 1 ≤ ad * bd) (h4 : ad * bd ≤ 9223372036854775807) :
    Calls Try.prog 97 #[.agg #[.int .i64 an, .int .i64 ad], .agg #[.int .i64 bn, .int .i64 bd]] w fun e w' => e = .returned (.tuple #[.agg #[.int .i64 (redN (an * bn) (ad * bd)), .int .i64 (redD (an * bn) (ad * bd))], .int .i64 0]) ∧ Below w.heap.size w w' := by
  have v1 := IntWalk.i64_in (an * bn) ⟨by omega, by omega⟩
  have v2 := IntWalk.i64_in (ad * bd) ⟨by omega, by omega⟩
  have HT := Lib.hid ht
  clear ht
  go_enter Try.func97, Try.ntmps97
  go_wp2_with fail
  refine (made_ok (an * bn) (ad * bd) HT.out _ h1 h2 h3 h4).mono ?_
  rintro e w1 ⟨rfl, hb⟩
  have HB1 := Lib.hid (show Below w.heap.size w w1 from step_below hb (by repeat' (first | exact Below.refl _ _ | exact HB0.out | refine below_drewN ?_ _ | refine Below.drew ?_ | refine Below.alloc ?_ (by first | omega | (simp; done) | (simp; omega) | (simp [World.setCell]; omega)) _ | refine Below.setCell ?_ (by first | omega | (simp; done) | (simp; omega)) _ | assumption)))
  have K0_1 := Lib.hid (step_blk hb (show Blk _ (w.heap.size) 53 #[.int .i64 (an), .int .i64 (ad)] by repeat' (first | exact Blk.at_ _ (by first | rfl | (simp; done) | (simp; omega)) _ _ | refine Blk.drewN ?_ _ | refine Blk.drew ?_ | refine Blk.alloc ?_ _ | refine Blk.far ?_ (by first | omega | (simp; done) | (simp; omega)) _ | assumption)))
  have K1_1 := Lib.hid (step_blk hb (show Blk _ (w.heap.size + 1) 53 #[.int .i64 (bn), .int .i64 (bd)] by repeat' (first | exact Blk.at_ _ (by first | rfl | (simp; done) | (simp; omega)) _ _ | refine Blk.drewN ?_ _ | refine Blk.drew ?_ | refine Blk.alloc ?_ _ | refine Blk.far ?_ (by first | omega | (simp; done) | (simp; omega)) _ | assumption)))
  have K2_1 := Lib.hid (step_blk hb (show Blk _ (w.heap.size + 2) 53 #[.int .i64 (0), .int .i64 (0)] by repeat' (first | exact Blk.at_ _ (by first | rfl | (simp; done) | (simp; omega)) _ _ | refine Blk.drewN ?_ _ | refine Blk.drew ?_ | refine Blk.alloc ?_ _ | refine Blk.far ?_ (by first | omega | (simp; done) | (simp; omega)) _ | assumption)))
  have hz1 := hb.size
  try simp only [World.size_alloc, World.drewN, World.drew] at hz1
  clear hb
  have l0_1 : w.heap.size < w1.heap.size := K0_1.out.lt
  have z0_0_1 : w1.cell? ⟨w.heap.size, 0, none⟩ = some (.int .i64 (an)) := K0_1.out.cell 0
  have z0_1_1 : w1.cell? ⟨w.heap.size, 1, none⟩ = some (.int .i64 (ad)) := K0_1.out.cell 1
  have l1_1 : w.heap.size + 1 < w1.heap.size := K1_1.out.lt
  have z1_0_1 : w1.cell? ⟨w.heap.size + 1, 0, none⟩ = some (.int .i64 (bn)) := K1_1.out.cell 0
  have z1_1_1 : w1.cell? ⟨w.heap.size + 1, 1, none⟩ = some (.int .i64 (bd)) := K1_1.out.cell 1
  have l2_1 : w.heap.size + 2 < w1.heap.size := K2_1.out.lt
  have z2_0_1 : w1.cell? ⟨w.heap.size + 2, 0, none⟩ = some (.int .i64 (0)) := K2_1.out.cell 0
  have z2_1_1 : w1.cell? ⟨w.heap.size + 2, 1, none⟩ = some (.int .i64 (0)) := K2_1.out.cell 1
  have zf2_0 := K2_1.out.frozen 0
  have zf2_1 := K2_1.out.frozen 1
  go_wp2
  exact bodyPost_ret (v := .tuple #[.agg #[.int .i64 (redN (an * bn) (ad * bd)), .int .i64 (redD (an * bn) (ad * bd))], .int .i64 0]) (by simp [results, Try.results97, go_sem, z2_0_1, z2_1_1, l2_1]) rfl ⟨rfl, by repeat' (first | exact Below.refl _ _ | exact HB1.out | refine below_drewN ?_ _ | refine Below.drew ?_ | refine Below.alloc ?_ (by first | omega | (simp; done) | (simp; omega) | (simp [World.setCell]; omega)) _ | refine Below.setCell ?_ (by first | omega | (simp; done) | (simp; omega)) _ | assumption)⟩

set_option maxRecDepth 100000 in
theorem mulref_no (an ad bn bd : Int) (ht : smallB (an * bn) (ad * bd) = false) (w : World) (h1 : -9223372036854775808 < an * bn) (h2 : an * bn ≤ 9223372036854775807) (h3 : 1 ≤ ad * bd) (h4 : ad * bd ≤ 9223372036854775807) :
    Calls Try.prog 97 #[.agg #[.int .i64 an, .int .i64 ad], .agg #[.int .i64 bn, .int .i64 bd]] w fun e w' => e = .returned (.tuple #[.agg #[.int .i64 0, .int .i64 0], .int .i64 8]) ∧ Below w.heap.size w w' := by
  have v1 := IntWalk.i64_in (an * bn) ⟨by omega, by omega⟩
  have v2 := IntWalk.i64_in (ad * bd) ⟨by omega, by omega⟩
  have HT := Lib.hid ht
  clear ht
  go_enter Try.func97, Try.ntmps97
  go_wp2_with fail
  refine (made_no (an * bn) (ad * bd) HT.out _ h1 h2 h3 h4).mono ?_
  rintro e w1 ⟨rfl, hb⟩
  have HB1 := Lib.hid (show Below w.heap.size w w1 from step_below hb (by repeat' (first | exact Below.refl _ _ | exact HB0.out | refine below_drewN ?_ _ | refine Below.drew ?_ | refine Below.alloc ?_ (by first | omega | (simp; done) | (simp; omega) | (simp [World.setCell]; omega)) _ | refine Below.setCell ?_ (by first | omega | (simp; done) | (simp; omega)) _ | assumption)))
  have K0_1 := Lib.hid (step_blk hb (show Blk _ (w.heap.size) 53 #[.int .i64 (an), .int .i64 (ad)] by repeat' (first | exact Blk.at_ _ (by first | rfl | (simp; done) | (simp; omega)) _ _ | refine Blk.drewN ?_ _ | refine Blk.drew ?_ | refine Blk.alloc ?_ _ | refine Blk.far ?_ (by first | omega | (simp; done) | (simp; omega)) _ | assumption)))
  have K1_1 := Lib.hid (step_blk hb (show Blk _ (w.heap.size + 1) 53 #[.int .i64 (bn), .int .i64 (bd)] by repeat' (first | exact Blk.at_ _ (by first | rfl | (simp; done) | (simp; omega)) _ _ | refine Blk.drewN ?_ _ | refine Blk.drew ?_ | refine Blk.alloc ?_ _ | refine Blk.far ?_ (by first | omega | (simp; done) | (simp; omega)) _ | assumption)))
  have K2_1 := Lib.hid (step_blk hb (show Blk _ (w.heap.size + 2) 53 #[.int .i64 (0), .int .i64 (0)] by repeat' (first | exact Blk.at_ _ (by first | rfl | (simp; done) | (simp; omega)) _ _ | refine Blk.drewN ?_ _ | refine Blk.drew ?_ | refine Blk.alloc ?_ _ | refine Blk.far ?_ (by first | omega | (simp; done) | (simp; omega)) _ | assumption)))
  have hz1 := hb.size
  try simp only [World.size_alloc, World.drewN, World.drew] at hz1
  clear hb
  have l0_1 : w.heap.size < w1.heap.size := K0_1.out.lt
  have z0_0_1 : w1.cell? ⟨w.heap.size, 0, none⟩ = some (.int .i64 (an)) := K0_1.out.cell 0
  have z0_1_1 : w1.cell? ⟨w.heap.size, 1, none⟩ = some (.int .i64 (ad)) := K0_1.out.cell 1
  have l1_1 : w.heap.size + 1 < w1.heap.size := K1_1.out.lt
  have z1_0_1 : w1.cell? ⟨w.heap.size + 1, 0, none⟩ = some (.int .i64 (bn)) := K1_1.out.cell 0
  have z1_1_1 : w1.cell? ⟨w.heap.size + 1, 1, none⟩ = some (.int .i64 (bd)) := K1_1.out.cell 1
  have l2_1 : w.heap.size + 2 < w1.heap.size := K2_1.out.lt
  have z2_0_1 : w1.cell? ⟨w.heap.size + 2, 0, none⟩ = some (.int .i64 (0)) := K2_1.out.cell 0
  have z2_1_1 : w1.cell? ⟨w.heap.size + 2, 1, none⟩ = some (.int .i64 (0)) := K2_1.out.cell 1
  have zf2_0 := K2_1.out.frozen 0
  have zf2_1 := K2_1.out.frozen 1
  go_wp2
  exact bodyPost_ret (v := .tuple #[.agg #[.int .i64 0, .int .i64 0], .int .i64 8]) (by simp [results, Try.results97, go_sem, z2_0_1, z2_1_1, l2_1]) rfl ⟨rfl, by repeat' (first | exact Below.refl _ _ | exact HB1.out | refine below_drewN ?_ _ | refine Below.drew ?_ | refine Below.alloc ?_ (by first | omega | (simp; done) | (simp; omega) | (simp [World.setCell]; omega)) _ | refine Below.setCell ?_ (by first | omega | (simp; done) | (simp; omega)) _ | assumption)⟩


end Go.Proofs.Ytoiconebcmneiab

end

section
/- The contract of Returns: the function value that it hands to the train, then the whole. -/
namespace Go.Proofs.Ytoiconebcmneiab
open Go.RowKit

/-- The turns so far, and whether they were too many. -/
def stepR (s : Int × Bool) (f : Int × Int) : Int × Bool := if s.2 then s else (s.1 / (Int.gcd s.1 f.2 : Int) * f.2, decide (1000000000 < s.1 / (Int.gcd s.1 f.2 : Int) * f.2))

theorem gcd_ret (a b : Int) (w : World) (h1 : 1 ≤ a) (h2 : a ≤ 9223372036854775807) (h3 : 1 ≤ b) (h4 : b ≤ 9223372036854775807) :
    Calls Try.prog 63 #[.int .i64 a, .int .i64 b] w fun e w' => e = .returned (.int .i64 (Int.gcd a b : Int)) ∧ ∃ n, w' = w.drewN n := by
  have hg := gcd_small a b (by omega) h4
  exact (gcdsup_any a b w (by omega) h2 (by omega) h4).mono fun e w' ⟨he, hw⟩ => ⟨by rw [he]; exact ret_int hg, hw⟩

theorem lcm_bound {a b : Int} (h1 : 1 ≤ a) (h2 : a ≤ 1000000000) (h3 : Part b) : 1 ≤ a / (Int.gcd a b : Int) * b ∧ a / (Int.gcd a b : Int) * b ≤ 1000000000000000000 := by
  obtain ⟨b1, b2⟩ := h3
  have hg : 0 < Int.gcd a b := Int.gcd_pos_of_ne_zero_left b (by omega)
  have d1 : (Int.gcd a b : Int) ∣ a := Int.gcd_dvd_left a b
  have p1 : 0 < a / (Int.gcd a b : Int) := Int.ediv_pos_of_pos_of_dvd (by omega) (by omega) d1
  have p2 : a / (Int.gcd a b : Int) ≤ a := Int.ediv_le_self _ (by omega)
  have m1 := Int.mul_le_mul (show 1 ≤ a / (Int.gcd a b : Int) by omega) b1 (by omega) (by omega)
  have m2 := Int.mul_le_mul (show a / (Int.gcd a b : Int) ≤ 1000000000 by omega) b2 (by omega) (by omega)
  omega

/-- What the function value of Returns finds: its two variables, and all below them as it was. -/
structure InvR (w0 : World) (lb tb : Nat) (s : Int × Bool) (w : World) : Prop where
  low : Below w0.heap.size w0 w
  large : Blk w lb 4 #[.bool s.2]
  turns : Blk w tb 3 #[.int .i64 s.1]
  pos : 1 ≤ s.1
  most : s.1 ≤ 1000000000000000000
  small : s.2 = false → s.1 ≤ 1000000000

set_option maxRecDepth 100000 in
set_option maxHeartbeats 1000000 in
theorem returns1_any (w0 : World) (lb tb B : Nat) (hl : w0.heap.size ≤ lb) (ht : w0.heap.size ≤ tb) (hlt : lb ≠ tb) (hlB : lb < B) (htB : tb < B) (s : Int × Bool) (w : World) (f : Int × Int) (hB : B ≤ w.heap.size) (hi : InvR w0 lb tb s w) (p1 : Part f.1) (p2 : Part f.2) :
    Calls Try.prog 76 #[.agg #[.int .i64 f.1, .int .i64 f.2], .pointer (some ⟨lb, 0, none⟩), .pointer (some ⟨tb, 0, none⟩)] w fun e w' => e = .returned (.tuple #[]) ∧ InvR w0 lb tb (stepR s f) w' ∧ Keeps B w w' := by
  obtain ⟨t, lg⟩ := s
  obtain ⟨fn, fd⟩ := f
  obtain ⟨i1, i2, i3, i4, i5, i6⟩ := hi
  have y0 : ∀ o, (w.alloc o).cell? ⟨lb, 0, none⟩ = some (.bool lg) := fun o => (i2.alloc o).cell 0
  have y1 : ∀ o, (w.alloc o).cell? ⟨tb, 0, none⟩ = some (.int .i64 t) := fun o => (i3.alloc o).cell 0
  have I1 := Lib.hid i1
  have I2 := Lib.hid i2
  have I3 := Lib.hid i3
  clear i1 i2 i3
  cases lg with
  | true =>
    go_enter Try.func76, Try.ntmps76
    go_wp2
    go_end0
    refine ⟨rfl, ⟨I1.out.alloc I1.out.size _, I2.out.alloc _, I3.out.alloc _, i4, i5, i6⟩, by simp, fun k _ hk => Below.heap_alloc _ _ _ hk⟩
  | false =>
    have i6' := i6 rfl
    have hb : 1 ≤ t / (Int.gcd t fd : Int) * fd ∧ t / (Int.gcd t fd : Int) * fd ≤ 1000000000000000000 := lcm_bound i4 i6' p2
    obtain ⟨b1, b2⟩ := p2
    have t0 : ¬ t = 0 := by omega
    have hg0 : (Int.gcd t fd : Int) ≠ 0 := by have := Int.gcd_pos_of_ne_zero_left (a := t) fd (by omega); omega
    have hd := div_gcd_in t fd (by omega) (by omega) hg0
    have e1 := tdiv_gcd_left t fd
    have e2 := IntWalk.i64_in (t / (Int.gcd t fd : Int)) ⟨by omega, by omega⟩
    have e3 := IntWalk.i64_in (t / (Int.gcd t fd : Int) * fd) ⟨by omega, by omega⟩
    clear i6
    have y2 : ∀ o v, ((w.alloc o).setCell ⟨tb, 0, none⟩ v).cell? ⟨tb, 0, none⟩ = some v := fun o v => ((I3.out.alloc o).set_ 0 v).cell 0
    have y3 : ∀ o v, ((w.alloc o).setCell ⟨tb, 0, none⟩ v).cell? ⟨lb, 0, none⟩ = some (.bool false) := fun o v => ((I2.out.alloc o).far (by omega) v).cell 0
    go_enter Try.func76, Try.ntmps76
    go_wp2
    refine Fx.regionW (fun W f w' => (f 9 = false → ∃ q, w' = W.drewN q) ∧ (f 9 = true → ∃ q, w' = (W.drewN q).setCell ⟨tb, 0, none⟩ (.int .i64 (t / (Int.gcd t fd : Int) * fd)))) (by kernel_rfl) (by kernel_rfl) ?_ ?_
    · intro f hf0
      exact ⟨fun _ => ⟨1, rfl⟩, fun h => by rw [hf0 9] at h; cases h⟩
    repeat (first
      | (refine Fx.skip_ (by rfl) (fun f w h => h) ?_; simp only [Act.put, List.setIfInBounds_toArray, List.set_cons_zero, List.set_cons_succ])
      | (refine Fx.val_ ?_ (by rfl) ?_ (fun f w h => h) ?_
         rotate_left
         · intro f w' hD hk
           obtain ⟨h1, h2⟩ := id hD
           obtain ⟨q, rfl⟩ := h1 (by first | exact hk.1 | exact (hk.2.1 9 (by kernel_rfl)) | exact (hk.un 9 8 (by kernel_rfl) (hk.2.1 8 (by kernel_rfl))) | exact (hk.un 9 8 (by kernel_rfl) (hk.un 8 5 (by kernel_rfl) (hk.2.1 5 (by kernel_rfl)))) | exact (hk.un 9 8 (by kernel_rfl) (hk.un 8 7 (by kernel_rfl) (hk.2.1 7 (by kernel_rfl)))) | exact (hk.un 9 8 (by kernel_rfl) (hk.un 8 5 (by kernel_rfl) (hk.un 5 4 (by kernel_rfl) (hk.2.1 4 (by kernel_rfl))))) | exact (hk.un 9 8 (by kernel_rfl) (hk.un 8 5 (by kernel_rfl) (hk.un 5 4 (by kernel_rfl) (hk.un 4 3 (by kernel_rfl) (hk.2.1 3 (by kernel_rfl)))))))
           clear hk hD h1 h2
           go_simp
           try rfl
         simp only [Act.put, List.setIfInBounds_toArray, List.set_cons_zero, List.set_cons_succ]))
    refine Fx.call_ (.int .i64 (Int.gcd t fd : Int)) ?_ ?_ (by rfl) ?_ ?_ ?_
    rotate_left 2
    · intro w'
      go_simp
      refine ⟨?_, ?_⟩ <;> rfl
    · intro f w' hD hk
      obtain ⟨h1, h2⟩ := id hD
      obtain ⟨q, rfl⟩ := h1 (by first | exact hk.1 | exact (hk.2.1 9 (by kernel_rfl)) | exact (hk.un 9 8 (by kernel_rfl) (hk.2.1 8 (by kernel_rfl))) | exact (hk.un 9 8 (by kernel_rfl) (hk.un 8 5 (by kernel_rfl) (hk.2.1 5 (by kernel_rfl)))) | exact (hk.un 9 8 (by kernel_rfl) (hk.un 8 7 (by kernel_rfl) (hk.2.1 7 (by kernel_rfl)))) | exact (hk.un 9 8 (by kernel_rfl) (hk.un 8 5 (by kernel_rfl) (hk.un 5 4 (by kernel_rfl) (hk.2.1 4 (by kernel_rfl))))) | exact (hk.un 9 8 (by kernel_rfl) (hk.un 8 5 (by kernel_rfl) (hk.un 5 4 (by kernel_rfl) (hk.un 4 3 (by kernel_rfl) (hk.2.1 3 (by kernel_rfl)))))))
      have h9 : f 9 = false := by first | exact hk.1 | exact (hk.2.1 9 (by kernel_rfl)) | exact (hk.un 9 8 (by kernel_rfl) (hk.2.1 8 (by kernel_rfl))) | exact (hk.un 9 8 (by kernel_rfl) (hk.un 8 5 (by kernel_rfl) (hk.2.1 5 (by kernel_rfl)))) | exact (hk.un 9 8 (by kernel_rfl) (hk.un 8 7 (by kernel_rfl) (hk.2.1 7 (by kernel_rfl)))) | exact (hk.un 9 8 (by kernel_rfl) (hk.un 8 5 (by kernel_rfl) (hk.un 5 4 (by kernel_rfl) (hk.2.1 4 (by kernel_rfl))))) | exact (hk.un 9 8 (by kernel_rfl) (hk.un 8 5 (by kernel_rfl) (hk.un 5 4 (by kernel_rfl) (hk.un 4 3 (by kernel_rfl) (hk.2.1 3 (by kernel_rfl))))))
      exact (gcd_ret t fd _ i4 (by omega) b1 (by omega)).mono fun e w'' ⟨he, q', hw⟩ => ⟨he, fun _ => ⟨q + q', by rw [hw, World.drewN_drewN]⟩, fun h => by simp [Fx.add, h9] at h⟩
    simp only [Act.put, List.setIfInBounds_toArray, List.set_cons_zero, List.set_cons_succ]
    repeat (first
      | (refine Fx.skip_ (by rfl) (fun f w h => h) ?_; simp only [Act.put, List.setIfInBounds_toArray, List.set_cons_zero, List.set_cons_succ])
      | (refine Fx.val_ ?_ (by rfl) ?_ (fun f w h => h) ?_
         rotate_left
         · intro f w' hD hk
           obtain ⟨h1, h2⟩ := id hD
           obtain ⟨q, rfl⟩ := h1 (by first | exact hk.1 | exact (hk.2.1 9 (by kernel_rfl)) | exact (hk.un 9 8 (by kernel_rfl) (hk.2.1 8 (by kernel_rfl))) | exact (hk.un 9 8 (by kernel_rfl) (hk.un 8 5 (by kernel_rfl) (hk.2.1 5 (by kernel_rfl)))) | exact (hk.un 9 8 (by kernel_rfl) (hk.un 8 7 (by kernel_rfl) (hk.2.1 7 (by kernel_rfl)))) | exact (hk.un 9 8 (by kernel_rfl) (hk.un 8 5 (by kernel_rfl) (hk.un 5 4 (by kernel_rfl) (hk.2.1 4 (by kernel_rfl))))) | exact (hk.un 9 8 (by kernel_rfl) (hk.un 8 5 (by kernel_rfl) (hk.un 5 4 (by kernel_rfl) (hk.un 4 3 (by kernel_rfl) (hk.2.1 3 (by kernel_rfl)))))))
           clear hk hD h1 h2
           go_simp
           try rfl
         simp only [Act.put, List.setIfInBounds_toArray, List.set_cons_zero, List.set_cons_succ]))
    refine Fx.store_ (fun w' => w'.setCell ⟨tb, 0, none⟩ (.int .i64 (t / (Int.gcd t fd : Int) * fd))) (by rfl) ?_ ?_ ?_
    · intro f w' hD hk
      obtain ⟨h1, h2⟩ := id hD
      obtain ⟨q, rfl⟩ := h1 hk.1
      have z1 := y1 (.cells #[.int .i64 fn, .int .i64 fd] 53)
      have z2 := (I3.out.alloc (.cells #[.int .i64 fn, .int .i64 fd] 53)).frozen 0
      clear hk hD
      go_simp
    · intro f w' hD hk
      obtain ⟨h1, h2⟩ := id hD
      obtain ⟨q, rfl⟩ := h1 hk.1
      exact ⟨fun h => by simp [Fx.add] at h, fun _ => ⟨q, rfl⟩⟩
    simp only [Act.put, List.setIfInBounds_toArray, List.set_cons_zero, List.set_cons_succ]
    refine Fx.nil_ ?_
    intro f w1 hall hD
    have hf9 := hall 9 (by simp)
    obtain ⟨_, h2⟩ := hD
    simp only [hf9, if_true] at *
    obtain ⟨q, rfl⟩ := h2 (by first | rfl | trivial)
    try clear hall
    clear h2
    have y4 := y2 (.cells #[.int .i64 fn, .int .i64 fd] 53) (.int .i64 (t / (Int.gcd t fd : Int) * fd))
    have y5 := y3 (.cells #[.int .i64 fn, .int .i64 fd] 53) (.int .i64 (t / (Int.gcd t fd : Int) * fd))
    have x1 := Lib.hid ((below_drewN (I1.out.alloc I1.out.size (.cells #[.int .i64 fn, .int .i64 fd] 53)) q).setCell (p := ⟨tb, 0, none⟩) ht (.int .i64 (t / (Int.gcd t fd : Int) * fd)))
    have y6 : (w.alloc (.cells #[.int .i64 fn, .int .i64 fd] 53)).frozen? ⟨lb, 0, none⟩ = false := (I2.out.alloc _).frozen 0
    go_wp2
    go_end0
    refine ⟨rfl, ?_, ?_⟩
    · refine ⟨x1.out.setCell (p := ⟨lb, 0, none⟩) hl _, (((I2.out.alloc _).far (p := ⟨tb, 0, none⟩) (by show lb ≠ tb; omega) _)).set_ 0 _, ((((I3.out.alloc _)).set_ 0 _).far (p := ⟨lb, 0, none⟩) (by show tb ≠ lb; omega) _), hb.1, hb.2, fun h => ?_⟩
      have : decide (1000000000 < t / (Int.gcd t fd : Int) * fd) = false := h
      have := of_decide_eq_false this
      show t / (Int.gcd t fd : Int) * fd ≤ _
      omega
    · refine ⟨by simp [World.setCell], fun k hk1 hk2 => ?_⟩
      have n1 : k ≠ lb := by omega
      have n2 : k ≠ tb := by omega
      rw [Below.heap_setCell _ ⟨lb, 0, none⟩ _ _ n1, Below.heap_setCell _ ⟨tb, 0, none⟩ _ _ n2]
      exact Below.heap_alloc _ _ _ hk2

theorem returns1_each (w0 : World) (lb tb B : Nat) (hl : w0.heap.size ≤ lb) (ht : w0.heap.size ≤ tb) (hlt : lb ≠ tb) (hlB : lb < B) (htB : tb < B) :
    Each B 76 #[.pointer (some ⟨lb, 0, none⟩), .pointer (some ⟨tb, 0, none⟩)] (InvR w0 lb tb) stepR where
  ent := fun _ _ => by kernel_rfl
  call := fun s w f hB hi p1 p2 => returns1_any w0 lb tb B hl ht hlt hlB htB s w f hB hi p1 p2
  keep := fun s w w' hi hb => ⟨hi.low.trans (hb.mono (by omega)), hi.large.below hb hlB, hi.turns.below hb htB, hi.pos, hi.most, hi.small⟩

def trainR (l : List (Int × Int)) : (Int × Bool) × Bool := trainF stepR (stepR (1, false) (1, 1)) (1, 1) l
/-- When all axes are back, or an error. -/
def returnsF (l : List (Int × Int)) : Int × Int := if trainErr l ≠ 0 then (0, trainErr l) else if (trainR l).2 = false ∨ (trainR l).1.2 = true then (0, 8) else ((trainR l).1.1, 0)

theorem trainErr_ok {l : List (Int × Int)} (h : trainErr l = 0) : l.length ≤ 12 ∧ l.all okP = true := by
  unfold trainErr at h
  split at h
  · exact absurd h (by decide)
  · split at h
    · exact ⟨by omega, by assumption⟩
    · exact absurd h (by decide)

def ReturnsPost (l : List (Int × Int)) (w : World) (e : Ending) (w' : World) : Prop := e = .returned (.tuple #[.int .i64 (returnsF l).1, .int .i64 (returnsF l).2]) ∧ Below w.heap.size w w'

set_option maxHeartbeats 1000000 in
theorem returns_any (A : Option Addr) (n c N : Nat) (l : List (Int × Int)) (w : World) (hx : Reads w N 2 A n (cells2 l)) (hN : N ≤ w.heap.size) (hn : n ≤ 9223372036854775807) :
    Calls Try.prog 32 #[.slice A n c] w (ReturnsPost l w) := by
  have HX := Lib.hid hx
  clear hx
  by_cases h0 : trainErr l = 0
  · obtain ⟨hlen, hok⟩ := trainErr_ok h0
    have hF : returnsF l = if (trainR l).2 = false ∨ (trainR l).1.2 = true then (0, 8) else ((trainR l).1.1, 0) := by unfold returnsF; rw [if_neg (by rw [h0]; simp)]
    have HF := Lib.hid hF
    have H0 := Lib.hid h0
    have HOK := Lib.hid hok
    clear hF hok
    go_enter Try.func32, Try.ntmps32
    go_wp2_with (first | (go_at_call 71; refine (checktrain_is A n c N l 0 H0.out _ HX.out hN hn).mono ?_; rintro e w1 ⟨rfl, hb⟩))
    have hz1 := hb.size
    have hrd := HX.out.belowLe hb hN
    have HB := Lib.hid hb
    have HRD := Lib.hid hrd
    clear hb hrd
    obtain ⟨⟨⟨t, lg⟩, ok⟩, htr⟩ : ∃ r, trainR l = r := ⟨_, rfl⟩
    have HTR := Lib.hid htr
    clear htr
    refine (train_is (w1.heap.size + 2) 76 #[.pointer (some ⟨w1.heap.size + 1, 0, none⟩), .pointer (some ⟨w1.heap.size, 0, none⟩)] (InvR w1 (w1.heap.size + 1) w1.heap.size) stepR (returns1_each w1 _ _ _ (by omega) (by omega) (by omega) (by omega) (by omega)) A n c N l _ (1, false) (t, lg) ok HTR.out (by simp) (by omega) (fun s w' hi => HRD.out.belowLe hi.low (by omega)) ⟨((Below.refl _ _).alloc (Nat.le_refl _) _).alloc (by simp) _, Blk.at_ _ (by simp) _ _, (Blk.new _ _ _).alloc _, by decide, by decide, fun _ => by decide⟩ hn HOK.out).mono ?_
    rintro e w2 ⟨rfl, hi⟩
    have y0 : w2.cell? ⟨w1.heap.size + 1, 0, none⟩ = some (.bool lg) := hi.large.cell 0
    have y1 : w2.cell? ⟨w1.heap.size, 0, none⟩ = some (.int .i64 t) := hi.turns.cell 0
    have hbb := HB.out.trans (hi.low.mono hz1)
    have HBB := Lib.hid hbb
    clear hi hbb
    cases ok with
    | false =>
      go_wp2
      go_ret2
      exact ⟨by rw [HF.out, HTR.out]; rfl, HBB.out⟩
    | true =>
      cases lg with
      | false =>
        go_wp2
        go_ret2
        exact ⟨by rw [HF.out, HTR.out]; rfl, HBB.out⟩
      | true =>
        go_wp2
        go_ret2
        exact ⟨by rw [HF.out, HTR.out]; rfl, HBB.out⟩
  · have hF : returnsF l = (0, trainErr l) := by unfold returnsF; rw [if_pos h0]
    have hne : (trainErr l != 0) = true := by simpa using h0
    have HF := Lib.hid hF
    clear hF h0
    go_enter Try.func32, Try.ntmps32
    go_wp2_with (first | (go_at_call 71; refine (checktrain_any A n c N l _ HX.out hN hn).mono ?_; rintro e w1 ⟨rfl, hb⟩))
    go_ret2
    exact ⟨by rw [HF.out]; rfl, hb⟩

end Go.Proofs.Ytoiconebcmneiab

end

section
/- The class of worlds of a region whose order is left open and which makes a struct of two cells and stores into it. -/
namespace Go.Proofs.Ytoiconebcmneiab
open Go.RowKit

/-- All that was there is as it was; the new block x, once it is made, holds two cells: v0 and v1 when operation s (the store) has come. -/
def MkD (T : TypeId) (v0 v1 : Value) (s : Nat) (W : World) (g : Option Nat) (f : Nat → Bool) (w' : World) : Prop :=
  Below W.heap.size W w' ∧ ∀ x, g = some x → W.heap.size ≤ x ∧ ∃ e0 e1, Blk w' x T #[e0, e1] ∧ (f s = true → e0 = v0 ∧ e1 = v1)

section
variable {T : TypeId} {v0 v1 : Value} {s : Nat} {W w' w'' : World} {g : Option Nat} {f : Nat → Bool} {x k : Nat}
theorem add_ne (hk : k ≠ s) : Fx.add f k s = f s := by
  unfold Fx.add
  cases h : s.beq k with
  | false => simp
  | true => exact absurd (Nat.eq_of_beq_eq_true h).symm hk
theorem MkD.start (h : Below W.heap.size W w') : MkD T v0 v1 s W none f w' := ⟨h, fun x h => by cases h⟩
theorem MkD.step (h : MkD T v0 v1 s W g f w') (hb : Below w'.heap.size w' w'') (hk : k ≠ s) : MkD T v0 v1 s W g (Fx.add f k) w'' := by
  refine ⟨h.1.trans (hb.mono h.1.size), fun x hx => ?_⟩
  obtain ⟨h1, e0, e1, h2, h3⟩ := h.2 x hx
  exact ⟨h1, e0, e1, h2.below hb h2.lt, fun h => h3 (by rwa [add_ne hk] at h)⟩
theorem MkD.make {a b : Value} (h : MkD T v0 v1 s W none f w') (hs : f s = false) (hk : k ≠ s) : MkD T v0 v1 s W (some w'.heap.size) (Fx.add f k) (w'.alloc (.cells #[a, b] T)) := by
  refine ⟨h.1.alloc h.1.size _, fun x hx => ?_⟩
  cases hx
  refine ⟨h.1.size, a, b, Blk.new _ _ _, fun h => ?_⟩
  rw [add_ne hk, hs] at h
  cases h
theorem MkD.store (h : MkD T v0 v1 s W (some x) f w') : MkD T v0 v1 s W (some x) (Fx.add f s) ((w'.setCell ⟨x, 0, none⟩ v0).setCell ⟨x, 1, none⟩ v1) := by
  obtain ⟨h1, e0, e1, h2, -⟩ := h.2 x rfl
  refine ⟨(h.1.setCell (p := ⟨x, 0, none⟩) h1 _).setCell (p := ⟨x, 1, none⟩) h1 _, fun y hy => ?_⟩
  cases hy
  refine ⟨h1, v0, v1, ?_, fun _ => ⟨rfl, rfl⟩⟩
  have := (h2.set_ 0 v0).set_ 1 v1
  simpa using this
theorem MkD.cells (h : MkD T v0 v1 s W (some x) f w') : ∃ e0 e1, w'.cell? ⟨x, 0, none⟩ = some e0 ∧ w'.cell? ⟨x, 1, none⟩ = some e1 ∧ w'.frozen? ⟨x, 0, none⟩ = false ∧ w'.frozen? ⟨x, 1, none⟩ = false := by
  obtain ⟨h1, e0, e1, h2, -⟩ := h.2 x rfl
  exact ⟨e0, e1, h2.cell 0, h2.cell 1, h2.frozen 0, h2.frozen 1⟩
end

/-- A block g of two cells is stored into, each cell once (operations s0, s1); all below g is as it was. -/
def UpD (T : TypeId) (g : Nat) (r0 r1 m0 m1 : Value) (s0 s1 : Nat) (W : World) (f : Nat → Bool) (w' : World) : Prop :=
  Below g W w' ∧ ∃ e0 e1, Blk w' g T #[e0, e1] ∧ (f s0 = false → e0 = r0) ∧ (f s0 = true → e0 = m0) ∧ (f s1 = false → e1 = r1) ∧ (f s1 = true → e1 = m1)
section
variable {T : TypeId} {g : Nat} {r0 r1 m0 m1 : Value} {s0 s1 k : Nat} {W w' w'' : World} {f : Nat → Bool}
theorem add_eq : Fx.add f k k = true := by
  unfold Fx.add
  rw [show Nat.beq k k = true from Nat.beq_refl k]
  rfl
theorem UpD.start (h : Below g W w') (hg : Blk w' g T #[r0, r1]) (h0 : f s0 = false) (h1 : f s1 = false) : UpD T g r0 r1 m0 m1 s0 s1 W f w' :=
  ⟨h, r0, r1, hg, fun _ => rfl, fun e => (by rw [h0] at e; cases e), fun _ => rfl, fun e => (by rw [h1] at e; cases e)⟩
theorem UpD.same (h : UpD T g r0 r1 m0 m1 s0 s1 W f w') (k0 : k ≠ s0) (k1 : k ≠ s1) : UpD T g r0 r1 m0 m1 s0 s1 W (Fx.add f k) w' := by
  obtain ⟨h1, e0, e1, h2, a, b, c, d⟩ := h
  refine ⟨h1, e0, e1, h2, ?_, ?_, ?_, ?_⟩
  · rw [add_ne k0]; exact a
  · rw [add_ne k0]; exact b
  · rw [add_ne k1]; exact c
  · rw [add_ne k1]; exact d
theorem UpD.store0 (h : UpD T g r0 r1 m0 m1 s0 s1 W f w') (hne : s0 ≠ s1) : UpD T g r0 r1 m0 m1 s0 s1 W (Fx.add f s0) (w'.setCell ⟨g, 0, none⟩ m0) := by
  obtain ⟨h1, e0, e1, h2, a, b, c, d⟩ := h
  refine ⟨h1.setCell (p := ⟨g, 0, none⟩) (Nat.le_refl _) _, m0, e1, by simpa using h2.set_ 0 m0, fun e => ?_, fun _ => rfl, ?_, ?_⟩
  · rw [add_eq] at e; cases e
  · rw [add_ne hne]; exact c
  · rw [add_ne hne]; exact d
theorem UpD.store1 (h : UpD T g r0 r1 m0 m1 s0 s1 W f w') (hne : s0 ≠ s1) : UpD T g r0 r1 m0 m1 s0 s1 W (Fx.add f s1) (w'.setCell ⟨g, 1, none⟩ m1) := by
  obtain ⟨h1, e0, e1, h2, a, b, c, d⟩ := h
  refine ⟨h1.setCell (p := ⟨g, 1, none⟩) (Nat.le_refl _) _, e0, m1, by simpa using h2.set_ 1 m1, ?_, ?_, fun e => ?_, fun _ => rfl⟩
  · rw [add_ne (Ne.symm hne)]; exact a
  · rw [add_ne (Ne.symm hne)]; exact b
  · rw [add_eq] at e; cases e
theorem UpD.read0 (h : UpD T g r0 r1 m0 m1 s0 s1 W f w') (h0 : f s0 = false) : w'.cell? ⟨g, 0, none⟩ = some r0 ∧ w'.frozen? ⟨g, 0, none⟩ = false := by
  obtain ⟨h1, e0, e1, h2, a, b, c, d⟩ := h
  exact ⟨a h0 ▸ h2.cell 0, h2.frozen 0⟩
theorem UpD.read1 (h : UpD T g r0 r1 m0 m1 s0 s1 W f w') (h0 : f s1 = false) : w'.cell? ⟨g, 1, none⟩ = some r1 ∧ w'.frozen? ⟨g, 1, none⟩ = false := by
  obtain ⟨h1, e0, e1, h2, a, b, c, d⟩ := h
  exact ⟨c h0 ▸ h2.cell 1, h2.frozen 1⟩
/-- Only cell 1 is stored into. -/
theorem UpD.end1 (h : UpD T g r0 r1 r0 m1 s0 s1 W f w') (h1 : f s1 = true) : Below g W w' ∧ Blk w' g T #[r0, m1] := by
  obtain ⟨h1', e0, e1, h2, a, b, c, d⟩ := h
  have e : e0 = r0 := by
    cases hf : f s0 with
    | false => exact a hf
    | true => exact b hf
  exact ⟨h1', e ▸ d h1 ▸ h2⟩
/-- Only cell 0 is stored into. -/
theorem UpD.end0 (h : UpD T g r0 r1 m0 r1 s0 s1 W f w') (h1 : f s0 = true) : Below g W w' ∧ Blk w' g T #[m0, r1] := by
  obtain ⟨h1', e0, e1, h2, a, b, c, d⟩ := h
  have e : e1 = r1 := by
    cases hf : f s1 with
    | false => exact c hf
    | true => exact d hf
  exact ⟨h1', b h1 ▸ e ▸ h2⟩
theorem UpD.start' (h : Below g W w') (hg : Blk w' g T #[r0, r1]) (h0 : f s0 = false) (h1 : f s1 = false) : UpD T g r0 r1 m0 m1 s0 s1 W f w' := UpD.start h hg h0 h1
theorem UpD.end_ (h : UpD T g r0 r1 m0 m1 s0 s1 W f w') (h0 : f s0 = true) (h1 : f s1 = true) : Below g W w' ∧ Blk w' g T #[m0, m1] := by
  obtain ⟨h1', e0, e1, h2, a, b, c, d⟩ := h
  exact ⟨h1', b h0 ▸ d h1 ▸ h2⟩
end

end Go.Proofs.Ytoiconebcmneiab

end

section
/- The reference's functions on trains of gears: the check, the products, the ratio and the turns. -/
namespace Go.Proofs.Ytoiconebcmneiab
open Go.RowKit

theorem rchecktrain_any (A : Option Addr) (n c N : Nat) (l : List (Int × Int)) (w : World) (hx : Reads w N 2 A n (cells2 l)) (hN : N ≤ w.heap.size) (hn : n ≤ 9223372036854775807) :
    Calls Try.prog 29 #[.slice A n c] w fun e w' => e = .returned (.int .i64 (trainErr l)) ∧ Below w.heap.size w w' := by
  have hxl := Lib.hid hx.len2
  have HX := Lib.hid hx
  clear hx
  by_cases h12 : (12 : Int) < n
  · have HE : Hid (trainErr l = 8) := by show _ = _; unfold trainErr; rw [if_pos (by rw [hxl.out]; omega)]
    go_enter Try.func29, Try.ntmps29
    go_wp2
    go_ret
    exact ⟨ret_int HE.out.symm, Below.refl _ _⟩
  have HE : Hid (trainErr l = if l.all okP then 0 else 2) := by show _ = _; unfold trainErr; rw [if_neg (by rw [hxl.out]; omega)]
  go_enter Try.func29, Try.ntmps29
  go_wp2
  go_loopw [3] (fun i wr => ∃ k : Nat, k ≤ n ∧ i = .int .i64 k ∧ (l.take k).all okP = true ∧ Below w.heap.size w wr) (fun i _ => n - (intOf i).toNat)
  case atStart => exact ⟨0, by omega, rfl, rfl, Below.refl _ _⟩
  case round =>
    obtain ⟨k, hk, rfl, ht, hb⟩ := hrel
    have HT := Lib.hid ht
    have HB := Lib.hid hb
    clear ht hb
    by_cases hlt : k < n
    · obtain ⟨xb, xo, p, rfl, hxb, hp, c0, c1⟩ := (HX.out.belowLe HB.out hN).pair hlt
      have HP := Lib.hid hp
      clear hp
      cases h1 : withinB p.1 1 500 with
      | false =>
        have HO := Lib.hid (okP_no1 h1)
        go_wp2_with (first | (go_at_call 70; refine (isteeth_any _ _ (by assumption) _).mono ?_; rintro e w' ⟨rfl, rfl⟩))
        go_ret
        exact ⟨ret_int (by rw [HE.out, all_no HP.out HO.out]; rfl), HB.out⟩
      | true =>
        cases h2 : withinB p.2 1 500 with
        | false =>
          have HO := Lib.hid (okP_no2 h2)
          go_wp2_with (first | (go_at_call 70; refine (isteeth_any _ _ (by assumption) _).mono ?_; rintro e w' ⟨rfl, rfl⟩))
          go_ret
          exact ⟨ret_int (by rw [HE.out, all_no HP.out HO.out]; rfl), HB.out⟩
        | true =>
          have HO := Lib.hid (okP_yes h1 h2)
          go_wp2_with (first | (go_at_call 70; refine (isteeth_any _ _ (by assumption) _).mono ?_; rintro e w' ⟨rfl, rfl⟩))
          go_roundw
          case rel => exact ⟨k + 1, by omega, by go_num, all_take_succ HT.out HP.out HO.out, HB.out⟩
          case measure => simp [intOf]; omega
    · go_wp2
      go_ret
      have e : l.take k = l := List.take_of_length_le (by rw [hxl.out]; omega)
      exact ⟨ret_int (by rw [HE.out, ← e, HT.out]; rfl), HB.out⟩

theorem rchecktrain_is (A : Option Addr) (n c N : Nat) (l : List (Int × Int)) (t : Int) (h : trainErr l = t) (w : World) (hx : Reads w N 2 A n (cells2 l)) (hN : N ≤ w.heap.size) (hn : n ≤ 9223372036854775807) :
    Calls Try.prog 29 #[.slice A n c] w fun e w' => e = .returned (.int .i64 t) ∧ Below w.heap.size w w' := h ▸ rchecktrain_any A n c N l w hx hN hn

/-- All products from one on, and whether all are small. -/
def begF : Int × Int → List (Int × Int) → List (Int × Int) × Bool
  | f, [] => ([f], true)
  | f, g :: l => if smallB (f.1 * g.1) (f.2 * g.2) then (f :: (begF (redN (f.1 * g.1) (f.2 * g.2), redD (f.1 * g.1) (f.2 * g.2)) l).1, (begF (redN (f.1 * g.1) (f.2 * g.2), redD (f.1 * g.1) (f.2 * g.2)) l).2) else ([f], false)

theorem trainF_beg {σ : Type} (step : σ → Int × Int → σ) : ∀ (l : List (Int × Int)) (s : σ) (f : Int × Int), trainF step (step s f) f l = ((begF f l).1.foldl step s, (begF f l).2)
  | [], s, f => rfl
  | g :: l, s, f => by
    simp only [trainF, begF]
    split
    · rw [trainF_beg step l]; rfl
    · rfl

theorem begF_len : ∀ (l : List (Int × Int)) (f : Int × Int), (begF f l).2 = true → (begF f l).1.length = l.length + 1
  | [], _, _ => rfl
  | g :: l, f, h => by
    simp only [begF] at h ⊢
    split at h
    · rw [if_pos (by assumption)]
      simp only at h ⊢
      rw [List.length_cons, begF_len l _ h]; rfl
    · cases h

theorem begF_part : ∀ (l : List (Int × Int)) (f : Int × Int), l.all okP = true → Part f.1 → Part f.2 → ∀ x ∈ (begF f l).1, Part x.1 ∧ Part x.2
  | [], f, _, h1, h2, x, hx => by simp [begF] at hx; exact hx ▸ ⟨h1, h2⟩
  | g :: l, f, hl, h1, h2, x, hx => by
    simp only [List.all_cons, Bool.and_eq_true] at hl
    obtain ⟨p1, p2, p3, p4⟩ := okP_part hl.1
    simp only [begF] at hx
    split at hx
    · rename_i hs
      have hr := red_part (part_bound h1 p1 p2).1 (part_bound h2 p3 p4).1 hs
      rcases List.mem_cons.1 hx with rfl | hx
      · exact ⟨h1, h2⟩
      · exact begF_part l _ hl.2 hr.1 hr.2 x hx
    · simp at hx; exact hx ▸ ⟨h1, h2⟩

/-- The reference takes the ratio of a pair in lowest terms first. -/
theorem of_scale {f1 f2 d v : Int} (hv : 1 ≤ v) (f : Int × Int) (hf : f = (f1, f2)) :
    smallB (f1 * redN d v) (f2 * redD d v) = smallB (f1 * d) (f2 * v) ∧ redN (f1 * redN d v) (f2 * redD d v) = redN (f1 * d) (f2 * v) ∧ redD (f1 * redN d v) (f2 * redD d v) = redD (f1 * d) (f2 * v) := by
  have hp : 0 < Int.gcd d v := Int.gcd_pos_of_ne_zero_right d (by omega)
  have e1 : (Int.gcd d v : Int) * redN d v = d := Int.mul_ediv_cancel' (Int.gcd_dvd_left d v)
  have e2 : (Int.gcd d v : Int) * redD d v = v := Int.mul_ediv_cancel' (Int.gcd_dvd_right d v)
  have hs := red_scale (k := (Int.gcd d v : Int)) (by omega) (f1 * redN d v) (f2 * redD d v)
  have m1 : (Int.gcd d v : Int) * (f1 * redN d v) = f1 * d := by rw [← Int.mul_assoc, Int.mul_comm _ f1, Int.mul_assoc, e1]
  have m2 : (Int.gcd d v : Int) * (f2 * redD d v) = f2 * v := by rw [← Int.mul_assoc, Int.mul_comm _ f2, Int.mul_assoc, e2]
  rw [m1, m2] at hs
  exact ⟨hs.2.2.symm, hs.1.symm, hs.2.1.symm⟩

theorem red_teeth {d v : Int} (h1 : 1 ≤ d) (h2 : d ≤ 500) (h3 : 1 ≤ v) (h4 : v ≤ 500) : 1 ≤ redN d v ∧ redN d v ≤ 500 ∧ 1 ≤ redD d v ∧ redD d v ≤ 500 := by
  have hp : 0 < Int.gcd d v := Int.gcd_pos_of_ne_zero_right d (by omega)
  have a1 : 0 < redN d v := Int.ediv_pos_of_pos_of_dvd (by omega) (by omega) (Int.gcd_dvd_left d v)
  have a2 : 0 < redD d v := Int.ediv_pos_of_pos_of_dvd (by omega) (by omega) (Int.gcd_dvd_right d v)
  have b1 : redN d v ≤ d := Int.ediv_le_self _ (by omega)
  have b2 : redD d v ≤ v := Int.ediv_le_self _ (by omega)
  omega

def BegPost (l : List (Int × Int)) (w : World) (e : Ending) (w' : World) : Prop :=
  Below w.heap.size w w' ∧ ((begF (1, 1) l).2 = true → ∃ A c, e = .returned (.tuple #[.slice A (l.length + 1) c, .bool true]) ∧ Reads w' w'.heap.size 2 A (l.length + 1) (cells2 (begF (1, 1) l).1)) ∧
    ((begF (1, 1) l).2 = false → e = .returned (.tuple #[.slice none 0 0, .bool false]))

theorem begF_step {f g : Int × Int} {l : List (Int × Int)} (h : smallB (f.1 * g.1) (f.2 * g.2) = true) :
    begF f (g :: l) = (f :: (begF (redN (f.1 * g.1) (f.2 * g.2), redD (f.1 * g.1) (f.2 * g.2)) l).1, (begF (redN (f.1 * g.1) (f.2 * g.2), redD (f.1 * g.1) (f.2 * g.2)) l).2) := by
  simp only [begF]; rw [if_pos h]
theorem begF_stop {f g : Int × Int} {l : List (Int × Int)} (h : smallB (f.1 * g.1) (f.2 * g.2) = false) : begF f (g :: l) = ([f], false) := by
  simp only [begF]; rw [if_neg (by rw [h]; exact Bool.false_ne_true)]


end Go.Proofs.Ytoiconebcmneiab

end

section
/- Lists that are known to read so, from one named world to the next. -/
namespace Go.Proofs.Ytoiconebcmneiab
open Go.RowKit

section
variable {w W W1 : World}
theorem reads_mid (_ : Below W.heap.size W W1) {wa : World} (h : Below wa.heap.size wa W) : Below wa.heap.size wa W := h
theorem reads_lay (hb : Below W.heap.size W W1) {wa : World} (ha : Below wa.heap.size wa W) {s n : Nat} {A : Option Addr} {xs : List Value} (h : Reads wa wa.heap.size s A n xs) : Reads W1 W1.heap.size s A n xs :=
  ((h.below ha).below (hb.mono ha.size)).more (Nat.le_trans ha.size hb.size)
end
end Go.Proofs.Ytoiconebcmneiab

end
