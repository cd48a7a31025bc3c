/- The contracts of Counterweight, of the program and of the reference. -/
import Derived.Test.YtmioamcgbihhjaaMom
namespace Go.Proofs.Ytmioamcgbihhjaa
open Go.RowKit

theorem gcd_neg2 (a b : Int) : Int.gcd (-a) (-b) = Int.gcd a b := by rw [Int.gcd_neg, Int.neg_gcd]

set_option maxRecDepth 100000 in
theorem lowest_neg (a b x y : Int) (hx : redN (-a) (-b) = x) (hy : redD (-a) (-b) = y) (w : World) (h1 : -4000000000000000000 ≤ a) (h2 : a ≤ 4000000000000000000) (h3 : b ≤ -1) (h4 : -4000000000000000000 ≤ b) :
    Calls Try.prog 87 #[.int .i64 a, .int .i64 b] w fun e w' => e = .returned (.agg #[.int .i64 x, .int .i64 y]) ∧ Below w.heap.size w w' := by
  have hp : 0 < Int.gcd a b := Int.gcd_pos_of_ne_zero_right a (by omega)
  have hle : (Int.gcd a b : Int) ≤ 4000000000000000000 := by
    have := Int.gcd_le_natAbs_right a (b := b) (by omega)
    omega
  have e1 : a.tdiv (-(Int.gcd a b : Int)) = x := by
    rw [← hx]
    unfold redN
    rw [gcd_neg2, Int.tdiv_neg, tdiv_gcd_left, Int.neg_ediv_of_dvd (Int.gcd_dvd_left a b)]
  have e2 : b.tdiv (-(Int.gcd a b : Int)) = y := by
    rw [← hy]
    unfold redD
    rw [gcd_neg2, Int.tdiv_neg, tdiv_gcd_right, Int.neg_ediv_of_dvd (Int.gcd_dvd_right a b)]
  obtain ⟨x1, x2, y1, y2⟩ := red_in (a := -a) (b := -b) (by omega) (by omega) (by omega) (by omega)
  rw [hx] at x1 x2
  rw [hy] at y1 y2
  have v1 := IntWalk.i64_in x ⟨by omega, by omega⟩
  have v2 := IntWalk.i64_in y ⟨by omega, by omega⟩
  have hgw : wrap64 (Int.gcd a b : Int) = (Int.gcd a b : Int) := IntWalk.wrap64_in _ ⟨by omega, by omega⟩
  obtain ⟨g, hg⟩ : ∃ g, (Int.gcd a b : Int) = g := ⟨_, rfl⟩
  rw [hg] at e1 e2 hgw hle
  have hg1 : 1 ≤ g := by omega
  have v3 := IntWalk.i64_in (-g) ⟨by omega, by omega⟩
  have g0 : ¬ -g = 0 := by omega
  have g0' : ¬ g = 0 := by omega
  have HG := Lib.hid hg
  have HGW := Lib.hid hgw
  clear hx hy hg hgw hp
  go_enter Try.func87, Try.ntmps87
  go_wp2_with fail
  refine (gcdref_any _ _ _ (by omega) (by omega) (by omega) (by omega)).mono ?_
  rintro en w' ⟨rfl, nq, rfl⟩
  rw [HG.out, HGW.out]
  go_wp2
  go_region
  all_goals go_wp2
  all_goals exact bodyPost_ret (v := .agg #[.int .i64 x, .int .i64 y]) (by simp [results, Try.results87, go_sem]) rfl ⟨rfl, by repeat' (first | exact Below.refl _ _ | exact HB0.out | assumption | refine below_drewN ?_ _ | refine Below.drew ?_ | refine Below.alloc ?_ (by first | omega | (simp; done) | (simp; omega) | (simp [World.setCell]; omega)) _ | refine Below.setCell ?_ (by first | omega | (simp; done) | (simp; omega)) _)⟩

theorem small_t (a b : Int) (t : Bool) (ht : smallB a b = t) (w : World) (h1 : -9223372036854775808 < a) (h2 : a ≤ 9223372036854775807) (h3 : 1 ≤ b) (h4 : b ≤ 9223372036854775807) :
    Calls Try.prog 85 #[.int .i64 a, .int .i64 b] w fun e w' => e = .returned (.tuple #[.agg #[.int .i64 (redN a b), .int .i64 (redD a b)], .bool t]) ∧ Below w.heap.size w w' := ht ▸ small_red a b w h1 h2 h3 h4

/-- What Counterweight answers for moments. -/
def cwOf (M arm : Int) : (Int × Int) × Int :=
  if (if arm < 0 then -M else M) < 0 then ((0, 0), 12) else if smallB (if arm < 0 then -M else M) (if arm < 0 then -arm else arm) = false then ((0, 0), 8)
  else ((redN (if arm < 0 then -M else M) (if arm < 0 then -arm else arm), redD (if arm < 0 then -M else M) (if arm < 0 then -arm else arm)), 0)
def cwF (m : Int × Int) (axis arm : Int) : (Int × Int) × Int :=
  if withinB axis 0 1 = false ∨ withinB arm (-10000000) 10000000 = false then ((0, 0), 2) else if arm = 0 then ((0, 0), 11) else cwOf (if axis = 0 then -m.1 else -m.2) arm

def cwAll (l : List (Int × Int × Int)) (axis arm : Int) : (Int × Int) × Int := if loadsErr l ≠ 0 then ((0, 0), loadsErr l) else cwF (momF l) axis arm
theorem momAll {l : List (Int × Int × Int)} (h : loadsErr l = 0) : (if loadsErr l ≠ 0 then ((0, 0), loadsErr l) else (momF l, 0)) = (((momF l).1, (momF l).2), 0) := by rw [if_neg (by rw [h]; simp)]
theorem momBad {l : List (Int × Int × Int)} (h : loadsErr l ≠ 0) : (if loadsErr l ≠ 0 then ((0, 0), loadsErr l) else (momF l, 0)) = ((0, 0), loadsErr l) := by rw [if_pos h]
theorem mom_in {l : List (Int × Int × Int)} (h : loadsErr l = 0) : -6000000000000000 ≤ (momF l).1 ∧ (momF l).1 ≤ 6000000000000000 ∧ -6000000000000000 ≤ (momF l).2 ∧ (momF l).2 ≤ 6000000000000000 := by
  obtain ⟨h1, h2⟩ := loadsErr_ok h
  have := mom_bound h2
  omega

def tailF (a b : Int) : (Int × Int) × Int := if a < 0 then ((0, 0), 12) else if smallB a b = false then ((0, 0), 8) else ((redN a b, redD a b), 0)
theorem cwOf_pos {M arm : Int} (h : ¬ arm < 0) : cwOf M arm = tailF M arm := by unfold cwOf tailF; simp only [if_neg h]
theorem cwOf_neg {M arm : Int} (h : arm < 0) : cwOf M arm = tailF (-M) (-arm) := by unfold cwOf tailF; simp only [if_pos h]

set_option maxRecDepth 100000 in
set_option maxHeartbeats 4000000 in
theorem cw_tail00 (A : Option Addr) (n c N : Nat) (l : List (Int × Int × Int)) (arm mx my : Int) (w : World) (HX : Hid (Reads w N 3 A n (cells3 l))) (hN : N ≤ w.heap.size) (hn : n ≤ 9223372036854775807) (x y e : Int)
    (HMM : Hid (∀ w (A : Option Addr) (n c N : Nat), Reads w N 3 A n (cells3 l) → N ≤ w.heap.size → n ≤ 9223372036854775807 → Calls Try.prog 42 #[.slice A n c] w fun en w' => en = .returned (.tuple #[.agg #[.int .i64 mx, .int .i64 my], .int .i64 0]) ∧ Below w.heap.size w w'))
    (b1 : -6000000000000000 ≤ mx) (b2 : mx ≤ 6000000000000000) (b3 : -6000000000000000 ≤ my) (b4 : my ≤ 6000000000000000) (G1 : Hid (withinB 0 0 1 = true)) (G2 : Hid (withinB arm (-10000000) 10000000 = true)) (a3 : -10000000 ≤ arm) (a4 : arm ≤ 10000000) (harm : ¬ arm = 0) (h : arm < 0) (HF : Hid (tailF (mx) (-arm) = ((x, y), e))) :
    Calls Try.prog 43 #[.slice A n c, .int .i64 0, .int .i64 arm] w fun en w' => en = .returned (.tuple #[.agg #[.int .i64 x, .int .i64 y], .int .i64 e]) ∧ Below w.heap.size w w' := by
  have hF := HF.out
  clear HF
  unfold tailF at hF
  have v1 := IntWalk.i64_in (-mx) ⟨by omega, by omega⟩
  have v2 := IntWalk.i64_in (-my) ⟨by omega, by omega⟩
  have v3 := IntWalk.i64_in (-arm) ⟨by omega, by omega⟩
  have v4 := IntWalk.i64_in mx ⟨by omega, by omega⟩
  have v5 := IntWalk.i64_in my ⟨by omega, by omega⟩
  go_enter Try.func43, Try.ntmps43
  go_wp2_with fail
  refine (HMM.out _ A n c N (HX.out.belowLe ((Below.refl _ _).alloc (Nat.le_refl _) _) hN) (by simp; omega) hn).mono ?_
  rintro e w1 ⟨rfl, hb⟩
  have HB1 := Lib.hid (show Below w.heap.size w w1 from step_below hb (by repeat' (first | exact Below.refl _ _ | exact HB0.out | assumption | refine below_drewN ?_ _ | refine Below.drew ?_ | refine Below.alloc ?_ (by first | omega | (simp; done) | (simp; omega) | (simp [World.setCell]; omega)) _ | refine Below.setCell ?_ (by first | omega | (simp; done) | (simp; omega)) _)))
  have K0_1 := Lib.hid (step_blk hb (show Blk _ (w.heap.size) 23 #[.int .i64 (0), .int .i64 (0)] by repeat' (first | assumption | exact Blk.at_ _ (by first | rfl | (simp; done) | (simp; omega)) _ _ | refine Blk.drewN ?_ _ | refine Blk.drew ?_ | refine Blk.alloc ?_ _ | refine Blk.far ?_ (by first | omega | (simp; done) | (simp; omega)) _)))
  have hz1 := hb.size
  try simp only [World.size_alloc, World.drewN, World.drew] at hz1
  clear hb
  have l0_1 : w.heap.size < w1.heap.size := K0_1.out.lt
  have z0_0_1 : w1.cell? ⟨w.heap.size, 0, none⟩ = some (.int .i64 (0)) := K0_1.out.cell 0
  have z0_1_1 : w1.cell? ⟨w.heap.size, 1, none⟩ = some (.int .i64 (0)) := K0_1.out.cell 1
  go_wp2_with fail
  refine (withinsup_is _ _ _ _ G1.out _).mono ?_
  rintro en w' ⟨rfl, rfl⟩
  go_wp2_with fail
  refine (withinsup_is _ _ _ _ G2.out _).mono ?_
  rintro en w' ⟨rfl, rfl⟩
  by_cases hneg : (mx) < 0
  · rw [if_pos hneg] at hF
    cases hF
    have zf0_0 := K0_1.out.frozen 0
    have zf0_1 := K0_1.out.frozen 1
    go_wp2
    exact bodyPost_ret (v := .tuple #[.agg #[.int .i64 0, .int .i64 0], .int .i64 12]) (by simp [results, Try.results43, go_sem, z0_0_1, z0_1_1, l0_1]) rfl ⟨rfl, by repeat' (first | exact Below.refl _ _ | exact HB1.out | assumption | refine below_drewN ?_ _ | refine Below.drew ?_ | refine Below.alloc ?_ (by first | omega | (simp; done) | (simp; omega) | (simp [World.setCell]; omega)) _ | refine Below.setCell ?_ (by first | omega | (simp; done) | (simp; omega)) _)⟩
  · rw [if_neg hneg] at hF
    cases hsm : smallB (mx) (-arm) with
    | false =>
      rw [if_pos hsm] at hF
      cases hF
      have HS := Lib.hid hsm
      clear hsm
      go_wp2_with fail
      refine (small_t (mx) (-arm) false HS.out _ (by omega) (by omega) (by omega) (by omega)).mono ?_
      rintro e w2 ⟨rfl, hb⟩
      have HB2 := Lib.hid (show Below w.heap.size w w2 from step_below hb (by repeat' (first | exact Below.refl _ _ | exact HB1.out | assumption | refine below_drewN ?_ _ | refine Below.drew ?_ | refine Below.alloc ?_ (by first | omega | (simp; done) | (simp; omega) | (simp [World.setCell]; omega)) _ | refine Below.setCell ?_ (by first | omega | (simp; done) | (simp; omega)) _)))
      have K0_2 := Lib.hid (step_blk hb (show Blk _ (w.heap.size) 23 #[.int .i64 (0), .int .i64 (0)] by repeat' (first | assumption | exact K0_1.out | exact Blk.at_ _ (by first | rfl | (simp; done) | (simp; omega)) _ _ | refine Blk.drewN ?_ _ | refine Blk.drew ?_ | refine Blk.alloc ?_ _ | refine Blk.far ?_ (by first | omega | (simp; done) | (simp; omega)) _)))
      have K1_2 := Lib.hid (step_blk hb (show Blk _ (w1.heap.size) 51 #[.int .i64 (mx), .int .i64 (my)] by repeat' (first | assumption | exact K0_1.out | exact Blk.at_ _ (by first | rfl | (simp; done) | (simp; omega)) _ _ | refine Blk.drewN ?_ _ | refine Blk.drew ?_ | refine Blk.alloc ?_ _ | refine Blk.far ?_ (by first | omega | (simp; done) | (simp; omega)) _)))
      have hz2 := hb.size
      try simp only [World.size_alloc, World.drewN, World.drew] at hz2
      clear hb K0_1 z0_0_1 z0_1_1 l0_1
      have l0_2 : w.heap.size < w2.heap.size := K0_2.out.lt
      have z0_0_2 : w2.cell? ⟨w.heap.size, 0, none⟩ = some (.int .i64 (0)) := K0_2.out.cell 0
      have z0_1_2 : w2.cell? ⟨w.heap.size, 1, none⟩ = some (.int .i64 (0)) := K0_2.out.cell 1
      have l1_2 : w1.heap.size < w2.heap.size := K1_2.out.lt
      have z1_0_2 : w2.cell? ⟨w1.heap.size, 0, none⟩ = some (.int .i64 (mx)) := K1_2.out.cell 0
      have z1_1_2 : w2.cell? ⟨w1.heap.size, 1, none⟩ = some (.int .i64 (my)) := K1_2.out.cell 1
      have zf0_0 := K0_2.out.frozen 0
      have zf0_1 := K0_2.out.frozen 1
      go_wp2
      exact bodyPost_ret (v := .tuple #[.agg #[.int .i64 0, .int .i64 0], .int .i64 8]) (by simp [results, Try.results43, go_sem, z0_0_2, z0_1_2, l0_2]) rfl ⟨rfl, by repeat' (first | exact Below.refl _ _ | exact HB2.out | assumption | refine below_drewN ?_ _ | refine Below.drew ?_ | refine Below.alloc ?_ (by first | omega | (simp; done) | (simp; omega) | (simp [World.setCell]; omega)) _ | refine Below.setCell ?_ (by first | omega | (simp; done) | (simp; omega)) _)⟩
    | true =>
      rw [if_neg (by rw [hsm]; simp)] at hF
      cases hF
      have HS := Lib.hid hsm
      clear hsm
      go_wp2_with fail
      refine (small_t (mx) (-arm) true HS.out _ (by omega) (by omega) (by omega) (by omega)).mono ?_
      rintro e w2 ⟨rfl, hb⟩
      have HB2 := Lib.hid (show Below w.heap.size w w2 from step_below hb (by repeat' (first | exact Below.refl _ _ | exact HB1.out | assumption | refine below_drewN ?_ _ | refine Below.drew ?_ | refine Below.alloc ?_ (by first | omega | (simp; done) | (simp; omega) | (simp [World.setCell]; omega)) _ | refine Below.setCell ?_ (by first | omega | (simp; done) | (simp; omega)) _)))
      have K0_2 := Lib.hid (step_blk hb (show Blk _ (w.heap.size) 23 #[.int .i64 (0), .int .i64 (0)] by repeat' (first | assumption | exact K0_1.out | exact Blk.at_ _ (by first | rfl | (simp; done) | (simp; omega)) _ _ | refine Blk.drewN ?_ _ | refine Blk.drew ?_ | refine Blk.alloc ?_ _ | refine Blk.far ?_ (by first | omega | (simp; done) | (simp; omega)) _)))
      have K1_2 := Lib.hid (step_blk hb (show Blk _ (w1.heap.size) 51 #[.int .i64 (mx), .int .i64 (my)] by repeat' (first | assumption | exact K0_1.out | exact Blk.at_ _ (by first | rfl | (simp; done) | (simp; omega)) _ _ | refine Blk.drewN ?_ _ | refine Blk.drew ?_ | refine Blk.alloc ?_ _ | refine Blk.far ?_ (by first | omega | (simp; done) | (simp; omega)) _)))
      have hz2 := hb.size
      try simp only [World.size_alloc, World.drewN, World.drew] at hz2
      clear hb K0_1 z0_0_1 z0_1_1 l0_1
      have l0_2 : w.heap.size < w2.heap.size := K0_2.out.lt
      have z0_0_2 : w2.cell? ⟨w.heap.size, 0, none⟩ = some (.int .i64 (0)) := K0_2.out.cell 0
      have z0_1_2 : w2.cell? ⟨w.heap.size, 1, none⟩ = some (.int .i64 (0)) := K0_2.out.cell 1
      have l1_2 : w1.heap.size < w2.heap.size := K1_2.out.lt
      have z1_0_2 : w2.cell? ⟨w1.heap.size, 0, none⟩ = some (.int .i64 (mx)) := K1_2.out.cell 0
      have z1_1_2 : w2.cell? ⟨w1.heap.size, 1, none⟩ = some (.int .i64 (my)) := K1_2.out.cell 1
      have zf0_0 := K0_2.out.frozen 0
      have zf0_1 := K0_2.out.frozen 1
      go_wp2
      exact bodyPost_ret (v := .tuple #[.agg #[.int .i64 (redN (mx) (-arm)), .int .i64 (redD (mx) (-arm))], .int .i64 0]) (by simp [results, Try.results43, go_sem, z0_0_2, z0_1_2, l0_2]) rfl ⟨rfl, by repeat' (first | exact Below.refl _ _ | exact HB2.out | assumption | refine below_drewN ?_ _ | refine Below.drew ?_ | refine Below.alloc ?_ (by first | omega | (simp; done) | (simp; omega) | (simp [World.setCell]; omega)) _ | refine Below.setCell ?_ (by first | omega | (simp; done) | (simp; omega)) _)⟩

set_option maxRecDepth 100000 in
set_option maxHeartbeats 4000000 in
theorem cw_tail01 (A : Option Addr) (n c N : Nat) (l : List (Int × Int × Int)) (arm mx my : Int) (w : World) (HX : Hid (Reads w N 3 A n (cells3 l))) (hN : N ≤ w.heap.size) (hn : n ≤ 9223372036854775807) (x y e : Int)
    (HMM : Hid (∀ w (A : Option Addr) (n c N : Nat), Reads w N 3 A n (cells3 l) → N ≤ w.heap.size → n ≤ 9223372036854775807 → Calls Try.prog 42 #[.slice A n c] w fun en w' => en = .returned (.tuple #[.agg #[.int .i64 mx, .int .i64 my], .int .i64 0]) ∧ Below w.heap.size w w'))
    (b1 : -6000000000000000 ≤ mx) (b2 : mx ≤ 6000000000000000) (b3 : -6000000000000000 ≤ my) (b4 : my ≤ 6000000000000000) (G1 : Hid (withinB 0 0 1 = true)) (G2 : Hid (withinB arm (-10000000) 10000000 = true)) (a3 : -10000000 ≤ arm) (a4 : arm ≤ 10000000) (harm : ¬ arm = 0) (h : ¬ arm < 0) (HF : Hid (tailF (-mx) (arm) = ((x, y), e))) :
    Calls Try.prog 43 #[.slice A n c, .int .i64 0, .int .i64 arm] w fun en w' => en = .returned (.tuple #[.agg #[.int .i64 x, .int .i64 y], .int .i64 e]) ∧ Below w.heap.size w w' := by
  have hF := HF.out
  clear HF
  unfold tailF at hF
  have v1 := IntWalk.i64_in (-mx) ⟨by omega, by omega⟩
  have v2 := IntWalk.i64_in (-my) ⟨by omega, by omega⟩
  have v3 := IntWalk.i64_in (-arm) ⟨by omega, by omega⟩
  have v4 := IntWalk.i64_in mx ⟨by omega, by omega⟩
  have v5 := IntWalk.i64_in my ⟨by omega, by omega⟩
  go_enter Try.func43, Try.ntmps43
  go_wp2_with fail
  refine (HMM.out _ A n c N (HX.out.belowLe ((Below.refl _ _).alloc (Nat.le_refl _) _) hN) (by simp; omega) hn).mono ?_
  rintro e w1 ⟨rfl, hb⟩
  have HB1 := Lib.hid (show Below w.heap.size w w1 from step_below hb (by repeat' (first | exact Below.refl _ _ | exact HB0.out | assumption | refine below_drewN ?_ _ | refine Below.drew ?_ | refine Below.alloc ?_ (by first | omega | (simp; done) | (simp; omega) | (simp [World.setCell]; omega)) _ | refine Below.setCell ?_ (by first | omega | (simp; done) | (simp; omega)) _)))
  have K0_1 := Lib.hid (step_blk hb (show Blk _ (w.heap.size) 23 #[.int .i64 (0), .int .i64 (0)] by repeat' (first | assumption | exact Blk.at_ _ (by first | rfl | (simp; done) | (simp; omega)) _ _ | refine Blk.drewN ?_ _ | refine Blk.drew ?_ | refine Blk.alloc ?_ _ | refine Blk.far ?_ (by first | omega | (simp; done) | (simp; omega)) _)))
  have hz1 := hb.size
  try simp only [World.size_alloc, World.drewN, World.drew] at hz1
  clear hb
  have l0_1 : w.heap.size < w1.heap.size := K0_1.out.lt
  have z0_0_1 : w1.cell? ⟨w.heap.size, 0, none⟩ = some (.int .i64 (0)) := K0_1.out.cell 0
  have z0_1_1 : w1.cell? ⟨w.heap.size, 1, none⟩ = some (.int .i64 (0)) := K0_1.out.cell 1
  go_wp2_with fail
  refine (withinsup_is _ _ _ _ G1.out _).mono ?_
  rintro en w' ⟨rfl, rfl⟩
  go_wp2_with fail
  refine (withinsup_is _ _ _ _ G2.out _).mono ?_
  rintro en w' ⟨rfl, rfl⟩
  by_cases hneg : (-mx) < 0
  · rw [if_pos hneg] at hF
    cases hF
    have zf0_0 := K0_1.out.frozen 0
    have zf0_1 := K0_1.out.frozen 1
    go_wp2
    exact bodyPost_ret (v := .tuple #[.agg #[.int .i64 0, .int .i64 0], .int .i64 12]) (by simp [results, Try.results43, go_sem, z0_0_1, z0_1_1, l0_1]) rfl ⟨rfl, by repeat' (first | exact Below.refl _ _ | exact HB1.out | assumption | refine below_drewN ?_ _ | refine Below.drew ?_ | refine Below.alloc ?_ (by first | omega | (simp; done) | (simp; omega) | (simp [World.setCell]; omega)) _ | refine Below.setCell ?_ (by first | omega | (simp; done) | (simp; omega)) _)⟩
  · rw [if_neg hneg] at hF
    cases hsm : smallB (-mx) (arm) with
    | false =>
      rw [if_pos hsm] at hF
      cases hF
      have HS := Lib.hid hsm
      clear hsm
      go_wp2_with fail
      refine (small_t (-mx) (arm) false HS.out _ (by omega) (by omega) (by omega) (by omega)).mono ?_
      rintro e w2 ⟨rfl, hb⟩
      have HB2 := Lib.hid (show Below w.heap.size w w2 from step_below hb (by repeat' (first | exact Below.refl _ _ | exact HB1.out | assumption | refine below_drewN ?_ _ | refine Below.drew ?_ | refine Below.alloc ?_ (by first | omega | (simp; done) | (simp; omega) | (simp [World.setCell]; omega)) _ | refine Below.setCell ?_ (by first | omega | (simp; done) | (simp; omega)) _)))
      have K0_2 := Lib.hid (step_blk hb (show Blk _ (w.heap.size) 23 #[.int .i64 (0), .int .i64 (0)] by repeat' (first | assumption | exact K0_1.out | exact Blk.at_ _ (by first | rfl | (simp; done) | (simp; omega)) _ _ | refine Blk.drewN ?_ _ | refine Blk.drew ?_ | refine Blk.alloc ?_ _ | refine Blk.far ?_ (by first | omega | (simp; done) | (simp; omega)) _)))
      have K1_2 := Lib.hid (step_blk hb (show Blk _ (w1.heap.size) 51 #[.int .i64 (mx), .int .i64 (my)] by repeat' (first | assumption | exact K0_1.out | exact Blk.at_ _ (by first | rfl | (simp; done) | (simp; omega)) _ _ | refine Blk.drewN ?_ _ | refine Blk.drew ?_ | refine Blk.alloc ?_ _ | refine Blk.far ?_ (by first | omega | (simp; done) | (simp; omega)) _)))
      have hz2 := hb.size
      try simp only [World.size_alloc, World.drewN, World.drew] at hz2
      clear hb K0_1 z0_0_1 z0_1_1 l0_1
      have l0_2 : w.heap.size < w2.heap.size := K0_2.out.lt
      have z0_0_2 : w2.cell? ⟨w.heap.size, 0, none⟩ = some (.int .i64 (0)) := K0_2.out.cell 0
      have z0_1_2 : w2.cell? ⟨w.heap.size, 1, none⟩ = some (.int .i64 (0)) := K0_2.out.cell 1
      have l1_2 : w1.heap.size < w2.heap.size := K1_2.out.lt
      have z1_0_2 : w2.cell? ⟨w1.heap.size, 0, none⟩ = some (.int .i64 (mx)) := K1_2.out.cell 0
      have z1_1_2 : w2.cell? ⟨w1.heap.size, 1, none⟩ = some (.int .i64 (my)) := K1_2.out.cell 1
      have zf0_0 := K0_2.out.frozen 0
      have zf0_1 := K0_2.out.frozen 1
      go_wp2
      exact bodyPost_ret (v := .tuple #[.agg #[.int .i64 0, .int .i64 0], .int .i64 8]) (by simp [results, Try.results43, go_sem, z0_0_2, z0_1_2, l0_2]) rfl ⟨rfl, by repeat' (first | exact Below.refl _ _ | exact HB2.out | assumption | refine below_drewN ?_ _ | refine Below.drew ?_ | refine Below.alloc ?_ (by first | omega | (simp; done) | (simp; omega) | (simp [World.setCell]; omega)) _ | refine Below.setCell ?_ (by first | omega | (simp; done) | (simp; omega)) _)⟩
    | true =>
      rw [if_neg (by rw [hsm]; simp)] at hF
      cases hF
      have HS := Lib.hid hsm
      clear hsm
      go_wp2_with fail
      refine (small_t (-mx) (arm) true HS.out _ (by omega) (by omega) (by omega) (by omega)).mono ?_
      rintro e w2 ⟨rfl, hb⟩
      have HB2 := Lib.hid (show Below w.heap.size w w2 from step_below hb (by repeat' (first | exact Below.refl _ _ | exact HB1.out | assumption | refine below_drewN ?_ _ | refine Below.drew ?_ | refine Below.alloc ?_ (by first | omega | (simp; done) | (simp; omega) | (simp [World.setCell]; omega)) _ | refine Below.setCell ?_ (by first | omega | (simp; done) | (simp; omega)) _)))
      have K0_2 := Lib.hid (step_blk hb (show Blk _ (w.heap.size) 23 #[.int .i64 (0), .int .i64 (0)] by repeat' (first | assumption | exact K0_1.out | exact Blk.at_ _ (by first | rfl | (simp; done) | (simp; omega)) _ _ | refine Blk.drewN ?_ _ | refine Blk.drew ?_ | refine Blk.alloc ?_ _ | refine Blk.far ?_ (by first | omega | (simp; done) | (simp; omega)) _)))
      have K1_2 := Lib.hid (step_blk hb (show Blk _ (w1.heap.size) 51 #[.int .i64 (mx), .int .i64 (my)] by repeat' (first | assumption | exact K0_1.out | exact Blk.at_ _ (by first | rfl | (simp; done) | (simp; omega)) _ _ | refine Blk.drewN ?_ _ | refine Blk.drew ?_ | refine Blk.alloc ?_ _ | refine Blk.far ?_ (by first | omega | (simp; done) | (simp; omega)) _)))
      have hz2 := hb.size
      try simp only [World.size_alloc, World.drewN, World.drew] at hz2
      clear hb K0_1 z0_0_1 z0_1_1 l0_1
      have l0_2 : w.heap.size < w2.heap.size := K0_2.out.lt
      have z0_0_2 : w2.cell? ⟨w.heap.size, 0, none⟩ = some (.int .i64 (0)) := K0_2.out.cell 0
      have z0_1_2 : w2.cell? ⟨w.heap.size, 1, none⟩ = some (.int .i64 (0)) := K0_2.out.cell 1
      have l1_2 : w1.heap.size < w2.heap.size := K1_2.out.lt
      have z1_0_2 : w2.cell? ⟨w1.heap.size, 0, none⟩ = some (.int .i64 (mx)) := K1_2.out.cell 0
      have z1_1_2 : w2.cell? ⟨w1.heap.size, 1, none⟩ = some (.int .i64 (my)) := K1_2.out.cell 1
      have zf0_0 := K0_2.out.frozen 0
      have zf0_1 := K0_2.out.frozen 1
      go_wp2
      exact bodyPost_ret (v := .tuple #[.agg #[.int .i64 (redN (-mx) (arm)), .int .i64 (redD (-mx) (arm))], .int .i64 0]) (by simp [results, Try.results43, go_sem, z0_0_2, z0_1_2, l0_2]) rfl ⟨rfl, by repeat' (first | exact Below.refl _ _ | exact HB2.out | assumption | refine below_drewN ?_ _ | refine Below.drew ?_ | refine Below.alloc ?_ (by first | omega | (simp; done) | (simp; omega) | (simp [World.setCell]; omega)) _ | refine Below.setCell ?_ (by first | omega | (simp; done) | (simp; omega)) _)⟩

set_option maxRecDepth 100000 in
set_option maxHeartbeats 4000000 in
theorem cw_tail10 (A : Option Addr) (n c N : Nat) (l : List (Int × Int × Int)) (arm mx my : Int) (w : World) (HX : Hid (Reads w N 3 A n (cells3 l))) (hN : N ≤ w.heap.size) (hn : n ≤ 9223372036854775807) (x y e : Int)
    (HMM : Hid (∀ w (A : Option Addr) (n c N : Nat), Reads w N 3 A n (cells3 l) → N ≤ w.heap.size → n ≤ 9223372036854775807 → Calls Try.prog 42 #[.slice A n c] w fun en w' => en = .returned (.tuple #[.agg #[.int .i64 mx, .int .i64 my], .int .i64 0]) ∧ Below w.heap.size w w'))
    (b1 : -6000000000000000 ≤ mx) (b2 : mx ≤ 6000000000000000) (b3 : -6000000000000000 ≤ my) (b4 : my ≤ 6000000000000000) (G1 : Hid (withinB 1 0 1 = true)) (G2 : Hid (withinB arm (-10000000) 10000000 = true)) (a3 : -10000000 ≤ arm) (a4 : arm ≤ 10000000) (harm : ¬ arm = 0) (h : arm < 0) (HF : Hid (tailF (my) (-arm) = ((x, y), e))) :
    Calls Try.prog 43 #[.slice A n c, .int .i64 1, .int .i64 arm] w fun en w' => en = .returned (.tuple #[.agg #[.int .i64 x, .int .i64 y], .int .i64 e]) ∧ Below w.heap.size w w' := by
  have hF := HF.out
  clear HF
  unfold tailF at hF
  have v1 := IntWalk.i64_in (-mx) ⟨by omega, by omega⟩
  have v2 := IntWalk.i64_in (-my) ⟨by omega, by omega⟩
  have v3 := IntWalk.i64_in (-arm) ⟨by omega, by omega⟩
  have v4 := IntWalk.i64_in mx ⟨by omega, by omega⟩
  have v5 := IntWalk.i64_in my ⟨by omega, by omega⟩
  go_enter Try.func43, Try.ntmps43
  go_wp2_with fail
  refine (HMM.out _ A n c N (HX.out.belowLe ((Below.refl _ _).alloc (Nat.le_refl _) _) hN) (by simp; omega) hn).mono ?_
  rintro e w1 ⟨rfl, hb⟩
  have HB1 := Lib.hid (show Below w.heap.size w w1 from step_below hb (by repeat' (first | exact Below.refl _ _ | exact HB0.out | assumption | refine below_drewN ?_ _ | refine Below.drew ?_ | refine Below.alloc ?_ (by first | omega | (simp; done) | (simp; omega) | (simp [World.setCell]; omega)) _ | refine Below.setCell ?_ (by first | omega | (simp; done) | (simp; omega)) _)))
  have K0_1 := Lib.hid (step_blk hb (show Blk _ (w.heap.size) 23 #[.int .i64 (0), .int .i64 (0)] by repeat' (first | assumption | exact Blk.at_ _ (by first | rfl | (simp; done) | (simp; omega)) _ _ | refine Blk.drewN ?_ _ | refine Blk.drew ?_ | refine Blk.alloc ?_ _ | refine Blk.far ?_ (by first | omega | (simp; done) | (simp; omega)) _)))
  have hz1 := hb.size
  try simp only [World.size_alloc, World.drewN, World.drew] at hz1
  clear hb
  have l0_1 : w.heap.size < w1.heap.size := K0_1.out.lt
  have z0_0_1 : w1.cell? ⟨w.heap.size, 0, none⟩ = some (.int .i64 (0)) := K0_1.out.cell 0
  have z0_1_1 : w1.cell? ⟨w.heap.size, 1, none⟩ = some (.int .i64 (0)) := K0_1.out.cell 1
  go_wp2_with fail
  refine (withinsup_is _ _ _ _ G1.out _).mono ?_
  rintro en w' ⟨rfl, rfl⟩
  go_wp2_with fail
  refine (withinsup_is _ _ _ _ G2.out _).mono ?_
  rintro en w' ⟨rfl, rfl⟩
  by_cases hneg : (my) < 0
  · rw [if_pos hneg] at hF
    cases hF
    have zf0_0 := K0_1.out.frozen 0
    have zf0_1 := K0_1.out.frozen 1
    go_wp2
    exact bodyPost_ret (v := .tuple #[.agg #[.int .i64 0, .int .i64 0], .int .i64 12]) (by simp [results, Try.results43, go_sem, z0_0_1, z0_1_1, l0_1]) rfl ⟨rfl, by repeat' (first | exact Below.refl _ _ | exact HB1.out | assumption | refine below_drewN ?_ _ | refine Below.drew ?_ | refine Below.alloc ?_ (by first | omega | (simp; done) | (simp; omega) | (simp [World.setCell]; omega)) _ | refine Below.setCell ?_ (by first | omega | (simp; done) | (simp; omega)) _)⟩
  · rw [if_neg hneg] at hF
    cases hsm : smallB (my) (-arm) with
    | false =>
      rw [if_pos hsm] at hF
      cases hF
      have HS := Lib.hid hsm
      clear hsm
      go_wp2_with fail
      refine (small_t (my) (-arm) false HS.out _ (by omega) (by omega) (by omega) (by omega)).mono ?_
      rintro e w2 ⟨rfl, hb⟩
      have HB2 := Lib.hid (show Below w.heap.size w w2 from step_below hb (by repeat' (first | exact Below.refl _ _ | exact HB1.out | assumption | refine below_drewN ?_ _ | refine Below.drew ?_ | refine Below.alloc ?_ (by first | omega | (simp; done) | (simp; omega) | (simp [World.setCell]; omega)) _ | refine Below.setCell ?_ (by first | omega | (simp; done) | (simp; omega)) _)))
      have K0_2 := Lib.hid (step_blk hb (show Blk _ (w.heap.size) 23 #[.int .i64 (0), .int .i64 (0)] by repeat' (first | assumption | exact K0_1.out | exact Blk.at_ _ (by first | rfl | (simp; done) | (simp; omega)) _ _ | refine Blk.drewN ?_ _ | refine Blk.drew ?_ | refine Blk.alloc ?_ _ | refine Blk.far ?_ (by first | omega | (simp; done) | (simp; omega)) _)))
      have K1_2 := Lib.hid (step_blk hb (show Blk _ (w1.heap.size) 51 #[.int .i64 (mx), .int .i64 (my)] by repeat' (first | assumption | exact K0_1.out | exact Blk.at_ _ (by first | rfl | (simp; done) | (simp; omega)) _ _ | refine Blk.drewN ?_ _ | refine Blk.drew ?_ | refine Blk.alloc ?_ _ | refine Blk.far ?_ (by first | omega | (simp; done) | (simp; omega)) _)))
      have hz2 := hb.size
      try simp only [World.size_alloc, World.drewN, World.drew] at hz2
      clear hb K0_1 z0_0_1 z0_1_1 l0_1
      have l0_2 : w.heap.size < w2.heap.size := K0_2.out.lt
      have z0_0_2 : w2.cell? ⟨w.heap.size, 0, none⟩ = some (.int .i64 (0)) := K0_2.out.cell 0
      have z0_1_2 : w2.cell? ⟨w.heap.size, 1, none⟩ = some (.int .i64 (0)) := K0_2.out.cell 1
      have l1_2 : w1.heap.size < w2.heap.size := K1_2.out.lt
      have z1_0_2 : w2.cell? ⟨w1.heap.size, 0, none⟩ = some (.int .i64 (mx)) := K1_2.out.cell 0
      have z1_1_2 : w2.cell? ⟨w1.heap.size, 1, none⟩ = some (.int .i64 (my)) := K1_2.out.cell 1
      have zf0_0 := K0_2.out.frozen 0
      have zf0_1 := K0_2.out.frozen 1
      go_wp2
      exact bodyPost_ret (v := .tuple #[.agg #[.int .i64 0, .int .i64 0], .int .i64 8]) (by simp [results, Try.results43, go_sem, z0_0_2, z0_1_2, l0_2]) rfl ⟨rfl, by repeat' (first | exact Below.refl _ _ | exact HB2.out | assumption | refine below_drewN ?_ _ | refine Below.drew ?_ | refine Below.alloc ?_ (by first | omega | (simp; done) | (simp; omega) | (simp [World.setCell]; omega)) _ | refine Below.setCell ?_ (by first | omega | (simp; done) | (simp; omega)) _)⟩
    | true =>
      rw [if_neg (by rw [hsm]; simp)] at hF
      cases hF
      have HS := Lib.hid hsm
      clear hsm
      go_wp2_with fail
      refine (small_t (my) (-arm) true HS.out _ (by omega) (by omega) (by omega) (by omega)).mono ?_
      rintro e w2 ⟨rfl, hb⟩
      have HB2 := Lib.hid (show Below w.heap.size w w2 from step_below hb (by repeat' (first | exact Below.refl _ _ | exact HB1.out | assumption | refine below_drewN ?_ _ | refine Below.drew ?_ | refine Below.alloc ?_ (by first | omega | (simp; done) | (simp; omega) | (simp [World.setCell]; omega)) _ | refine Below.setCell ?_ (by first | omega | (simp; done) | (simp; omega)) _)))
      have K0_2 := Lib.hid (step_blk hb (show Blk _ (w.heap.size) 23 #[.int .i64 (0), .int .i64 (0)] by repeat' (first | assumption | exact K0_1.out | exact Blk.at_ _ (by first | rfl | (simp; done) | (simp; omega)) _ _ | refine Blk.drewN ?_ _ | refine Blk.drew ?_ | refine Blk.alloc ?_ _ | refine Blk.far ?_ (by first | omega | (simp; done) | (simp; omega)) _)))
      have K1_2 := Lib.hid (step_blk hb (show Blk _ (w1.heap.size) 51 #[.int .i64 (mx), .int .i64 (my)] by repeat' (first | assumption | exact K0_1.out | exact Blk.at_ _ (by first | rfl | (simp; done) | (simp; omega)) _ _ | refine Blk.drewN ?_ _ | refine Blk.drew ?_ | refine Blk.alloc ?_ _ | refine Blk.far ?_ (by first | omega | (simp; done) | (simp; omega)) _)))
      have hz2 := hb.size
      try simp only [World.size_alloc, World.drewN, World.drew] at hz2
      clear hb K0_1 z0_0_1 z0_1_1 l0_1
      have l0_2 : w.heap.size < w2.heap.size := K0_2.out.lt
      have z0_0_2 : w2.cell? ⟨w.heap.size, 0, none⟩ = some (.int .i64 (0)) := K0_2.out.cell 0
      have z0_1_2 : w2.cell? ⟨w.heap.size, 1, none⟩ = some (.int .i64 (0)) := K0_2.out.cell 1
      have l1_2 : w1.heap.size < w2.heap.size := K1_2.out.lt
      have z1_0_2 : w2.cell? ⟨w1.heap.size, 0, none⟩ = some (.int .i64 (mx)) := K1_2.out.cell 0
      have z1_1_2 : w2.cell? ⟨w1.heap.size, 1, none⟩ = some (.int .i64 (my)) := K1_2.out.cell 1
      have zf0_0 := K0_2.out.frozen 0
      have zf0_1 := K0_2.out.frozen 1
      go_wp2
      exact bodyPost_ret (v := .tuple #[.agg #[.int .i64 (redN (my) (-arm)), .int .i64 (redD (my) (-arm))], .int .i64 0]) (by simp [results, Try.results43, go_sem, z0_0_2, z0_1_2, l0_2]) rfl ⟨rfl, by repeat' (first | exact Below.refl _ _ | exact HB2.out | assumption | refine below_drewN ?_ _ | refine Below.drew ?_ | refine Below.alloc ?_ (by first | omega | (simp; done) | (simp; omega) | (simp [World.setCell]; omega)) _ | refine Below.setCell ?_ (by first | omega | (simp; done) | (simp; omega)) _)⟩

set_option maxRecDepth 100000 in
set_option maxHeartbeats 4000000 in
theorem cw_tail11 (A : Option Addr) (n c N : Nat) (l : List (Int × Int × Int)) (arm mx my : Int) (w : World) (HX : Hid (Reads w N 3 A n (cells3 l))) (hN : N ≤ w.heap.size) (hn : n ≤ 9223372036854775807) (x y e : Int)
    (HMM : Hid (∀ w (A : Option Addr) (n c N : Nat), Reads w N 3 A n (cells3 l) → N ≤ w.heap.size → n ≤ 9223372036854775807 → Calls Try.prog 42 #[.slice A n c] w fun en w' => en = .returned (.tuple #[.agg #[.int .i64 mx, .int .i64 my], .int .i64 0]) ∧ Below w.heap.size w w'))
    (b1 : -6000000000000000 ≤ mx) (b2 : mx ≤ 6000000000000000) (b3 : -6000000000000000 ≤ my) (b4 : my ≤ 6000000000000000) (G1 : Hid (withinB 1 0 1 = true)) (G2 : Hid (withinB arm (-10000000) 10000000 = true)) (a3 : -10000000 ≤ arm) (a4 : arm ≤ 10000000) (harm : ¬ arm = 0) (h : ¬ arm < 0) (HF : Hid (tailF (-my) (arm) = ((x, y), e))) :
    Calls Try.prog 43 #[.slice A n c, .int .i64 1, .int .i64 arm] w fun en w' => en = .returned (.tuple #[.agg #[.int .i64 x, .int .i64 y], .int .i64 e]) ∧ Below w.heap.size w w' := by
  have hF := HF.out
  clear HF
  unfold tailF at hF
  have v1 := IntWalk.i64_in (-mx) ⟨by omega, by omega⟩
  have v2 := IntWalk.i64_in (-my) ⟨by omega, by omega⟩
  have v3 := IntWalk.i64_in (-arm) ⟨by omega, by omega⟩
  have v4 := IntWalk.i64_in mx ⟨by omega, by omega⟩
  have v5 := IntWalk.i64_in my ⟨by omega, by omega⟩
  go_enter Try.func43, Try.ntmps43
  go_wp2_with fail
  refine (HMM.out _ A n c N (HX.out.belowLe ((Below.refl _ _).alloc (Nat.le_refl _) _) hN) (by simp; omega) hn).mono ?_
  rintro e w1 ⟨rfl, hb⟩
  have HB1 := Lib.hid (show Below w.heap.size w w1 from step_below hb (by repeat' (first | exact Below.refl _ _ | exact HB0.out | assumption | refine below_drewN ?_ _ | refine Below.drew ?_ | refine Below.alloc ?_ (by first | omega | (simp; done) | (simp; omega) | (simp [World.setCell]; omega)) _ | refine Below.setCell ?_ (by first | omega | (simp; done) | (simp; omega)) _)))
  have K0_1 := Lib.hid (step_blk hb (show Blk _ (w.heap.size) 23 #[.int .i64 (0), .int .i64 (0)] by repeat' (first | assumption | exact Blk.at_ _ (by first | rfl | (simp; done) | (simp; omega)) _ _ | refine Blk.drewN ?_ _ | refine Blk.drew ?_ | refine Blk.alloc ?_ _ | refine Blk.far ?_ (by first | omega | (simp; done) | (simp; omega)) _)))
  have hz1 := hb.size
  try simp only [World.size_alloc, World.drewN, World.drew] at hz1
  clear hb
  have l0_1 : w.heap.size < w1.heap.size := K0_1.out.lt
  have z0_0_1 : w1.cell? ⟨w.heap.size, 0, none⟩ = some (.int .i64 (0)) := K0_1.out.cell 0
  have z0_1_1 : w1.cell? ⟨w.heap.size, 1, none⟩ = some (.int .i64 (0)) := K0_1.out.cell 1
  go_wp2_with fail
  refine (withinsup_is _ _ _ _ G1.out _).mono ?_
  rintro en w' ⟨rfl, rfl⟩
  go_wp2_with fail
  refine (withinsup_is _ _ _ _ G2.out _).mono ?_
  rintro en w' ⟨rfl, rfl⟩
  by_cases hneg : (-my) < 0
  · rw [if_pos hneg] at hF
    cases hF
    have zf0_0 := K0_1.out.frozen 0
    have zf0_1 := K0_1.out.frozen 1
    go_wp2
    exact bodyPost_ret (v := .tuple #[.agg #[.int .i64 0, .int .i64 0], .int .i64 12]) (by simp [results, Try.results43, go_sem, z0_0_1, z0_1_1, l0_1]) rfl ⟨rfl, by repeat' (first | exact Below.refl _ _ | exact HB1.out | assumption | refine below_drewN ?_ _ | refine Below.drew ?_ | refine Below.alloc ?_ (by first | omega | (simp; done) | (simp; omega) | (simp [World.setCell]; omega)) _ | refine Below.setCell ?_ (by first | omega | (simp; done) | (simp; omega)) _)⟩
  · rw [if_neg hneg] at hF
    cases hsm : smallB (-my) (arm) with
    | false =>
      rw [if_pos hsm] at hF
      cases hF
      have HS := Lib.hid hsm
      clear hsm
      go_wp2_with fail
      refine (small_t (-my) (arm) false HS.out _ (by omega) (by omega) (by omega) (by omega)).mono ?_
      rintro e w2 ⟨rfl, hb⟩
      have HB2 := Lib.hid (show Below w.heap.size w w2 from step_below hb (by repeat' (first | exact Below.refl _ _ | exact HB1.out | assumption | refine below_drewN ?_ _ | refine Below.drew ?_ | refine Below.alloc ?_ (by first | omega | (simp; done) | (simp; omega) | (simp [World.setCell]; omega)) _ | refine Below.setCell ?_ (by first | omega | (simp; done) | (simp; omega)) _)))
      have K0_2 := Lib.hid (step_blk hb (show Blk _ (w.heap.size) 23 #[.int .i64 (0), .int .i64 (0)] by repeat' (first | assumption | exact K0_1.out | exact Blk.at_ _ (by first | rfl | (simp; done) | (simp; omega)) _ _ | refine Blk.drewN ?_ _ | refine Blk.drew ?_ | refine Blk.alloc ?_ _ | refine Blk.far ?_ (by first | omega | (simp; done) | (simp; omega)) _)))
      have K1_2 := Lib.hid (step_blk hb (show Blk _ (w1.heap.size) 51 #[.int .i64 (mx), .int .i64 (my)] by repeat' (first | assumption | exact K0_1.out | exact Blk.at_ _ (by first | rfl | (simp; done) | (simp; omega)) _ _ | refine Blk.drewN ?_ _ | refine Blk.drew ?_ | refine Blk.alloc ?_ _ | refine Blk.far ?_ (by first | omega | (simp; done) | (simp; omega)) _)))
      have hz2 := hb.size
      try simp only [World.size_alloc, World.drewN, World.drew] at hz2
      clear hb K0_1 z0_0_1 z0_1_1 l0_1
      have l0_2 : w.heap.size < w2.heap.size := K0_2.out.lt
      have z0_0_2 : w2.cell? ⟨w.heap.size, 0, none⟩ = some (.int .i64 (0)) := K0_2.out.cell 0
      have z0_1_2 : w2.cell? ⟨w.heap.size, 1, none⟩ = some (.int .i64 (0)) := K0_2.out.cell 1
      have l1_2 : w1.heap.size < w2.heap.size := K1_2.out.lt
      have z1_0_2 : w2.cell? ⟨w1.heap.size, 0, none⟩ = some (.int .i64 (mx)) := K1_2.out.cell 0
      have z1_1_2 : w2.cell? ⟨w1.heap.size, 1, none⟩ = some (.int .i64 (my)) := K1_2.out.cell 1
      have zf0_0 := K0_2.out.frozen 0
      have zf0_1 := K0_2.out.frozen 1
      go_wp2
      exact bodyPost_ret (v := .tuple #[.agg #[.int .i64 0, .int .i64 0], .int .i64 8]) (by simp [results, Try.results43, go_sem, z0_0_2, z0_1_2, l0_2]) rfl ⟨rfl, by repeat' (first | exact Below.refl _ _ | exact HB2.out | assumption | refine below_drewN ?_ _ | refine Below.drew ?_ | refine Below.alloc ?_ (by first | omega | (simp; done) | (simp; omega) | (simp [World.setCell]; omega)) _ | refine Below.setCell ?_ (by first | omega | (simp; done) | (simp; omega)) _)⟩
    | true =>
      rw [if_neg (by rw [hsm]; simp)] at hF
      cases hF
      have HS := Lib.hid hsm
      clear hsm
      go_wp2_with fail
      refine (small_t (-my) (arm) true HS.out _ (by omega) (by omega) (by omega) (by omega)).mono ?_
      rintro e w2 ⟨rfl, hb⟩
      have HB2 := Lib.hid (show Below w.heap.size w w2 from step_below hb (by repeat' (first | exact Below.refl _ _ | exact HB1.out | assumption | refine below_drewN ?_ _ | refine Below.drew ?_ | refine Below.alloc ?_ (by first | omega | (simp; done) | (simp; omega) | (simp [World.setCell]; omega)) _ | refine Below.setCell ?_ (by first | omega | (simp; done) | (simp; omega)) _)))
      have K0_2 := Lib.hid (step_blk hb (show Blk _ (w.heap.size) 23 #[.int .i64 (0), .int .i64 (0)] by repeat' (first | assumption | exact K0_1.out | exact Blk.at_ _ (by first | rfl | (simp; done) | (simp; omega)) _ _ | refine Blk.drewN ?_ _ | refine Blk.drew ?_ | refine Blk.alloc ?_ _ | refine Blk.far ?_ (by first | omega | (simp; done) | (simp; omega)) _)))
      have K1_2 := Lib.hid (step_blk hb (show Blk _ (w1.heap.size) 51 #[.int .i64 (mx), .int .i64 (my)] by repeat' (first | assumption | exact K0_1.out | exact Blk.at_ _ (by first | rfl | (simp; done) | (simp; omega)) _ _ | refine Blk.drewN ?_ _ | refine Blk.drew ?_ | refine Blk.alloc ?_ _ | refine Blk.far ?_ (by first | omega | (simp; done) | (simp; omega)) _)))
      have hz2 := hb.size
      try simp only [World.size_alloc, World.drewN, World.drew] at hz2
      clear hb K0_1 z0_0_1 z0_1_1 l0_1
      have l0_2 : w.heap.size < w2.heap.size := K0_2.out.lt
      have z0_0_2 : w2.cell? ⟨w.heap.size, 0, none⟩ = some (.int .i64 (0)) := K0_2.out.cell 0
      have z0_1_2 : w2.cell? ⟨w.heap.size, 1, none⟩ = some (.int .i64 (0)) := K0_2.out.cell 1
      have l1_2 : w1.heap.size < w2.heap.size := K1_2.out.lt
      have z1_0_2 : w2.cell? ⟨w1.heap.size, 0, none⟩ = some (.int .i64 (mx)) := K1_2.out.cell 0
      have z1_1_2 : w2.cell? ⟨w1.heap.size, 1, none⟩ = some (.int .i64 (my)) := K1_2.out.cell 1
      have zf0_0 := K0_2.out.frozen 0
      have zf0_1 := K0_2.out.frozen 1
      go_wp2
      exact bodyPost_ret (v := .tuple #[.agg #[.int .i64 (redN (-my) (arm)), .int .i64 (redD (-my) (arm))], .int .i64 0]) (by simp [results, Try.results43, go_sem, z0_0_2, z0_1_2, l0_2]) rfl ⟨rfl, by repeat' (first | exact Below.refl _ _ | exact HB2.out | assumption | refine below_drewN ?_ _ | refine Below.drew ?_ | refine Below.alloc ?_ (by first | omega | (simp; done) | (simp; omega) | (simp [World.setCell]; omega)) _ | refine Below.setCell ?_ (by first | omega | (simp; done) | (simp; omega)) _)⟩

set_option maxRecDepth 100000 in
set_option maxHeartbeats 4000000 in
theorem cw_any (A : Option Addr) (n c N : Nat) (l : List (Int × Int × Int)) (axis arm : Int) (w : World) (hx : Reads w N 3 A n (cells3 l)) (hN : N ≤ w.heap.size) (hn : n ≤ 9223372036854775807) (x y e : Int) (hR : cwAll l axis arm = ((x, y), e)) :
    Calls Try.prog 43 #[.slice A n c, .int .i64 axis, .int .i64 arm] w fun en w' => en = .returned (.tuple #[.agg #[.int .i64 x, .int .i64 y], .int .i64 e]) ∧ Below w.heap.size w w' := by
  have HX := Lib.hid hx
  clear hx
  unfold cwAll at hR
  by_cases h0 : loadsErr l = 0
  rotate_left
  · rw [if_pos h0] at hR
    have hmb := momBad h0
    obtain ⟨E, hE⟩ : ∃ E, loadsErr l = E := ⟨_, rfl⟩
    have HMB : Hid (∀ w (A : Option Addr) (n c N : Nat), Reads w N 3 A n (cells3 l) → N ≤ w.heap.size → n ≤ 9223372036854775807 → Calls Try.prog 42 #[.slice A n c] w fun en w' => en = .returned (.tuple #[.agg #[.int .i64 0, .int .i64 0], .int .i64 E]) ∧ Below w.heap.size w w') :=
      fun w A n c N h1 h2 h3 => moments_any A n c N l w h1 h2 h3 0 0 E (by rw [hmb, hE])
    rw [hE] at hR h0
    cases hR
    have e0 : (e != 0) = true := by simpa using h0
    clear hmb hE h0
    go_enter Try.func43, Try.ntmps43
    go_wp2_with fail
    refine (HMB.out _ A n c N (HX.out.belowLe ((Below.refl _ _).alloc (Nat.le_refl _) _) hN) (by simp; omega) hn).mono ?_
    rintro e w1 ⟨rfl, hb⟩
    have HB1 := Lib.hid (show Below w.heap.size w w1 from step_below hb (by repeat' (first | exact Below.refl _ _ | exact HB0.out | assumption | refine below_drewN ?_ _ | refine Below.drew ?_ | refine Below.alloc ?_ (by first | omega | (simp; done) | (simp; omega) | (simp [World.setCell]; omega)) _ | refine Below.setCell ?_ (by first | omega | (simp; done) | (simp; omega)) _)))
    have K0_1 := Lib.hid (step_blk hb (show Blk _ (w.heap.size) 23 #[.int .i64 (0), .int .i64 (0)] by repeat' (first | assumption | exact Blk.at_ _ (by first | rfl | (simp; done) | (simp; omega)) _ _ | refine Blk.drewN ?_ _ | refine Blk.drew ?_ | refine Blk.alloc ?_ _ | refine Blk.far ?_ (by first | omega | (simp; done) | (simp; omega)) _)))
    have hz1 := hb.size
    try simp only [World.size_alloc, World.drewN, World.drew] at hz1
    clear hb
    have l0_1 : w.heap.size < w1.heap.size := K0_1.out.lt
    have z0_0_1 : w1.cell? ⟨w.heap.size, 0, none⟩ = some (.int .i64 (0)) := K0_1.out.cell 0
    have z0_1_1 : w1.cell? ⟨w.heap.size, 1, none⟩ = some (.int .i64 (0)) := K0_1.out.cell 1
    have zf0_0 := K0_1.out.frozen 0
    have zf0_1 := K0_1.out.frozen 1
    go_wp2
    exact bodyPost_ret (v := .tuple #[.agg #[.int .i64 0, .int .i64 0], .int .i64 e]) (by simp [results, Try.results43, go_sem, z0_0_1, z0_1_1, l0_1]) rfl ⟨rfl, by repeat' (first | exact Below.refl _ _ | exact HB1.out | assumption | refine below_drewN ?_ _ | refine Below.drew ?_ | refine Below.alloc ?_ (by first | omega | (simp; done) | (simp; omega) | (simp [World.setCell]; omega)) _ | refine Below.setCell ?_ (by first | omega | (simp; done) | (simp; omega)) _)⟩
  rw [if_neg (show ¬ loadsErr l ≠ 0 by simp [h0])] at hR
  obtain ⟨b1, b2, b3, b4⟩ := mom_in h0
  have hmm := momAll h0
  obtain ⟨mx, hmx⟩ : ∃ mx, (momF l).1 = mx := ⟨_, rfl⟩
  obtain ⟨my, hmy⟩ : ∃ my, (momF l).2 = my := ⟨_, rfl⟩
  unfold cwF at hR
  rw [hmx] at b1 b2
  rw [hmy] at b3 b4
  rw [hmx, hmy] at hmm hR
  have HMM : Hid (∀ w (A : Option Addr) (n c N : Nat), Reads w N 3 A n (cells3 l) → N ≤ w.heap.size → n ≤ 9223372036854775807 → Calls Try.prog 42 #[.slice A n c] w fun en w' => en = .returned (.tuple #[.agg #[.int .i64 mx, .int .i64 my], .int .i64 0]) ∧ Below w.heap.size w w') :=
    fun w A n c N h1 h2 h3 => moments_any A n c N l w h1 h2 h3 mx my 0 hmm
  clear hmm hmx hmy h0
  cases g1 : withinB axis 0 1 with
  | false =>
    rw [if_pos (.inl g1)] at hR
    cases hR
    have G1 := Lib.hid g1
    clear g1
    go_enter Try.func43, Try.ntmps43
    go_wp2_with fail
    refine (HMM.out _ A n c N (HX.out.belowLe ((Below.refl _ _).alloc (Nat.le_refl _) _) hN) (by simp; omega) hn).mono ?_
    rintro e w1 ⟨rfl, hb⟩
    have HB1 := Lib.hid (show Below w.heap.size w w1 from step_below hb (by repeat' (first | exact Below.refl _ _ | exact HB0.out | assumption | refine below_drewN ?_ _ | refine Below.drew ?_ | refine Below.alloc ?_ (by first | omega | (simp; done) | (simp; omega) | (simp [World.setCell]; omega)) _ | refine Below.setCell ?_ (by first | omega | (simp; done) | (simp; omega)) _)))
    have K0_1 := Lib.hid (step_blk hb (show Blk _ (w.heap.size) 23 #[.int .i64 (0), .int .i64 (0)] by repeat' (first | assumption | exact Blk.at_ _ (by first | rfl | (simp; done) | (simp; omega)) _ _ | refine Blk.drewN ?_ _ | refine Blk.drew ?_ | refine Blk.alloc ?_ _ | refine Blk.far ?_ (by first | omega | (simp; done) | (simp; omega)) _)))
    have hz1 := hb.size
    try simp only [World.size_alloc, World.drewN, World.drew] at hz1
    clear hb
    have l0_1 : w.heap.size < w1.heap.size := K0_1.out.lt
    have z0_0_1 : w1.cell? ⟨w.heap.size, 0, none⟩ = some (.int .i64 (0)) := K0_1.out.cell 0
    have z0_1_1 : w1.cell? ⟨w.heap.size, 1, none⟩ = some (.int .i64 (0)) := K0_1.out.cell 1
    have zf0_0 := K0_1.out.frozen 0
    have zf0_1 := K0_1.out.frozen 1
    go_wp2_with (first | (go_at_call 79; refine (withinsup_is _ _ _ _ G1.out _).mono ?_; rintro e w' ⟨rfl, rfl⟩))
    exact bodyPost_ret (v := .tuple #[.agg #[.int .i64 0, .int .i64 0], .int .i64 2]) (by simp [results, Try.results43, go_sem, z0_0_1, z0_1_1, l0_1]) rfl ⟨rfl, by repeat' (first | exact Below.refl _ _ | exact HB1.out | assumption | refine below_drewN ?_ _ | refine Below.drew ?_ | refine Below.alloc ?_ (by first | omega | (simp; done) | (simp; omega) | (simp [World.setCell]; omega)) _ | refine Below.setCell ?_ (by first | omega | (simp; done) | (simp; omega)) _)⟩
  | true =>
  cases g2 : withinB arm (-10000000) 10000000 with
  | false =>
    rw [if_pos (.inr g2)] at hR
    cases hR
    have G1 := Lib.hid g1
    have G2 := Lib.hid g2
    clear g1 g2
    go_enter Try.func43, Try.ntmps43
    go_wp2_with fail
    refine (HMM.out _ A n c N (HX.out.belowLe ((Below.refl _ _).alloc (Nat.le_refl _) _) hN) (by simp; omega) hn).mono ?_
    rintro e w1 ⟨rfl, hb⟩
    have HB1 := Lib.hid (show Below w.heap.size w w1 from step_below hb (by repeat' (first | exact Below.refl _ _ | exact HB0.out | assumption | refine below_drewN ?_ _ | refine Below.drew ?_ | refine Below.alloc ?_ (by first | omega | (simp; done) | (simp; omega) | (simp [World.setCell]; omega)) _ | refine Below.setCell ?_ (by first | omega | (simp; done) | (simp; omega)) _)))
    have K0_1 := Lib.hid (step_blk hb (show Blk _ (w.heap.size) 23 #[.int .i64 (0), .int .i64 (0)] by repeat' (first | assumption | exact Blk.at_ _ (by first | rfl | (simp; done) | (simp; omega)) _ _ | refine Blk.drewN ?_ _ | refine Blk.drew ?_ | refine Blk.alloc ?_ _ | refine Blk.far ?_ (by first | omega | (simp; done) | (simp; omega)) _)))
    have hz1 := hb.size
    try simp only [World.size_alloc, World.drewN, World.drew] at hz1
    clear hb
    have l0_1 : w.heap.size < w1.heap.size := K0_1.out.lt
    have z0_0_1 : w1.cell? ⟨w.heap.size, 0, none⟩ = some (.int .i64 (0)) := K0_1.out.cell 0
    have z0_1_1 : w1.cell? ⟨w.heap.size, 1, none⟩ = some (.int .i64 (0)) := K0_1.out.cell 1
    have zf0_0 := K0_1.out.frozen 0
    have zf0_1 := K0_1.out.frozen 1
    go_wp2_with fail
    refine (withinsup_is _ _ _ _ G1.out _).mono ?_
    rintro en w' ⟨rfl, rfl⟩
    go_wp2_with fail
    refine (withinsup_is _ _ _ _ G2.out _).mono ?_
    rintro en w' ⟨rfl, rfl⟩
    go_wp2
    exact bodyPost_ret (v := .tuple #[.agg #[.int .i64 0, .int .i64 0], .int .i64 2]) (by simp [results, Try.results43, go_sem, z0_0_1, z0_1_1, l0_1]) rfl ⟨rfl, by repeat' (first | exact Below.refl _ _ | exact HB1.out | assumption | refine below_drewN ?_ _ | refine Below.drew ?_ | refine Below.alloc ?_ (by first | omega | (simp; done) | (simp; omega) | (simp [World.setCell]; omega)) _ | refine Below.setCell ?_ (by first | omega | (simp; done) | (simp; omega)) _)⟩
  | true =>
  rw [if_neg (by rw [g1, g2]; simp)] at hR
  obtain ⟨a1, a2⟩ := within_yes g1
  obtain ⟨a3, a4⟩ := within_yes g2
  have G1 := Lib.hid g1
  have G2 := Lib.hid g2
  clear g1 g2
  by_cases harm : arm = 0
  · rw [if_pos harm] at hR
    cases hR
    subst harm
    go_enter Try.func43, Try.ntmps43
    go_wp2_with fail
    refine (HMM.out _ A n c N (HX.out.belowLe ((Below.refl _ _).alloc (Nat.le_refl _) _) hN) (by simp; omega) hn).mono ?_
    rintro e w1 ⟨rfl, hb⟩
    have HB1 := Lib.hid (show Below w.heap.size w w1 from step_below hb (by repeat' (first | exact Below.refl _ _ | exact HB0.out | assumption | refine below_drewN ?_ _ | refine Below.drew ?_ | refine Below.alloc ?_ (by first | omega | (simp; done) | (simp; omega) | (simp [World.setCell]; omega)) _ | refine Below.setCell ?_ (by first | omega | (simp; done) | (simp; omega)) _)))
    have K0_1 := Lib.hid (step_blk hb (show Blk _ (w.heap.size) 23 #[.int .i64 (0), .int .i64 (0)] by repeat' (first | assumption | exact Blk.at_ _ (by first | rfl | (simp; done) | (simp; omega)) _ _ | refine Blk.drewN ?_ _ | refine Blk.drew ?_ | refine Blk.alloc ?_ _ | refine Blk.far ?_ (by first | omega | (simp; done) | (simp; omega)) _)))
    have hz1 := hb.size
    try simp only [World.size_alloc, World.drewN, World.drew] at hz1
    clear hb
    have l0_1 : w.heap.size < w1.heap.size := K0_1.out.lt
    have z0_0_1 : w1.cell? ⟨w.heap.size, 0, none⟩ = some (.int .i64 (0)) := K0_1.out.cell 0
    have z0_1_1 : w1.cell? ⟨w.heap.size, 1, none⟩ = some (.int .i64 (0)) := K0_1.out.cell 1
    have zf0_0 := K0_1.out.frozen 0
    have zf0_1 := K0_1.out.frozen 1
    go_wp2_with fail
    refine (withinsup_is _ _ _ _ G1.out _).mono ?_
    rintro en w' ⟨rfl, rfl⟩
    go_wp2_with fail
    refine (withinsup_is _ _ _ _ G2.out _).mono ?_
    rintro en w' ⟨rfl, rfl⟩
    go_wp2
    exact bodyPost_ret (v := .tuple #[.agg #[.int .i64 0, .int .i64 0], .int .i64 11]) (by simp [results, Try.results43, go_sem, z0_0_1, z0_1_1, l0_1]) rfl ⟨rfl, by repeat' (first | exact Below.refl _ _ | exact HB1.out | assumption | refine below_drewN ?_ _ | refine Below.drew ?_ | refine Below.alloc ?_ (by first | omega | (simp; done) | (simp; omega) | (simp [World.setCell]; omega)) _ | refine Below.setCell ?_ (by first | omega | (simp; done) | (simp; omega)) _)⟩
  rw [if_neg harm] at hR
  have hax : axis = 0 ∨ axis = 1 := by omega
  have hs : arm < 0 ∨ ¬ arm < 0 := by omega
  obtain ⟨a, b, hab, hF⟩ : ∃ a b, ((arm < 0 ∧ a = (if axis = 0 then mx else my) ∧ b = -arm) ∨ (¬ arm < 0 ∧ a = -(if axis = 0 then mx else my) ∧ b = arm)) ∧ tailF a b = ((x, y), e) := by
    rcases hs with h | h
    · refine ⟨_, _, .inl ⟨h, rfl, rfl⟩, ?_⟩
      rw [cwOf_neg h] at hR
      rw [← hR]
      congr 1
      split <;> omega
    · refine ⟨_, _, .inr ⟨h, rfl, rfl⟩, ?_⟩
      rw [cwOf_pos h] at hR
      rw [← hR]
      congr 1
      split <;> rfl
  have HF := Lib.hid hF
  have HAB := Lib.hid hab
  clear hR hF hab hs
  rcases hax with rfl | rfl
  · rcases HAB.out with ⟨h, ha, hb⟩ | ⟨h, ha, hb⟩
    · rw [if_pos rfl] at ha
      subst a b
      exact cw_tail00 A n c N l arm mx my w HX hN hn x y e HMM b1 b2 b3 b4 G1 G2 a3 a4 harm h HF
    · rw [if_pos rfl] at ha
      subst a b
      exact cw_tail01 A n c N l arm mx my w HX hN hn x y e HMM b1 b2 b3 b4 G1 G2 a3 a4 harm h HF
  · rcases HAB.out with ⟨h, ha, hb⟩ | ⟨h, ha, hb⟩
    · rw [if_neg (by decide)] at ha
      subst a b
      exact cw_tail10 A n c N l arm mx my w HX hN hn x y e HMM b1 b2 b3 b4 G1 G2 a3 a4 harm h HF
    · rw [if_neg (by decide)] at ha
      subst a b
      exact cw_tail11 A n c N l arm mx my w HX hN hn x y e HMM b1 b2 b3 b4 G1 G2 a3 a4 harm h HF

end Go.Proofs.Ytmioamcgbihhjaa
