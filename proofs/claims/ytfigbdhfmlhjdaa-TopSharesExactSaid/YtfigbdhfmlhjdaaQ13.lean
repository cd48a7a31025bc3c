import Derived.Test.YtfigbdhfmlhjdaaQ12

section
/- Contracts of the sums, differences and products of chapter 1. -/
namespace Go.Proofs.Ytfigbdhfmlhjdaa
open Go.RowKit

theorem checkfrac_is3 (n d t : Int) (h : fracErr n d = t) (w : World) (h1 : -9223372036854775808 ≤ n) (h2 : n ≤ 9223372036854775807) (h3 : -9223372036854775808 ≤ d) (h4 : d ≤ 9223372036854775807) :
    Calls Try.prog 65 #[.agg #[.int .i64 n, .int .i64 d]] w fun e w' => e = .returned (.int .i64 t) ∧ Below w.heap.size w w' := h ▸ checkfrac_any n d w h1 h2 h3 h4

theorem fracErr_in {n d : Int} (h : fracErr n d = 0) : 1 ≤ d ∧ d ≤ 1000000000 ∧ -1000000000 ≤ n ∧ n ≤ 1000000000 ∧ Int.gcd n d = 1 := by
  unfold fracErr at h
  split at h
  · exact absurd h (by decide)
  · split at h
    · exact absurd h (by decide)
    · rename_i h1 h2
      refine ⟨by omega, by omega, by omega, by omega, by omega⟩

set_option maxHeartbeats 1000000 in
/-- All of them are right. -/
theorem checkfracs_ok (A : Option Addr) (n c N : Nat) (l : List (Int × Int)) (hl : ∀ p ∈ l, fracErr p.1 p.2 = 0) (w : World) (hx : Reads w N 2 A n (cells2 l)) (hN : N ≤ w.heap.size) (hn : n ≤ 1000000) :
    Calls Try.prog 39 #[.slice A n c] w fun e w' => e = .returned (.int .i64 0) ∧ Below w.heap.size w w' := by
  have HX := Lib.hid hx
  have HL := Lib.hid hl
  clear hx hl
  go_enter Try.func39, Try.ntmps39
  go_wp2
  go_loopw [8] (fun i wr => ∃ k : Nat, k ≤ n ∧ i = .int .i64 k ∧ Below w.heap.size w wr) (fun i _ => n - (intOf i).toNat)
  case atStart => exact ⟨0, by omega, rfl, Below.refl _ _⟩
  case round =>
    obtain ⟨k, hk, rfl, hb⟩ := hrel
    have HB := Lib.hid hb
    clear hb
    by_cases hlt : k < n
    · obtain ⟨xb, xo, p, rfl, hxb, hp, c0, c1⟩ := (HX.out.belowLe HB.out hN).pair hlt
      have HE := Lib.hid (HL.out p (List.mem_of_getElem? hp))
      obtain ⟨d1, d2, n1, n2, -⟩ := fracErr_in HE.out
      clear hp
      go_wp2_with fail
      refine (checkfrac_is3 _ _ 0 HE.out _ (by omega) (by omega) (by omega) (by omega)).mono ?_
      rintro e w1 ⟨rfl, hb1⟩
      have HB1 : Hid (Below w.heap.size w w1) := (HB.out.alloc HB.out.size _).trans (hb1.mono (HB.out.alloc HB.out.size _).size)
      clear hb1
      go_wp2
      go_roundw
      case rel => exact ⟨k + 1, by omega, by go_num, HB1.out⟩
      case measure => simp [intOf]; omega
    · go_wp2
      go_ret
      exact ⟨rfl, HB.out⟩

set_option maxRecDepth 100000 in
theorem valid_ok (a b : Int) (ht : smallB a b = true) (w : World) (h1 : -9223372036854775808 < a) (h2 : a ≤ 9223372036854775807) (h3 : 1 ≤ b) (h4 : b ≤ 9223372036854775807) :
    Calls Try.prog 40 #[.int .i64 a, .int .i64 b] w fun e w' => e = .returned (.tuple #[.agg #[.int .i64 (redN a b), .int .i64 (redD a b)], .int .i64 0]) ∧ Below w.heap.size w w' := by
  have hE := (small_err h3).1 ht
  have hg := gcd_small a b h3 h4
  have hp : 0 < Int.gcd a b := Int.gcd_pos_of_ne_zero_right a (by omega)
  have e1 := tdiv_gcd_left a b
  have e2 := tdiv_gcd_right a b
  obtain ⟨b1, b2, b3, b4⟩ := red_in h1 h2 h3 h4
  have v1 := IntWalk.i64_in (a / (Int.gcd a b : Int)) ⟨by unfold redN at b1; omega, by unfold redN at b2; omega⟩
  have v2 := IntWalk.i64_in (b / (Int.gcd a b : Int)) ⟨by unfold redD at b3; omega, by unfold redD at b4; omega⟩
  have hX : a / (Int.gcd a b : Int) = redN a b := rfl
  have hY : b / (Int.gcd a b : Int) = redD a b := rfl
  rw [hX] at e1 v1
  rw [hY] at e2 v2
  have HE := Lib.hid hE
  clear hX hY hE ht
  generalize redN a b = X at *
  generalize redD a b = Y at *
  go_enter Try.func40, Try.ntmps40
  go_wp2_with fail
  refine (divisor_any _ _ _ (by omega) (by omega) (by omega) (by omega)).mono ?_
  rintro e w' ⟨rfl, rfl⟩
  go_wp2_with fail
  go_region
  go_wp2_with fail
  refine (checkfrac_is3 _ _ 0 HE.out _ (by omega) (by omega) (by omega) (by omega)).mono ?_
  rintro e w1 ⟨rfl, hb⟩
  have HB1 := Lib.hid (show Below w.heap.size w w1 from step_below hb (by repeat' (first | exact Below.refl _ _ | exact HB0.out | refine below_drewN ?_ _ | refine Below.drew ?_ | refine Below.alloc ?_ (by first | omega | (simp; done) | (simp; omega) | (simp [World.setCell]; omega)) _ | refine Below.setCell ?_ (by first | omega | (simp; done) | (simp; omega)) _ | assumption)))
  have K0_1 := Lib.hid (step_blk hb (show Blk _ (w.heap.size) 35 #[.int .i64 (0), .int .i64 (0)] by repeat' (first | exact Blk.at_ _ (by first | rfl | (simp; done) | (simp; omega)) _ _ | refine Blk.drewN ?_ _ | refine Blk.drew ?_ | refine Blk.alloc ?_ _ | refine Blk.far ?_ (by first | omega | (simp; done) | (simp; omega)) _ | assumption)))
  have K1_1 := Lib.hid (step_blk hb (show Blk _ (w.heap.size + 1) 35 #[.int .i64 (X), .int .i64 (Y)] by repeat' (first | exact Blk.at_ _ (by first | rfl | (simp; done) | (simp; omega)) _ _ | refine Blk.drewN ?_ _ | refine Blk.drew ?_ | refine Blk.alloc ?_ _ | refine Blk.far ?_ (by first | omega | (simp; done) | (simp; omega)) _ | assumption)))
  have hz1 := hb.size
  try simp only [World.size_alloc, World.drewN, World.drew] at hz1
  clear hb
  have l0_1 : w.heap.size < w1.heap.size := K0_1.out.lt
  have z0_0_1 : w1.cell? ⟨w.heap.size, 0, none⟩ = some (.int .i64 (0)) := K0_1.out.cell 0
  have z0_1_1 : w1.cell? ⟨w.heap.size, 1, none⟩ = some (.int .i64 (0)) := K0_1.out.cell 1
  have l1_1 : w.heap.size + 1 < w1.heap.size := K1_1.out.lt
  have z1_0_1 : w1.cell? ⟨w.heap.size + 1, 0, none⟩ = some (.int .i64 (X)) := K1_1.out.cell 0
  have z1_1_1 : w1.cell? ⟨w.heap.size + 1, 1, none⟩ = some (.int .i64 (Y)) := K1_1.out.cell 1
  have zf0_0 := K0_1.out.frozen 0
  have zf0_1 := K0_1.out.frozen 1
  go_wp2
  exact bodyPost_ret (v := .tuple #[.agg #[.int .i64 X, .int .i64 Y], .int .i64 0]) (by simp [results, Try.results40, go_sem, z0_0_1, z0_1_1, z1_0_1, z1_1_1, l0_1, l1_1]) rfl ⟨rfl, by repeat' (first | exact Below.refl _ _ | exact HB1.out | refine below_drewN ?_ _ | refine Below.drew ?_ | refine Below.alloc ?_ (by first | omega | (simp; done) | (simp; omega) | (simp [World.setCell]; omega)) _ | refine Below.setCell ?_ (by first | omega | (simp; done) | (simp; omega)) _ | assumption)⟩

set_option maxRecDepth 100000 in
theorem valid_no (a b : Int) (ht : smallB a b = false) (w : World) (h1 : -9223372036854775808 < a) (h2 : a ≤ 9223372036854775807) (h3 : 1 ≤ b) (h4 : b ≤ 9223372036854775807) :
    Calls Try.prog 40 #[.int .i64 a, .int .i64 b] w fun e w' => e = .returned (.tuple #[.agg #[.int .i64 0, .int .i64 0], .int .i64 8]) ∧ Below w.heap.size w w' := by
  have hE : fracErr (redN a b) (redD a b) ≠ 0 := fun h => by have := (small_err h3).2 h; rw [ht] at this; cases this
  have hg := gcd_small a b h3 h4
  have hp : 0 < Int.gcd a b := Int.gcd_pos_of_ne_zero_right a (by omega)
  have e1 := tdiv_gcd_left a b
  have e2 := tdiv_gcd_right a b
  obtain ⟨b1, b2, b3, b4⟩ := red_in h1 h2 h3 h4
  have v1 := IntWalk.i64_in (a / (Int.gcd a b : Int)) ⟨by unfold redN at b1; omega, by unfold redN at b2; omega⟩
  have v2 := IntWalk.i64_in (b / (Int.gcd a b : Int)) ⟨by unfold redD at b3; omega, by unfold redD at b4; omega⟩
  have hX : a / (Int.gcd a b : Int) = redN a b := rfl
  have hY : b / (Int.gcd a b : Int) = redD a b := rfl
  rw [hX] at e1 v1
  rw [hY] at e2 v2
  clear hX hY ht
  generalize redN a b = X at *
  generalize redD a b = Y at *
  obtain ⟨T, hT⟩ : ∃ T, fracErr X Y = T := ⟨_, rfl⟩
  rw [hT] at hE
  have e0 : (T != 0) = true := by simpa using hE
  have HT := Lib.hid hT
  clear hE hT
  go_enter Try.func40, Try.ntmps40
  go_wp2_with fail
  refine (divisor_any _ _ _ (by omega) (by omega) (by omega) (by omega)).mono ?_
  rintro e w' ⟨rfl, rfl⟩
  go_wp2_with fail
  go_region
  go_wp2_with fail
  refine (checkfrac_is3 _ _ T HT.out _ (by omega) (by omega) (by omega) (by omega)).mono ?_
  rintro e w1 ⟨rfl, hb⟩
  have HB1 := Lib.hid (show Below w.heap.size w w1 from step_below hb (by repeat' (first | exact Below.refl _ _ | exact HB0.out | refine below_drewN ?_ _ | refine Below.drew ?_ | refine Below.alloc ?_ (by first | omega | (simp; done) | (simp; omega) | (simp [World.setCell]; omega)) _ | refine Below.setCell ?_ (by first | omega | (simp; done) | (simp; omega)) _ | assumption)))
  have K0_1 := Lib.hid (step_blk hb (show Blk _ (w.heap.size) 35 #[.int .i64 (0), .int .i64 (0)] by repeat' (first | exact Blk.at_ _ (by first | rfl | (simp; done) | (simp; omega)) _ _ | refine Blk.drewN ?_ _ | refine Blk.drew ?_ | refine Blk.alloc ?_ _ | refine Blk.far ?_ (by first | omega | (simp; done) | (simp; omega)) _ | assumption)))
  have K1_1 := Lib.hid (step_blk hb (show Blk _ (w.heap.size + 1) 35 #[.int .i64 (X), .int .i64 (Y)] by repeat' (first | exact Blk.at_ _ (by first | rfl | (simp; done) | (simp; omega)) _ _ | refine Blk.drewN ?_ _ | refine Blk.drew ?_ | refine Blk.alloc ?_ _ | refine Blk.far ?_ (by first | omega | (simp; done) | (simp; omega)) _ | assumption)))
  have hz1 := hb.size
  try simp only [World.size_alloc, World.drewN, World.drew] at hz1
  clear hb
  have l0_1 : w.heap.size < w1.heap.size := K0_1.out.lt
  have z0_0_1 : w1.cell? ⟨w.heap.size, 0, none⟩ = some (.int .i64 (0)) := K0_1.out.cell 0
  have z0_1_1 : w1.cell? ⟨w.heap.size, 1, none⟩ = some (.int .i64 (0)) := K0_1.out.cell 1
  have l1_1 : w.heap.size + 1 < w1.heap.size := K1_1.out.lt
  have z1_0_1 : w1.cell? ⟨w.heap.size + 1, 0, none⟩ = some (.int .i64 (X)) := K1_1.out.cell 0
  have z1_1_1 : w1.cell? ⟨w.heap.size + 1, 1, none⟩ = some (.int .i64 (Y)) := K1_1.out.cell 1
  have zf0_0 := K0_1.out.frozen 0
  have zf0_1 := K0_1.out.frozen 1
  go_wp2
  exact bodyPost_ret (v := .tuple #[.agg #[.int .i64 0, .int .i64 0], .int .i64 8]) (by simp [results, Try.results40, go_sem, z0_0_1, z0_1_1, z1_0_1, z1_1_1, l0_1, l1_1]) rfl ⟨rfl, by repeat' (first | exact Below.refl _ _ | exact HB1.out | refine below_drewN ?_ _ | refine Below.drew ?_ | refine Below.alloc ?_ (by first | omega | (simp; done) | (simp; omega) | (simp [World.setCell]; omega)) _ | refine Below.setCell ?_ (by first | omega | (simp; done) | (simp; omega)) _ | assumption)⟩

/-- A literal of two fractions. -/
theorem reads_two (W : World) (t : TypeId) (a b c d : Int) (g : Nat) (hg : g = W.heap.size) : Reads (W.alloc (.cells #[.int .i64 a, .int .i64 b, .int .i64 c, .int .i64 d] t)) (g + 1) 2 (some ⟨g, 0, none⟩) 2 (cells2 [(a, b), (c, d)]) := by
  subst hg
  have h := Blk.reads (n := 2) (size := 2) (xs := cells2 [(a, b), (c, d)]) (Blk.new W t #[.int .i64 a, .int .i64 b, .int .i64 c, .int .i64 d]) rfl
  rw [World.size_alloc] at h
  exact h

/-- A fraction in lowest terms; none: it is not small. -/
def opF (a b : Int) : Option (Int × Int) := if smallB a b then some (redN a b, redD a b) else none
def subF (a b : Int × Int) : Option (Int × Int) := opF (a.1 * b.2 - b.1 * a.2) (a.2 * b.2)
def addF (a b : Int × Int) : Option (Int × Int) := opF (a.1 * b.2 + b.1 * a.2) (a.2 * b.2)
def mulF (a b : Int × Int) : Option (Int × Int) := opF (a.1 * b.1) (a.2 * b.2)
/-- A right fraction. -/
def FOk (p : Int × Int) : Prop := fracErr p.1 p.2 = 0

theorem FOk.parts {p : Int × Int} (h : FOk p) : 1 ≤ p.2 ∧ p.2 ≤ 1000000000 ∧ -1000000000 ≤ p.1 ∧ p.1 ≤ 1000000000 := by
  obtain ⟨h1, h2, h3, h4, -⟩ := fracErr_in h
  exact ⟨h1, h2, h3, h4⟩
theorem prod_in {x y : Int} (h1 : -1000000000 ≤ x) (h2 : x ≤ 1000000000) (h3 : -1000000000 ≤ y) (h4 : y ≤ 1000000000) : -1000000000000000000 ≤ x * y ∧ x * y ≤ 1000000000000000000 := by
  have h : (x * y).natAbs ≤ 1000000000 * 1000000000 := by
    rw [Int.natAbs_mul]
    exact Nat.mul_le_mul (by omega) (by omega)
  omega
theorem den_in {x y : Int} (h1 : 1 ≤ x) (h2 : x ≤ 1000000000) (h3 : 1 ≤ y) (h4 : y ≤ 1000000000) : 1 ≤ x * y ∧ x * y ≤ 1000000000000000000 := by
  have h := Int.mul_pos (show 0 < x by omega) (show 0 < y by omega)
  exact ⟨by omega, (prod_in (by omega) h2 (by omega) h4).2⟩
theorem opF_some {a b : Int} {p : Int × Int} (h : opF a b = some p) : smallB a b = true ∧ redN a b = p.1 ∧ redD a b = p.2 := by
  unfold opF at h
  split at h
  · rename_i hs
    obtain rfl := Option.some.inj h
    exact ⟨hs, rfl, rfl⟩
  · cases h
theorem opF_none {a b : Int} (h : opF a b = none) : smallB a b = false := by
  unfold opF at h
  split at h
  · cases h
  · rename_i hs
    simpa using hs
theorem opF_ok {a b : Int} (hb : 1 ≤ b) {p : Int × Int} (h : opF a b = some p) : FOk p := by
  obtain ⟨hs, h1, h2⟩ := opF_some h
  unfold FOk
  rw [← h1, ← h2]
  exact (small_err hb).1 hs

set_option maxRecDepth 100000 in
set_option maxHeartbeats 1000000 in
theorem numAdd_ok (a b : Int × Int) (ha : FOk a) (hb : FOk b) (p : Int × Int) (h : addF a b = some p) (w : World) :
    Calls Try.prog 18 #[.agg #[.int .i64 a.1, .int .i64 a.2], .agg #[.int .i64 b.1, .int .i64 b.2]] w fun e w' => e = .returned (.tuple #[.agg #[.int .i64 p.1, .int .i64 p.2], .int .i64 0]) ∧ Below w.heap.size w w' := by
  obtain ⟨a1, a2, a3, a4⟩ := ha.parts
  obtain ⟨b1, b2, b3, b4⟩ := hb.parts
  have HL : Hid (∀ p ∈ [a, b], fracErr p.1 p.2 = 0) := fun p hp => by
    rcases List.mem_cons.1 hp with rfl | hp
    · exact ha
    · rcases List.mem_cons.1 hp with rfl | hp
      · exact hb
      · cases hp
  unfold addF at h
  obtain ⟨hs, h1, h2⟩ := opF_some h
  have HS := Lib.hid hs
  clear h hs ha hb
  obtain ⟨an, ad⟩ := a
  obtain ⟨bn, bd⟩ := b
  simp only at *
  obtain ⟨X, Y⟩ := p
  simp only at *
  subst h1 h2
  have q1 := prod_in a3 a4 (show -1000000000 ≤ bd by omega) b2
  have q2 := prod_in b3 b4 (show -1000000000 ≤ ad by omega) a2
  have q3 := den_in a1 a2 b1 b2
  have v1 := IntWalk.i64_in (an * bd) ⟨by omega, by omega⟩
  have v2 := IntWalk.i64_in (bn * ad) ⟨by omega, by omega⟩
  have v3 := IntWalk.i64_in (ad * bd) ⟨by omega, by omega⟩
  have v4 := IntWalk.i64_in (an * bd + bn * ad) ⟨by omega, by omega⟩
  go_enter Try.func18, Try.ntmps18
  go_wp2_with fail
  refine (checkfracs_ok _ 2 _ _ [(an, ad), (bn, bd)] HL.out _ (reads_two _ _ _ _ _ _ (w.heap.size + 1 + 1 + 1) (by simp)) (by simp) (by omega)).mono ?_
  rintro e w1 ⟨rfl, hb⟩
  have HB1 := Lib.hid (show Below w.heap.size w w1 from step_below hb (by repeat' (first | exact Below.refl _ _ | exact HB0.out | refine below_drewN ?_ _ | refine Below.drew ?_ | refine Below.alloc ?_ (by first | omega | (simp; done) | (simp; omega) | (simp [World.setCell]; omega)) _ | refine Below.setCell ?_ (by first | omega | (simp; done) | (simp; omega)) _ | assumption)))
  have K0_1 := Lib.hid (step_blk hb (show Blk _ (w.heap.size) 35 #[.int .i64 (an), .int .i64 (ad)] by repeat' (first | exact Blk.at_ _ (by first | rfl | (simp; done) | (simp; omega)) _ _ | refine Blk.drewN ?_ _ | refine Blk.drew ?_ | refine Blk.alloc ?_ _ | refine Blk.far ?_ (by first | omega | (simp; done) | (simp; omega)) _ | assumption)))
  have K1_1 := Lib.hid (step_blk hb (show Blk _ (w.heap.size + 1) 35 #[.int .i64 (bn), .int .i64 (bd)] by repeat' (first | exact Blk.at_ _ (by first | rfl | (simp; done) | (simp; omega)) _ _ | refine Blk.drewN ?_ _ | refine Blk.drew ?_ | refine Blk.alloc ?_ _ | refine Blk.far ?_ (by first | omega | (simp; done) | (simp; omega)) _ | assumption)))
  have K2_1 := Lib.hid (step_blk hb (show Blk _ (w.heap.size + 2) 35 #[.int .i64 (0), .int .i64 (0)] by repeat' (first | exact Blk.at_ _ (by first | rfl | (simp; done) | (simp; omega)) _ _ | refine Blk.drewN ?_ _ | refine Blk.drew ?_ | refine Blk.alloc ?_ _ | refine Blk.far ?_ (by first | omega | (simp; done) | (simp; omega)) _ | assumption)))
  have K3_1 := Lib.hid (step_blk hb (show Blk _ (w.heap.size + 3) 35 #[.int .i64 (an), .int .i64 (ad), .int .i64 (bn), .int .i64 (bd)] by repeat' (first | exact Blk.at_ _ (by first | rfl | (simp; done) | (simp; omega)) _ _ | refine Blk.drewN ?_ _ | refine Blk.drew ?_ | refine Blk.alloc ?_ _ | refine Blk.far ?_ (by first | omega | (simp; done) | (simp; omega)) _ | assumption)))
  have hz1 := hb.size
  try simp only [World.size_alloc, World.drewN, World.drew] at hz1
  clear hb
  have l0_1 : w.heap.size < w1.heap.size := K0_1.out.lt
  have z0_0_1 : w1.cell? ⟨w.heap.size, 0, none⟩ = some (.int .i64 (an)) := K0_1.out.cell 0
  have z0_1_1 : w1.cell? ⟨w.heap.size, 1, none⟩ = some (.int .i64 (ad)) := K0_1.out.cell 1
  have l1_1 : w.heap.size + 1 < w1.heap.size := K1_1.out.lt
  have z1_0_1 : w1.cell? ⟨w.heap.size + 1, 0, none⟩ = some (.int .i64 (bn)) := K1_1.out.cell 0
  have z1_1_1 : w1.cell? ⟨w.heap.size + 1, 1, none⟩ = some (.int .i64 (bd)) := K1_1.out.cell 1
  have l2_1 : w.heap.size + 2 < w1.heap.size := K2_1.out.lt
  have z2_0_1 : w1.cell? ⟨w.heap.size + 2, 0, none⟩ = some (.int .i64 (0)) := K2_1.out.cell 0
  have z2_1_1 : w1.cell? ⟨w.heap.size + 2, 1, none⟩ = some (.int .i64 (0)) := K2_1.out.cell 1
  have l3_1 : w.heap.size + 3 < w1.heap.size := K3_1.out.lt
  have z3_0_1 : w1.cell? ⟨w.heap.size + 3, 0, none⟩ = some (.int .i64 (an)) := K3_1.out.cell 0
  have z3_1_1 : w1.cell? ⟨w.heap.size + 3, 1, none⟩ = some (.int .i64 (ad)) := K3_1.out.cell 1
  have z3_2_1 : w1.cell? ⟨w.heap.size + 3, 2, none⟩ = some (.int .i64 (bn)) := K3_1.out.cell 2
  have z3_3_1 : w1.cell? ⟨w.heap.size + 3, 3, none⟩ = some (.int .i64 (bd)) := K3_1.out.cell 3
  go_wp2_with fail
  refine (valid_ok (an * bd + bn * ad) (ad * bd) HS.out _ (by omega) (by omega) (by omega) (by omega)).mono ?_
  rintro e w2 ⟨rfl, hb⟩
  have HB2 := Lib.hid (show Below w.heap.size w w2 from step_below hb (by repeat' (first | exact Below.refl _ _ | exact HB1.out | refine below_drewN ?_ _ | refine Below.drew ?_ | refine Below.alloc ?_ (by first | omega | (simp; done) | (simp; omega) | (simp [World.setCell]; omega)) _ | refine Below.setCell ?_ (by first | omega | (simp; done) | (simp; omega)) _ | assumption)))
  have K0_2 := Lib.hid (step_blk hb (show Blk _ (w.heap.size) 35 #[.int .i64 (an), .int .i64 (ad)] by repeat' (first | exact K0_1.out | exact K1_1.out | exact K2_1.out | exact K3_1.out | exact Blk.at_ _ (by first | rfl | (simp; done) | (simp; omega)) _ _ | refine Blk.drewN ?_ _ | refine Blk.drew ?_ | refine Blk.alloc ?_ _ | refine Blk.far ?_ (by first | omega | (simp; done) | (simp; omega)) _ | assumption)))
  have K1_2 := Lib.hid (step_blk hb (show Blk _ (w.heap.size + 1) 35 #[.int .i64 (bn), .int .i64 (bd)] by repeat' (first | exact K0_1.out | exact K1_1.out | exact K2_1.out | exact K3_1.out | exact Blk.at_ _ (by first | rfl | (simp; done) | (simp; omega)) _ _ | refine Blk.drewN ?_ _ | refine Blk.drew ?_ | refine Blk.alloc ?_ _ | refine Blk.far ?_ (by first | omega | (simp; done) | (simp; omega)) _ | assumption)))
  have K2_2 := Lib.hid (step_blk hb (show Blk _ (w.heap.size + 2) 35 #[.int .i64 (0), .int .i64 (0)] by repeat' (first | exact K0_1.out | exact K1_1.out | exact K2_1.out | exact K3_1.out | exact Blk.at_ _ (by first | rfl | (simp; done) | (simp; omega)) _ _ | refine Blk.drewN ?_ _ | refine Blk.drew ?_ | refine Blk.alloc ?_ _ | refine Blk.far ?_ (by first | omega | (simp; done) | (simp; omega)) _ | assumption)))
  have K3_2 := Lib.hid (step_blk hb (show Blk _ (w.heap.size + 3) 35 #[.int .i64 (an), .int .i64 (ad), .int .i64 (bn), .int .i64 (bd)] by repeat' (first | exact K0_1.out | exact K1_1.out | exact K2_1.out | exact K3_1.out | exact Blk.at_ _ (by first | rfl | (simp; done) | (simp; omega)) _ _ | refine Blk.drewN ?_ _ | refine Blk.drew ?_ | refine Blk.alloc ?_ _ | refine Blk.far ?_ (by first | omega | (simp; done) | (simp; omega)) _ | assumption)))
  have hz2 := hb.size
  try simp only [World.size_alloc, World.drewN, World.drew] at hz2
  clear hb K0_1 K1_1 K2_1 K3_1 z0_0_1 z0_1_1 l0_1 z1_0_1 z1_1_1 l1_1 z2_0_1 z2_1_1 l2_1 z3_0_1 z3_1_1 z3_2_1 z3_3_1 l3_1
  have l0_2 : w.heap.size < w2.heap.size := K0_2.out.lt
  have z0_0_2 : w2.cell? ⟨w.heap.size, 0, none⟩ = some (.int .i64 (an)) := K0_2.out.cell 0
  have z0_1_2 : w2.cell? ⟨w.heap.size, 1, none⟩ = some (.int .i64 (ad)) := K0_2.out.cell 1
  have l1_2 : w.heap.size + 1 < w2.heap.size := K1_2.out.lt
  have z1_0_2 : w2.cell? ⟨w.heap.size + 1, 0, none⟩ = some (.int .i64 (bn)) := K1_2.out.cell 0
  have z1_1_2 : w2.cell? ⟨w.heap.size + 1, 1, none⟩ = some (.int .i64 (bd)) := K1_2.out.cell 1
  have l2_2 : w.heap.size + 2 < w2.heap.size := K2_2.out.lt
  have z2_0_2 : w2.cell? ⟨w.heap.size + 2, 0, none⟩ = some (.int .i64 (0)) := K2_2.out.cell 0
  have z2_1_2 : w2.cell? ⟨w.heap.size + 2, 1, none⟩ = some (.int .i64 (0)) := K2_2.out.cell 1
  have l3_2 : w.heap.size + 3 < w2.heap.size := K3_2.out.lt
  have z3_0_2 : w2.cell? ⟨w.heap.size + 3, 0, none⟩ = some (.int .i64 (an)) := K3_2.out.cell 0
  have z3_1_2 : w2.cell? ⟨w.heap.size + 3, 1, none⟩ = some (.int .i64 (ad)) := K3_2.out.cell 1
  have z3_2_2 : w2.cell? ⟨w.heap.size + 3, 2, none⟩ = some (.int .i64 (bn)) := K3_2.out.cell 2
  have z3_3_2 : w2.cell? ⟨w.heap.size + 3, 3, none⟩ = some (.int .i64 (bd)) := K3_2.out.cell 3
  have zf2_0 := K2_2.out.frozen 0
  have zf2_1 := K2_2.out.frozen 1
  go_wp2
  exact bodyPost_ret (v := .tuple #[.agg #[.int .i64 (redN (an * bd + bn * ad) (ad * bd)), .int .i64 (redD (an * bd + bn * ad) (ad * bd))], .int .i64 0]) (by simp [results, Try.results18, go_sem, z2_0_2, z2_1_2, l2_2]) rfl ⟨rfl, by repeat' (first | exact Below.refl _ _ | exact HB2.out | refine below_drewN ?_ _ | refine Below.drew ?_ | refine Below.alloc ?_ (by first | omega | (simp; done) | (simp; omega) | (simp [World.setCell]; omega)) _ | refine Below.setCell ?_ (by first | omega | (simp; done) | (simp; omega)) _ | assumption)⟩

set_option maxRecDepth 100000 in
set_option maxHeartbeats 1000000 in
theorem numAdd_no (a b : Int × Int) (ha : FOk a) (hb : FOk b) (h : addF a b = none) (w : World) :
    Calls Try.prog 18 #[.agg #[.int .i64 a.1, .int .i64 a.2], .agg #[.int .i64 b.1, .int .i64 b.2]] w fun e w' => e = .returned (.tuple #[.agg #[.int .i64 0, .int .i64 0], .int .i64 8]) ∧ Below w.heap.size w w' := by
  obtain ⟨a1, a2, a3, a4⟩ := ha.parts
  obtain ⟨b1, b2, b3, b4⟩ := hb.parts
  have HL : Hid (∀ p ∈ [a, b], fracErr p.1 p.2 = 0) := fun p hp => by
    rcases List.mem_cons.1 hp with rfl | hp
    · exact ha
    · rcases List.mem_cons.1 hp with rfl | hp
      · exact hb
      · cases hp
  unfold addF at h
  have hs := opF_none h
  have HS := Lib.hid hs
  clear h hs ha hb
  obtain ⟨an, ad⟩ := a
  obtain ⟨bn, bd⟩ := b
  simp only at *
  have q1 := prod_in a3 a4 (show -1000000000 ≤ bd by omega) b2
  have q2 := prod_in b3 b4 (show -1000000000 ≤ ad by omega) a2
  have q3 := den_in a1 a2 b1 b2
  have v1 := IntWalk.i64_in (an * bd) ⟨by omega, by omega⟩
  have v2 := IntWalk.i64_in (bn * ad) ⟨by omega, by omega⟩
  have v3 := IntWalk.i64_in (ad * bd) ⟨by omega, by omega⟩
  have v4 := IntWalk.i64_in (an * bd + bn * ad) ⟨by omega, by omega⟩
  go_enter Try.func18, Try.ntmps18
  go_wp2_with fail
  refine (checkfracs_ok _ 2 _ _ [(an, ad), (bn, bd)] HL.out _ (reads_two _ _ _ _ _ _ (w.heap.size + 1 + 1 + 1) (by simp)) (by simp) (by omega)).mono ?_
  rintro e w1 ⟨rfl, hb⟩
  have HB1 := Lib.hid (show Below w.heap.size w w1 from step_below hb (by repeat' (first | exact Below.refl _ _ | exact HB0.out | refine below_drewN ?_ _ | refine Below.drew ?_ | refine Below.alloc ?_ (by first | omega | (simp; done) | (simp; omega) | (simp [World.setCell]; omega)) _ | refine Below.setCell ?_ (by first | omega | (simp; done) | (simp; omega)) _ | assumption)))
  have K0_1 := Lib.hid (step_blk hb (show Blk _ (w.heap.size) 35 #[.int .i64 (an), .int .i64 (ad)] by repeat' (first | exact Blk.at_ _ (by first | rfl | (simp; done) | (simp; omega)) _ _ | refine Blk.drewN ?_ _ | refine Blk.drew ?_ | refine Blk.alloc ?_ _ | refine Blk.far ?_ (by first | omega | (simp; done) | (simp; omega)) _ | assumption)))
  have K1_1 := Lib.hid (step_blk hb (show Blk _ (w.heap.size + 1) 35 #[.int .i64 (bn), .int .i64 (bd)] by repeat' (first | exact Blk.at_ _ (by first | rfl | (simp; done) | (simp; omega)) _ _ | refine Blk.drewN ?_ _ | refine Blk.drew ?_ | refine Blk.alloc ?_ _ | refine Blk.far ?_ (by first | omega | (simp; done) | (simp; omega)) _ | assumption)))
  have K2_1 := Lib.hid (step_blk hb (show Blk _ (w.heap.size + 2) 35 #[.int .i64 (0), .int .i64 (0)] by repeat' (first | exact Blk.at_ _ (by first | rfl | (simp; done) | (simp; omega)) _ _ | refine Blk.drewN ?_ _ | refine Blk.drew ?_ | refine Blk.alloc ?_ _ | refine Blk.far ?_ (by first | omega | (simp; done) | (simp; omega)) _ | assumption)))
  have K3_1 := Lib.hid (step_blk hb (show Blk _ (w.heap.size + 3) 35 #[.int .i64 (an), .int .i64 (ad), .int .i64 (bn), .int .i64 (bd)] by repeat' (first | exact Blk.at_ _ (by first | rfl | (simp; done) | (simp; omega)) _ _ | refine Blk.drewN ?_ _ | refine Blk.drew ?_ | refine Blk.alloc ?_ _ | refine Blk.far ?_ (by first | omega | (simp; done) | (simp; omega)) _ | assumption)))
  have hz1 := hb.size
  try simp only [World.size_alloc, World.drewN, World.drew] at hz1
  clear hb
  have l0_1 : w.heap.size < w1.heap.size := K0_1.out.lt
  have z0_0_1 : w1.cell? ⟨w.heap.size, 0, none⟩ = some (.int .i64 (an)) := K0_1.out.cell 0
  have z0_1_1 : w1.cell? ⟨w.heap.size, 1, none⟩ = some (.int .i64 (ad)) := K0_1.out.cell 1
  have l1_1 : w.heap.size + 1 < w1.heap.size := K1_1.out.lt
  have z1_0_1 : w1.cell? ⟨w.heap.size + 1, 0, none⟩ = some (.int .i64 (bn)) := K1_1.out.cell 0
  have z1_1_1 : w1.cell? ⟨w.heap.size + 1, 1, none⟩ = some (.int .i64 (bd)) := K1_1.out.cell 1
  have l2_1 : w.heap.size + 2 < w1.heap.size := K2_1.out.lt
  have z2_0_1 : w1.cell? ⟨w.heap.size + 2, 0, none⟩ = some (.int .i64 (0)) := K2_1.out.cell 0
  have z2_1_1 : w1.cell? ⟨w.heap.size + 2, 1, none⟩ = some (.int .i64 (0)) := K2_1.out.cell 1
  have l3_1 : w.heap.size + 3 < w1.heap.size := K3_1.out.lt
  have z3_0_1 : w1.cell? ⟨w.heap.size + 3, 0, none⟩ = some (.int .i64 (an)) := K3_1.out.cell 0
  have z3_1_1 : w1.cell? ⟨w.heap.size + 3, 1, none⟩ = some (.int .i64 (ad)) := K3_1.out.cell 1
  have z3_2_1 : w1.cell? ⟨w.heap.size + 3, 2, none⟩ = some (.int .i64 (bn)) := K3_1.out.cell 2
  have z3_3_1 : w1.cell? ⟨w.heap.size + 3, 3, none⟩ = some (.int .i64 (bd)) := K3_1.out.cell 3
  go_wp2_with fail
  refine (valid_no (an * bd + bn * ad) (ad * bd) HS.out _ (by omega) (by omega) (by omega) (by omega)).mono ?_
  rintro e w2 ⟨rfl, hb⟩
  have HB2 := Lib.hid (show Below w.heap.size w w2 from step_below hb (by repeat' (first | exact Below.refl _ _ | exact HB1.out | refine below_drewN ?_ _ | refine Below.drew ?_ | refine Below.alloc ?_ (by first | omega | (simp; done) | (simp; omega) | (simp [World.setCell]; omega)) _ | refine Below.setCell ?_ (by first | omega | (simp; done) | (simp; omega)) _ | assumption)))
  have K0_2 := Lib.hid (step_blk hb (show Blk _ (w.heap.size) 35 #[.int .i64 (an), .int .i64 (ad)] by repeat' (first | exact K0_1.out | exact K1_1.out | exact K2_1.out | exact K3_1.out | exact Blk.at_ _ (by first | rfl | (simp; done) | (simp; omega)) _ _ | refine Blk.drewN ?_ _ | refine Blk.drew ?_ | refine Blk.alloc ?_ _ | refine Blk.far ?_ (by first | omega | (simp; done) | (simp; omega)) _ | assumption)))
  have K1_2 := Lib.hid (step_blk hb (show Blk _ (w.heap.size + 1) 35 #[.int .i64 (bn), .int .i64 (bd)] by repeat' (first | exact K0_1.out | exact K1_1.out | exact K2_1.out | exact K3_1.out | exact Blk.at_ _ (by first | rfl | (simp; done) | (simp; omega)) _ _ | refine Blk.drewN ?_ _ | refine Blk.drew ?_ | refine Blk.alloc ?_ _ | refine Blk.far ?_ (by first | omega | (simp; done) | (simp; omega)) _ | assumption)))
  have K2_2 := Lib.hid (step_blk hb (show Blk _ (w.heap.size + 2) 35 #[.int .i64 (0), .int .i64 (0)] by repeat' (first | exact K0_1.out | exact K1_1.out | exact K2_1.out | exact K3_1.out | exact Blk.at_ _ (by first | rfl | (simp; done) | (simp; omega)) _ _ | refine Blk.drewN ?_ _ | refine Blk.drew ?_ | refine Blk.alloc ?_ _ | refine Blk.far ?_ (by first | omega | (simp; done) | (simp; omega)) _ | assumption)))
  have K3_2 := Lib.hid (step_blk hb (show Blk _ (w.heap.size + 3) 35 #[.int .i64 (an), .int .i64 (ad), .int .i64 (bn), .int .i64 (bd)] by repeat' (first | exact K0_1.out | exact K1_1.out | exact K2_1.out | exact K3_1.out | exact Blk.at_ _ (by first | rfl | (simp; done) | (simp; omega)) _ _ | refine Blk.drewN ?_ _ | refine Blk.drew ?_ | refine Blk.alloc ?_ _ | refine Blk.far ?_ (by first | omega | (simp; done) | (simp; omega)) _ | assumption)))
  have hz2 := hb.size
  try simp only [World.size_alloc, World.drewN, World.drew] at hz2
  clear hb K0_1 K1_1 K2_1 K3_1 z0_0_1 z0_1_1 l0_1 z1_0_1 z1_1_1 l1_1 z2_0_1 z2_1_1 l2_1 z3_0_1 z3_1_1 z3_2_1 z3_3_1 l3_1
  have l0_2 : w.heap.size < w2.heap.size := K0_2.out.lt
  have z0_0_2 : w2.cell? ⟨w.heap.size, 0, none⟩ = some (.int .i64 (an)) := K0_2.out.cell 0
  have z0_1_2 : w2.cell? ⟨w.heap.size, 1, none⟩ = some (.int .i64 (ad)) := K0_2.out.cell 1
  have l1_2 : w.heap.size + 1 < w2.heap.size := K1_2.out.lt
  have z1_0_2 : w2.cell? ⟨w.heap.size + 1, 0, none⟩ = some (.int .i64 (bn)) := K1_2.out.cell 0
  have z1_1_2 : w2.cell? ⟨w.heap.size + 1, 1, none⟩ = some (.int .i64 (bd)) := K1_2.out.cell 1
  have l2_2 : w.heap.size + 2 < w2.heap.size := K2_2.out.lt
  have z2_0_2 : w2.cell? ⟨w.heap.size + 2, 0, none⟩ = some (.int .i64 (0)) := K2_2.out.cell 0
  have z2_1_2 : w2.cell? ⟨w.heap.size + 2, 1, none⟩ = some (.int .i64 (0)) := K2_2.out.cell 1
  have l3_2 : w.heap.size + 3 < w2.heap.size := K3_2.out.lt
  have z3_0_2 : w2.cell? ⟨w.heap.size + 3, 0, none⟩ = some (.int .i64 (an)) := K3_2.out.cell 0
  have z3_1_2 : w2.cell? ⟨w.heap.size + 3, 1, none⟩ = some (.int .i64 (ad)) := K3_2.out.cell 1
  have z3_2_2 : w2.cell? ⟨w.heap.size + 3, 2, none⟩ = some (.int .i64 (bn)) := K3_2.out.cell 2
  have z3_3_2 : w2.cell? ⟨w.heap.size + 3, 3, none⟩ = some (.int .i64 (bd)) := K3_2.out.cell 3
  have zf2_0 := K2_2.out.frozen 0
  have zf2_1 := K2_2.out.frozen 1
  go_wp2
  exact bodyPost_ret (v := .tuple #[.agg #[.int .i64 0, .int .i64 0], .int .i64 8]) (by simp [results, Try.results18, go_sem, z2_0_2, z2_1_2, l2_2]) rfl ⟨rfl, by repeat' (first | exact Below.refl _ _ | exact HB2.out | refine below_drewN ?_ _ | refine Below.drew ?_ | refine Below.alloc ?_ (by first | omega | (simp; done) | (simp; omega) | (simp [World.setCell]; omega)) _ | refine Below.setCell ?_ (by first | omega | (simp; done) | (simp; omega)) _ | assumption)⟩

set_option maxRecDepth 100000 in
set_option maxHeartbeats 1000000 in
theorem numSub_ok (a b : Int × Int) (ha : FOk a) (hb : FOk b) (p : Int × Int) (h : subF a b = some p) (w : World) :
    Calls Try.prog 55 #[.agg #[.int .i64 a.1, .int .i64 a.2], .agg #[.int .i64 b.1, .int .i64 b.2]] w fun e w' => e = .returned (.tuple #[.agg #[.int .i64 p.1, .int .i64 p.2], .int .i64 0]) ∧ Below w.heap.size w w' := by
  obtain ⟨a1, a2, a3, a4⟩ := ha.parts
  obtain ⟨b1, b2, b3, b4⟩ := hb.parts
  have HL : Hid (∀ p ∈ [a, b], fracErr p.1 p.2 = 0) := fun p hp => by
    rcases List.mem_cons.1 hp with rfl | hp
    · exact ha
    · rcases List.mem_cons.1 hp with rfl | hp
      · exact hb
      · cases hp
  unfold subF at h
  obtain ⟨hs, h1, h2⟩ := opF_some h
  have HS := Lib.hid hs
  clear h hs ha hb
  obtain ⟨an, ad⟩ := a
  obtain ⟨bn, bd⟩ := b
  simp only at *
  obtain ⟨X, Y⟩ := p
  simp only at *
  subst h1 h2
  have q1 := prod_in a3 a4 (show -1000000000 ≤ bd by omega) b2
  have q2 := prod_in b3 b4 (show -1000000000 ≤ ad by omega) a2
  have q3 := den_in a1 a2 b1 b2
  have v1 := IntWalk.i64_in (an * bd) ⟨by omega, by omega⟩
  have v2 := IntWalk.i64_in (bn * ad) ⟨by omega, by omega⟩
  have v3 := IntWalk.i64_in (ad * bd) ⟨by omega, by omega⟩
  have v4 := IntWalk.i64_in (an * bd - bn * ad) ⟨by omega, by omega⟩
  go_enter Try.func55, Try.ntmps55
  go_wp2_with fail
  refine (checkfracs_ok _ 2 _ _ [(an, ad), (bn, bd)] HL.out _ (reads_two _ _ _ _ _ _ (w.heap.size + 1 + 1 + 1) (by simp)) (by simp) (by omega)).mono ?_
  rintro e w1 ⟨rfl, hb⟩
  have HB1 := Lib.hid (show Below w.heap.size w w1 from step_below hb (by repeat' (first | exact Below.refl _ _ | exact HB0.out | refine below_drewN ?_ _ | refine Below.drew ?_ | refine Below.alloc ?_ (by first | omega | (simp; done) | (simp; omega) | (simp [World.setCell]; omega)) _ | refine Below.setCell ?_ (by first | omega | (simp; done) | (simp; omega)) _ | assumption)))
  have K0_1 := Lib.hid (step_blk hb (show Blk _ (w.heap.size) 35 #[.int .i64 (an), .int .i64 (ad)] by repeat' (first | exact Blk.at_ _ (by first | rfl | (simp; done) | (simp; omega)) _ _ | refine Blk.drewN ?_ _ | refine Blk.drew ?_ | refine Blk.alloc ?_ _ | refine Blk.far ?_ (by first | omega | (simp; done) | (simp; omega)) _ | assumption)))
  have K1_1 := Lib.hid (step_blk hb (show Blk _ (w.heap.size + 1) 35 #[.int .i64 (bn), .int .i64 (bd)] by repeat' (first | exact Blk.at_ _ (by first | rfl | (simp; done) | (simp; omega)) _ _ | refine Blk.drewN ?_ _ | refine Blk.drew ?_ | refine Blk.alloc ?_ _ | refine Blk.far ?_ (by first | omega | (simp; done) | (simp; omega)) _ | assumption)))
  have K2_1 := Lib.hid (step_blk hb (show Blk _ (w.heap.size + 2) 35 #[.int .i64 (0), .int .i64 (0)] by repeat' (first | exact Blk.at_ _ (by first | rfl | (simp; done) | (simp; omega)) _ _ | refine Blk.drewN ?_ _ | refine Blk.drew ?_ | refine Blk.alloc ?_ _ | refine Blk.far ?_ (by first | omega | (simp; done) | (simp; omega)) _ | assumption)))
  have K3_1 := Lib.hid (step_blk hb (show Blk _ (w.heap.size + 3) 35 #[.int .i64 (an), .int .i64 (ad), .int .i64 (bn), .int .i64 (bd)] by repeat' (first | exact Blk.at_ _ (by first | rfl | (simp; done) | (simp; omega)) _ _ | refine Blk.drewN ?_ _ | refine Blk.drew ?_ | refine Blk.alloc ?_ _ | refine Blk.far ?_ (by first | omega | (simp; done) | (simp; omega)) _ | assumption)))
  have hz1 := hb.size
  try simp only [World.size_alloc, World.drewN, World.drew] at hz1
  clear hb
  have l0_1 : w.heap.size < w1.heap.size := K0_1.out.lt
  have z0_0_1 : w1.cell? ⟨w.heap.size, 0, none⟩ = some (.int .i64 (an)) := K0_1.out.cell 0
  have z0_1_1 : w1.cell? ⟨w.heap.size, 1, none⟩ = some (.int .i64 (ad)) := K0_1.out.cell 1
  have l1_1 : w.heap.size + 1 < w1.heap.size := K1_1.out.lt
  have z1_0_1 : w1.cell? ⟨w.heap.size + 1, 0, none⟩ = some (.int .i64 (bn)) := K1_1.out.cell 0
  have z1_1_1 : w1.cell? ⟨w.heap.size + 1, 1, none⟩ = some (.int .i64 (bd)) := K1_1.out.cell 1
  have l2_1 : w.heap.size + 2 < w1.heap.size := K2_1.out.lt
  have z2_0_1 : w1.cell? ⟨w.heap.size + 2, 0, none⟩ = some (.int .i64 (0)) := K2_1.out.cell 0
  have z2_1_1 : w1.cell? ⟨w.heap.size + 2, 1, none⟩ = some (.int .i64 (0)) := K2_1.out.cell 1
  have l3_1 : w.heap.size + 3 < w1.heap.size := K3_1.out.lt
  have z3_0_1 : w1.cell? ⟨w.heap.size + 3, 0, none⟩ = some (.int .i64 (an)) := K3_1.out.cell 0
  have z3_1_1 : w1.cell? ⟨w.heap.size + 3, 1, none⟩ = some (.int .i64 (ad)) := K3_1.out.cell 1
  have z3_2_1 : w1.cell? ⟨w.heap.size + 3, 2, none⟩ = some (.int .i64 (bn)) := K3_1.out.cell 2
  have z3_3_1 : w1.cell? ⟨w.heap.size + 3, 3, none⟩ = some (.int .i64 (bd)) := K3_1.out.cell 3
  go_wp2_with fail
  refine (valid_ok (an * bd - bn * ad) (ad * bd) HS.out _ (by omega) (by omega) (by omega) (by omega)).mono ?_
  rintro e w2 ⟨rfl, hb⟩
  have HB2 := Lib.hid (show Below w.heap.size w w2 from step_below hb (by repeat' (first | exact Below.refl _ _ | exact HB1.out | refine below_drewN ?_ _ | refine Below.drew ?_ | refine Below.alloc ?_ (by first | omega | (simp; done) | (simp; omega) | (simp [World.setCell]; omega)) _ | refine Below.setCell ?_ (by first | omega | (simp; done) | (simp; omega)) _ | assumption)))
  have K0_2 := Lib.hid (step_blk hb (show Blk _ (w.heap.size) 35 #[.int .i64 (an), .int .i64 (ad)] by repeat' (first | exact K0_1.out | exact K1_1.out | exact K2_1.out | exact K3_1.out | exact Blk.at_ _ (by first | rfl | (simp; done) | (simp; omega)) _ _ | refine Blk.drewN ?_ _ | refine Blk.drew ?_ | refine Blk.alloc ?_ _ | refine Blk.far ?_ (by first | omega | (simp; done) | (simp; omega)) _ | assumption)))
  have K1_2 := Lib.hid (step_blk hb (show Blk _ (w.heap.size + 1) 35 #[.int .i64 (bn), .int .i64 (bd)] by repeat' (first | exact K0_1.out | exact K1_1.out | exact K2_1.out | exact K3_1.out | exact Blk.at_ _ (by first | rfl | (simp; done) | (simp; omega)) _ _ | refine Blk.drewN ?_ _ | refine Blk.drew ?_ | refine Blk.alloc ?_ _ | refine Blk.far ?_ (by first | omega | (simp; done) | (simp; omega)) _ | assumption)))
  have K2_2 := Lib.hid (step_blk hb (show Blk _ (w.heap.size + 2) 35 #[.int .i64 (0), .int .i64 (0)] by repeat' (first | exact K0_1.out | exact K1_1.out | exact K2_1.out | exact K3_1.out | exact Blk.at_ _ (by first | rfl | (simp; done) | (simp; omega)) _ _ | refine Blk.drewN ?_ _ | refine Blk.drew ?_ | refine Blk.alloc ?_ _ | refine Blk.far ?_ (by first | omega | (simp; done) | (simp; omega)) _ | assumption)))
  have K3_2 := Lib.hid (step_blk hb (show Blk _ (w.heap.size + 3) 35 #[.int .i64 (an), .int .i64 (ad), .int .i64 (bn), .int .i64 (bd)] by repeat' (first | exact K0_1.out | exact K1_1.out | exact K2_1.out | exact K3_1.out | exact Blk.at_ _ (by first | rfl | (simp; done) | (simp; omega)) _ _ | refine Blk.drewN ?_ _ | refine Blk.drew ?_ | refine Blk.alloc ?_ _ | refine Blk.far ?_ (by first | omega | (simp; done) | (simp; omega)) _ | assumption)))
  have hz2 := hb.size
  try simp only [World.size_alloc, World.drewN, World.drew] at hz2
  clear hb K0_1 K1_1 K2_1 K3_1 z0_0_1 z0_1_1 l0_1 z1_0_1 z1_1_1 l1_1 z2_0_1 z2_1_1 l2_1 z3_0_1 z3_1_1 z3_2_1 z3_3_1 l3_1
  have l0_2 : w.heap.size < w2.heap.size := K0_2.out.lt
  have z0_0_2 : w2.cell? ⟨w.heap.size, 0, none⟩ = some (.int .i64 (an)) := K0_2.out.cell 0
  have z0_1_2 : w2.cell? ⟨w.heap.size, 1, none⟩ = some (.int .i64 (ad)) := K0_2.out.cell 1
  have l1_2 : w.heap.size + 1 < w2.heap.size := K1_2.out.lt
  have z1_0_2 : w2.cell? ⟨w.heap.size + 1, 0, none⟩ = some (.int .i64 (bn)) := K1_2.out.cell 0
  have z1_1_2 : w2.cell? ⟨w.heap.size + 1, 1, none⟩ = some (.int .i64 (bd)) := K1_2.out.cell 1
  have l2_2 : w.heap.size + 2 < w2.heap.size := K2_2.out.lt
  have z2_0_2 : w2.cell? ⟨w.heap.size + 2, 0, none⟩ = some (.int .i64 (0)) := K2_2.out.cell 0
  have z2_1_2 : w2.cell? ⟨w.heap.size + 2, 1, none⟩ = some (.int .i64 (0)) := K2_2.out.cell 1
  have l3_2 : w.heap.size + 3 < w2.heap.size := K3_2.out.lt
  have z3_0_2 : w2.cell? ⟨w.heap.size + 3, 0, none⟩ = some (.int .i64 (an)) := K3_2.out.cell 0
  have z3_1_2 : w2.cell? ⟨w.heap.size + 3, 1, none⟩ = some (.int .i64 (ad)) := K3_2.out.cell 1
  have z3_2_2 : w2.cell? ⟨w.heap.size + 3, 2, none⟩ = some (.int .i64 (bn)) := K3_2.out.cell 2
  have z3_3_2 : w2.cell? ⟨w.heap.size + 3, 3, none⟩ = some (.int .i64 (bd)) := K3_2.out.cell 3
  have zf2_0 := K2_2.out.frozen 0
  have zf2_1 := K2_2.out.frozen 1
  go_wp2
  exact bodyPost_ret (v := .tuple #[.agg #[.int .i64 (redN (an * bd - bn * ad) (ad * bd)), .int .i64 (redD (an * bd - bn * ad) (ad * bd))], .int .i64 0]) (by simp [results, Try.results55, go_sem, z2_0_2, z2_1_2, l2_2]) rfl ⟨rfl, by repeat' (first | exact Below.refl _ _ | exact HB2.out | refine below_drewN ?_ _ | refine Below.drew ?_ | refine Below.alloc ?_ (by first | omega | (simp; done) | (simp; omega) | (simp [World.setCell]; omega)) _ | refine Below.setCell ?_ (by first | omega | (simp; done) | (simp; omega)) _ | assumption)⟩

set_option maxRecDepth 100000 in
set_option maxHeartbeats 1000000 in
theorem numSub_no (a b : Int × Int) (ha : FOk a) (hb : FOk b) (h : subF a b = none) (w : World) :
    Calls Try.prog 55 #[.agg #[.int .i64 a.1, .int .i64 a.2], .agg #[.int .i64 b.1, .int .i64 b.2]] w fun e w' => e = .returned (.tuple #[.agg #[.int .i64 0, .int .i64 0], .int .i64 8]) ∧ Below w.heap.size w w' := by
  obtain ⟨a1, a2, a3, a4⟩ := ha.parts
  obtain ⟨b1, b2, b3, b4⟩ := hb.parts
  have HL : Hid (∀ p ∈ [a, b], fracErr p.1 p.2 = 0) := fun p hp => by
    rcases List.mem_cons.1 hp with rfl | hp
    · exact ha
    · rcases List.mem_cons.1 hp with rfl | hp
      · exact hb
      · cases hp
  unfold subF at h
  have hs := opF_none h
  have HS := Lib.hid hs
  clear h hs ha hb
  obtain ⟨an, ad⟩ := a
  obtain ⟨bn, bd⟩ := b
  simp only at *
  have q1 := prod_in a3 a4 (show -1000000000 ≤ bd by omega) b2
  have q2 := prod_in b3 b4 (show -1000000000 ≤ ad by omega) a2
  have q3 := den_in a1 a2 b1 b2
  have v1 := IntWalk.i64_in (an * bd) ⟨by omega, by omega⟩
  have v2 := IntWalk.i64_in (bn * ad) ⟨by omega, by omega⟩
  have v3 := IntWalk.i64_in (ad * bd) ⟨by omega, by omega⟩
  have v4 := IntWalk.i64_in (an * bd - bn * ad) ⟨by omega, by omega⟩
  go_enter Try.func55, Try.ntmps55
  go_wp2_with fail
  refine (checkfracs_ok _ 2 _ _ [(an, ad), (bn, bd)] HL.out _ (reads_two _ _ _ _ _ _ (w.heap.size + 1 + 1 + 1) (by simp)) (by simp) (by omega)).mono ?_
  rintro e w1 ⟨rfl, hb⟩
  have HB1 := Lib.hid (show Below w.heap.size w w1 from step_below hb (by repeat' (first | exact Below.refl _ _ | exact HB0.out | refine below_drewN ?_ _ | refine Below.drew ?_ | refine Below.alloc ?_ (by first | omega | (simp; done) | (simp; omega) | (simp [World.setCell]; omega)) _ | refine Below.setCell ?_ (by first | omega | (simp; done) | (simp; omega)) _ | assumption)))
  have K0_1 := Lib.hid (step_blk hb (show Blk _ (w.heap.size) 35 #[.int .i64 (an), .int .i64 (ad)] by repeat' (first | exact Blk.at_ _ (by first | rfl | (simp; done) | (simp; omega)) _ _ | refine Blk.drewN ?_ _ | refine Blk.drew ?_ | refine Blk.alloc ?_ _ | refine Blk.far ?_ (by first | omega | (simp; done) | (simp; omega)) _ | assumption)))
  have K1_1 := Lib.hid (step_blk hb (show Blk _ (w.heap.size + 1) 35 #[.int .i64 (bn), .int .i64 (bd)] by repeat' (first | exact Blk.at_ _ (by first | rfl | (simp; done) | (simp; omega)) _ _ | refine Blk.drewN ?_ _ | refine Blk.drew ?_ | refine Blk.alloc ?_ _ | refine Blk.far ?_ (by first | omega | (simp; done) | (simp; omega)) _ | assumption)))
  have K2_1 := Lib.hid (step_blk hb (show Blk _ (w.heap.size + 2) 35 #[.int .i64 (0), .int .i64 (0)] by repeat' (first | exact Blk.at_ _ (by first | rfl | (simp; done) | (simp; omega)) _ _ | refine Blk.drewN ?_ _ | refine Blk.drew ?_ | refine Blk.alloc ?_ _ | refine Blk.far ?_ (by first | omega | (simp; done) | (simp; omega)) _ | assumption)))
  have K3_1 := Lib.hid (step_blk hb (show Blk _ (w.heap.size + 3) 35 #[.int .i64 (an), .int .i64 (ad), .int .i64 (bn), .int .i64 (bd)] by repeat' (first | exact Blk.at_ _ (by first | rfl | (simp; done) | (simp; omega)) _ _ | refine Blk.drewN ?_ _ | refine Blk.drew ?_ | refine Blk.alloc ?_ _ | refine Blk.far ?_ (by first | omega | (simp; done) | (simp; omega)) _ | assumption)))
  have hz1 := hb.size
  try simp only [World.size_alloc, World.drewN, World.drew] at hz1
  clear hb
  have l0_1 : w.heap.size < w1.heap.size := K0_1.out.lt
  have z0_0_1 : w1.cell? ⟨w.heap.size, 0, none⟩ = some (.int .i64 (an)) := K0_1.out.cell 0
  have z0_1_1 : w1.cell? ⟨w.heap.size, 1, none⟩ = some (.int .i64 (ad)) := K0_1.out.cell 1
  have l1_1 : w.heap.size + 1 < w1.heap.size := K1_1.out.lt
  have z1_0_1 : w1.cell? ⟨w.heap.size + 1, 0, none⟩ = some (.int .i64 (bn)) := K1_1.out.cell 0
  have z1_1_1 : w1.cell? ⟨w.heap.size + 1, 1, none⟩ = some (.int .i64 (bd)) := K1_1.out.cell 1
  have l2_1 : w.heap.size + 2 < w1.heap.size := K2_1.out.lt
  have z2_0_1 : w1.cell? ⟨w.heap.size + 2, 0, none⟩ = some (.int .i64 (0)) := K2_1.out.cell 0
  have z2_1_1 : w1.cell? ⟨w.heap.size + 2, 1, none⟩ = some (.int .i64 (0)) := K2_1.out.cell 1
  have l3_1 : w.heap.size + 3 < w1.heap.size := K3_1.out.lt
  have z3_0_1 : w1.cell? ⟨w.heap.size + 3, 0, none⟩ = some (.int .i64 (an)) := K3_1.out.cell 0
  have z3_1_1 : w1.cell? ⟨w.heap.size + 3, 1, none⟩ = some (.int .i64 (ad)) := K3_1.out.cell 1
  have z3_2_1 : w1.cell? ⟨w.heap.size + 3, 2, none⟩ = some (.int .i64 (bn)) := K3_1.out.cell 2
  have z3_3_1 : w1.cell? ⟨w.heap.size + 3, 3, none⟩ = some (.int .i64 (bd)) := K3_1.out.cell 3
  go_wp2_with fail
  refine (valid_no (an * bd - bn * ad) (ad * bd) HS.out _ (by omega) (by omega) (by omega) (by omega)).mono ?_
  rintro e w2 ⟨rfl, hb⟩
  have HB2 := Lib.hid (show Below w.heap.size w w2 from step_below hb (by repeat' (first | exact Below.refl _ _ | exact HB1.out | refine below_drewN ?_ _ | refine Below.drew ?_ | refine Below.alloc ?_ (by first | omega | (simp; done) | (simp; omega) | (simp [World.setCell]; omega)) _ | refine Below.setCell ?_ (by first | omega | (simp; done) | (simp; omega)) _ | assumption)))
  have K0_2 := Lib.hid (step_blk hb (show Blk _ (w.heap.size) 35 #[.int .i64 (an), .int .i64 (ad)] by repeat' (first | exact K0_1.out | exact K1_1.out | exact K2_1.out | exact K3_1.out | exact Blk.at_ _ (by first | rfl | (simp; done) | (simp; omega)) _ _ | refine Blk.drewN ?_ _ | refine Blk.drew ?_ | refine Blk.alloc ?_ _ | refine Blk.far ?_ (by first | omega | (simp; done) | (simp; omega)) _ | assumption)))
  have K1_2 := Lib.hid (step_blk hb (show Blk _ (w.heap.size + 1) 35 #[.int .i64 (bn), .int .i64 (bd)] by repeat' (first | exact K0_1.out | exact K1_1.out | exact K2_1.out | exact K3_1.out | exact Blk.at_ _ (by first | rfl | (simp; done) | (simp; omega)) _ _ | refine Blk.drewN ?_ _ | refine Blk.drew ?_ | refine Blk.alloc ?_ _ | refine Blk.far ?_ (by first | omega | (simp; done) | (simp; omega)) _ | assumption)))
  have K2_2 := Lib.hid (step_blk hb (show Blk _ (w.heap.size + 2) 35 #[.int .i64 (0), .int .i64 (0)] by repeat' (first | exact K0_1.out | exact K1_1.out | exact K2_1.out | exact K3_1.out | exact Blk.at_ _ (by first | rfl | (simp; done) | (simp; omega)) _ _ | refine Blk.drewN ?_ _ | refine Blk.drew ?_ | refine Blk.alloc ?_ _ | refine Blk.far ?_ (by first | omega | (simp; done) | (simp; omega)) _ | assumption)))
  have K3_2 := Lib.hid (step_blk hb (show Blk _ (w.heap.size + 3) 35 #[.int .i64 (an), .int .i64 (ad), .int .i64 (bn), .int .i64 (bd)] by repeat' (first | exact K0_1.out | exact K1_1.out | exact K2_1.out | exact K3_1.out | exact Blk.at_ _ (by first | rfl | (simp; done) | (simp; omega)) _ _ | refine Blk.drewN ?_ _ | refine Blk.drew ?_ | refine Blk.alloc ?_ _ | refine Blk.far ?_ (by first | omega | (simp; done) | (simp; omega)) _ | assumption)))
  have hz2 := hb.size
  try simp only [World.size_alloc, World.drewN, World.drew] at hz2
  clear hb K0_1 K1_1 K2_1 K3_1 z0_0_1 z0_1_1 l0_1 z1_0_1 z1_1_1 l1_1 z2_0_1 z2_1_1 l2_1 z3_0_1 z3_1_1 z3_2_1 z3_3_1 l3_1
  have l0_2 : w.heap.size < w2.heap.size := K0_2.out.lt
  have z0_0_2 : w2.cell? ⟨w.heap.size, 0, none⟩ = some (.int .i64 (an)) := K0_2.out.cell 0
  have z0_1_2 : w2.cell? ⟨w.heap.size, 1, none⟩ = some (.int .i64 (ad)) := K0_2.out.cell 1
  have l1_2 : w.heap.size + 1 < w2.heap.size := K1_2.out.lt
  have z1_0_2 : w2.cell? ⟨w.heap.size + 1, 0, none⟩ = some (.int .i64 (bn)) := K1_2.out.cell 0
  have z1_1_2 : w2.cell? ⟨w.heap.size + 1, 1, none⟩ = some (.int .i64 (bd)) := K1_2.out.cell 1
  have l2_2 : w.heap.size + 2 < w2.heap.size := K2_2.out.lt
  have z2_0_2 : w2.cell? ⟨w.heap.size + 2, 0, none⟩ = some (.int .i64 (0)) := K2_2.out.cell 0
  have z2_1_2 : w2.cell? ⟨w.heap.size + 2, 1, none⟩ = some (.int .i64 (0)) := K2_2.out.cell 1
  have l3_2 : w.heap.size + 3 < w2.heap.size := K3_2.out.lt
  have z3_0_2 : w2.cell? ⟨w.heap.size + 3, 0, none⟩ = some (.int .i64 (an)) := K3_2.out.cell 0
  have z3_1_2 : w2.cell? ⟨w.heap.size + 3, 1, none⟩ = some (.int .i64 (ad)) := K3_2.out.cell 1
  have z3_2_2 : w2.cell? ⟨w.heap.size + 3, 2, none⟩ = some (.int .i64 (bn)) := K3_2.out.cell 2
  have z3_3_2 : w2.cell? ⟨w.heap.size + 3, 3, none⟩ = some (.int .i64 (bd)) := K3_2.out.cell 3
  have zf2_0 := K2_2.out.frozen 0
  have zf2_1 := K2_2.out.frozen 1
  go_wp2
  exact bodyPost_ret (v := .tuple #[.agg #[.int .i64 0, .int .i64 0], .int .i64 8]) (by simp [results, Try.results55, go_sem, z2_0_2, z2_1_2, l2_2]) rfl ⟨rfl, by repeat' (first | exact Below.refl _ _ | exact HB2.out | refine below_drewN ?_ _ | refine Below.drew ?_ | refine Below.alloc ?_ (by first | omega | (simp; done) | (simp; omega) | (simp [World.setCell]; omega)) _ | refine Below.setCell ?_ (by first | omega | (simp; done) | (simp; omega)) _ | assumption)⟩

set_option maxRecDepth 100000 in
set_option maxHeartbeats 1000000 in
theorem numMul_ok (a b : Int × Int) (ha : FOk a) (hb : FOk b) (p : Int × Int) (h : mulF a b = some p) (w : World) :
    Calls Try.prog 19 #[.agg #[.int .i64 a.1, .int .i64 a.2], .agg #[.int .i64 b.1, .int .i64 b.2]] w fun e w' => e = .returned (.tuple #[.agg #[.int .i64 p.1, .int .i64 p.2], .int .i64 0]) ∧ Below w.heap.size w w' := by
  obtain ⟨a1, a2, a3, a4⟩ := ha.parts
  obtain ⟨b1, b2, b3, b4⟩ := hb.parts
  have HL : Hid (∀ p ∈ [a, b], fracErr p.1 p.2 = 0) := fun p hp => by
    rcases List.mem_cons.1 hp with rfl | hp
    · exact ha
    · rcases List.mem_cons.1 hp with rfl | hp
      · exact hb
      · cases hp
  unfold mulF at h
  obtain ⟨hs, h1, h2⟩ := opF_some h
  have HS := Lib.hid hs
  clear h hs ha hb
  obtain ⟨an, ad⟩ := a
  obtain ⟨bn, bd⟩ := b
  simp only at *
  obtain ⟨X, Y⟩ := p
  simp only at *
  subst h1 h2
  have q1 := prod_in a3 a4 b3 b4
  have q3 := den_in a1 a2 b1 b2
  have v1 := IntWalk.i64_in (an * bn) ⟨by omega, by omega⟩
  have v3 := IntWalk.i64_in (ad * bd) ⟨by omega, by omega⟩
  go_enter Try.func19, Try.ntmps19
  go_wp2_with fail
  refine (checkfracs_ok _ 2 _ _ [(an, ad), (bn, bd)] HL.out _ (reads_two _ _ _ _ _ _ (w.heap.size + 1 + 1 + 1) (by simp)) (by simp) (by omega)).mono ?_
  rintro e w1 ⟨rfl, hb⟩
  have HB1 := Lib.hid (show Below w.heap.size w w1 from step_below hb (by repeat' (first | exact Below.refl _ _ | exact HB0.out | refine below_drewN ?_ _ | refine Below.drew ?_ | refine Below.alloc ?_ (by first | omega | (simp; done) | (simp; omega) | (simp [World.setCell]; omega)) _ | refine Below.setCell ?_ (by first | omega | (simp; done) | (simp; omega)) _ | assumption)))
  have K0_1 := Lib.hid (step_blk hb (show Blk _ (w.heap.size) 35 #[.int .i64 (an), .int .i64 (ad)] by repeat' (first | exact Blk.at_ _ (by first | rfl | (simp; done) | (simp; omega)) _ _ | refine Blk.drewN ?_ _ | refine Blk.drew ?_ | refine Blk.alloc ?_ _ | refine Blk.far ?_ (by first | omega | (simp; done) | (simp; omega)) _ | assumption)))
  have K1_1 := Lib.hid (step_blk hb (show Blk _ (w.heap.size + 1) 35 #[.int .i64 (bn), .int .i64 (bd)] by repeat' (first | exact Blk.at_ _ (by first | rfl | (simp; done) | (simp; omega)) _ _ | refine Blk.drewN ?_ _ | refine Blk.drew ?_ | refine Blk.alloc ?_ _ | refine Blk.far ?_ (by first | omega | (simp; done) | (simp; omega)) _ | assumption)))
  have K2_1 := Lib.hid (step_blk hb (show Blk _ (w.heap.size + 2) 35 #[.int .i64 (0), .int .i64 (0)] by repeat' (first | exact Blk.at_ _ (by first | rfl | (simp; done) | (simp; omega)) _ _ | refine Blk.drewN ?_ _ | refine Blk.drew ?_ | refine Blk.alloc ?_ _ | refine Blk.far ?_ (by first | omega | (simp; done) | (simp; omega)) _ | assumption)))
  have K3_1 := Lib.hid (step_blk hb (show Blk _ (w.heap.size + 3) 35 #[.int .i64 (an), .int .i64 (ad), .int .i64 (bn), .int .i64 (bd)] by repeat' (first | exact Blk.at_ _ (by first | rfl | (simp; done) | (simp; omega)) _ _ | refine Blk.drewN ?_ _ | refine Blk.drew ?_ | refine Blk.alloc ?_ _ | refine Blk.far ?_ (by first | omega | (simp; done) | (simp; omega)) _ | assumption)))
  have hz1 := hb.size
  try simp only [World.size_alloc, World.drewN, World.drew] at hz1
  clear hb
  have l0_1 : w.heap.size < w1.heap.size := K0_1.out.lt
  have z0_0_1 : w1.cell? ⟨w.heap.size, 0, none⟩ = some (.int .i64 (an)) := K0_1.out.cell 0
  have z0_1_1 : w1.cell? ⟨w.heap.size, 1, none⟩ = some (.int .i64 (ad)) := K0_1.out.cell 1
  have l1_1 : w.heap.size + 1 < w1.heap.size := K1_1.out.lt
  have z1_0_1 : w1.cell? ⟨w.heap.size + 1, 0, none⟩ = some (.int .i64 (bn)) := K1_1.out.cell 0
  have z1_1_1 : w1.cell? ⟨w.heap.size + 1, 1, none⟩ = some (.int .i64 (bd)) := K1_1.out.cell 1
  have l2_1 : w.heap.size + 2 < w1.heap.size := K2_1.out.lt
  have z2_0_1 : w1.cell? ⟨w.heap.size + 2, 0, none⟩ = some (.int .i64 (0)) := K2_1.out.cell 0
  have z2_1_1 : w1.cell? ⟨w.heap.size + 2, 1, none⟩ = some (.int .i64 (0)) := K2_1.out.cell 1
  have l3_1 : w.heap.size + 3 < w1.heap.size := K3_1.out.lt
  have z3_0_1 : w1.cell? ⟨w.heap.size + 3, 0, none⟩ = some (.int .i64 (an)) := K3_1.out.cell 0
  have z3_1_1 : w1.cell? ⟨w.heap.size + 3, 1, none⟩ = some (.int .i64 (ad)) := K3_1.out.cell 1
  have z3_2_1 : w1.cell? ⟨w.heap.size + 3, 2, none⟩ = some (.int .i64 (bn)) := K3_1.out.cell 2
  have z3_3_1 : w1.cell? ⟨w.heap.size + 3, 3, none⟩ = some (.int .i64 (bd)) := K3_1.out.cell 3
  go_wp2_with fail
  refine (valid_ok (an * bn) (ad * bd) HS.out _ (by omega) (by omega) (by omega) (by omega)).mono ?_
  rintro e w2 ⟨rfl, hb⟩
  have HB2 := Lib.hid (show Below w.heap.size w w2 from step_below hb (by repeat' (first | exact Below.refl _ _ | exact HB1.out | refine below_drewN ?_ _ | refine Below.drew ?_ | refine Below.alloc ?_ (by first | omega | (simp; done) | (simp; omega) | (simp [World.setCell]; omega)) _ | refine Below.setCell ?_ (by first | omega | (simp; done) | (simp; omega)) _ | assumption)))
  have K0_2 := Lib.hid (step_blk hb (show Blk _ (w.heap.size) 35 #[.int .i64 (an), .int .i64 (ad)] by repeat' (first | exact K0_1.out | exact K1_1.out | exact K2_1.out | exact K3_1.out | exact Blk.at_ _ (by first | rfl | (simp; done) | (simp; omega)) _ _ | refine Blk.drewN ?_ _ | refine Blk.drew ?_ | refine Blk.alloc ?_ _ | refine Blk.far ?_ (by first | omega | (simp; done) | (simp; omega)) _ | assumption)))
  have K1_2 := Lib.hid (step_blk hb (show Blk _ (w.heap.size + 1) 35 #[.int .i64 (bn), .int .i64 (bd)] by repeat' (first | exact K0_1.out | exact K1_1.out | exact K2_1.out | exact K3_1.out | exact Blk.at_ _ (by first | rfl | (simp; done) | (simp; omega)) _ _ | refine Blk.drewN ?_ _ | refine Blk.drew ?_ | refine Blk.alloc ?_ _ | refine Blk.far ?_ (by first | omega | (simp; done) | (simp; omega)) _ | assumption)))
  have K2_2 := Lib.hid (step_blk hb (show Blk _ (w.heap.size + 2) 35 #[.int .i64 (0), .int .i64 (0)] by repeat' (first | exact K0_1.out | exact K1_1.out | exact K2_1.out | exact K3_1.out | exact Blk.at_ _ (by first | rfl | (simp; done) | (simp; omega)) _ _ | refine Blk.drewN ?_ _ | refine Blk.drew ?_ | refine Blk.alloc ?_ _ | refine Blk.far ?_ (by first | omega | (simp; done) | (simp; omega)) _ | assumption)))
  have K3_2 := Lib.hid (step_blk hb (show Blk _ (w.heap.size + 3) 35 #[.int .i64 (an), .int .i64 (ad), .int .i64 (bn), .int .i64 (bd)] by repeat' (first | exact K0_1.out | exact K1_1.out | exact K2_1.out | exact K3_1.out | exact Blk.at_ _ (by first | rfl | (simp; done) | (simp; omega)) _ _ | refine Blk.drewN ?_ _ | refine Blk.drew ?_ | refine Blk.alloc ?_ _ | refine Blk.far ?_ (by first | omega | (simp; done) | (simp; omega)) _ | assumption)))
  have hz2 := hb.size
  try simp only [World.size_alloc, World.drewN, World.drew] at hz2
  clear hb K0_1 K1_1 K2_1 K3_1 z0_0_1 z0_1_1 l0_1 z1_0_1 z1_1_1 l1_1 z2_0_1 z2_1_1 l2_1 z3_0_1 z3_1_1 z3_2_1 z3_3_1 l3_1
  have l0_2 : w.heap.size < w2.heap.size := K0_2.out.lt
  have z0_0_2 : w2.cell? ⟨w.heap.size, 0, none⟩ = some (.int .i64 (an)) := K0_2.out.cell 0
  have z0_1_2 : w2.cell? ⟨w.heap.size, 1, none⟩ = some (.int .i64 (ad)) := K0_2.out.cell 1
  have l1_2 : w.heap.size + 1 < w2.heap.size := K1_2.out.lt
  have z1_0_2 : w2.cell? ⟨w.heap.size + 1, 0, none⟩ = some (.int .i64 (bn)) := K1_2.out.cell 0
  have z1_1_2 : w2.cell? ⟨w.heap.size + 1, 1, none⟩ = some (.int .i64 (bd)) := K1_2.out.cell 1
  have l2_2 : w.heap.size + 2 < w2.heap.size := K2_2.out.lt
  have z2_0_2 : w2.cell? ⟨w.heap.size + 2, 0, none⟩ = some (.int .i64 (0)) := K2_2.out.cell 0
  have z2_1_2 : w2.cell? ⟨w.heap.size + 2, 1, none⟩ = some (.int .i64 (0)) := K2_2.out.cell 1
  have l3_2 : w.heap.size + 3 < w2.heap.size := K3_2.out.lt
  have z3_0_2 : w2.cell? ⟨w.heap.size + 3, 0, none⟩ = some (.int .i64 (an)) := K3_2.out.cell 0
  have z3_1_2 : w2.cell? ⟨w.heap.size + 3, 1, none⟩ = some (.int .i64 (ad)) := K3_2.out.cell 1
  have z3_2_2 : w2.cell? ⟨w.heap.size + 3, 2, none⟩ = some (.int .i64 (bn)) := K3_2.out.cell 2
  have z3_3_2 : w2.cell? ⟨w.heap.size + 3, 3, none⟩ = some (.int .i64 (bd)) := K3_2.out.cell 3
  have zf2_0 := K2_2.out.frozen 0
  have zf2_1 := K2_2.out.frozen 1
  go_wp2
  exact bodyPost_ret (v := .tuple #[.agg #[.int .i64 (redN (an * bn) (ad * bd)), .int .i64 (redD (an * bn) (ad * bd))], .int .i64 0]) (by simp [results, Try.results19, go_sem, z2_0_2, z2_1_2, l2_2]) rfl ⟨rfl, by repeat' (first | exact Below.refl _ _ | exact HB2.out | refine below_drewN ?_ _ | refine Below.drew ?_ | refine Below.alloc ?_ (by first | omega | (simp; done) | (simp; omega) | (simp [World.setCell]; omega)) _ | refine Below.setCell ?_ (by first | omega | (simp; done) | (simp; omega)) _ | assumption)⟩

set_option maxRecDepth 100000 in
set_option maxHeartbeats 1000000 in
theorem numMul_no (a b : Int × Int) (ha : FOk a) (hb : FOk b) (h : mulF a b = none) (w : World) :
    Calls Try.prog 19 #[.agg #[.int .i64 a.1, .int .i64 a.2], .agg #[.int .i64 b.1, .int .i64 b.2]] w fun e w' => e = .returned (.tuple #[.agg #[.int .i64 0, .int .i64 0], .int .i64 8]) ∧ Below w.heap.size w w' := by
  obtain ⟨a1, a2, a3, a4⟩ := ha.parts
  obtain ⟨b1, b2, b3, b4⟩ := hb.parts
  have HL : Hid (∀ p ∈ [a, b], fracErr p.1 p.2 = 0) := fun p hp => by
    rcases List.mem_cons.1 hp with rfl | hp
    · exact ha
    · rcases List.mem_cons.1 hp with rfl | hp
      · exact hb
      · cases hp
  unfold mulF at h
  have hs := opF_none h
  have HS := Lib.hid hs
  clear h hs ha hb
  obtain ⟨an, ad⟩ := a
  obtain ⟨bn, bd⟩ := b
  simp only at *
  have q1 := prod_in a3 a4 b3 b4
  have q3 := den_in a1 a2 b1 b2
  have v1 := IntWalk.i64_in (an * bn) ⟨by omega, by omega⟩
  have v3 := IntWalk.i64_in (ad * bd) ⟨by omega, by omega⟩
  go_enter Try.func19, Try.ntmps19
  go_wp2_with fail
  refine (checkfracs_ok _ 2 _ _ [(an, ad), (bn, bd)] HL.out _ (reads_two _ _ _ _ _ _ (w.heap.size + 1 + 1 + 1) (by simp)) (by simp) (by omega)).mono ?_
  rintro e w1 ⟨rfl, hb⟩
  have HB1 := Lib.hid (show Below w.heap.size w w1 from step_below hb (by repeat' (first | exact Below.refl _ _ | exact HB0.out | refine below_drewN ?_ _ | refine Below.drew ?_ | refine Below.alloc ?_ (by first | omega | (simp; done) | (simp; omega) | (simp [World.setCell]; omega)) _ | refine Below.setCell ?_ (by first | omega | (simp; done) | (simp; omega)) _ | assumption)))
  have K0_1 := Lib.hid (step_blk hb (show Blk _ (w.heap.size) 35 #[.int .i64 (an), .int .i64 (ad)] by repeat' (first | exact Blk.at_ _ (by first | rfl | (simp; done) | (simp; omega)) _ _ | refine Blk.drewN ?_ _ | refine Blk.drew ?_ | refine Blk.alloc ?_ _ | refine Blk.far ?_ (by first | omega | (simp; done) | (simp; omega)) _ | assumption)))
  have K1_1 := Lib.hid (step_blk hb (show Blk _ (w.heap.size + 1) 35 #[.int .i64 (bn), .int .i64 (bd)] by repeat' (first | exact Blk.at_ _ (by first | rfl | (simp; done) | (simp; omega)) _ _ | refine Blk.drewN ?_ _ | refine Blk.drew ?_ | refine Blk.alloc ?_ _ | refine Blk.far ?_ (by first | omega | (simp; done) | (simp; omega)) _ | assumption)))
  have K2_1 := Lib.hid (step_blk hb (show Blk _ (w.heap.size + 2) 35 #[.int .i64 (0), .int .i64 (0)] by repeat' (first | exact Blk.at_ _ (by first | rfl | (simp; done) | (simp; omega)) _ _ | refine Blk.drewN ?_ _ | refine Blk.drew ?_ | refine Blk.alloc ?_ _ | refine Blk.far ?_ (by first | omega | (simp; done) | (simp; omega)) _ | assumption)))
  have K3_1 := Lib.hid (step_blk hb (show Blk _ (w.heap.size + 3) 35 #[.int .i64 (an), .int .i64 (ad), .int .i64 (bn), .int .i64 (bd)] by repeat' (first | exact Blk.at_ _ (by first | rfl | (simp; done) | (simp; omega)) _ _ | refine Blk.drewN ?_ _ | refine Blk.drew ?_ | refine Blk.alloc ?_ _ | refine Blk.far ?_ (by first | omega | (simp; done) | (simp; omega)) _ | assumption)))
  have hz1 := hb.size
  try simp only [World.size_alloc, World.drewN, World.drew] at hz1
  clear hb
  have l0_1 : w.heap.size < w1.heap.size := K0_1.out.lt
  have z0_0_1 : w1.cell? ⟨w.heap.size, 0, none⟩ = some (.int .i64 (an)) := K0_1.out.cell 0
  have z0_1_1 : w1.cell? ⟨w.heap.size, 1, none⟩ = some (.int .i64 (ad)) := K0_1.out.cell 1
  have l1_1 : w.heap.size + 1 < w1.heap.size := K1_1.out.lt
  have z1_0_1 : w1.cell? ⟨w.heap.size + 1, 0, none⟩ = some (.int .i64 (bn)) := K1_1.out.cell 0
  have z1_1_1 : w1.cell? ⟨w.heap.size + 1, 1, none⟩ = some (.int .i64 (bd)) := K1_1.out.cell 1
  have l2_1 : w.heap.size + 2 < w1.heap.size := K2_1.out.lt
  have z2_0_1 : w1.cell? ⟨w.heap.size + 2, 0, none⟩ = some (.int .i64 (0)) := K2_1.out.cell 0
  have z2_1_1 : w1.cell? ⟨w.heap.size + 2, 1, none⟩ = some (.int .i64 (0)) := K2_1.out.cell 1
  have l3_1 : w.heap.size + 3 < w1.heap.size := K3_1.out.lt
  have z3_0_1 : w1.cell? ⟨w.heap.size + 3, 0, none⟩ = some (.int .i64 (an)) := K3_1.out.cell 0
  have z3_1_1 : w1.cell? ⟨w.heap.size + 3, 1, none⟩ = some (.int .i64 (ad)) := K3_1.out.cell 1
  have z3_2_1 : w1.cell? ⟨w.heap.size + 3, 2, none⟩ = some (.int .i64 (bn)) := K3_1.out.cell 2
  have z3_3_1 : w1.cell? ⟨w.heap.size + 3, 3, none⟩ = some (.int .i64 (bd)) := K3_1.out.cell 3
  go_wp2_with fail
  refine (valid_no (an * bn) (ad * bd) HS.out _ (by omega) (by omega) (by omega) (by omega)).mono ?_
  rintro e w2 ⟨rfl, hb⟩
  have HB2 := Lib.hid (show Below w.heap.size w w2 from step_below hb (by repeat' (first | exact Below.refl _ _ | exact HB1.out | refine below_drewN ?_ _ | refine Below.drew ?_ | refine Below.alloc ?_ (by first | omega | (simp; done) | (simp; omega) | (simp [World.setCell]; omega)) _ | refine Below.setCell ?_ (by first | omega | (simp; done) | (simp; omega)) _ | assumption)))
  have K0_2 := Lib.hid (step_blk hb (show Blk _ (w.heap.size) 35 #[.int .i64 (an), .int .i64 (ad)] by repeat' (first | exact K0_1.out | exact K1_1.out | exact K2_1.out | exact K3_1.out | exact Blk.at_ _ (by first | rfl | (simp; done) | (simp; omega)) _ _ | refine Blk.drewN ?_ _ | refine Blk.drew ?_ | refine Blk.alloc ?_ _ | refine Blk.far ?_ (by first | omega | (simp; done) | (simp; omega)) _ | assumption)))
  have K1_2 := Lib.hid (step_blk hb (show Blk _ (w.heap.size + 1) 35 #[.int .i64 (bn), .int .i64 (bd)] by repeat' (first | exact K0_1.out | exact K1_1.out | exact K2_1.out | exact K3_1.out | exact Blk.at_ _ (by first | rfl | (simp; done) | (simp; omega)) _ _ | refine Blk.drewN ?_ _ | refine Blk.drew ?_ | refine Blk.alloc ?_ _ | refine Blk.far ?_ (by first | omega | (simp; done) | (simp; omega)) _ | assumption)))
  have K2_2 := Lib.hid (step_blk hb (show Blk _ (w.heap.size + 2) 35 #[.int .i64 (0), .int .i64 (0)] by repeat' (first | exact K0_1.out | exact K1_1.out | exact K2_1.out | exact K3_1.out | exact Blk.at_ _ (by first | rfl | (simp; done) | (simp; omega)) _ _ | refine Blk.drewN ?_ _ | refine Blk.drew ?_ | refine Blk.alloc ?_ _ | refine Blk.far ?_ (by first | omega | (simp; done) | (simp; omega)) _ | assumption)))
  have K3_2 := Lib.hid (step_blk hb (show Blk _ (w.heap.size + 3) 35 #[.int .i64 (an), .int .i64 (ad), .int .i64 (bn), .int .i64 (bd)] by repeat' (first | exact K0_1.out | exact K1_1.out | exact K2_1.out | exact K3_1.out | exact Blk.at_ _ (by first | rfl | (simp; done) | (simp; omega)) _ _ | refine Blk.drewN ?_ _ | refine Blk.drew ?_ | refine Blk.alloc ?_ _ | refine Blk.far ?_ (by first | omega | (simp; done) | (simp; omega)) _ | assumption)))
  have hz2 := hb.size
  try simp only [World.size_alloc, World.drewN, World.drew] at hz2
  clear hb K0_1 K1_1 K2_1 K3_1 z0_0_1 z0_1_1 l0_1 z1_0_1 z1_1_1 l1_1 z2_0_1 z2_1_1 l2_1 z3_0_1 z3_1_1 z3_2_1 z3_3_1 l3_1
  have l0_2 : w.heap.size < w2.heap.size := K0_2.out.lt
  have z0_0_2 : w2.cell? ⟨w.heap.size, 0, none⟩ = some (.int .i64 (an)) := K0_2.out.cell 0
  have z0_1_2 : w2.cell? ⟨w.heap.size, 1, none⟩ = some (.int .i64 (ad)) := K0_2.out.cell 1
  have l1_2 : w.heap.size + 1 < w2.heap.size := K1_2.out.lt
  have z1_0_2 : w2.cell? ⟨w.heap.size + 1, 0, none⟩ = some (.int .i64 (bn)) := K1_2.out.cell 0
  have z1_1_2 : w2.cell? ⟨w.heap.size + 1, 1, none⟩ = some (.int .i64 (bd)) := K1_2.out.cell 1
  have l2_2 : w.heap.size + 2 < w2.heap.size := K2_2.out.lt
  have z2_0_2 : w2.cell? ⟨w.heap.size + 2, 0, none⟩ = some (.int .i64 (0)) := K2_2.out.cell 0
  have z2_1_2 : w2.cell? ⟨w.heap.size + 2, 1, none⟩ = some (.int .i64 (0)) := K2_2.out.cell 1
  have l3_2 : w.heap.size + 3 < w2.heap.size := K3_2.out.lt
  have z3_0_2 : w2.cell? ⟨w.heap.size + 3, 0, none⟩ = some (.int .i64 (an)) := K3_2.out.cell 0
  have z3_1_2 : w2.cell? ⟨w.heap.size + 3, 1, none⟩ = some (.int .i64 (ad)) := K3_2.out.cell 1
  have z3_2_2 : w2.cell? ⟨w.heap.size + 3, 2, none⟩ = some (.int .i64 (bn)) := K3_2.out.cell 2
  have z3_3_2 : w2.cell? ⟨w.heap.size + 3, 3, none⟩ = some (.int .i64 (bd)) := K3_2.out.cell 3
  have zf2_0 := K2_2.out.frozen 0
  have zf2_1 := K2_2.out.frozen 1
  go_wp2
  exact bodyPost_ret (v := .tuple #[.agg #[.int .i64 0, .int .i64 0], .int .i64 8]) (by simp [results, Try.results19, go_sem, z2_0_2, z2_1_2, l2_2]) rfl ⟨rfl, by repeat' (first | exact Below.refl _ _ | exact HB2.out | refine below_drewN ?_ _ | refine Below.drew ?_ | refine Below.alloc ?_ (by first | omega | (simp; done) | (simp; omega) | (simp [World.setCell]; omega)) _ | refine Below.setCell ?_ (by first | omega | (simp; done) | (simp; omega)) _ | assumption)⟩

end Go.Proofs.Ytfigbdhfmlhjdaa

end
