import Derived.Test.YtdidcpealabaiaaQ17
import Derived.Test.YtdidcpealabaiaaQ13

section
/- The check of a model as the best one of stars, and predictions: the package's contracts. -/
namespace Go.Proofs.Ytdidcpealabaiaa
open Go Go.RowKit

/-- The part of a star in the check of term k. -/
def chkS (T : List Int) (D : Int) (k : Nat) (s : Star) : Int := shp s k * (s.er * D - dotTo T s.xs T.length)
def chkTo (l : List Star) (T : List Int) (D : Int) (k q : Nat) : Int := ((l.take q).map (chkS T D k)).sum
theorem chkTo_succ {l : List Star} {T : List Int} {D : Int} {k q : Nat} {s : Star} (h : l[q]? = some s) : chkTo l T D k (q + 1) = chkTo l T D k q + chkS T D k s := by
  unfold chkTo
  rw [List.take_add_one, h]
  simp
/-- The error of a right model as the best one of right stars. -/
def fitErr (l : List Star) (T : List Int) (D : Int) : Int := if T.length ≠ termsN l then 10 else if ∀ k, k < T.length → chkTo l T D k l.length = 0 then 0 else 22
theorem chkS_in {T : List Int} {D : Int} {s : Star} (hs : starErr T.length s = 0) (hm : mdlErr T D = 0) (k : Nat) : (-1000000000000000 ≤ s.er * D ∧ s.er * D ≤ 1000000000000000) ∧ (-300000000000000 ≤ dotTo T s.xs T.length ∧ dotTo T s.xs T.length ≤ 300000000000000) ∧ -130000000000000000 ≤ chkS T D k s ∧ chkS T D k s ≤ 130000000000000000 := by
  obtain ⟨a1, a2, a3, a4, a5⟩ := star_right hs
  obtain ⟨b1, b2, b3, b4, -⟩ := mdl_right hm
  have c1 := shp_in hs k
  have c2 := mulb a5 (show -1000000000000 ≤ D ∧ D ≤ 1000000000000 by omega) (by decide) (by decide)
  have c3 := dotTo_in (b := 100) (by decide) (by decide) b4 a4 T.length (by omega)
  have c4 := mulb c1 (show -1300000000000000 ≤ s.er * D - dotTo T s.xs T.length ∧ s.er * D - dotTo T s.xs T.length ≤ 1300000000000000 by omega) (by decide) (by decide)
  unfold chkS
  omega
theorem chkTo_in {l : List Star} {T : List Int} {D : Int} (hs : ∀ s ∈ l, starErr T.length s = 0) (hm : mdlErr T D = 0) (k q : Nat) (hq : q ≤ 20) : -2600000000000000000 ≤ chkTo l T D k q ∧ chkTo l T D k q ≤ 2600000000000000000 := by
  have h1 := sum_in 130000000000000000 (by decide) ((l.take q).map (chkS T D k)) fun z hz => by
    obtain ⟨s, hx, rfl⟩ := List.mem_map.1 hz
    exact (chkS_in (hs s (List.mem_of_mem_take hx)) hm k).2.2
  have h2 : ((l.take q).map (chkS T D k)).length ≤ q := by rw [List.length_map]; exact List.length_take_le _ _
  unfold chkTo
  omega
/-- The error of a model as the best one of stars. -/
def chkErr (l : List Star) (T : List Int) (D : Int) : Int := if (starsF l).2 ≠ 0 then (starsF l).2 else if mdlErr T D ≠ 0 then mdlErr T D else fitErr l T D

set_option maxRecDepth 100000 in
set_option maxHeartbeats 4000000 in
theorem pcheckfit_is (l : List Star) (A : Option Addr) (n c : Nat) (B : Option Addr) (m cb : Nat) (T : List Int) (D E : Int) (hE : chkErr l T D = E) (w : World) (hx : StarsAt l A n w) (hy : Reads w w.heap.size 1 B m (T.map (.int .i64))) (hn : n ≤ 9223372036854775807) (hm : m ≤ 9223372036854775807) :
    Calls Try.prog 28 #[.slice A n c, .agg #[.slice B m cb, .int .i64 D]] w fun e w' => e = .returned (.int .i64 E) ∧ Below w.heap.size w w' := by
  have hll := hx.len
  have hlm := hy.ilen
  obtain ⟨⟨T0, E0⟩, h0⟩ : ∃ z, starsF l = z := ⟨_, rfl⟩
  obtain ⟨E1, h1⟩ : ∃ z, mdlErr T D = z := ⟨_, rfl⟩
  unfold chkErr at hE
  rw [h0, h1] at hE
  simp only at hE
  have H0 := Lib.hid h0
  have H1 := Lib.hid h1
  by_cases z0 : E0 = 0
  rotate_left
  · obtain rfl : E = E0 := by rw [← hE, if_pos z0]
    have q0 : (E != 0) = true := by simpa using z0
    clear hE h0 h1 z0
    go_enter Try.func28, Try.ntmps28
    go_wp2_with fail
    generalize hwn : (w.alloc (.cells #[.slice B m cb, .int .i64 (D)] 45)) = w1
    have hbn : Below w.heap.size w w1 := by rw [← hwn]; repeat' (first | exact Below.refl _ _ | refine below_drewN ?_ _ | refine Below.drew ?_ | refine Below.alloc ?_ (by first | omega | (simp; done) | (simp; omega) | (simp [World.setCell]; omega)) _ | refine Below.setCell ?_ (by first | omega | (simp; done) | (simp; omega)) _)
    have HB1 := Lib.hid (show Below w.heap.size w w1 from hbn)
    have K0_1 := Lib.hid (show Blk w1 (w.heap.size) 45 #[.slice B m cb, .int .i64 (D)] by rw [← hwn]; repeat' (first | exact Blk.at_ _ (by first | rfl | (simp; done) | (simp; omega)) _ _ | refine Blk.drewN ?_ _ | refine Blk.drew ?_ | refine Blk.alloc ?_ _ | refine Blk.far ?_ (by first | omega | (simp; done) | (simp; omega)) _ | assumption))
    have HN1 := Lib.hid hbn
    have hz1 := hbn.size
    clear hwn hbn
    have l0_1 : w.heap.size < w1.heap.size := K0_1.out.lt
    have z0_0_1 : w1.cell? ⟨w.heap.size, 0, none⟩ = some (.slice B m cb) := K0_1.out.cell 0
    have z0_1_1 : w1.cell? ⟨w.heap.size, 1, none⟩ = some (.int .i64 (D)) := K0_1.out.cell 1
    have hx1 := hx.lay HB1.out
    refine (pstars_is l A n c T0 E H0.out _ hx1 hn).mono ?_
    rintro e w2 ⟨rfl, hb⟩
    have HB2 := Lib.hid (show Below w.heap.size w w2 from step_below hb (by repeat' (first | exact Below.refl _ _ | exact HB1.out | refine below_drewN ?_ _ | refine Below.drew ?_ | refine Below.alloc ?_ (by first | omega | (simp; done) | (simp; omega) | (simp [World.setCell]; omega)) _ | refine Below.setCell ?_ (by first | omega | (simp; done) | (simp; omega)) _ | assumption)))
    have K0_2 := Lib.hid (step_blk hb (show Blk _ (w.heap.size) 45 #[.slice B m cb, .int .i64 (D)] by repeat' (first | exact K0_1.out | exact Blk.at_ _ (by first | rfl | (simp; done) | (simp; omega)) _ _ | refine Blk.drewN ?_ _ | refine Blk.drew ?_ | refine Blk.alloc ?_ _ | refine Blk.far ?_ (by first | omega | (simp; done) | (simp; omega)) _ | assumption)))
    have hz2 := hb.size
    try simp only [World.size_alloc, World.drewN, World.drew] at hz2
    clear hb K0_1 z0_0_1 z0_1_1 l0_1
    have l0_2 : w.heap.size < w2.heap.size := K0_2.out.lt
    have z0_0_2 : w2.cell? ⟨w.heap.size, 0, none⟩ = some (.slice B m cb) := K0_2.out.cell 0
    have z0_1_2 : w2.cell? ⟨w.heap.size, 1, none⟩ = some (.int .i64 (D)) := K0_2.out.cell 1
    go_wp2
    go_ret
    exact ⟨rfl, HB2.out⟩
  subst z0
  rw [if_neg (by simp)] at hE
  by_cases z1 : E1 = 0
  rotate_left
  · obtain rfl : E = E1 := by rw [← hE, if_pos z1]
    have q1 : (E != 0) = true := by simpa using z1
    have q0 : ((0 : Int) != 0) = false := by decide
    clear hE h0 h1 z1
    go_enter Try.func28, Try.ntmps28
    go_wp2_with fail
    generalize hwn : (w.alloc (.cells #[.slice B m cb, .int .i64 (D)] 45)) = w1
    have hbn : Below w.heap.size w w1 := by rw [← hwn]; repeat' (first | exact Below.refl _ _ | refine below_drewN ?_ _ | refine Below.drew ?_ | refine Below.alloc ?_ (by first | omega | (simp; done) | (simp; omega) | (simp [World.setCell]; omega)) _ | refine Below.setCell ?_ (by first | omega | (simp; done) | (simp; omega)) _)
    have HB1 := Lib.hid (show Below w.heap.size w w1 from hbn)
    have K0_1 := Lib.hid (show Blk w1 (w.heap.size) 45 #[.slice B m cb, .int .i64 (D)] by rw [← hwn]; repeat' (first | exact Blk.at_ _ (by first | rfl | (simp; done) | (simp; omega)) _ _ | refine Blk.drewN ?_ _ | refine Blk.drew ?_ | refine Blk.alloc ?_ _ | refine Blk.far ?_ (by first | omega | (simp; done) | (simp; omega)) _ | assumption))
    have HN1 := Lib.hid hbn
    have hz1 := hbn.size
    clear hwn hbn
    have l0_1 : w.heap.size < w1.heap.size := K0_1.out.lt
    have z0_0_1 : w1.cell? ⟨w.heap.size, 0, none⟩ = some (.slice B m cb) := K0_1.out.cell 0
    have z0_1_1 : w1.cell? ⟨w.heap.size, 1, none⟩ = some (.int .i64 (D)) := K0_1.out.cell 1
    have hx1 := hx.lay HB1.out
    have hy1 := (hy.below HB1.out).more HB1.out.size
    have R0_1 := Lib.hid hy1
    clear hy1
    refine (pstars_is l A n c T0 0 H0.out _ hx1 hn).mono ?_
    rintro e w2 ⟨rfl, hb⟩
    have HB2 := Lib.hid (show Below w.heap.size w w2 from step_below hb (by repeat' (first | exact Below.refl _ _ | exact HB1.out | refine below_drewN ?_ _ | refine Below.drew ?_ | refine Below.alloc ?_ (by first | omega | (simp; done) | (simp; omega) | (simp [World.setCell]; omega)) _ | refine Below.setCell ?_ (by first | omega | (simp; done) | (simp; omega)) _ | assumption)))
    have K0_2 := Lib.hid (step_blk hb (show Blk _ (w.heap.size) 45 #[.slice B m cb, .int .i64 (D)] by repeat' (first | exact K0_1.out | exact Blk.at_ _ (by first | rfl | (simp; done) | (simp; omega)) _ _ | refine Blk.drewN ?_ _ | refine Blk.drew ?_ | refine Blk.alloc ?_ _ | refine Blk.far ?_ (by first | omega | (simp; done) | (simp; omega)) _ | assumption)))
    have hL2 := Lib.hid (show Below w1.heap.size w1 _ from reads_mid hb (by repeat' (first | exact Below.refl _ _ | refine below_drewN ?_ _ | refine Below.drew ?_ | refine Below.alloc ?_ (by first | omega | (simp; done) | (simp; omega) | (simp [World.setCell]; omega)) _ | refine Below.setCell ?_ (by first | omega | (simp; done) | (simp; omega)) _)))
    have R0_2 := Lib.hid (reads_lay hb hL2.out R0_1.out)
    clear hL2 R0_1
    have hz2 := hb.size
    try simp only [World.size_alloc, World.drewN, World.drew] at hz2
    clear hb K0_1 z0_0_1 z0_1_1 l0_1
    have l0_2 : w.heap.size < w2.heap.size := K0_2.out.lt
    have z0_0_2 : w2.cell? ⟨w.heap.size, 0, none⟩ = some (.slice B m cb) := K0_2.out.cell 0
    have z0_1_2 : w2.cell? ⟨w.heap.size, 1, none⟩ = some (.int .i64 (D)) := K0_2.out.cell 1
    go_wp2_with fail
    refine (pmodel_is B m cb T D E H1.out _ R0_2.out hm).mono ?_
    rintro e w3 ⟨rfl, hb⟩
    have HB3 := Lib.hid (show Below w.heap.size w w3 from step_below hb (by repeat' (first | exact Below.refl _ _ | exact HB2.out | refine below_drewN ?_ _ | refine Below.drew ?_ | refine Below.alloc ?_ (by first | omega | (simp; done) | (simp; omega) | (simp [World.setCell]; omega)) _ | refine Below.setCell ?_ (by first | omega | (simp; done) | (simp; omega)) _ | assumption)))
    have K0_3 := Lib.hid (step_blk hb (show Blk _ (w.heap.size) 45 #[.slice B m cb, .int .i64 (D)] by repeat' (first | exact K0_2.out | exact Blk.at_ _ (by first | rfl | (simp; done) | (simp; omega)) _ _ | refine Blk.drewN ?_ _ | refine Blk.drew ?_ | refine Blk.alloc ?_ _ | refine Blk.far ?_ (by first | omega | (simp; done) | (simp; omega)) _ | assumption)))
    have hL3 := Lib.hid (show Below w2.heap.size w2 _ from reads_mid hb (by repeat' (first | exact Below.refl _ _ | refine below_drewN ?_ _ | refine Below.drew ?_ | refine Below.alloc ?_ (by first | omega | (simp; done) | (simp; omega) | (simp [World.setCell]; omega)) _ | refine Below.setCell ?_ (by first | omega | (simp; done) | (simp; omega)) _)))
    have R0_3 := Lib.hid (reads_lay hb hL3.out R0_2.out)
    clear hL3 R0_2
    have hz3 := hb.size
    try simp only [World.size_alloc, World.drewN, World.drew] at hz3
    clear hb K0_2 z0_0_2 z0_1_2 l0_2
    have l0_3 : w.heap.size < w3.heap.size := K0_3.out.lt
    have z0_0_3 : w3.cell? ⟨w.heap.size, 0, none⟩ = some (.slice B m cb) := K0_3.out.cell 0
    have z0_1_3 : w3.cell? ⟨w.heap.size, 1, none⟩ = some (.int .i64 (D)) := K0_3.out.cell 1
    go_wp2
    go_ret
    exact ⟨rfl, HB3.out⟩
  subst z1
  rw [if_neg (by simp)] at hE
  obtain ⟨s1, s2, s3, s4⟩ := stars_right h0 rfl
  subst s3
  have q0 : ((0 : Int) != 0) = false := by decide
  by_cases hlen : T.length = termsN l
  rotate_left
  · obtain rfl : E = 10 := by rw [← hE]; unfold fitErr; rw [if_pos hlen]
    have q2 : ((m : Int) != (termsN l : Int)) = true := by rw [bne_iff_ne]; omega
    clear hE h0 h1 s1 s2 s4 hlen
    go_enter Try.func28, Try.ntmps28
    go_wp2_with fail
    generalize hwn : (w.alloc (.cells #[.slice B m cb, .int .i64 (D)] 45)) = w1
    have hbn : Below w.heap.size w w1 := by rw [← hwn]; repeat' (first | exact Below.refl _ _ | refine below_drewN ?_ _ | refine Below.drew ?_ | refine Below.alloc ?_ (by first | omega | (simp; done) | (simp; omega) | (simp [World.setCell]; omega)) _ | refine Below.setCell ?_ (by first | omega | (simp; done) | (simp; omega)) _)
    have HB1 := Lib.hid (show Below w.heap.size w w1 from hbn)
    have K0_1 := Lib.hid (show Blk w1 (w.heap.size) 45 #[.slice B m cb, .int .i64 (D)] by rw [← hwn]; repeat' (first | exact Blk.at_ _ (by first | rfl | (simp; done) | (simp; omega)) _ _ | refine Blk.drewN ?_ _ | refine Blk.drew ?_ | refine Blk.alloc ?_ _ | refine Blk.far ?_ (by first | omega | (simp; done) | (simp; omega)) _ | assumption))
    have HN1 := Lib.hid hbn
    have hz1 := hbn.size
    clear hwn hbn
    have l0_1 : w.heap.size < w1.heap.size := K0_1.out.lt
    have z0_0_1 : w1.cell? ⟨w.heap.size, 0, none⟩ = some (.slice B m cb) := K0_1.out.cell 0
    have z0_1_1 : w1.cell? ⟨w.heap.size, 1, none⟩ = some (.int .i64 (D)) := K0_1.out.cell 1
    have hx1 := hx.lay HB1.out
    have hy1 := (hy.below HB1.out).more HB1.out.size
    have R0_1 := Lib.hid hy1
    clear hy1
    refine (pstars_is l A n c _ 0 H0.out _ hx1 hn).mono ?_
    rintro e w2 ⟨rfl, hb⟩
    have HB2 := Lib.hid (show Below w.heap.size w w2 from step_below hb (by repeat' (first | exact Below.refl _ _ | exact HB1.out | refine below_drewN ?_ _ | refine Below.drew ?_ | refine Below.alloc ?_ (by first | omega | (simp; done) | (simp; omega) | (simp [World.setCell]; omega)) _ | refine Below.setCell ?_ (by first | omega | (simp; done) | (simp; omega)) _ | assumption)))
    have K0_2 := Lib.hid (step_blk hb (show Blk _ (w.heap.size) 45 #[.slice B m cb, .int .i64 (D)] by repeat' (first | exact K0_1.out | exact Blk.at_ _ (by first | rfl | (simp; done) | (simp; omega)) _ _ | refine Blk.drewN ?_ _ | refine Blk.drew ?_ | refine Blk.alloc ?_ _ | refine Blk.far ?_ (by first | omega | (simp; done) | (simp; omega)) _ | assumption)))
    have hL2 := Lib.hid (show Below w1.heap.size w1 _ from reads_mid hb (by repeat' (first | exact Below.refl _ _ | refine below_drewN ?_ _ | refine Below.drew ?_ | refine Below.alloc ?_ (by first | omega | (simp; done) | (simp; omega) | (simp [World.setCell]; omega)) _ | refine Below.setCell ?_ (by first | omega | (simp; done) | (simp; omega)) _)))
    have R0_2 := Lib.hid (reads_lay hb hL2.out R0_1.out)
    clear hL2 R0_1
    have hz2 := hb.size
    try simp only [World.size_alloc, World.drewN, World.drew] at hz2
    clear hb K0_1 z0_0_1 z0_1_1 l0_1
    have l0_2 : w.heap.size < w2.heap.size := K0_2.out.lt
    have z0_0_2 : w2.cell? ⟨w.heap.size, 0, none⟩ = some (.slice B m cb) := K0_2.out.cell 0
    have z0_1_2 : w2.cell? ⟨w.heap.size, 1, none⟩ = some (.int .i64 (D)) := K0_2.out.cell 1
    go_wp2_with fail
    refine (pmodel_is B m cb T D 0 H1.out _ R0_2.out hm).mono ?_
    rintro e w3 ⟨rfl, hb⟩
    have HB3 := Lib.hid (show Below w.heap.size w w3 from step_below hb (by repeat' (first | exact Below.refl _ _ | exact HB2.out | refine below_drewN ?_ _ | refine Below.drew ?_ | refine Below.alloc ?_ (by first | omega | (simp; done) | (simp; omega) | (simp [World.setCell]; omega)) _ | refine Below.setCell ?_ (by first | omega | (simp; done) | (simp; omega)) _ | assumption)))
    have K0_3 := Lib.hid (step_blk hb (show Blk _ (w.heap.size) 45 #[.slice B m cb, .int .i64 (D)] by repeat' (first | exact K0_2.out | exact Blk.at_ _ (by first | rfl | (simp; done) | (simp; omega)) _ _ | refine Blk.drewN ?_ _ | refine Blk.drew ?_ | refine Blk.alloc ?_ _ | refine Blk.far ?_ (by first | omega | (simp; done) | (simp; omega)) _ | assumption)))
    have hL3 := Lib.hid (show Below w2.heap.size w2 _ from reads_mid hb (by repeat' (first | exact Below.refl _ _ | refine below_drewN ?_ _ | refine Below.drew ?_ | refine Below.alloc ?_ (by first | omega | (simp; done) | (simp; omega) | (simp [World.setCell]; omega)) _ | refine Below.setCell ?_ (by first | omega | (simp; done) | (simp; omega)) _)))
    have R0_3 := Lib.hid (reads_lay hb hL3.out R0_2.out)
    clear hL3 R0_2
    have hz3 := hb.size
    try simp only [World.size_alloc, World.drewN, World.drew] at hz3
    clear hb K0_2 z0_0_2 z0_1_2 l0_2
    have l0_3 : w.heap.size < w3.heap.size := K0_3.out.lt
    have z0_0_3 : w3.cell? ⟨w.heap.size, 0, none⟩ = some (.slice B m cb) := K0_3.out.cell 0
    have z0_1_3 : w3.cell? ⟨w.heap.size, 1, none⟩ = some (.int .i64 (D)) := K0_3.out.cell 1
    go_wp2
    go_ret
    exact ⟨rfl, HB3.out⟩
  have hTN : termsN l = m := by omega
  have hEE : E = if ∀ k, k < T.length → chkTo l T D k l.length = 0 then 0 else 22 := by rw [← hE]; unfold fitErr; rw [if_neg (by simpa using hlen)]
  rw [hll, hlm] at hEE
  have q2 : ((m : Int) != (m : Int)) = false := by simp
  rw [← hlen] at s4
  obtain ⟨mT1, mT3, mD, mT, -⟩ := mdl_right h1
  rw [hlm] at mT1 mT3
  rw [hll] at s1 s2
  rw [hTN] at H0
  have HX := Lib.hid hx
  have HY := Lib.hid hy
  have HE := Lib.hid hEE
  have HS4 := Lib.hid s4
  have HMT := Lib.hid mT
  have HLL := Lib.hid hll
  have HLM := Lib.hid hlm
  clear hE hEE s4 mT h0 h1 hx hy hlen hTN hll hlm
  go_enter Try.func28, Try.ntmps28
  go_wp2_with fail
  generalize hwn : (w.alloc (.cells #[.slice B m cb, .int .i64 (D)] 45)) = w1
  have hbn : Below w.heap.size w w1 := by rw [← hwn]; repeat' (first | exact Below.refl _ _ | refine below_drewN ?_ _ | refine Below.drew ?_ | refine Below.alloc ?_ (by first | omega | (simp; done) | (simp; omega) | (simp [World.setCell]; omega)) _ | refine Below.setCell ?_ (by first | omega | (simp; done) | (simp; omega)) _)
  have HB1 := Lib.hid (show Below w.heap.size w w1 from hbn)
  have K0_1 := Lib.hid (show Blk w1 (w.heap.size) 45 #[.slice B m cb, .int .i64 (D)] by rw [← hwn]; repeat' (first | exact Blk.at_ _ (by first | rfl | (simp; done) | (simp; omega)) _ _ | refine Blk.drewN ?_ _ | refine Blk.drew ?_ | refine Blk.alloc ?_ _ | refine Blk.far ?_ (by first | omega | (simp; done) | (simp; omega)) _ | assumption))
  have HN1 := Lib.hid hbn
  have hz1 := hbn.size
  clear hwn hbn
  have l0_1 : w.heap.size < w1.heap.size := K0_1.out.lt
  have z0_0_1 : w1.cell? ⟨w.heap.size, 0, none⟩ = some (.slice B m cb) := K0_1.out.cell 0
  have z0_1_1 : w1.cell? ⟨w.heap.size, 1, none⟩ = some (.int .i64 (D)) := K0_1.out.cell 1
  have hx1 := HX.out.lay HB1.out
  have hy1 := (HY.out.below HB1.out).more HB1.out.size
  have R0_1 := Lib.hid hy1
  clear hy1
  refine (pstars_is l A n c _ 0 H0.out _ hx1 hn).mono ?_
  rintro e w2 ⟨rfl, hb⟩
  have HB2 := Lib.hid (show Below w.heap.size w w2 from step_below hb (by repeat' (first | exact Below.refl _ _ | exact HB1.out | refine below_drewN ?_ _ | refine Below.drew ?_ | refine Below.alloc ?_ (by first | omega | (simp; done) | (simp; omega) | (simp [World.setCell]; omega)) _ | refine Below.setCell ?_ (by first | omega | (simp; done) | (simp; omega)) _ | assumption)))
  have K0_2 := Lib.hid (step_blk hb (show Blk _ (w.heap.size) 45 #[.slice B m cb, .int .i64 (D)] by repeat' (first | exact K0_1.out | exact Blk.at_ _ (by first | rfl | (simp; done) | (simp; omega)) _ _ | refine Blk.drewN ?_ _ | refine Blk.drew ?_ | refine Blk.alloc ?_ _ | refine Blk.far ?_ (by first | omega | (simp; done) | (simp; omega)) _ | assumption)))
  have hL2 := Lib.hid (show Below w1.heap.size w1 _ from reads_mid hb (by repeat' (first | exact Below.refl _ _ | refine below_drewN ?_ _ | refine Below.drew ?_ | refine Below.alloc ?_ (by first | omega | (simp; done) | (simp; omega) | (simp [World.setCell]; omega)) _ | refine Below.setCell ?_ (by first | omega | (simp; done) | (simp; omega)) _)))
  have R0_2 := Lib.hid (reads_lay hb hL2.out R0_1.out)
  clear hL2 R0_1
  have hz2 := hb.size
  try simp only [World.size_alloc, World.drewN, World.drew] at hz2
  clear hb K0_1 z0_0_1 z0_1_1 l0_1
  have l0_2 : w.heap.size < w2.heap.size := K0_2.out.lt
  have z0_0_2 : w2.cell? ⟨w.heap.size, 0, none⟩ = some (.slice B m cb) := K0_2.out.cell 0
  have z0_1_2 : w2.cell? ⟨w.heap.size, 1, none⟩ = some (.int .i64 (D)) := K0_2.out.cell 1
  go_wp2_with fail
  refine (pmodel_is B m cb T D 0 H1.out _ R0_2.out hm).mono ?_
  rintro e w3 ⟨rfl, hb⟩
  have HB3 := Lib.hid (show Below w.heap.size w w3 from step_below hb (by repeat' (first | exact Below.refl _ _ | exact HB2.out | refine below_drewN ?_ _ | refine Below.drew ?_ | refine Below.alloc ?_ (by first | omega | (simp; done) | (simp; omega) | (simp [World.setCell]; omega)) _ | refine Below.setCell ?_ (by first | omega | (simp; done) | (simp; omega)) _ | assumption)))
  have K0_3 := Lib.hid (step_blk hb (show Blk _ (w.heap.size) 45 #[.slice B m cb, .int .i64 (D)] by repeat' (first | exact K0_2.out | exact Blk.at_ _ (by first | rfl | (simp; done) | (simp; omega)) _ _ | refine Blk.drewN ?_ _ | refine Blk.drew ?_ | refine Blk.alloc ?_ _ | refine Blk.far ?_ (by first | omega | (simp; done) | (simp; omega)) _ | assumption)))
  have hL3 := Lib.hid (show Below w2.heap.size w2 _ from reads_mid hb (by repeat' (first | exact Below.refl _ _ | refine below_drewN ?_ _ | refine Below.drew ?_ | refine Below.alloc ?_ (by first | omega | (simp; done) | (simp; omega) | (simp [World.setCell]; omega)) _ | refine Below.setCell ?_ (by first | omega | (simp; done) | (simp; omega)) _)))
  have R0_3 := Lib.hid (reads_lay hb hL3.out R0_2.out)
  clear hL3 R0_2
  have hz3 := hb.size
  try simp only [World.size_alloc, World.drewN, World.drew] at hz3
  clear hb K0_2 z0_0_2 z0_1_2 l0_2
  have l0_3 : w.heap.size < w3.heap.size := K0_3.out.lt
  have z0_0_3 : w3.cell? ⟨w.heap.size, 0, none⟩ = some (.slice B m cb) := K0_3.out.cell 0
  have z0_1_3 : w3.cell? ⟨w.heap.size, 1, none⟩ = some (.int .i64 (D)) := K0_3.out.cell 1
  go_wp2
  go_loopw [31] (fun i wr => ∃ k : Nat, k ≤ m ∧ i = .int .i64 k ∧ Below w.heap.size w wr ∧ Blk wr w.heap.size 45 #[.slice B m cb, .int .i64 D] ∧ ∀ j, j < k → chkTo l T D j n = 0) (fun i _ => m - (intOf i).toNat)
  case atStart => exact ⟨0, by omega, rfl, HB3.out, K0_3.out, fun j hj => absurd hj (by omega)⟩
  case round =>
    obtain ⟨k, hk, rfl, hb4, hk4, hz⟩ := hrel
    obtain ⟨w4, hnm⟩ : ∃ z : World, z = wr := ⟨_, rfl⟩
    subst hnm
    have HZ := Lib.hid hz
    clear hz
    have HB4 := Lib.hid hb4
    have K0_4 := Lib.hid (show Blk w4 (w.heap.size) 45 #[.slice B m cb, .int .i64 (D)] from hk4)
    clear hb4 hk4
    have l0_4 : w.heap.size < w4.heap.size := K0_4.out.lt
    have z0_0_4 : w4.cell? ⟨w.heap.size, 0, none⟩ = some (.slice B m cb) := K0_4.out.cell 0
    have z0_1_4 : w4.cell? ⟨w.heap.size, 1, none⟩ = some (.int .i64 (D)) := K0_4.out.cell 1
    by_cases hlt : k < m
    rotate_left
    · obtain rfl : m = k := by omega
      obtain rfl : E = 0 := by rw [HE.out, if_pos HZ.out]
      go_wp2
      go_ret
      exact ⟨rfl, HB4.out⟩
    have hkk : (k : Int) < (m : Int) := by omega
    go_wp2
    go_loopw [9, 36] (fun s i wr => ∃ q : Nat, q ≤ n ∧ s = .int .i64 (chkTo l T D k q) ∧ i = .int .i64 q ∧ Below w.heap.size w wr ∧ Blk wr w.heap.size 45 #[.slice B m cb, .int .i64 D]) (fun _ i _ => n - (intOf i).toNat)
    case atStart => exact ⟨0, by omega, rfl, rfl, HB4.out, K0_4.out⟩
    case round =>
      obtain ⟨q, hq, rfl, rfl, hb5, hk5⟩ := hrel
      obtain ⟨w5, hnm⟩ : ∃ z : World, z = wr := ⟨_, rfl⟩
      subst hnm
      have HB5 := Lib.hid hb5
      have K0_5 := Lib.hid (show Blk w5 (w.heap.size) 45 #[.slice B m cb, .int .i64 (D)] from hk5)
      clear hb5 hk5
      have l0_5 : w.heap.size < w5.heap.size := K0_5.out.lt
      have z0_0_5 : w5.cell? ⟨w.heap.size, 0, none⟩ = some (.slice B m cb) := K0_5.out.cell 0
      have z0_1_5 : w5.cell? ⟨w.heap.size, 1, none⟩ = some (.int .i64 (D)) := K0_5.out.cell 1
      by_cases hlt2 : q < n
      · obtain ⟨xb, xo, s, rfl, hxb, hs, d0, d1, -, hsl, -⟩ := (HX.out.lay HB5.out).at_ hlt2
        have hsr := (HX.out.each s (List.mem_of_getElem? hs)).2
        have hok := HS4.out s (List.mem_of_getElem? hs)
        have hsx := (star_right hok).1
        rw [HLM.out] at hsx
        obtain ⟨i1, i2, i3⟩ := chkS_in hok H1.out k
        have j1 := chkTo_in HS4.out H1.out k q (by omega)
        have j2 := chkTo_in HS4.out H1.out k (q + 1) (by omega)
        have hsn := chkTo_succ (T := T) (D := D) (k := k) hs
        rw [hsn] at j2
        have hxr := (star_right hok).2.2.2.1
        have hsh : s.xs[k]? = some (shp s k) := by
          unfold shp
          rw [List.getD_eq_getElem?_getD, List.getElem?_eq_getElem (by omega)]
          rfl
        obtain ⟨sA, sn, sc, sx, se⟩ := s
        simp only at d0 d1 hsl hsr hsx i1 i2 hxr hsh
        obtain rfl : m = sn := by omega
        obtain ⟨x, hxx⟩ : ∃ x, shp (⟨sA, m, sc, sx, se⟩ : Star) k = x := ⟨_, rfl⟩
        obtain ⟨v, hv⟩ : ∃ v, dotTo T sx T.length = v := ⟨_, rfl⟩
        obtain ⟨u, hu⟩ : ∃ u, chkTo l T D k q = u := ⟨_, rfl⟩
        unfold chkS at hsn i3 j2
        simp only at hsn i3 j2
        rw [hxx, hv] at hsn i3 j2
        rw [hu] at hsn j1 j2
        rw [hxx] at hsh
        rw [hv] at i2
        rw [HLM.out] at hv
        have v1 := IntWalk.i64_in (se * D) ⟨by omega, by omega⟩
        have v2 := IntWalk.i64_in (se * D - v) ⟨by omega, by omega⟩
        have v3 := IntWalk.i64_in (x * (se * D - v)) ⟨by omega, by omega⟩
        have v4 := IntWalk.i64_in (u + x * (se * D - v)) ⟨by omega, by omega⟩
        have HSN := Lib.hid hsn
        obtain ⟨pb, po, rfl, -, -⟩ := hsr.2 (by omega)
        have HSW := Lib.hid hsr
        have HV := Lib.hid hv
        have HXR := Lib.hid hxr
        have HSH := Lib.hid hsh
        have hqq : (q : Int) < (n : Int) := by omega
        rw [hu]
        clear hs hsr hok hsx hsn hxr hsh i1 i2 i3 j1 j2 hxx hu hv hsl
        go_wp2_with fail
        generalize hwn : (w5.alloc (.cells #[.slice (some ⟨pb, po, none⟩) m sc, .int .i64 (se)] 112)) = w6
        have hbn : Below w5.heap.size w5 w6 := by rw [← hwn]; repeat' (first | exact Below.refl _ _ | refine below_drewN ?_ _ | refine Below.drew ?_ | refine Below.alloc ?_ (by first | omega | (simp; done) | (simp; omega) | (simp [World.setCell]; omega)) _ | refine Below.setCell ?_ (by first | omega | (simp; done) | (simp; omega)) _)
        have HB6 := Lib.hid (show Below w.heap.size w w6 from HB5.out.trans (hbn.mono HB5.out.size))
        have K0_6 := Lib.hid (step_blk hbn K0_5.out)
        have K1_6 := Lib.hid (show Blk w6 (w5.heap.size) 112 #[.slice (some ⟨pb, po, none⟩) m sc, .int .i64 (se)] by rw [← hwn]; repeat' (first | exact Blk.at_ _ (by first | rfl | (simp; done) | (simp; omega)) _ _ | refine Blk.drewN ?_ _ | refine Blk.drew ?_ | refine Blk.alloc ?_ _ | refine Blk.far ?_ (by first | omega | (simp; done) | (simp; omega)) _ | assumption))
        have HN6 := Lib.hid hbn
        have hz6 := hbn.size
        clear hwn hbn K0_5 l0_5 z0_0_5 z0_1_5
        have l0_6 : w.heap.size < w6.heap.size := K0_6.out.lt
        have z0_0_6 : w6.cell? ⟨w.heap.size, 0, none⟩ = some (.slice B m cb) := K0_6.out.cell 0
        have z0_1_6 : w6.cell? ⟨w.heap.size, 1, none⟩ = some (.int .i64 (D)) := K0_6.out.cell 1
        have l1_6 : w5.heap.size < w6.heap.size := K1_6.out.lt
        have z1_0_6 : w6.cell? ⟨w5.heap.size, 0, none⟩ = some (.slice (some ⟨pb, po, none⟩) m sc) := K1_6.out.cell 0
        have z1_1_6 : w6.cell? ⟨w5.heap.size, 1, none⟩ = some (.int .i64 (se)) := K1_6.out.cell 1
        have hy6 := (HY.out.below HB6.out).more HB6.out.size
        have hs6 := (HSW.out.below HB6.out).more HB6.out.size
        obtain ⟨_, _, hA, hpb, hpc⟩ := hs6.2 (by omega)
        cases hA
        have g0 := hpc k (.int .i64 x) (by rw [List.getElem?_map, HSH.out]; rfl)
        have HY6 := Lib.hid hy6
        have HS6 := Lib.hid hs6
        clear hy6 hs6 hpc
        refine Fx.regionW (fun W f w' => Below W.heap.size W w') (by kernel_rfl) (by kernel_rfl) ?_ ?_
        · intro f hf0
          exact below_drewN (Below.refl _ _) 1
        repeat (first
          | (refine Fx.skip_ (by rfl) (fun f w h => h) ?_; simp only [Act.put, List.setIfInBounds_toArray, List.set_cons_zero, List.set_cons_succ])
          | (refine Fx.val_ ?_ (by rfl) ?_ (fun f w h => h) ?_
             rotate_left
             · intro f w' hD hk
               have hb := hD
               have kb0 := step_blk hb (show Blk _ (w.heap.size) 45 #[.slice B m cb, .int .i64 (D)] by repeat' (first | exact K0_6.out | exact K1_6.out | exact Blk.at_ _ (by first | rfl | (simp; done) | (simp; omega)) _ _ | refine Blk.drewN ?_ _ | refine Blk.drew ?_ | refine Blk.alloc ?_ _ | refine Blk.far ?_ (by first | omega | (simp; done) | (simp; omega)) _ | assumption))
               have y0_0 : w'.cell? ⟨w.heap.size, 0, none⟩ = some (.slice B m cb) := kb0.cell 0
               have y0_1 : w'.cell? ⟨w.heap.size, 1, none⟩ = some (.int .i64 (D)) := kb0.cell 1
               have kb1 := step_blk hb (show Blk _ (w5.heap.size) 112 #[.slice (some ⟨pb, po, none⟩) m sc, .int .i64 (se)] by repeat' (first | exact K0_6.out | exact K1_6.out | exact Blk.at_ _ (by first | rfl | (simp; done) | (simp; omega)) _ _ | refine Blk.drewN ?_ _ | refine Blk.drew ?_ | refine Blk.alloc ?_ _ | refine Blk.far ?_ (by first | omega | (simp; done) | (simp; omega)) _ | assumption))
               have y1_0 : w'.cell? ⟨w5.heap.size, 0, none⟩ = some (.slice (some ⟨pb, po, none⟩) m sc) := kb1.cell 0
               have y1_1 : w'.cell? ⟨w5.heap.size, 1, none⟩ = some (.int .i64 (se)) := kb1.cell 1
               have y9 := (hb.cell (p := ⟨pb, po + k, none⟩) hpb).trans g0
               clear kb0 kb1
               clear hk hD hb
               go_simp
               try rfl
             simp only [Act.put, List.setIfInBounds_toArray, List.set_cons_zero, List.set_cons_succ]))
        refine Fx.call_ (.int .i64 (v)) ?_ ?_ (by rfl) ?_ ?_ ?_
        rotate_left 2
        · intro w'
          go_simp
          refine ⟨?_, ?_⟩ <;> rfl
        · intro f w' hD hk
          exact (value_is B m cb T D (some ⟨pb, po, none⟩) sc sx 100 v HV.out w' ((HY6.out.below hD).more hD.size) ((HS6.out.below hD).more hD.size) (by omega) (by decide) (by decide) HMT.out HXR.out).mono fun e w'' ⟨he, hw⟩ => ⟨he, step_below hw hD⟩
        simp only [Act.put, List.setIfInBounds_toArray, List.set_cons_zero, List.set_cons_succ]
        repeat (first
          | (refine Fx.skip_ (by rfl) (fun f w h => h) ?_; simp only [Act.put, List.setIfInBounds_toArray, List.set_cons_zero, List.set_cons_succ])
          | (refine Fx.val_ ?_ (by rfl) ?_ (fun f w h => h) ?_
             rotate_left
             · intro f w' hD hk
               have hb := hD
               have kb0 := step_blk hb (show Blk _ (w.heap.size) 45 #[.slice B m cb, .int .i64 (D)] by repeat' (first | exact K0_6.out | exact K1_6.out | exact Blk.at_ _ (by first | rfl | (simp; done) | (simp; omega)) _ _ | refine Blk.drewN ?_ _ | refine Blk.drew ?_ | refine Blk.alloc ?_ _ | refine Blk.far ?_ (by first | omega | (simp; done) | (simp; omega)) _ | assumption))
               have y0_0 : w'.cell? ⟨w.heap.size, 0, none⟩ = some (.slice B m cb) := kb0.cell 0
               have y0_1 : w'.cell? ⟨w.heap.size, 1, none⟩ = some (.int .i64 (D)) := kb0.cell 1
               have kb1 := step_blk hb (show Blk _ (w5.heap.size) 112 #[.slice (some ⟨pb, po, none⟩) m sc, .int .i64 (se)] by repeat' (first | exact K0_6.out | exact K1_6.out | exact Blk.at_ _ (by first | rfl | (simp; done) | (simp; omega)) _ _ | refine Blk.drewN ?_ _ | refine Blk.drew ?_ | refine Blk.alloc ?_ _ | refine Blk.far ?_ (by first | omega | (simp; done) | (simp; omega)) _ | assumption))
               have y1_0 : w'.cell? ⟨w5.heap.size, 0, none⟩ = some (.slice (some ⟨pb, po, none⟩) m sc) := kb1.cell 0
               have y1_1 : w'.cell? ⟨w5.heap.size, 1, none⟩ = some (.int .i64 (se)) := kb1.cell 1
               have y9 := (hb.cell (p := ⟨pb, po + k, none⟩) hpb).trans g0
               clear kb0 kb1
               clear hk hD hb
               go_simp
               try rfl
             simp only [Act.put, List.setIfInBounds_toArray, List.set_cons_zero, List.set_cons_succ]))
        refine Fx.nil_ ?_
        intro f w7 hall hb
        try clear hall
        have HB67 := Lib.hid hb
        have HB7 := Lib.hid (show Below w.heap.size w w7 from step_below hb (by repeat' (first | exact Below.refl _ _ | exact HB6.out | refine below_drewN ?_ _ | refine Below.drew ?_ | refine Below.alloc ?_ (by first | omega | (simp; done) | (simp; omega) | (simp [World.setCell]; omega)) _ | refine Below.setCell ?_ (by first | omega | (simp; done) | (simp; omega)) _ | assumption)))
        have K0_7 := Lib.hid (step_blk hb (show Blk _ (w.heap.size) 45 #[.slice B m cb, .int .i64 (D)] by repeat' (first | exact K0_6.out | exact K1_6.out | exact Blk.at_ _ (by first | rfl | (simp; done) | (simp; omega)) _ _ | refine Blk.drewN ?_ _ | refine Blk.drew ?_ | refine Blk.alloc ?_ _ | refine Blk.far ?_ (by first | omega | (simp; done) | (simp; omega)) _ | assumption)))
        have K1_7 := Lib.hid (step_blk hb (show Blk _ (w5.heap.size) 112 #[.slice (some ⟨pb, po, none⟩) m sc, .int .i64 (se)] by repeat' (first | exact K0_6.out | exact K1_6.out | exact Blk.at_ _ (by first | rfl | (simp; done) | (simp; omega)) _ _ | refine Blk.drewN ?_ _ | refine Blk.drew ?_ | refine Blk.alloc ?_ _ | refine Blk.far ?_ (by first | omega | (simp; done) | (simp; omega)) _ | assumption)))
        have hz7 := hb.size
        try simp only [World.size_alloc, World.drewN, World.drew] at hz7
        clear hb K0_6 K1_6 z0_0_6 z0_1_6 l0_6 z1_0_6 z1_1_6 l1_6
        have l0_7 : w.heap.size < w7.heap.size := K0_7.out.lt
        have z0_0_7 : w7.cell? ⟨w.heap.size, 0, none⟩ = some (.slice B m cb) := K0_7.out.cell 0
        have z0_1_7 : w7.cell? ⟨w.heap.size, 1, none⟩ = some (.int .i64 (D)) := K0_7.out.cell 1
        have l1_7 : w5.heap.size < w7.heap.size := K1_7.out.lt
        have z1_0_7 : w7.cell? ⟨w5.heap.size, 0, none⟩ = some (.slice (some ⟨pb, po, none⟩) m sc) := K1_7.out.cell 0
        have z1_1_7 : w7.cell? ⟨w5.heap.size, 1, none⟩ = some (.int .i64 (se)) := K1_7.out.cell 1
        go_wp2
        go_roundw
        case rel => exact ⟨q + 1, by omega, by rw [HSN.out], by go_num, HB7.out, K0_7.out⟩
        case measure => simp [intOf]; omega
      · obtain rfl : n = q := by omega
        by_cases hz0 : chkTo l T D k n = 0
        · have e1 : (chkTo l T D k n != 0) = false := by simpa using hz0
          have HZ0 := Lib.hid hz0
          clear hz0
          go_wp2
          go_roundw
          case rel =>
            refine ⟨k + 1, by omega, by go_num, HB5.out, K0_5.out, fun j hj => ?_⟩
            rcases Nat.lt_succ_iff_lt_or_eq.1 hj with h | rfl
            · exact HZ.out j h
            · exact HZ0.out
          case measure => simp [intOf]; omega
        · have e1 : (chkTo l T D k n != 0) = true := by simpa using hz0
          obtain rfl : E = 22 := by rw [HE.out, if_neg (fun h => hz0 (h k hlt))]
          clear hz0
          go_wp2
          go_ret
          exact ⟨rfl, HB5.out⟩
end Go.Proofs.Ytdidcpealabaiaa

end

section
/- Predictions of models: the package's contract. -/
namespace Go.Proofs.Ytdidcpealabaiaa
open Go Go.RowKit

/-- A prediction of a right model: its bounds, the error. -/
def prdF (T : List Int) (D : Int) (S : List Int) : (Int × Int) × Int := if S.length ≠ T.length then ((0, 0), 10) else if smallL 1000 S = false then ((0, 0), 2) else ((dotTo T S T.length / D, -((-(dotTo T S T.length)) / D)), 0)
def prdAll (T : List Int) (D : Int) (S : List Int) : (Int × Int) × Int := if mdlErr T D ≠ 0 then ((0, 0), mdlErr T D) else prdF T D S

end Go.Proofs.Ytdidcpealabaiaa

end

section
/- The check of a model as the best one of stars, and predictions: the reference's contracts. -/
namespace Go.Proofs.Ytdidcpealabaiaa
open Go Go.RowKit

end Go.Proofs.Ytdidcpealabaiaa

end

section
/- Contract of the reference's check of stars. -/
namespace Go.Proofs.Ytdidcpealabaiaa
open Go Go.RowKit

end Go.Proofs.Ytdidcpealabaiaa

end
