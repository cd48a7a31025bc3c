import Derived.Test.YtfigbdhfmlhjdaaQ19
import Derived.Test.YtfigbdhfmlhjdaaQ12
import Derived.Test.YtfigbdhfmlhjdaaQ16

section
/- The reference's sums, differences and products of right fractions. -/
namespace Go.Proofs.Ytfigbdhfmlhjdaa
open Go Go.RowKit

set_option maxRecDepth 100000 in
set_option maxHeartbeats 1000000 in
theorem refAdd_ok (a b : Int × Int) (ha : FOk a) (hb : FOk b) (p : Int × Int) (h : addF a b = some p) (w : World) :
    Calls Try.prog 62 #[.agg #[.int .i64 a.1, .int .i64 a.2], .agg #[.int .i64 b.1, .int .i64 b.2]] w fun e w' => e = .returned (.tuple #[.agg #[.int .i64 p.1, .int .i64 p.2], .int .i64 0]) ∧ Below w.heap.size w w' := by
  obtain ⟨a1, a2, a3, a4⟩ := ha.parts
  obtain ⟨b1, b2, b3, b4⟩ := hb.parts
  unfold addF at h
  obtain ⟨hs, h1, h2⟩ := opF_some h
  have HS := Lib.hid hs
  clear h hs ha hb
  obtain ⟨an, ad⟩ := a
  obtain ⟨bn, bd⟩ := b
  simp only at *
  obtain ⟨X, Y⟩ := p
  simp only at *
  subst h1 h2
  have q1 := prod_in a3 a4 (show -1000000000 ≤ bd by omega) b2
  have q2 := prod_in b3 b4 (show -1000000000 ≤ ad by omega) a2
  have q3 := den_in a1 a2 b1 b2
  have v1 := IntWalk.i64_in (an * bd) ⟨by omega, by omega⟩
  have v2 := IntWalk.i64_in (bn * ad) ⟨by omega, by omega⟩
  have v3 := IntWalk.i64_in (ad * bd) ⟨by omega, by omega⟩
  have v4 := IntWalk.i64_in (an * bd + bn * ad) ⟨by omega, by omega⟩
  go_enter Try.func62, Try.ntmps62
  go_wp2_with fail
  refine (made_ok (an * bd + bn * ad) (ad * bd) HS.out _ (by omega) (by omega) (by omega) (by omega)).mono ?_
  rintro e w1 ⟨rfl, hb⟩
  have HB1 := Lib.hid (show Below w.heap.size w w1 from step_below hb (by repeat' (first | exact Below.refl _ _ | exact HB0.out | refine below_drewN ?_ _ | refine Below.drew ?_ | refine Below.alloc ?_ (by first | omega | (simp; done) | (simp; omega) | (simp [World.setCell]; omega)) _ | refine Below.setCell ?_ (by first | omega | (simp; done) | (simp; omega)) _ | assumption)))
  have K0_1 := Lib.hid (step_blk hb (show Blk _ (w.heap.size) 35 #[.int .i64 (an), .int .i64 (ad)] by repeat' (first | exact Blk.at_ _ (by first | rfl | (simp; done) | (simp; omega)) _ _ | refine Blk.drewN ?_ _ | refine Blk.drew ?_ | refine Blk.alloc ?_ _ | refine Blk.far ?_ (by first | omega | (simp; done) | (simp; omega)) _ | assumption)))
  have K1_1 := Lib.hid (step_blk hb (show Blk _ (w.heap.size + 1) 35 #[.int .i64 (bn), .int .i64 (bd)] by repeat' (first | exact Blk.at_ _ (by first | rfl | (simp; done) | (simp; omega)) _ _ | refine Blk.drewN ?_ _ | refine Blk.drew ?_ | refine Blk.alloc ?_ _ | refine Blk.far ?_ (by first | omega | (simp; done) | (simp; omega)) _ | assumption)))
  have K2_1 := Lib.hid (step_blk hb (show Blk _ (w.heap.size + 2) 35 #[.int .i64 (0), .int .i64 (0)] by repeat' (first | exact Blk.at_ _ (by first | rfl | (simp; done) | (simp; omega)) _ _ | refine Blk.drewN ?_ _ | refine Blk.drew ?_ | refine Blk.alloc ?_ _ | refine Blk.far ?_ (by first | omega | (simp; done) | (simp; omega)) _ | assumption)))
  have hz1 := hb.size
  try simp only [World.size_alloc, World.drewN, World.drew] at hz1
  clear hb
  have l0_1 : w.heap.size < w1.heap.size := K0_1.out.lt
  have z0_0_1 : w1.cell? ⟨w.heap.size, 0, none⟩ = some (.int .i64 (an)) := K0_1.out.cell 0
  have z0_1_1 : w1.cell? ⟨w.heap.size, 1, none⟩ = some (.int .i64 (ad)) := K0_1.out.cell 1
  have l1_1 : w.heap.size + 1 < w1.heap.size := K1_1.out.lt
  have z1_0_1 : w1.cell? ⟨w.heap.size + 1, 0, none⟩ = some (.int .i64 (bn)) := K1_1.out.cell 0
  have z1_1_1 : w1.cell? ⟨w.heap.size + 1, 1, none⟩ = some (.int .i64 (bd)) := K1_1.out.cell 1
  have l2_1 : w.heap.size + 2 < w1.heap.size := K2_1.out.lt
  have z2_0_1 : w1.cell? ⟨w.heap.size + 2, 0, none⟩ = some (.int .i64 (0)) := K2_1.out.cell 0
  have z2_1_1 : w1.cell? ⟨w.heap.size + 2, 1, none⟩ = some (.int .i64 (0)) := K2_1.out.cell 1
  have zf2_0 := K2_1.out.frozen 0
  have zf2_1 := K2_1.out.frozen 1
  go_wp2
  exact bodyPost_ret (v := .tuple #[.agg #[.int .i64 (redN (an * bd + bn * ad) (ad * bd)), .int .i64 (redD (an * bd + bn * ad) (ad * bd))], .int .i64 0]) (by simp [results, Try.results62, go_sem, z2_0_1, z2_1_1, l2_1]) rfl ⟨rfl, by repeat' (first | exact Below.refl _ _ | exact HB1.out | refine below_drewN ?_ _ | refine Below.drew ?_ | refine Below.alloc ?_ (by first | omega | (simp; done) | (simp; omega) | (simp [World.setCell]; omega)) _ | refine Below.setCell ?_ (by first | omega | (simp; done) | (simp; omega)) _ | assumption)⟩

set_option maxRecDepth 100000 in
set_option maxHeartbeats 1000000 in
theorem refAdd_no (a b : Int × Int) (ha : FOk a) (hb : FOk b) (h : addF a b = none) (w : World) :
    Calls Try.prog 62 #[.agg #[.int .i64 a.1, .int .i64 a.2], .agg #[.int .i64 b.1, .int .i64 b.2]] w fun e w' => e = .returned (.tuple #[.agg #[.int .i64 0, .int .i64 0], .int .i64 8]) ∧ Below w.heap.size w w' := by
  obtain ⟨a1, a2, a3, a4⟩ := ha.parts
  obtain ⟨b1, b2, b3, b4⟩ := hb.parts
  unfold addF at h
  have hs := opF_none h
  have HS := Lib.hid hs
  clear h hs ha hb
  obtain ⟨an, ad⟩ := a
  obtain ⟨bn, bd⟩ := b
  simp only at *
  have q1 := prod_in a3 a4 (show -1000000000 ≤ bd by omega) b2
  have q2 := prod_in b3 b4 (show -1000000000 ≤ ad by omega) a2
  have q3 := den_in a1 a2 b1 b2
  have v1 := IntWalk.i64_in (an * bd) ⟨by omega, by omega⟩
  have v2 := IntWalk.i64_in (bn * ad) ⟨by omega, by omega⟩
  have v3 := IntWalk.i64_in (ad * bd) ⟨by omega, by omega⟩
  have v4 := IntWalk.i64_in (an * bd + bn * ad) ⟨by omega, by omega⟩
  go_enter Try.func62, Try.ntmps62
  go_wp2_with fail
  refine (made_no (an * bd + bn * ad) (ad * bd) HS.out _ (by omega) (by omega) (by omega) (by omega)).mono ?_
  rintro e w1 ⟨rfl, hb⟩
  have HB1 := Lib.hid (show Below w.heap.size w w1 from step_below hb (by repeat' (first | exact Below.refl _ _ | exact HB0.out | refine below_drewN ?_ _ | refine Below.drew ?_ | refine Below.alloc ?_ (by first | omega | (simp; done) | (simp; omega) | (simp [World.setCell]; omega)) _ | refine Below.setCell ?_ (by first | omega | (simp; done) | (simp; omega)) _ | assumption)))
  have K0_1 := Lib.hid (step_blk hb (show Blk _ (w.heap.size) 35 #[.int .i64 (an), .int .i64 (ad)] by repeat' (first | exact Blk.at_ _ (by first | rfl | (simp; done) | (simp; omega)) _ _ | refine Blk.drewN ?_ _ | refine Blk.drew ?_ | refine Blk.alloc ?_ _ | refine Blk.far ?_ (by first | omega | (simp; done) | (simp; omega)) _ | assumption)))
  have K1_1 := Lib.hid (step_blk hb (show Blk _ (w.heap.size + 1) 35 #[.int .i64 (bn), .int .i64 (bd)] by repeat' (first | exact Blk.at_ _ (by first | rfl | (simp; done) | (simp; omega)) _ _ | refine Blk.drewN ?_ _ | refine Blk.drew ?_ | refine Blk.alloc ?_ _ | refine Blk.far ?_ (by first | omega | (simp; done) | (simp; omega)) _ | assumption)))
  have K2_1 := Lib.hid (step_blk hb (show Blk _ (w.heap.size + 2) 35 #[.int .i64 (0), .int .i64 (0)] by repeat' (first | exact Blk.at_ _ (by first | rfl | (simp; done) | (simp; omega)) _ _ | refine Blk.drewN ?_ _ | refine Blk.drew ?_ | refine Blk.alloc ?_ _ | refine Blk.far ?_ (by first | omega | (simp; done) | (simp; omega)) _ | assumption)))
  have hz1 := hb.size
  try simp only [World.size_alloc, World.drewN, World.drew] at hz1
  clear hb
  have l0_1 : w.heap.size < w1.heap.size := K0_1.out.lt
  have z0_0_1 : w1.cell? ⟨w.heap.size, 0, none⟩ = some (.int .i64 (an)) := K0_1.out.cell 0
  have z0_1_1 : w1.cell? ⟨w.heap.size, 1, none⟩ = some (.int .i64 (ad)) := K0_1.out.cell 1
  have l1_1 : w.heap.size + 1 < w1.heap.size := K1_1.out.lt
  have z1_0_1 : w1.cell? ⟨w.heap.size + 1, 0, none⟩ = some (.int .i64 (bn)) := K1_1.out.cell 0
  have z1_1_1 : w1.cell? ⟨w.heap.size + 1, 1, none⟩ = some (.int .i64 (bd)) := K1_1.out.cell 1
  have l2_1 : w.heap.size + 2 < w1.heap.size := K2_1.out.lt
  have z2_0_1 : w1.cell? ⟨w.heap.size + 2, 0, none⟩ = some (.int .i64 (0)) := K2_1.out.cell 0
  have z2_1_1 : w1.cell? ⟨w.heap.size + 2, 1, none⟩ = some (.int .i64 (0)) := K2_1.out.cell 1
  have zf2_0 := K2_1.out.frozen 0
  have zf2_1 := K2_1.out.frozen 1
  go_wp2
  exact bodyPost_ret (v := .tuple #[.agg #[.int .i64 0, .int .i64 0], .int .i64 8]) (by simp [results, Try.results62, go_sem, z2_0_1, z2_1_1, l2_1]) rfl ⟨rfl, by repeat' (first | exact Below.refl _ _ | exact HB1.out | refine below_drewN ?_ _ | refine Below.drew ?_ | refine Below.alloc ?_ (by first | omega | (simp; done) | (simp; omega) | (simp [World.setCell]; omega)) _ | refine Below.setCell ?_ (by first | omega | (simp; done) | (simp; omega)) _ | assumption)⟩

set_option maxRecDepth 100000 in
set_option maxHeartbeats 1000000 in
theorem refSub_ok (a b : Int × Int) (ha : FOk a) (hb : FOk b) (p : Int × Int) (h : subF a b = some p) (w : World) :
    Calls Try.prog 59 #[.agg #[.int .i64 a.1, .int .i64 a.2], .agg #[.int .i64 b.1, .int .i64 b.2]] w fun e w' => e = .returned (.tuple #[.agg #[.int .i64 p.1, .int .i64 p.2], .int .i64 0]) ∧ Below w.heap.size w w' := by
  obtain ⟨a1, a2, a3, a4⟩ := ha.parts
  obtain ⟨b1, b2, b3, b4⟩ := hb.parts
  unfold subF at h
  obtain ⟨hs, h1, h2⟩ := opF_some h
  have HS := Lib.hid hs
  clear h hs ha hb
  obtain ⟨an, ad⟩ := a
  obtain ⟨bn, bd⟩ := b
  simp only at *
  obtain ⟨X, Y⟩ := p
  simp only at *
  subst h1 h2
  have q1 := prod_in a3 a4 (show -1000000000 ≤ bd by omega) b2
  have q2 := prod_in b3 b4 (show -1000000000 ≤ ad by omega) a2
  have q3 := den_in a1 a2 b1 b2
  have v1 := IntWalk.i64_in (an * bd) ⟨by omega, by omega⟩
  have v2 := IntWalk.i64_in (bn * ad) ⟨by omega, by omega⟩
  have v3 := IntWalk.i64_in (ad * bd) ⟨by omega, by omega⟩
  have v4 := IntWalk.i64_in (an * bd - bn * ad) ⟨by omega, by omega⟩
  go_enter Try.func59, Try.ntmps59
  go_wp2_with fail
  refine (made_ok (an * bd - bn * ad) (ad * bd) HS.out _ (by omega) (by omega) (by omega) (by omega)).mono ?_
  rintro e w1 ⟨rfl, hb⟩
  have HB1 := Lib.hid (show Below w.heap.size w w1 from step_below hb (by repeat' (first | exact Below.refl _ _ | exact HB0.out | refine below_drewN ?_ _ | refine Below.drew ?_ | refine Below.alloc ?_ (by first | omega | (simp; done) | (simp; omega) | (simp [World.setCell]; omega)) _ | refine Below.setCell ?_ (by first | omega | (simp; done) | (simp; omega)) _ | assumption)))
  have K0_1 := Lib.hid (step_blk hb (show Blk _ (w.heap.size) 35 #[.int .i64 (an), .int .i64 (ad)] by repeat' (first | exact Blk.at_ _ (by first | rfl | (simp; done) | (simp; omega)) _ _ | refine Blk.drewN ?_ _ | refine Blk.drew ?_ | refine Blk.alloc ?_ _ | refine Blk.far ?_ (by first | omega | (simp; done) | (simp; omega)) _ | assumption)))
  have K1_1 := Lib.hid (step_blk hb (show Blk _ (w.heap.size + 1) 35 #[.int .i64 (bn), .int .i64 (bd)] by repeat' (first | exact Blk.at_ _ (by first | rfl | (simp; done) | (simp; omega)) _ _ | refine Blk.drewN ?_ _ | refine Blk.drew ?_ | refine Blk.alloc ?_ _ | refine Blk.far ?_ (by first | omega | (simp; done) | (simp; omega)) _ | assumption)))
  have K2_1 := Lib.hid (step_blk hb (show Blk _ (w.heap.size + 2) 35 #[.int .i64 (0), .int .i64 (0)] by repeat' (first | exact Blk.at_ _ (by first | rfl | (simp; done) | (simp; omega)) _ _ | refine Blk.drewN ?_ _ | refine Blk.drew ?_ | refine Blk.alloc ?_ _ | refine Blk.far ?_ (by first | omega | (simp; done) | (simp; omega)) _ | assumption)))
  have hz1 := hb.size
  try simp only [World.size_alloc, World.drewN, World.drew] at hz1
  clear hb
  have l0_1 : w.heap.size < w1.heap.size := K0_1.out.lt
  have z0_0_1 : w1.cell? ⟨w.heap.size, 0, none⟩ = some (.int .i64 (an)) := K0_1.out.cell 0
  have z0_1_1 : w1.cell? ⟨w.heap.size, 1, none⟩ = some (.int .i64 (ad)) := K0_1.out.cell 1
  have l1_1 : w.heap.size + 1 < w1.heap.size := K1_1.out.lt
  have z1_0_1 : w1.cell? ⟨w.heap.size + 1, 0, none⟩ = some (.int .i64 (bn)) := K1_1.out.cell 0
  have z1_1_1 : w1.cell? ⟨w.heap.size + 1, 1, none⟩ = some (.int .i64 (bd)) := K1_1.out.cell 1
  have l2_1 : w.heap.size + 2 < w1.heap.size := K2_1.out.lt
  have z2_0_1 : w1.cell? ⟨w.heap.size + 2, 0, none⟩ = some (.int .i64 (0)) := K2_1.out.cell 0
  have z2_1_1 : w1.cell? ⟨w.heap.size + 2, 1, none⟩ = some (.int .i64 (0)) := K2_1.out.cell 1
  have zf2_0 := K2_1.out.frozen 0
  have zf2_1 := K2_1.out.frozen 1
  go_wp2
  exact bodyPost_ret (v := .tuple #[.agg #[.int .i64 (redN (an * bd - bn * ad) (ad * bd)), .int .i64 (redD (an * bd - bn * ad) (ad * bd))], .int .i64 0]) (by simp [results, Try.results59, go_sem, z2_0_1, z2_1_1, l2_1]) rfl ⟨rfl, by repeat' (first | exact Below.refl _ _ | exact HB1.out | refine below_drewN ?_ _ | refine Below.drew ?_ | refine Below.alloc ?_ (by first | omega | (simp; done) | (simp; omega) | (simp [World.setCell]; omega)) _ | refine Below.setCell ?_ (by first | omega | (simp; done) | (simp; omega)) _ | assumption)⟩

set_option maxRecDepth 100000 in
set_option maxHeartbeats 1000000 in
theorem refSub_no (a b : Int × Int) (ha : FOk a) (hb : FOk b) (h : subF a b = none) (w : World) :
    Calls Try.prog 59 #[.agg #[.int .i64 a.1, .int .i64 a.2], .agg #[.int .i64 b.1, .int .i64 b.2]] w fun e w' => e = .returned (.tuple #[.agg #[.int .i64 0, .int .i64 0], .int .i64 8]) ∧ Below w.heap.size w w' := by
  obtain ⟨a1, a2, a3, a4⟩ := ha.parts
  obtain ⟨b1, b2, b3, b4⟩ := hb.parts
  unfold subF at h
  have hs := opF_none h
  have HS := Lib.hid hs
  clear h hs ha hb
  obtain ⟨an, ad⟩ := a
  obtain ⟨bn, bd⟩ := b
  simp only at *
  have q1 := prod_in a3 a4 (show -1000000000 ≤ bd by omega) b2
  have q2 := prod_in b3 b4 (show -1000000000 ≤ ad by omega) a2
  have q3 := den_in a1 a2 b1 b2
  have v1 := IntWalk.i64_in (an * bd) ⟨by omega, by omega⟩
  have v2 := IntWalk.i64_in (bn * ad) ⟨by omega, by omega⟩
  have v3 := IntWalk.i64_in (ad * bd) ⟨by omega, by omega⟩
  have v4 := IntWalk.i64_in (an * bd - bn * ad) ⟨by omega, by omega⟩
  go_enter Try.func59, Try.ntmps59
  go_wp2_with fail
  refine (made_no (an * bd - bn * ad) (ad * bd) HS.out _ (by omega) (by omega) (by omega) (by omega)).mono ?_
  rintro e w1 ⟨rfl, hb⟩
  have HB1 := Lib.hid (show Below w.heap.size w w1 from step_below hb (by repeat' (first | exact Below.refl _ _ | exact HB0.out | refine below_drewN ?_ _ | refine Below.drew ?_ | refine Below.alloc ?_ (by first | omega | (simp; done) | (simp; omega) | (simp [World.setCell]; omega)) _ | refine Below.setCell ?_ (by first | omega | (simp; done) | (simp; omega)) _ | assumption)))
  have K0_1 := Lib.hid (step_blk hb (show Blk _ (w.heap.size) 35 #[.int .i64 (an), .int .i64 (ad)] by repeat' (first | exact Blk.at_ _ (by first | rfl | (simp; done) | (simp; omega)) _ _ | refine Blk.drewN ?_ _ | refine Blk.drew ?_ | refine Blk.alloc ?_ _ | refine Blk.far ?_ (by first | omega | (simp; done) | (simp; omega)) _ | assumption)))
  have K1_1 := Lib.hid (step_blk hb (show Blk _ (w.heap.size + 1) 35 #[.int .i64 (bn), .int .i64 (bd)] by repeat' (first | exact Blk.at_ _ (by first | rfl | (simp; done) | (simp; omega)) _ _ | refine Blk.drewN ?_ _ | refine Blk.drew ?_ | refine Blk.alloc ?_ _ | refine Blk.far ?_ (by first | omega | (simp; done) | (simp; omega)) _ | assumption)))
  have K2_1 := Lib.hid (step_blk hb (show Blk _ (w.heap.size + 2) 35 #[.int .i64 (0), .int .i64 (0)] by repeat' (first | exact Blk.at_ _ (by first | rfl | (simp; done) | (simp; omega)) _ _ | refine Blk.drewN ?_ _ | refine Blk.drew ?_ | refine Blk.alloc ?_ _ | refine Blk.far ?_ (by first | omega | (simp; done) | (simp; omega)) _ | assumption)))
  have hz1 := hb.size
  try simp only [World.size_alloc, World.drewN, World.drew] at hz1
  clear hb
  have l0_1 : w.heap.size < w1.heap.size := K0_1.out.lt
  have z0_0_1 : w1.cell? ⟨w.heap.size, 0, none⟩ = some (.int .i64 (an)) := K0_1.out.cell 0
  have z0_1_1 : w1.cell? ⟨w.heap.size, 1, none⟩ = some (.int .i64 (ad)) := K0_1.out.cell 1
  have l1_1 : w.heap.size + 1 < w1.heap.size := K1_1.out.lt
  have z1_0_1 : w1.cell? ⟨w.heap.size + 1, 0, none⟩ = some (.int .i64 (bn)) := K1_1.out.cell 0
  have z1_1_1 : w1.cell? ⟨w.heap.size + 1, 1, none⟩ = some (.int .i64 (bd)) := K1_1.out.cell 1
  have l2_1 : w.heap.size + 2 < w1.heap.size := K2_1.out.lt
  have z2_0_1 : w1.cell? ⟨w.heap.size + 2, 0, none⟩ = some (.int .i64 (0)) := K2_1.out.cell 0
  have z2_1_1 : w1.cell? ⟨w.heap.size + 2, 1, none⟩ = some (.int .i64 (0)) := K2_1.out.cell 1
  have zf2_0 := K2_1.out.frozen 0
  have zf2_1 := K2_1.out.frozen 1
  go_wp2
  exact bodyPost_ret (v := .tuple #[.agg #[.int .i64 0, .int .i64 0], .int .i64 8]) (by simp [results, Try.results59, go_sem, z2_0_1, z2_1_1, l2_1]) rfl ⟨rfl, by repeat' (first | exact Below.refl _ _ | exact HB1.out | refine below_drewN ?_ _ | refine Below.drew ?_ | refine Below.alloc ?_ (by first | omega | (simp; done) | (simp; omega) | (simp [World.setCell]; omega)) _ | refine Below.setCell ?_ (by first | omega | (simp; done) | (simp; omega)) _ | assumption)⟩

set_option maxRecDepth 100000 in
set_option maxHeartbeats 1000000 in
theorem refMul_ok (a b : Int × Int) (ha : FOk a) (hb : FOk b) (p : Int × Int) (h : mulF a b = some p) (w : World) :
    Calls Try.prog 60 #[.agg #[.int .i64 a.1, .int .i64 a.2], .agg #[.int .i64 b.1, .int .i64 b.2]] w fun e w' => e = .returned (.tuple #[.agg #[.int .i64 p.1, .int .i64 p.2], .int .i64 0]) ∧ Below w.heap.size w w' := by
  obtain ⟨a1, a2, a3, a4⟩ := ha.parts
  obtain ⟨b1, b2, b3, b4⟩ := hb.parts
  unfold mulF at h
  obtain ⟨hs, h1, h2⟩ := opF_some h
  have HS := Lib.hid hs
  clear h hs ha hb
  obtain ⟨an, ad⟩ := a
  obtain ⟨bn, bd⟩ := b
  simp only at *
  obtain ⟨X, Y⟩ := p
  simp only at *
  subst h1 h2
  have q1 := prod_in a3 a4 b3 b4
  have q3 := den_in a1 a2 b1 b2
  have v1 := IntWalk.i64_in (an * bn) ⟨by omega, by omega⟩
  have v3 := IntWalk.i64_in (ad * bd) ⟨by omega, by omega⟩
  go_enter Try.func60, Try.ntmps60
  go_wp2_with fail
  refine (made_ok (an * bn) (ad * bd) HS.out _ (by omega) (by omega) (by omega) (by omega)).mono ?_
  rintro e w1 ⟨rfl, hb⟩
  have HB1 := Lib.hid (show Below w.heap.size w w1 from step_below hb (by repeat' (first | exact Below.refl _ _ | exact HB0.out | refine below_drewN ?_ _ | refine Below.drew ?_ | refine Below.alloc ?_ (by first | omega | (simp; done) | (simp; omega) | (simp [World.setCell]; omega)) _ | refine Below.setCell ?_ (by first | omega | (simp; done) | (simp; omega)) _ | assumption)))
  have K0_1 := Lib.hid (step_blk hb (show Blk _ (w.heap.size) 35 #[.int .i64 (an), .int .i64 (ad)] by repeat' (first | exact Blk.at_ _ (by first | rfl | (simp; done) | (simp; omega)) _ _ | refine Blk.drewN ?_ _ | refine Blk.drew ?_ | refine Blk.alloc ?_ _ | refine Blk.far ?_ (by first | omega | (simp; done) | (simp; omega)) _ | assumption)))
  have K1_1 := Lib.hid (step_blk hb (show Blk _ (w.heap.size + 1) 35 #[.int .i64 (bn), .int .i64 (bd)] by repeat' (first | exact Blk.at_ _ (by first | rfl | (simp; done) | (simp; omega)) _ _ | refine Blk.drewN ?_ _ | refine Blk.drew ?_ | refine Blk.alloc ?_ _ | refine Blk.far ?_ (by first | omega | (simp; done) | (simp; omega)) _ | assumption)))
  have K2_1 := Lib.hid (step_blk hb (show Blk _ (w.heap.size + 2) 35 #[.int .i64 (0), .int .i64 (0)] by repeat' (first | exact Blk.at_ _ (by first | rfl | (simp; done) | (simp; omega)) _ _ | refine Blk.drewN ?_ _ | refine Blk.drew ?_ | refine Blk.alloc ?_ _ | refine Blk.far ?_ (by first | omega | (simp; done) | (simp; omega)) _ | assumption)))
  have hz1 := hb.size
  try simp only [World.size_alloc, World.drewN, World.drew] at hz1
  clear hb
  have l0_1 : w.heap.size < w1.heap.size := K0_1.out.lt
  have z0_0_1 : w1.cell? ⟨w.heap.size, 0, none⟩ = some (.int .i64 (an)) := K0_1.out.cell 0
  have z0_1_1 : w1.cell? ⟨w.heap.size, 1, none⟩ = some (.int .i64 (ad)) := K0_1.out.cell 1
  have l1_1 : w.heap.size + 1 < w1.heap.size := K1_1.out.lt
  have z1_0_1 : w1.cell? ⟨w.heap.size + 1, 0, none⟩ = some (.int .i64 (bn)) := K1_1.out.cell 0
  have z1_1_1 : w1.cell? ⟨w.heap.size + 1, 1, none⟩ = some (.int .i64 (bd)) := K1_1.out.cell 1
  have l2_1 : w.heap.size + 2 < w1.heap.size := K2_1.out.lt
  have z2_0_1 : w1.cell? ⟨w.heap.size + 2, 0, none⟩ = some (.int .i64 (0)) := K2_1.out.cell 0
  have z2_1_1 : w1.cell? ⟨w.heap.size + 2, 1, none⟩ = some (.int .i64 (0)) := K2_1.out.cell 1
  have zf2_0 := K2_1.out.frozen 0
  have zf2_1 := K2_1.out.frozen 1
  go_wp2
  exact bodyPost_ret (v := .tuple #[.agg #[.int .i64 (redN (an * bn) (ad * bd)), .int .i64 (redD (an * bn) (ad * bd))], .int .i64 0]) (by simp [results, Try.results60, go_sem, z2_0_1, z2_1_1, l2_1]) rfl ⟨rfl, by repeat' (first | exact Below.refl _ _ | exact HB1.out | refine below_drewN ?_ _ | refine Below.drew ?_ | refine Below.alloc ?_ (by first | omega | (simp; done) | (simp; omega) | (simp [World.setCell]; omega)) _ | refine Below.setCell ?_ (by first | omega | (simp; done) | (simp; omega)) _ | assumption)⟩

set_option maxRecDepth 100000 in
set_option maxHeartbeats 1000000 in
theorem refMul_no (a b : Int × Int) (ha : FOk a) (hb : FOk b) (h : mulF a b = none) (w : World) :
    Calls Try.prog 60 #[.agg #[.int .i64 a.1, .int .i64 a.2], .agg #[.int .i64 b.1, .int .i64 b.2]] w fun e w' => e = .returned (.tuple #[.agg #[.int .i64 0, .int .i64 0], .int .i64 8]) ∧ Below w.heap.size w w' := by
  obtain ⟨a1, a2, a3, a4⟩ := ha.parts
  obtain ⟨b1, b2, b3, b4⟩ := hb.parts
  unfold mulF at h
  have hs := opF_none h
  have HS := Lib.hid hs
  clear h hs ha hb
  obtain ⟨an, ad⟩ := a
  obtain ⟨bn, bd⟩ := b
  simp only at *
  have q1 := prod_in a3 a4 b3 b4
  have q3 := den_in a1 a2 b1 b2
  have v1 := IntWalk.i64_in (an * bn) ⟨by omega, by omega⟩
  have v3 := IntWalk.i64_in (ad * bd) ⟨by omega, by omega⟩
  go_enter Try.func60, Try.ntmps60
  go_wp2_with fail
  refine (made_no (an * bn) (ad * bd) HS.out _ (by omega) (by omega) (by omega) (by omega)).mono ?_
  rintro e w1 ⟨rfl, hb⟩
  have HB1 := Lib.hid (show Below w.heap.size w w1 from step_below hb (by repeat' (first | exact Below.refl _ _ | exact HB0.out | refine below_drewN ?_ _ | refine Below.drew ?_ | refine Below.alloc ?_ (by first | omega | (simp; done) | (simp; omega) | (simp [World.setCell]; omega)) _ | refine Below.setCell ?_ (by first | omega | (simp; done) | (simp; omega)) _ | assumption)))
  have K0_1 := Lib.hid (step_blk hb (show Blk _ (w.heap.size) 35 #[.int .i64 (an), .int .i64 (ad)] by repeat' (first | exact Blk.at_ _ (by first | rfl | (simp; done) | (simp; omega)) _ _ | refine Blk.drewN ?_ _ | refine Blk.drew ?_ | refine Blk.alloc ?_ _ | refine Blk.far ?_ (by first | omega | (simp; done) | (simp; omega)) _ | assumption)))
  have K1_1 := Lib.hid (step_blk hb (show Blk _ (w.heap.size + 1) 35 #[.int .i64 (bn), .int .i64 (bd)] by repeat' (first | exact Blk.at_ _ (by first | rfl | (simp; done) | (simp; omega)) _ _ | refine Blk.drewN ?_ _ | refine Blk.drew ?_ | refine Blk.alloc ?_ _ | refine Blk.far ?_ (by first | omega | (simp; done) | (simp; omega)) _ | assumption)))
  have K2_1 := Lib.hid (step_blk hb (show Blk _ (w.heap.size + 2) 35 #[.int .i64 (0), .int .i64 (0)] by repeat' (first | exact Blk.at_ _ (by first | rfl | (simp; done) | (simp; omega)) _ _ | refine Blk.drewN ?_ _ | refine Blk.drew ?_ | refine Blk.alloc ?_ _ | refine Blk.far ?_ (by first | omega | (simp; done) | (simp; omega)) _ | assumption)))
  have hz1 := hb.size
  try simp only [World.size_alloc, World.drewN, World.drew] at hz1
  clear hb
  have l0_1 : w.heap.size < w1.heap.size := K0_1.out.lt
  have z0_0_1 : w1.cell? ⟨w.heap.size, 0, none⟩ = some (.int .i64 (an)) := K0_1.out.cell 0
  have z0_1_1 : w1.cell? ⟨w.heap.size, 1, none⟩ = some (.int .i64 (ad)) := K0_1.out.cell 1
  have l1_1 : w.heap.size + 1 < w1.heap.size := K1_1.out.lt
  have z1_0_1 : w1.cell? ⟨w.heap.size + 1, 0, none⟩ = some (.int .i64 (bn)) := K1_1.out.cell 0
  have z1_1_1 : w1.cell? ⟨w.heap.size + 1, 1, none⟩ = some (.int .i64 (bd)) := K1_1.out.cell 1
  have l2_1 : w.heap.size + 2 < w1.heap.size := K2_1.out.lt
  have z2_0_1 : w1.cell? ⟨w.heap.size + 2, 0, none⟩ = some (.int .i64 (0)) := K2_1.out.cell 0
  have z2_1_1 : w1.cell? ⟨w.heap.size + 2, 1, none⟩ = some (.int .i64 (0)) := K2_1.out.cell 1
  have zf2_0 := K2_1.out.frozen 0
  have zf2_1 := K2_1.out.frozen 1
  go_wp2
  exact bodyPost_ret (v := .tuple #[.agg #[.int .i64 0, .int .i64 0], .int .i64 8]) (by simp [results, Try.results60, go_sem, z2_0_1, z2_1_1, l2_1]) rfl ⟨rfl, by repeat' (first | exact Below.refl _ _ | exact HB1.out | refine below_drewN ?_ _ | refine Below.drew ?_ | refine Below.alloc ?_ (by first | omega | (simp; done) | (simp; omega) | (simp [World.setCell]; omega)) _ | refine Below.setCell ?_ (by first | omega | (simp; done) | (simp; omega)) _ | assumption)⟩

end Go.Proofs.Ytfigbdhfmlhjdaa

end

section
/- The reference's pivot of a thing, in one coordinate. -/
namespace Go.Proofs.Ytfigbdhfmlhjdaa
open Go Go.RowKit

theorem pv_ok {l : List Rk} (harms : ArmsOK l) {g : ByteArray → Int} (hg : ∀ s, -1000000 ≤ g s ∧ g s ≤ 1000000) {f : Nat} {s : ByteArray} {a : Int × Int} (h : pvF l g f s = some a) : FOk a := by
  rw [pvF_eq] at h
  split at h
  · cases h
  · obtain rfl := Option.some.inj h
    exact plD_ok harms hg f s
def pvE (o : Option (Int × Int)) : Ending := .returned (.tuple #[.agg #[.int .i64 (resV o).1, .int .i64 (resV o).2], .bool o.isSome])
/-- One step. -/
theorem pv_succ {l : List Rk} {g : ByteArray → Int} {f : Nat} {s : ByteArray} {i : Nat} {r : Rk} (hi : idxOf l s = some i) (hr : l[i]? = some r) : pvF l g (f + 1) s = match pvF l g f r.left, pvF l g f r.right with
    | some a, some b => pstF a b r.al r.ar
    | _, _ => none := by
  rw [pvF, hi]
  simp only [hr]
  cases pvF l g f r.left <;> cases pvF l g f r.right <;> rfl
theorem pv_leaf {l : List Rk} (g : ByteArray → Int) (f : Nat) {s : ByteArray} (h : idxOf l s = none) : pvF l g f s = some (g s, 1) := by
  cases f with
  | zero => rfl
  | succ f => rw [pvF, h]
theorem mem_first {ps : List ByteArray} {s : ByteArray} (hs : s ∈ ps) : ∃ k : Nat, ps[k]? = some s ∧ ∀ j : Nat, j < k → ∀ x, ps[j]? = some x → x ≠ s := by
  obtain ⟨i, hi⟩ := posOf_mem hs
  exact ⟨i, posOf_some hi⟩

set_option maxRecDepth 100000 in
set_option maxHeartbeats 2000000 in
theorem rpivot_leaf (l : List Rk) (A : Option Addr) (n c N : Nat) (P : Option Addr) (m cp : Nat) (B : Option Addr) (cb : Nat) (points : List ByteArray) (xs : List (Int × Int)) (ax : Nat) (hax : ax < 2) (hn : n ≤ 100000) (hm : m ≤ 1000000) (name : ByteArray) (k : Nat) (p : Int × Int) (z : Int) (hz : (if ax = 0 then p.1 else p.2) = z) (w : World)
    (hi : idxOf l name = none) (hk : points[k]? = some name) (hf : ∀ j, j < k → ∀ x, points[j]? = some x → x ≠ name) (hp : xs[k]? = some p) (hN : N ≤ w.heap.size) (hx : Reads w N 5 A n (rkCells l)) (hP : Reads w N 1 P m (strs points)) (hB : Reads w N 2 B m (cells2 xs)) :
    Calls Try.prog 34 #[.slice A n c, .string name, .slice P m cp, .slice B m cb, .int .i64 (ax : Int)] w fun e w' => e = .returned (.tuple #[.agg #[.int .i64 z, .int .i64 1], .bool true]) ∧ Below w.heap.size w w' := by
  have HF : Hid (findI l name = -1) := by show _ = _; unfold findI; rw [hi]
  have hkm : k < m := by rw [← hP.len1]; exact (List.getElem?_eq_some_iff.1 hk).1
  have hkk : (k : Int) < (m : Int) := by omega
  obtain ⟨xb, xo, p', hBe, hxb, hp', c0, c1⟩ := hB.pair hkm
  obtain rfl := Option.some.inj (hp'.symm.trans hp)
  subst hBe
  have hxw : xb < w.heap.size := Nat.lt_of_lt_of_le hxb hN
  have HK := Lib.hid hk
  have HFST := Lib.hid hf
  have HX := Lib.hid hx
  have HP := Lib.hid hP
  have C0 := Lib.hid c0
  have C1 := Lib.hid c1
  obtain ⟨pa, pb⟩ := p'
  clear hi hk hf hp hx hP hB hp' c0 c1
  rcases (show ax = 0 ∨ ax = 1 by omega) with rfl | rfl
  · obtain rfl : pa = z := hz
    go_enter Try.func34, Try.ntmps34
    go_wp2_with fail
    generalize hwn : (w.alloc (.cells #[.int .i64 (0), .int .i64 (0)] 35)) = w1
    have hbn : Below w.heap.size w w1 := by rw [← hwn]; repeat' (first | exact Below.refl _ _ | refine below_drewN ?_ _ | refine Below.drew ?_ | refine Below.alloc ?_ (by first | omega | (simp; done) | (simp; omega) | (simp [World.setCell]; omega)) _ | refine Below.setCell ?_ (by first | omega | (simp; done) | (simp; omega)) _)
    have HB1 := Lib.hid (show Below w.heap.size w w1 from hbn)
    have K0_1 := Lib.hid (show Blk w1 (w.heap.size) 35 #[.int .i64 (0), .int .i64 (0)] by rw [← hwn]; repeat' (first | exact Blk.at_ _ (by first | rfl | (simp; done) | (simp; omega)) _ _ | refine Blk.drewN ?_ _ | refine Blk.drew ?_ | refine Blk.alloc ?_ _ | refine Blk.far ?_ (by first | omega | (simp; done) | (simp; omega)) _ | assumption))
    have HN1 := Lib.hid hbn
    have hz1 := hbn.size
    clear hwn hbn
    have l0_1 : w.heap.size < w1.heap.size := K0_1.out.lt
    have z0_0_1 : w1.cell? ⟨w.heap.size, 0, none⟩ = some (.int .i64 (0)) := K0_1.out.cell 0
    have z0_1_1 : w1.cell? ⟨w.heap.size, 1, none⟩ = some (.int .i64 (0)) := K0_1.out.cell 1
    have d0 := (HB1.out.cell (p := ⟨xb, xo + k * 2, none⟩) hxw).trans C0.out
    go_wp2_with fail
    refine (find_is l _ n c N name (-1) HF.out _ (HX.out.below (HB1.out.mono hN)) (by omega)).mono ?_
    rintro e w' ⟨rfl, rfl⟩
    go_wp2_with fail
    refine (place_is points P m cp N name k HK.out HFST.out _ (HP.out.below (HB1.out.mono hN)) (by omega)).mono ?_
    rintro e w' ⟨rfl, rfl⟩
    have sc0 := (K0_1.out).cell 0
    have sf0 := (K0_1.out).frozen 0
    have sk0 : Blk (w1.setCell ⟨w.heap.size, 0, none⟩ (.int .i64 (pa))) (w.heap.size) 35 #[.int .i64 (pa), .int .i64 (0)] := by simpa using (K0_1.out).set_ 0 (.int .i64 (pa))
    have sc1 := (sk0).cell 1
    have sf1 := (sk0).frozen 1
    have sk1 : Blk ((w1.setCell ⟨w.heap.size, 0, none⟩ (.int .i64 (pa))).setCell ⟨w.heap.size, 1, none⟩ (.int .i64 (1))) (w.heap.size) 35 #[.int .i64 (pa), .int .i64 (1)] := by simpa using (sk0).set_ 1 (.int .i64 (1))
    have sK := Lib.hid sk1
    have sd0 := sk1.cell 0
    have sd1 := sk1.cell 1
    clear sk0 sk1
    go_wp2
    exact bodyPost_ret (v := .tuple #[.agg #[.int .i64 pa, .int .i64 1], .bool true]) (by simp [results, Try.results34, go_sem, sd0, sd1]) rfl ⟨rfl, by repeat' (first | exact Below.refl _ _ | exact HB1.out | refine below_drewN ?_ _ | refine Below.drew ?_ | refine Below.alloc ?_ (by first | omega | (simp; done) | (simp; omega) | (simp [World.setCell]; omega)) _ | refine Below.setCell ?_ (by first | omega | (simp; done) | (simp; omega)) _ | assumption)⟩
  · obtain rfl : pb = z := hz
    go_enter Try.func34, Try.ntmps34
    go_wp2_with fail
    generalize hwn : (w.alloc (.cells #[.int .i64 (0), .int .i64 (0)] 35)) = w1
    have hbn : Below w.heap.size w w1 := by rw [← hwn]; repeat' (first | exact Below.refl _ _ | refine below_drewN ?_ _ | refine Below.drew ?_ | refine Below.alloc ?_ (by first | omega | (simp; done) | (simp; omega) | (simp [World.setCell]; omega)) _ | refine Below.setCell ?_ (by first | omega | (simp; done) | (simp; omega)) _)
    have HB1 := Lib.hid (show Below w.heap.size w w1 from hbn)
    have K0_1 := Lib.hid (show Blk w1 (w.heap.size) 35 #[.int .i64 (0), .int .i64 (0)] by rw [← hwn]; repeat' (first | exact Blk.at_ _ (by first | rfl | (simp; done) | (simp; omega)) _ _ | refine Blk.drewN ?_ _ | refine Blk.drew ?_ | refine Blk.alloc ?_ _ | refine Blk.far ?_ (by first | omega | (simp; done) | (simp; omega)) _ | assumption))
    have HN1 := Lib.hid hbn
    have hz1 := hbn.size
    clear hwn hbn
    have l0_1 : w.heap.size < w1.heap.size := K0_1.out.lt
    have z0_0_1 : w1.cell? ⟨w.heap.size, 0, none⟩ = some (.int .i64 (0)) := K0_1.out.cell 0
    have z0_1_1 : w1.cell? ⟨w.heap.size, 1, none⟩ = some (.int .i64 (0)) := K0_1.out.cell 1
    have d0 := (HB1.out.cell (p := ⟨xb, xo + k * 2 + 1, none⟩) hxw).trans C1.out
    go_wp2_with fail
    refine (find_is l _ n c N name (-1) HF.out _ (HX.out.below (HB1.out.mono hN)) (by omega)).mono ?_
    rintro e w' ⟨rfl, rfl⟩
    go_wp2_with fail
    refine (place_is points P m cp N name k HK.out HFST.out _ (HP.out.below (HB1.out.mono hN)) (by omega)).mono ?_
    rintro e w' ⟨rfl, rfl⟩
    have sc0 := (K0_1.out).cell 0
    have sf0 := (K0_1.out).frozen 0
    have sk0 : Blk (w1.setCell ⟨w.heap.size, 0, none⟩ (.int .i64 (pb))) (w.heap.size) 35 #[.int .i64 (pb), .int .i64 (0)] := by simpa using (K0_1.out).set_ 0 (.int .i64 (pb))
    have sc1 := (sk0).cell 1
    have sf1 := (sk0).frozen 1
    have sk1 : Blk ((w1.setCell ⟨w.heap.size, 0, none⟩ (.int .i64 (pb))).setCell ⟨w.heap.size, 1, none⟩ (.int .i64 (1))) (w.heap.size) 35 #[.int .i64 (pb), .int .i64 (1)] := by simpa using (sk0).set_ 1 (.int .i64 (1))
    have sK := Lib.hid sk1
    have sd0 := sk1.cell 0
    have sd1 := sk1.cell 1
    clear sk0 sk1
    go_wp2
    exact bodyPost_ret (v := .tuple #[.agg #[.int .i64 pb, .int .i64 1], .bool true]) (by simp [results, Try.results34, go_sem, sd0, sd1]) rfl ⟨rfl, by repeat' (first | exact Below.refl _ _ | exact HB1.out | refine below_drewN ?_ _ | refine Below.drew ?_ | refine Below.alloc ?_ (by first | omega | (simp; done) | (simp; omega) | (simp [World.setCell]; omega)) _ | refine Below.setCell ?_ (by first | omega | (simp; done) | (simp; omega)) _ | assumption)⟩
end Go.Proofs.Ytfigbdhfmlhjdaa

end
