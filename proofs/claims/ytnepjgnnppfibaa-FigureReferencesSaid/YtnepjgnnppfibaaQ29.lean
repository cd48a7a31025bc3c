import Derived.Test.YtnepjgnnppfibaaQ28

section
/- The walk of the statement on lines of least removal that are found. -/
namespace Go.Proofs.Ytnepjgnnppfibaa
open Go Go.RowKit

theorem none_is (w : World) : Calls Try.prog 56 #[.agg #[.int .i64 0, .int .i64 0, .int .i64 0, .int .i64 0, .int .i64 0, .int .i64 0]] w fun e w' => e = .returned (.bool true) ∧ Below w.heap.size w w' := by
  have he : ∀ w, (binOp .eql 75 (.agg #[.int .i64 0, .int .i64 0, .int .i64 0, .int .i64 0, .int .i64 0, .int .i64 0]) (.agg #[.int .i64 0, .int .i64 0, .int .i64 0, .int .i64 0, .int .i64 0, .int .i64 0])).run Try.prog w = .ok (.bool true) w := fun _ => by kernel_rfl
  go_enter Try.func56, Try.ntmps56
  go_wp2
  go_ret
  exact ⟨rfl, by repeat' (first | exact Below.refl _ _ | exact HB0.out | refine below_drewN ?_ _ | refine Below.drew ?_ | refine Below.alloc ?_ (by first | omega | (simp; done) | (simp; omega) | (simp [World.setCell]; omega)) _ | refine Below.setCell ?_ (by first | omega | (simp; done) | (simp; omega)) _ | assumption)⟩

set_option maxRecDepth 100000 in
set_option maxHeartbeats 4000000 in
theorem lawFQ_bad (A1 : Option Addr) (n1 c1 : Nat) (l1 : List Int) (A2 : Option Addr) (n2 c2 : Nat) (l2 : List Int) (A3 : Option Addr) (n3 c3 : Nat) (l3 : List Int) (w : World)
    (hF : (fewB6 n1 && (fewB6 n2 && fewB6 n3)) = true → mapErr l1 l2 l3 ≠ 0)
    (r1 : Reads w w.heap.size 1 A1 n1 (l1.map (.int .i64))) (r2 : Reads w w.heap.size 1 A2 n2 (l2.map (.int .i64))) (r3 : Reads w w.heap.size 1 A3 n3 (l3.map (.int .i64))) :
    Calls Try.prog 11 #[.agg #[.slice A1 n1 c1, .slice A2 n2 c2, .slice A3 n3 c3]] w fun e w' => e = .returned (.bool true) ∧ Below w.heap.size w w' := by
  obtain ⟨t, ht⟩ : ∃ t, (fewB6 n1 && (fewB6 n2 && fewB6 n3)) = t := ⟨_, rfl⟩
  have HT := Lib.hid ht
  cases t
  · clear ht r1 r2 r3 hF
    go_enter Try.func11, Try.ntmps11
    go_wp2_with fail
    generalize hwn : (w.alloc (.cells #[.slice A1 n1 c1, .slice A2 n2 c2, .slice A3 n3 c3] 24)) = w1
    have hbn : Below w.heap.size w w1 := by rw [← hwn]; repeat' (first | exact Below.refl _ _ | refine below_drewN ?_ _ | refine Below.drew ?_ | refine Below.alloc ?_ (by first | omega | (simp; done) | (simp; omega) | (simp [World.setCell]; omega)) _ | refine Below.setCell ?_ (by first | omega | (simp; done) | (simp; omega)) _)
    have HB1 := Lib.hid (show Below w.heap.size w w1 from hbn)
    have K0_1 := Lib.hid (show Blk w1 (w.heap.size) 24 #[.slice A1 n1 c1, .slice A2 n2 c2, .slice A3 n3 c3] by rw [← hwn]; repeat' (first | exact Blk.at_ _ (by first | rfl | (simp; done) | (simp; omega)) _ _ | refine Blk.drewN ?_ _ | refine Blk.drew ?_ | refine Blk.alloc ?_ _ | refine Blk.far ?_ (by first | omega | (simp; done) | (simp; omega)) _ | assumption))
    have HN1 := Lib.hid hbn
    have hz1 := hbn.size
    clear hwn hbn
    have l0_1 : w.heap.size < w1.heap.size := K0_1.out.lt
    have z0_0_1 : w1.cell? ⟨w.heap.size, 0, none⟩ = some (.slice A1 n1 c1) := K0_1.out.cell 0
    have z0_1_1 : w1.cell? ⟨w.heap.size, 1, none⟩ = some (.slice A2 n2 c2) := K0_1.out.cell 1
    have z0_2_1 : w1.cell? ⟨w.heap.size, 2, none⟩ = some (.slice A3 n3 c3) := K0_1.out.cell 2
    refine (awake6_any _).mono ?_
    rintro e w2 ⟨rfl, hb⟩
    have HB2 := Lib.hid (show Below w.heap.size w w2 from step_below hb (by repeat' (first | exact Below.refl _ _ | exact HB1.out | refine below_drewN ?_ _ | refine Below.drew ?_ | refine Below.alloc ?_ (by first | omega | (simp; done) | (simp; omega) | (simp [World.setCell]; omega)) _ | refine Below.setCell ?_ (by first | omega | (simp; done) | (simp; omega)) _ | assumption)))
    have K0_2 := Lib.hid (step_blk hb (show Blk _ (w.heap.size) 24 #[.slice A1 n1 c1, .slice A2 n2 c2, .slice A3 n3 c3] by repeat' (first | exact K0_1.out | exact Blk.at_ _ (by first | rfl | (simp; done) | (simp; omega)) _ _ | refine Blk.drewN ?_ _ | refine Blk.drew ?_ | refine Blk.alloc ?_ _ | refine Blk.far ?_ (by first | omega | (simp; done) | (simp; omega)) _ | assumption)))
    have hz2 := hb.size
    try simp only [World.size_alloc, World.drewN, World.drew] at hz2
    clear hb K0_1 z0_0_1 z0_1_1 z0_2_1 l0_1
    have l0_2 : w.heap.size < w2.heap.size := K0_2.out.lt
    have z0_0_2 : w2.cell? ⟨w.heap.size, 0, none⟩ = some (.slice A1 n1 c1) := K0_2.out.cell 0
    have z0_1_2 : w2.cell? ⟨w.heap.size, 1, none⟩ = some (.slice A2 n2 c2) := K0_2.out.cell 1
    have z0_2_2 : w2.cell? ⟨w.heap.size, 2, none⟩ = some (.slice A3 n3 c3) := K0_2.out.cell 2
    go_wp2_with fail
    refine (few6_is A1 A2 A3 n1 c1 n2 c2 n3 c3 false HT.out _).mono ?_
    rintro e w3 ⟨rfl, hb⟩
    have HB3 := Lib.hid (show Below w.heap.size w w3 from step_below hb (by repeat' (first | exact Below.refl _ _ | exact HB2.out | refine below_drewN ?_ _ | refine Below.drew ?_ | refine Below.alloc ?_ (by first | omega | (simp; done) | (simp; omega) | (simp [World.setCell]; omega)) _ | refine Below.setCell ?_ (by first | omega | (simp; done) | (simp; omega)) _ | assumption)))
    have K0_3 := Lib.hid (step_blk hb (show Blk _ (w.heap.size) 24 #[.slice A1 n1 c1, .slice A2 n2 c2, .slice A3 n3 c3] by repeat' (first | exact K0_2.out | exact Blk.at_ _ (by first | rfl | (simp; done) | (simp; omega)) _ _ | refine Blk.drewN ?_ _ | refine Blk.drew ?_ | refine Blk.alloc ?_ _ | refine Blk.far ?_ (by first | omega | (simp; done) | (simp; omega)) _ | assumption)))
    have hz3 := hb.size
    try simp only [World.size_alloc, World.drewN, World.drew] at hz3
    clear hb K0_2 z0_0_2 z0_1_2 z0_2_2 l0_2
    have l0_3 : w.heap.size < w3.heap.size := K0_3.out.lt
    have z0_0_3 : w3.cell? ⟨w.heap.size, 0, none⟩ = some (.slice A1 n1 c1) := K0_3.out.cell 0
    have z0_1_3 : w3.cell? ⟨w.heap.size, 1, none⟩ = some (.slice A2 n2 c2) := K0_3.out.cell 1
    have z0_2_3 : w3.cell? ⟨w.heap.size, 2, none⟩ = some (.slice A3 n3 c3) := K0_3.out.cell 2
    go_wp2
    go_ret
    exact ⟨rfl, by repeat' (first | exact Below.refl _ _ | exact HB3.out | refine below_drewN ?_ _ | refine Below.drew ?_ | refine Below.alloc ?_ (by first | omega | (simp; done) | (simp; omega) | (simp [World.setCell]; omega)) _ | refine Below.setCell ?_ (by first | omega | (simp; done) | (simp; omega)) _ | assumption)⟩
  have f1 : n1 ≤ 42 := few6_true (by cases h : fewB6 n1 <;> simp_all)
  have f2 : n2 ≤ 42 := few6_true (by cases h : fewB6 n2 <;> simp_all)
  have f3 : n3 ≤ 42 := few6_true (by cases h : fewB6 n3 <;> simp_all)
  have R1 := Lib.hid r1
  have R2 := Lib.hid r2
  have R3 := Lib.hid r3
  obtain ⟨E, hE⟩ : ∃ E, mapErr l1 l2 l3 = E := ⟨_, rfl⟩
  have h0 := hF ht
  rw [hE] at h0
  have HE := Lib.hid hE
  have HEN := Lib.hid h0
  have e1 : (E != 0) = true := by simpa using h0
  have e2 : (E == E) = true := by simp
  clear ht r1 r2 r3 hE h0 hF
  go_enter Try.func11, Try.ntmps11
  go_wp2_with fail
  generalize hwn : (w.alloc (.cells #[.slice A1 n1 c1, .slice A2 n2 c2, .slice A3 n3 c3] 24)) = w1
  have hbn : Below w.heap.size w w1 := by rw [← hwn]; repeat' (first | exact Below.refl _ _ | refine below_drewN ?_ _ | refine Below.drew ?_ | refine Below.alloc ?_ (by first | omega | (simp; done) | (simp; omega) | (simp [World.setCell]; omega)) _ | refine Below.setCell ?_ (by first | omega | (simp; done) | (simp; omega)) _)
  have HB1 := Lib.hid (show Below w.heap.size w w1 from hbn)
  have K0_1 := Lib.hid (show Blk w1 (w.heap.size) 24 #[.slice A1 n1 c1, .slice A2 n2 c2, .slice A3 n3 c3] by rw [← hwn]; repeat' (first | exact Blk.at_ _ (by first | rfl | (simp; done) | (simp; omega)) _ _ | refine Blk.drewN ?_ _ | refine Blk.drew ?_ | refine Blk.alloc ?_ _ | refine Blk.far ?_ (by first | omega | (simp; done) | (simp; omega)) _ | assumption))
  have HN1 := Lib.hid hbn
  have hz1 := hbn.size
  clear hwn hbn
  have l0_1 : w.heap.size < w1.heap.size := K0_1.out.lt
  have z0_0_1 : w1.cell? ⟨w.heap.size, 0, none⟩ = some (.slice A1 n1 c1) := K0_1.out.cell 0
  have z0_1_1 : w1.cell? ⟨w.heap.size, 1, none⟩ = some (.slice A2 n2 c2) := K0_1.out.cell 1
  have z0_2_1 : w1.cell? ⟨w.heap.size, 2, none⟩ = some (.slice A3 n3 c3) := K0_1.out.cell 2
  refine (awake6_any _).mono ?_
  rintro e w2 ⟨rfl, hb⟩
  have HB2 := Lib.hid (show Below w.heap.size w w2 from step_below hb (by repeat' (first | exact Below.refl _ _ | exact HB1.out | refine below_drewN ?_ _ | refine Below.drew ?_ | refine Below.alloc ?_ (by first | omega | (simp; done) | (simp; omega) | (simp [World.setCell]; omega)) _ | refine Below.setCell ?_ (by first | omega | (simp; done) | (simp; omega)) _ | assumption)))
  have K0_2 := Lib.hid (step_blk hb (show Blk _ (w.heap.size) 24 #[.slice A1 n1 c1, .slice A2 n2 c2, .slice A3 n3 c3] by repeat' (first | exact K0_1.out | exact Blk.at_ _ (by first | rfl | (simp; done) | (simp; omega)) _ _ | refine Blk.drewN ?_ _ | refine Blk.drew ?_ | refine Blk.alloc ?_ _ | refine Blk.far ?_ (by first | omega | (simp; done) | (simp; omega)) _ | assumption)))
  have hz2 := hb.size
  try simp only [World.size_alloc, World.drewN, World.drew] at hz2
  clear hb K0_1 z0_0_1 z0_1_1 z0_2_1 l0_1
  have l0_2 : w.heap.size < w2.heap.size := K0_2.out.lt
  have z0_0_2 : w2.cell? ⟨w.heap.size, 0, none⟩ = some (.slice A1 n1 c1) := K0_2.out.cell 0
  have z0_1_2 : w2.cell? ⟨w.heap.size, 1, none⟩ = some (.slice A2 n2 c2) := K0_2.out.cell 1
  have z0_2_2 : w2.cell? ⟨w.heap.size, 2, none⟩ = some (.slice A3 n3 c3) := K0_2.out.cell 2
  go_wp2_with fail
  refine (few6_is A1 A2 A3 n1 c1 n2 c2 n3 c3 true HT.out _).mono ?_
  rintro e w3 ⟨rfl, hb⟩
  have HB3 := Lib.hid (show Below w.heap.size w w3 from step_below hb (by repeat' (first | exact Below.refl _ _ | exact HB2.out | refine below_drewN ?_ _ | refine Below.drew ?_ | refine Below.alloc ?_ (by first | omega | (simp; done) | (simp; omega) | (simp [World.setCell]; omega)) _ | refine Below.setCell ?_ (by first | omega | (simp; done) | (simp; omega)) _ | assumption)))
  have K0_3 := Lib.hid (step_blk hb (show Blk _ (w.heap.size) 24 #[.slice A1 n1 c1, .slice A2 n2 c2, .slice A3 n3 c3] by repeat' (first | exact K0_2.out | exact Blk.at_ _ (by first | rfl | (simp; done) | (simp; omega)) _ _ | refine Blk.drewN ?_ _ | refine Blk.drew ?_ | refine Blk.alloc ?_ _ | refine Blk.far ?_ (by first | omega | (simp; done) | (simp; omega)) _ | assumption)))
  have hz3 := hb.size
  try simp only [World.size_alloc, World.drewN, World.drew] at hz3
  clear hb K0_2 z0_0_2 z0_1_2 z0_2_2 l0_2
  have l0_3 : w.heap.size < w3.heap.size := K0_3.out.lt
  have z0_0_3 : w3.cell? ⟨w.heap.size, 0, none⟩ = some (.slice A1 n1 c1) := K0_3.out.cell 0
  have z0_1_3 : w3.cell? ⟨w.heap.size, 1, none⟩ = some (.slice A2 n2 c2) := K0_3.out.cell 1
  have z0_2_3 : w3.cell? ⟨w.heap.size, 2, none⟩ = some (.slice A3 n3 c3) := K0_3.out.cell 2
  have g1 := (R1.out.below HB3.out).more HB3.out.size
  have g2 := (R2.out.below HB3.out).more HB3.out.size
  have g3 := (R3.out.below HB3.out).more HB3.out.size
  have R0_3 := Lib.hid g1
  clear g1
  have R1_3 := Lib.hid g2
  clear g2
  have R2_3 := Lib.hid g3
  clear g3
  go_wp2_with fail
  refine (mapped_any A1 A2 A3 n1 c1 n2 c2 n3 c3 l1 l2 l3 _ R0_3.out R1_3.out R2_3.out (by omega) (by omega) (by omega)).mono ?_
  rintro e w4 ⟨B1, d1, B2, d2, B3, d3, rfl, hb, g1, g2, g3⟩
  have HB4 := Lib.hid (show Below w.heap.size w w4 from step_below hb (by repeat' (first | exact Below.refl _ _ | exact HB3.out | refine below_drewN ?_ _ | refine Below.drew ?_ | refine Below.alloc ?_ (by first | omega | (simp; done) | (simp; omega) | (simp [World.setCell]; omega)) _ | refine Below.setCell ?_ (by first | omega | (simp; done) | (simp; omega)) _ | assumption)))
  have K0_4 := Lib.hid (step_blk hb (show Blk _ (w.heap.size) 24 #[.slice A1 n1 c1, .slice A2 n2 c2, .slice A3 n3 c3] by repeat' (first | exact K0_3.out | exact Blk.at_ _ (by first | rfl | (simp; done) | (simp; omega)) _ _ | refine Blk.drewN ?_ _ | refine Blk.drew ?_ | refine Blk.alloc ?_ _ | refine Blk.far ?_ (by first | omega | (simp; done) | (simp; omega)) _ | assumption)))
  have hL4 := Lib.hid (show Below w3.heap.size w3 _ from reads_mid hb (by repeat' (first | exact Below.refl _ _ | refine below_drewN ?_ _ | refine Below.drew ?_ | refine Below.alloc ?_ (by first | omega | (simp; done) | (simp; omega) | (simp [World.setCell]; omega)) _ | refine Below.setCell ?_ (by first | omega | (simp; done) | (simp; omega)) _)))
  have R0_4 := Lib.hid (reads_lay hb hL4.out R0_3.out)
  have R1_4 := Lib.hid (reads_lay hb hL4.out R1_3.out)
  have R2_4 := Lib.hid (reads_lay hb hL4.out R2_3.out)
  clear hL4 R0_3 R1_3 R2_3
  have hz4 := hb.size
  try simp only [World.size_alloc, World.drewN, World.drew] at hz4
  clear hb K0_3 z0_0_3 z0_1_3 z0_2_3 l0_3
  have l0_4 : w.heap.size < w4.heap.size := K0_4.out.lt
  have z0_0_4 : w4.cell? ⟨w.heap.size, 0, none⟩ = some (.slice A1 n1 c1) := K0_4.out.cell 0
  have z0_1_4 : w4.cell? ⟨w.heap.size, 1, none⟩ = some (.slice A2 n2 c2) := K0_4.out.cell 1
  have z0_2_4 : w4.cell? ⟨w.heap.size, 2, none⟩ = some (.slice A3 n3 c3) := K0_4.out.cell 2
  have R3_4 := Lib.hid g1
  clear g1
  have R4_4 := Lib.hid g2
  clear g2
  have R5_4 := Lib.hid g3
  clear g3
  go_wp2_with fail
  refine (Reference_bad B1 n1 d1 l1 B2 n2 d2 l2 B3 n3 d3 l3 E HE.out HEN.out _ R3_4.out R4_4.out R5_4.out (by omega) (by omega) (by omega)).mono ?_
  rintro e w5 ⟨rfl, hb⟩
  have HB5 := Lib.hid (show Below w.heap.size w w5 from step_below hb (by repeat' (first | exact Below.refl _ _ | exact HB4.out | refine below_drewN ?_ _ | refine Below.drew ?_ | refine Below.alloc ?_ (by first | omega | (simp; done) | (simp; omega) | (simp [World.setCell]; omega)) _ | refine Below.setCell ?_ (by first | omega | (simp; done) | (simp; omega)) _ | assumption)))
  have K0_5 := Lib.hid (step_blk hb (show Blk _ (w.heap.size) 24 #[.slice A1 n1 c1, .slice A2 n2 c2, .slice A3 n3 c3] by repeat' (first | exact K0_4.out | exact Blk.at_ _ (by first | rfl | (simp; done) | (simp; omega)) _ _ | refine Blk.drewN ?_ _ | refine Blk.drew ?_ | refine Blk.alloc ?_ _ | refine Blk.far ?_ (by first | omega | (simp; done) | (simp; omega)) _ | assumption)))
  have hL5 := Lib.hid (show Below w4.heap.size w4 _ from reads_mid hb (by repeat' (first | exact Below.refl _ _ | refine below_drewN ?_ _ | refine Below.drew ?_ | refine Below.alloc ?_ (by first | omega | (simp; done) | (simp; omega) | (simp [World.setCell]; omega)) _ | refine Below.setCell ?_ (by first | omega | (simp; done) | (simp; omega)) _)))
  have R0_5 := Lib.hid (reads_lay hb hL5.out R0_4.out)
  have R1_5 := Lib.hid (reads_lay hb hL5.out R1_4.out)
  have R2_5 := Lib.hid (reads_lay hb hL5.out R2_4.out)
  have R3_5 := Lib.hid (reads_lay hb hL5.out R3_4.out)
  have R4_5 := Lib.hid (reads_lay hb hL5.out R4_4.out)
  have R5_5 := Lib.hid (reads_lay hb hL5.out R5_4.out)
  clear hL5 R0_4 R1_4 R2_4 R3_4 R4_4 R5_4
  have hz5 := hb.size
  try simp only [World.size_alloc, World.drewN, World.drew] at hz5
  clear hb K0_4 z0_0_4 z0_1_4 z0_2_4 l0_4
  have l0_5 : w.heap.size < w5.heap.size := K0_5.out.lt
  have z0_0_5 : w5.cell? ⟨w.heap.size, 0, none⟩ = some (.slice A1 n1 c1) := K0_5.out.cell 0
  have z0_1_5 : w5.cell? ⟨w.heap.size, 1, none⟩ = some (.slice A2 n2 c2) := K0_5.out.cell 1
  have z0_2_5 : w5.cell? ⟨w.heap.size, 2, none⟩ = some (.slice A3 n3 c3) := K0_5.out.cell 2
  clear R3_5 R4_5 R5_5
  go_wp2_with fail
  generalize hwn : (w5.alloc (.cells #[.int .i64 (0), .int .i64 (0), .int .i64 (0), .int .i64 (0), .int .i64 (0), .int .i64 (0)] 75)) = w6
  have hbn : Below w5.heap.size w5 w6 := by rw [← hwn]; repeat' (first | exact Below.refl _ _ | refine below_drewN ?_ _ | refine Below.drew ?_ | refine Below.alloc ?_ (by first | omega | (simp; done) | (simp; omega) | (simp [World.setCell]; omega)) _ | refine Below.setCell ?_ (by first | omega | (simp; done) | (simp; omega)) _)
  have HB6 := Lib.hid (show Below w.heap.size w w6 from HB5.out.trans (hbn.mono HB5.out.size))
  have K0_6 := Lib.hid (step_blk hbn K0_5.out)
  have K1_6 := Lib.hid (show Blk w6 (w5.heap.size) 75 #[.int .i64 (0), .int .i64 (0), .int .i64 (0), .int .i64 (0), .int .i64 (0), .int .i64 (0)] by rw [← hwn]; repeat' (first | exact Blk.at_ _ (by first | rfl | (simp; done) | (simp; omega)) _ _ | refine Blk.drewN ?_ _ | refine Blk.drew ?_ | refine Blk.alloc ?_ _ | refine Blk.far ?_ (by first | omega | (simp; done) | (simp; omega)) _ | assumption))
  have R0_6 := Lib.hid ((R0_5.out.below hbn).more hbn.size)
  have R1_6 := Lib.hid ((R1_5.out.below hbn).more hbn.size)
  have R2_6 := Lib.hid ((R2_5.out.below hbn).more hbn.size)
  have HN6 := Lib.hid hbn
  have hz6 := hbn.size
  clear hwn hbn K0_5 l0_5 z0_0_5 z0_1_5 z0_2_5 R0_5 R1_5 R2_5
  have l0_6 : w.heap.size < w6.heap.size := K0_6.out.lt
  have z0_0_6 : w6.cell? ⟨w.heap.size, 0, none⟩ = some (.slice A1 n1 c1) := K0_6.out.cell 0
  have z0_1_6 : w6.cell? ⟨w.heap.size, 1, none⟩ = some (.slice A2 n2 c2) := K0_6.out.cell 1
  have z0_2_6 : w6.cell? ⟨w.heap.size, 2, none⟩ = some (.slice A3 n3 c3) := K0_6.out.cell 2
  have l1_6 : w5.heap.size < w6.heap.size := K1_6.out.lt
  have z1_0_6 : w6.cell? ⟨w5.heap.size, 0, none⟩ = some (.int .i64 (0)) := K1_6.out.cell 0
  have z1_1_6 : w6.cell? ⟨w5.heap.size, 1, none⟩ = some (.int .i64 (0)) := K1_6.out.cell 1
  have z1_2_6 : w6.cell? ⟨w5.heap.size, 2, none⟩ = some (.int .i64 (0)) := K1_6.out.cell 2
  have z1_3_6 : w6.cell? ⟨w5.heap.size, 3, none⟩ = some (.int .i64 (0)) := K1_6.out.cell 3
  have z1_4_6 : w6.cell? ⟨w5.heap.size, 4, none⟩ = some (.int .i64 (0)) := K1_6.out.cell 4
  have z1_5_6 : w6.cell? ⟨w5.heap.size, 5, none⟩ = some (.int .i64 (0)) := K1_6.out.cell 5
  refine (mapped_any A1 A2 A3 n1 c1 n2 c2 n3 c3 l1 l2 l3 _ R0_6.out R1_6.out R2_6.out (by omega) (by omega) (by omega)).mono ?_
  rintro e w7 ⟨B1, d1, B2, d2, B3, d3, rfl, hb, g1, g2, g3⟩
  have HB7 := Lib.hid (show Below w.heap.size w w7 from step_below hb (by repeat' (first | exact Below.refl _ _ | exact HB6.out | refine below_drewN ?_ _ | refine Below.drew ?_ | refine Below.alloc ?_ (by first | omega | (simp; done) | (simp; omega) | (simp [World.setCell]; omega)) _ | refine Below.setCell ?_ (by first | omega | (simp; done) | (simp; omega)) _ | assumption)))
  have K0_7 := Lib.hid (step_blk hb (show Blk _ (w.heap.size) 24 #[.slice A1 n1 c1, .slice A2 n2 c2, .slice A3 n3 c3] by repeat' (first | exact K0_6.out | exact K1_6.out | exact Blk.at_ _ (by first | rfl | (simp; done) | (simp; omega)) _ _ | refine Blk.drewN ?_ _ | refine Blk.drew ?_ | refine Blk.alloc ?_ _ | refine Blk.far ?_ (by first | omega | (simp; done) | (simp; omega)) _ | assumption)))
  have K1_7 := Lib.hid (step_blk hb (show Blk _ (w5.heap.size) 75 #[.int .i64 (0), .int .i64 (0), .int .i64 (0), .int .i64 (0), .int .i64 (0), .int .i64 (0)] by repeat' (first | exact K0_6.out | exact K1_6.out | exact Blk.at_ _ (by first | rfl | (simp; done) | (simp; omega)) _ _ | refine Blk.drewN ?_ _ | refine Blk.drew ?_ | refine Blk.alloc ?_ _ | refine Blk.far ?_ (by first | omega | (simp; done) | (simp; omega)) _ | assumption)))
  have hL7 := Lib.hid (show Below w6.heap.size w6 _ from reads_mid hb (by repeat' (first | exact Below.refl _ _ | refine below_drewN ?_ _ | refine Below.drew ?_ | refine Below.alloc ?_ (by first | omega | (simp; done) | (simp; omega) | (simp [World.setCell]; omega)) _ | refine Below.setCell ?_ (by first | omega | (simp; done) | (simp; omega)) _)))
  have R0_7 := Lib.hid (reads_lay hb hL7.out R0_6.out)
  have R1_7 := Lib.hid (reads_lay hb hL7.out R1_6.out)
  have R2_7 := Lib.hid (reads_lay hb hL7.out R2_6.out)
  clear hL7 R0_6 R1_6 R2_6
  have hz7 := hb.size
  try simp only [World.size_alloc, World.drewN, World.drew] at hz7
  clear hb K0_6 K1_6 z0_0_6 z0_1_6 z0_2_6 l0_6 z1_0_6 z1_1_6 z1_2_6 z1_3_6 z1_4_6 z1_5_6 l1_6
  have l0_7 : w.heap.size < w7.heap.size := K0_7.out.lt
  have z0_0_7 : w7.cell? ⟨w.heap.size, 0, none⟩ = some (.slice A1 n1 c1) := K0_7.out.cell 0
  have z0_1_7 : w7.cell? ⟨w.heap.size, 1, none⟩ = some (.slice A2 n2 c2) := K0_7.out.cell 1
  have z0_2_7 : w7.cell? ⟨w.heap.size, 2, none⟩ = some (.slice A3 n3 c3) := K0_7.out.cell 2
  have l1_7 : w5.heap.size < w7.heap.size := K1_7.out.lt
  have z1_0_7 : w7.cell? ⟨w5.heap.size, 0, none⟩ = some (.int .i64 (0)) := K1_7.out.cell 0
  have z1_1_7 : w7.cell? ⟨w5.heap.size, 1, none⟩ = some (.int .i64 (0)) := K1_7.out.cell 1
  have z1_2_7 : w7.cell? ⟨w5.heap.size, 2, none⟩ = some (.int .i64 (0)) := K1_7.out.cell 2
  have z1_3_7 : w7.cell? ⟨w5.heap.size, 3, none⟩ = some (.int .i64 (0)) := K1_7.out.cell 3
  have z1_4_7 : w7.cell? ⟨w5.heap.size, 4, none⟩ = some (.int .i64 (0)) := K1_7.out.cell 4
  have z1_5_7 : w7.cell? ⟨w5.heap.size, 5, none⟩ = some (.int .i64 (0)) := K1_7.out.cell 5
  have R6_7 := Lib.hid g1
  clear g1
  have R7_7 := Lib.hid g2
  clear g2
  have R8_7 := Lib.hid g3
  clear g3
  go_wp2_with fail
  refine (least_bad B1 n1 d1 l1 B2 n2 d2 l2 B3 n3 d3 l3 E HE.out HEN.out _ R6_7.out R7_7.out R8_7.out (by omega) (by omega) (by omega)).mono ?_
  rintro e w8 ⟨rfl, hb⟩
  have HB8 := Lib.hid (show Below w.heap.size w w8 from step_below hb (by repeat' (first | exact Below.refl _ _ | exact HB7.out | refine below_drewN ?_ _ | refine Below.drew ?_ | refine Below.alloc ?_ (by first | omega | (simp; done) | (simp; omega) | (simp [World.setCell]; omega)) _ | refine Below.setCell ?_ (by first | omega | (simp; done) | (simp; omega)) _ | assumption)))
  have K0_8 := Lib.hid (step_blk hb (show Blk _ (w.heap.size) 24 #[.slice A1 n1 c1, .slice A2 n2 c2, .slice A3 n3 c3] by repeat' (first | exact K0_7.out | exact K1_7.out | exact Blk.at_ _ (by first | rfl | (simp; done) | (simp; omega)) _ _ | refine Blk.drewN ?_ _ | refine Blk.drew ?_ | refine Blk.alloc ?_ _ | refine Blk.far ?_ (by first | omega | (simp; done) | (simp; omega)) _ | assumption)))
  have K1_8 := Lib.hid (step_blk hb (show Blk _ (w5.heap.size) 75 #[.int .i64 (0), .int .i64 (0), .int .i64 (0), .int .i64 (0), .int .i64 (0), .int .i64 (0)] by repeat' (first | exact K0_7.out | exact K1_7.out | exact Blk.at_ _ (by first | rfl | (simp; done) | (simp; omega)) _ _ | refine Blk.drewN ?_ _ | refine Blk.drew ?_ | refine Blk.alloc ?_ _ | refine Blk.far ?_ (by first | omega | (simp; done) | (simp; omega)) _ | assumption)))
  have hL8 := Lib.hid (show Below w7.heap.size w7 _ from reads_mid hb (by repeat' (first | exact Below.refl _ _ | refine below_drewN ?_ _ | refine Below.drew ?_ | refine Below.alloc ?_ (by first | omega | (simp; done) | (simp; omega) | (simp [World.setCell]; omega)) _ | refine Below.setCell ?_ (by first | omega | (simp; done) | (simp; omega)) _)))
  have R0_8 := Lib.hid (reads_lay hb hL8.out R0_7.out)
  have R1_8 := Lib.hid (reads_lay hb hL8.out R1_7.out)
  have R2_8 := Lib.hid (reads_lay hb hL8.out R2_7.out)
  have R6_8 := Lib.hid (reads_lay hb hL8.out R6_7.out)
  have R7_8 := Lib.hid (reads_lay hb hL8.out R7_7.out)
  have R8_8 := Lib.hid (reads_lay hb hL8.out R8_7.out)
  clear hL8 R0_7 R1_7 R2_7 R6_7 R7_7 R8_7
  have hz8 := hb.size
  try simp only [World.size_alloc, World.drewN, World.drew] at hz8
  clear hb K0_7 K1_7 z0_0_7 z0_1_7 z0_2_7 l0_7 z1_0_7 z1_1_7 z1_2_7 z1_3_7 z1_4_7 z1_5_7 l1_7
  have l0_8 : w.heap.size < w8.heap.size := K0_8.out.lt
  have z0_0_8 : w8.cell? ⟨w.heap.size, 0, none⟩ = some (.slice A1 n1 c1) := K0_8.out.cell 0
  have z0_1_8 : w8.cell? ⟨w.heap.size, 1, none⟩ = some (.slice A2 n2 c2) := K0_8.out.cell 1
  have z0_2_8 : w8.cell? ⟨w.heap.size, 2, none⟩ = some (.slice A3 n3 c3) := K0_8.out.cell 2
  have l1_8 : w5.heap.size < w8.heap.size := K1_8.out.lt
  have z1_0_8 : w8.cell? ⟨w5.heap.size, 0, none⟩ = some (.int .i64 (0)) := K1_8.out.cell 0
  have z1_1_8 : w8.cell? ⟨w5.heap.size, 1, none⟩ = some (.int .i64 (0)) := K1_8.out.cell 1
  have z1_2_8 : w8.cell? ⟨w5.heap.size, 2, none⟩ = some (.int .i64 (0)) := K1_8.out.cell 2
  have z1_3_8 : w8.cell? ⟨w5.heap.size, 3, none⟩ = some (.int .i64 (0)) := K1_8.out.cell 3
  have z1_4_8 : w8.cell? ⟨w5.heap.size, 4, none⟩ = some (.int .i64 (0)) := K1_8.out.cell 4
  have z1_5_8 : w8.cell? ⟨w5.heap.size, 5, none⟩ = some (.int .i64 (0)) := K1_8.out.cell 5
  clear R6_8 R7_8 R8_8
  go_wp2_with fail
  generalize hwn : (w8.alloc (.cells #[.int .i64 (0), .int .i64 (0)] 28)) = w9
  have hbn : Below w8.heap.size w8 w9 := by rw [← hwn]; repeat' (first | exact Below.refl _ _ | refine below_drewN ?_ _ | refine Below.drew ?_ | refine Below.alloc ?_ (by first | omega | (simp; done) | (simp; omega) | (simp [World.setCell]; omega)) _ | refine Below.setCell ?_ (by first | omega | (simp; done) | (simp; omega)) _)
  have HB9 := Lib.hid (show Below w.heap.size w w9 from HB8.out.trans (hbn.mono HB8.out.size))
  have K0_9 := Lib.hid (step_blk hbn K0_8.out)
  have K1_9 := Lib.hid (step_blk hbn K1_8.out)
  have K2_9 := Lib.hid (show Blk w9 (w8.heap.size) 28 #[.int .i64 (0), .int .i64 (0)] by rw [← hwn]; repeat' (first | exact Blk.at_ _ (by first | rfl | (simp; done) | (simp; omega)) _ _ | refine Blk.drewN ?_ _ | refine Blk.drew ?_ | refine Blk.alloc ?_ _ | refine Blk.far ?_ (by first | omega | (simp; done) | (simp; omega)) _ | assumption))
  have R0_9 := Lib.hid ((R0_8.out.below hbn).more hbn.size)
  have R1_9 := Lib.hid ((R1_8.out.below hbn).more hbn.size)
  have R2_9 := Lib.hid ((R2_8.out.below hbn).more hbn.size)
  have HN9 := Lib.hid hbn
  have hz9 := hbn.size
  clear hwn hbn K0_8 l0_8 z0_0_8 z0_1_8 z0_2_8 K1_8 l1_8 z1_0_8 z1_1_8 z1_2_8 z1_3_8 z1_4_8 z1_5_8 R0_8 R1_8 R2_8
  have l0_9 : w.heap.size < w9.heap.size := K0_9.out.lt
  have z0_0_9 : w9.cell? ⟨w.heap.size, 0, none⟩ = some (.slice A1 n1 c1) := K0_9.out.cell 0
  have z0_1_9 : w9.cell? ⟨w.heap.size, 1, none⟩ = some (.slice A2 n2 c2) := K0_9.out.cell 1
  have z0_2_9 : w9.cell? ⟨w.heap.size, 2, none⟩ = some (.slice A3 n3 c3) := K0_9.out.cell 2
  have l1_9 : w5.heap.size < w9.heap.size := K1_9.out.lt
  have z1_0_9 : w9.cell? ⟨w5.heap.size, 0, none⟩ = some (.int .i64 (0)) := K1_9.out.cell 0
  have z1_1_9 : w9.cell? ⟨w5.heap.size, 1, none⟩ = some (.int .i64 (0)) := K1_9.out.cell 1
  have z1_2_9 : w9.cell? ⟨w5.heap.size, 2, none⟩ = some (.int .i64 (0)) := K1_9.out.cell 2
  have z1_3_9 : w9.cell? ⟨w5.heap.size, 3, none⟩ = some (.int .i64 (0)) := K1_9.out.cell 3
  have z1_4_9 : w9.cell? ⟨w5.heap.size, 4, none⟩ = some (.int .i64 (0)) := K1_9.out.cell 4
  have z1_5_9 : w9.cell? ⟨w5.heap.size, 5, none⟩ = some (.int .i64 (0)) := K1_9.out.cell 5
  have l2_9 : w8.heap.size < w9.heap.size := K2_9.out.lt
  have z2_0_9 : w9.cell? ⟨w8.heap.size, 0, none⟩ = some (.int .i64 (0)) := K2_9.out.cell 0
  have z2_1_9 : w9.cell? ⟨w8.heap.size, 1, none⟩ = some (.int .i64 (0)) := K2_9.out.cell 1
  refine (rcheckmap_is A1 n1 c1 l1 A2 n2 c2 l2 A3 n3 c3 l3 E HE.out _ R0_9.out R1_9.out R2_9.out (by omega) (by omega) (by omega)).mono ?_
  rintro e w10 ⟨rfl, hb⟩
  have HB10 := Lib.hid (show Below w.heap.size w w10 from step_below hb (by repeat' (first | exact Below.refl _ _ | exact HB9.out | refine below_drewN ?_ _ | refine Below.drew ?_ | refine Below.alloc ?_ (by first | omega | (simp; done) | (simp; omega) | (simp [World.setCell]; omega)) _ | refine Below.setCell ?_ (by first | omega | (simp; done) | (simp; omega)) _ | assumption)))
  have K0_10 := Lib.hid (step_blk hb (show Blk _ (w.heap.size) 24 #[.slice A1 n1 c1, .slice A2 n2 c2, .slice A3 n3 c3] by repeat' (first | exact K0_9.out | exact K1_9.out | exact K2_9.out | exact Blk.at_ _ (by first | rfl | (simp; done) | (simp; omega)) _ _ | refine Blk.drewN ?_ _ | refine Blk.drew ?_ | refine Blk.alloc ?_ _ | refine Blk.far ?_ (by first | omega | (simp; done) | (simp; omega)) _ | assumption)))
  have K1_10 := Lib.hid (step_blk hb (show Blk _ (w5.heap.size) 75 #[.int .i64 (0), .int .i64 (0), .int .i64 (0), .int .i64 (0), .int .i64 (0), .int .i64 (0)] by repeat' (first | exact K0_9.out | exact K1_9.out | exact K2_9.out | exact Blk.at_ _ (by first | rfl | (simp; done) | (simp; omega)) _ _ | refine Blk.drewN ?_ _ | refine Blk.drew ?_ | refine Blk.alloc ?_ _ | refine Blk.far ?_ (by first | omega | (simp; done) | (simp; omega)) _ | assumption)))
  have K2_10 := Lib.hid (step_blk hb (show Blk _ (w8.heap.size) 28 #[.int .i64 (0), .int .i64 (0)] by repeat' (first | exact K0_9.out | exact K1_9.out | exact K2_9.out | exact Blk.at_ _ (by first | rfl | (simp; done) | (simp; omega)) _ _ | refine Blk.drewN ?_ _ | refine Blk.drew ?_ | refine Blk.alloc ?_ _ | refine Blk.far ?_ (by first | omega | (simp; done) | (simp; omega)) _ | assumption)))
  have hL10 := Lib.hid (show Below w9.heap.size w9 _ from reads_mid hb (by repeat' (first | exact Below.refl _ _ | refine below_drewN ?_ _ | refine Below.drew ?_ | refine Below.alloc ?_ (by first | omega | (simp; done) | (simp; omega) | (simp [World.setCell]; omega)) _ | refine Below.setCell ?_ (by first | omega | (simp; done) | (simp; omega)) _)))
  have R0_10 := Lib.hid (reads_lay hb hL10.out R0_9.out)
  have R1_10 := Lib.hid (reads_lay hb hL10.out R1_9.out)
  have R2_10 := Lib.hid (reads_lay hb hL10.out R2_9.out)
  clear hL10 R0_9 R1_9 R2_9
  have hz10 := hb.size
  try simp only [World.size_alloc, World.drewN, World.drew] at hz10
  clear hb K0_9 K1_9 K2_9 z0_0_9 z0_1_9 z0_2_9 l0_9 z1_0_9 z1_1_9 z1_2_9 z1_3_9 z1_4_9 z1_5_9 l1_9 z2_0_9 z2_1_9 l2_9
  have l0_10 : w.heap.size < w10.heap.size := K0_10.out.lt
  have z0_0_10 : w10.cell? ⟨w.heap.size, 0, none⟩ = some (.slice A1 n1 c1) := K0_10.out.cell 0
  have z0_1_10 : w10.cell? ⟨w.heap.size, 1, none⟩ = some (.slice A2 n2 c2) := K0_10.out.cell 1
  have z0_2_10 : w10.cell? ⟨w.heap.size, 2, none⟩ = some (.slice A3 n3 c3) := K0_10.out.cell 2
  have l1_10 : w5.heap.size < w10.heap.size := K1_10.out.lt
  have z1_0_10 : w10.cell? ⟨w5.heap.size, 0, none⟩ = some (.int .i64 (0)) := K1_10.out.cell 0
  have z1_1_10 : w10.cell? ⟨w5.heap.size, 1, none⟩ = some (.int .i64 (0)) := K1_10.out.cell 1
  have z1_2_10 : w10.cell? ⟨w5.heap.size, 2, none⟩ = some (.int .i64 (0)) := K1_10.out.cell 2
  have z1_3_10 : w10.cell? ⟨w5.heap.size, 3, none⟩ = some (.int .i64 (0)) := K1_10.out.cell 3
  have z1_4_10 : w10.cell? ⟨w5.heap.size, 4, none⟩ = some (.int .i64 (0)) := K1_10.out.cell 4
  have z1_5_10 : w10.cell? ⟨w5.heap.size, 5, none⟩ = some (.int .i64 (0)) := K1_10.out.cell 5
  have l2_10 : w8.heap.size < w10.heap.size := K2_10.out.lt
  have z2_0_10 : w10.cell? ⟨w8.heap.size, 0, none⟩ = some (.int .i64 (0)) := K2_10.out.cell 0
  have z2_1_10 : w10.cell? ⟨w8.heap.size, 1, none⟩ = some (.int .i64 (0)) := K2_10.out.cell 1
  go_wp2_with fail
  refine (none_is _).mono ?_
  rintro e w11 ⟨rfl, hb⟩
  have HB11 := Lib.hid (show Below w.heap.size w w11 from step_below hb (by repeat' (first | exact Below.refl _ _ | exact HB10.out | refine below_drewN ?_ _ | refine Below.drew ?_ | refine Below.alloc ?_ (by first | omega | (simp; done) | (simp; omega) | (simp [World.setCell]; omega)) _ | refine Below.setCell ?_ (by first | omega | (simp; done) | (simp; omega)) _ | assumption)))
  have K0_11 := Lib.hid (step_blk hb (show Blk _ (w.heap.size) 24 #[.slice A1 n1 c1, .slice A2 n2 c2, .slice A3 n3 c3] by repeat' (first | exact K0_10.out | exact K1_10.out | exact K2_10.out | exact Blk.at_ _ (by first | rfl | (simp; done) | (simp; omega)) _ _ | refine Blk.drewN ?_ _ | refine Blk.drew ?_ | refine Blk.alloc ?_ _ | refine Blk.far ?_ (by first | omega | (simp; done) | (simp; omega)) _ | assumption)))
  have K1_11 := Lib.hid (step_blk hb (show Blk _ (w5.heap.size) 75 #[.int .i64 (0), .int .i64 (0), .int .i64 (0), .int .i64 (0), .int .i64 (0), .int .i64 (0)] by repeat' (first | exact K0_10.out | exact K1_10.out | exact K2_10.out | exact Blk.at_ _ (by first | rfl | (simp; done) | (simp; omega)) _ _ | refine Blk.drewN ?_ _ | refine Blk.drew ?_ | refine Blk.alloc ?_ _ | refine Blk.far ?_ (by first | omega | (simp; done) | (simp; omega)) _ | assumption)))
  have K2_11 := Lib.hid (step_blk hb (show Blk _ (w8.heap.size) 28 #[.int .i64 (0), .int .i64 (0)] by repeat' (first | exact K0_10.out | exact K1_10.out | exact K2_10.out | exact Blk.at_ _ (by first | rfl | (simp; done) | (simp; omega)) _ _ | refine Blk.drewN ?_ _ | refine Blk.drew ?_ | refine Blk.alloc ?_ _ | refine Blk.far ?_ (by first | omega | (simp; done) | (simp; omega)) _ | assumption)))
  have hL11 := Lib.hid (show Below w10.heap.size w10 _ from reads_mid hb (by repeat' (first | exact Below.refl _ _ | refine below_drewN ?_ _ | refine Below.drew ?_ | refine Below.alloc ?_ (by first | omega | (simp; done) | (simp; omega) | (simp [World.setCell]; omega)) _ | refine Below.setCell ?_ (by first | omega | (simp; done) | (simp; omega)) _)))
  have R0_11 := Lib.hid (reads_lay hb hL11.out R0_10.out)
  have R1_11 := Lib.hid (reads_lay hb hL11.out R1_10.out)
  have R2_11 := Lib.hid (reads_lay hb hL11.out R2_10.out)
  clear hL11 R0_10 R1_10 R2_10
  have hz11 := hb.size
  try simp only [World.size_alloc, World.drewN, World.drew] at hz11
  clear hb K0_10 K1_10 K2_10 z0_0_10 z0_1_10 z0_2_10 l0_10 z1_0_10 z1_1_10 z1_2_10 z1_3_10 z1_4_10 z1_5_10 l1_10 z2_0_10 z2_1_10 l2_10
  have l0_11 : w.heap.size < w11.heap.size := K0_11.out.lt
  have z0_0_11 : w11.cell? ⟨w.heap.size, 0, none⟩ = some (.slice A1 n1 c1) := K0_11.out.cell 0
  have z0_1_11 : w11.cell? ⟨w.heap.size, 1, none⟩ = some (.slice A2 n2 c2) := K0_11.out.cell 1
  have z0_2_11 : w11.cell? ⟨w.heap.size, 2, none⟩ = some (.slice A3 n3 c3) := K0_11.out.cell 2
  have l1_11 : w5.heap.size < w11.heap.size := K1_11.out.lt
  have z1_0_11 : w11.cell? ⟨w5.heap.size, 0, none⟩ = some (.int .i64 (0)) := K1_11.out.cell 0
  have z1_1_11 : w11.cell? ⟨w5.heap.size, 1, none⟩ = some (.int .i64 (0)) := K1_11.out.cell 1
  have z1_2_11 : w11.cell? ⟨w5.heap.size, 2, none⟩ = some (.int .i64 (0)) := K1_11.out.cell 2
  have z1_3_11 : w11.cell? ⟨w5.heap.size, 3, none⟩ = some (.int .i64 (0)) := K1_11.out.cell 3
  have z1_4_11 : w11.cell? ⟨w5.heap.size, 4, none⟩ = some (.int .i64 (0)) := K1_11.out.cell 4
  have z1_5_11 : w11.cell? ⟨w5.heap.size, 5, none⟩ = some (.int .i64 (0)) := K1_11.out.cell 5
  have l2_11 : w8.heap.size < w11.heap.size := K2_11.out.lt
  have z2_0_11 : w11.cell? ⟨w8.heap.size, 0, none⟩ = some (.int .i64 (0)) := K2_11.out.cell 0
  have z2_1_11 : w11.cell? ⟨w8.heap.size, 1, none⟩ = some (.int .i64 (0)) := K2_11.out.cell 1
  go_wp2
  go_ret
  exact ⟨rfl, by repeat' (first | exact Below.refl _ _ | exact HB11.out | refine below_drewN ?_ _ | refine Below.drew ?_ | refine Below.alloc ?_ (by first | omega | (simp; done) | (simp; omega) | (simp [World.setCell]; omega)) _ | refine Below.setCell ?_ (by first | omega | (simp; done) | (simp; omega)) _ | assumption)⟩

set_option maxRecDepth 100000 in
set_option maxHeartbeats 4000000 in
theorem lawFQ_ok (n b1 o1 c1 b2 o2 c2 b3 o3 c3 : Nat) (l1 l2 l3 : List Int) (w : World) (hF : (fewB6 n && (fewB6 n && fewB6 n)) = true) (hE : mapErr l1 l2 l3 = 0)
    (r1 : Reads w w.heap.size 1 (some ⟨b1, o1, none⟩) n (l1.map (.int .i64))) (r2 : Reads w w.heap.size 1 (some ⟨b2, o2, none⟩) n (l2.map (.int .i64))) (r3 : Reads w w.heap.size 1 (some ⟨b3, o3, none⟩) n (l3.map (.int .i64))) :
    Calls Try.prog 11 #[.agg #[.slice (some ⟨b1, o1, none⟩) n c1, .slice (some ⟨b2, o2, none⟩) n c2, .slice (some ⟨b3, o3, none⟩) n c3]] w fun e w' => e = .returned (.bool true) ∧ Below w.heap.size w w' := by
  have f1 : n ≤ 42 := few6_true (by cases h : fewB6 n <;> simp_all)
  obtain ⟨m, hm⟩ : ∃ m, m = rmL n b1 o1 c1 b2 o2 c2 b3 o3 c3 l1 l2 l3 := ⟨_, rfl⟩
  obtain ⟨-, -, b1', o1', b2', o2', b3', o3', ea, eb, ec, hat, hok, hw1⟩ := rm_of hE c1 c2 c3 r1 r2 r3
  obtain ⟨rfl, rfl⟩ : b1 = b1' ∧ o1 = o1' := by simpa using ea
  obtain ⟨rfl, rfl⟩ : b2 = b2' ∧ o2 = o2' := by simpa using eb
  obtain ⟨rfl, rfl⟩ : b3 = b3' ∧ o3 = o3' := by simpa using ec
  have hmn : m.n = n := by rw [hm]; rfl
  have hmb3 : m.b3 = b3 ∧ m.o3 = o3 := by rw [hm]; exact ⟨rfl, rfl⟩
  rw [← hm] at hat hok hw1
  rw [← hmn] at hw1
  have hn19 : m.n < 20 := by
    rw [hmn]
    have h1 := hok.n2
    rw [hmn] at h1
    rcases few6_cases n with ⟨h2, h3⟩ | ⟨h2, h3⟩ | ⟨h2, h3⟩ | ⟨h2, h3⟩
    all_goals first | omega | (rw [h2] at hF; cases hF)
  have hv : m.val = .agg #[.slice (some ⟨b1, o1, none⟩) n c1, .slice (some ⟨b2, o2, none⟩) n c2, .slice (some ⟨b3, o3, none⟩) n c3] := by rw [hm]; rfl
  -- the line
  have hro := ref_ok hok hw1
  have hri := (ref_in hok).1
  have hls := fun k (hk : k ≤ m.n) => lsum_in hok hk
  obtain ⟨⟨⟨⟨a, b⟩, ⟨c, d⟩⟩, ⟨x, y⟩⟩, hrf⟩ : ∃ z, refF m = z := ⟨_, rfl⟩
  have hlw : lwhole m = b * d := by unfold lwhole; rw [hrf]
  have hlf : ∀ k, lsumF m k = remS m a b c d k := fun k => by unfold lsumF remS; rw [hrf]
  rw [hrf] at hro hri
  simp only at hro hri
  have hl := hri.ok
  have hL := line_of hl hro.ga hro.gc
  obtain ⟨mn, hmne⟩ : ∃ s, redN (m.sq m.n) (m.sw m.n) = s := ⟨_, rfl⟩
  obtain ⟨md, hmde⟩ : ∃ s, redD (m.sq m.n) (m.sw m.n) = s := ⟨_, rfl⟩
  obtain ⟨hp0, hp1, hp2⟩ := bst_sum hro hw1 hmne hmde
  have hcr : crefF m a b c d (x : Int) (y : Int) = (0, 0) := cref_ok hro.up (within_mk (by omega) (by have := hro.x1; omega)) (within_mk (by omega) (by have := hro.y1; omega)) (by rw [Int.toNat_natCast]; exact hro.at1) (by rw [Int.toNat_natCast]; exact hro.at2) (by rw [Int.toNat_natCast]; exact hro.lo) (by rw [Int.toNat_natCast]; exact hro.hi)
  obtain ⟨v, hvv⟩ : ∃ v, b * d = v := ⟨_, rfl⟩
  have hbd : 1 ≤ v ∧ v ≤ 1000000 := by
    have := (rem_in hok hl (show 0 < m.n from hok.n1)).1
    rw [hvv] at this; exact this
  obtain ⟨s, hs⟩ : ∃ s, redN (remS m a b c d m.n) v = s := ⟨_, rfl⟩
  obtain ⟨sv, hsv⟩ : ∃ s, redD (remS m a b c d m.n) v = s := ⟨_, rfl⟩
  rw [hvv, hs] at hp1
  rw [hvv, hsv] at hp2
  have hrm := fun z hz => rremoval_is m hok a b c d (x : Int) (y : Int) hl z hz
  have hrc := rcref_is m hok hw1 a b c d (x : Int) (y : Int) hl ⟨by omega, by have := hro.x1; have := hok.n2; omega⟩ ⟨by omega, by have := hro.y1; have := hok.n2; omega⟩ _ hcr
  have hrl := fun w hx => rleast_is m hok hw1 w hx mn md hmne hmde _ rfl hp0 s sv hp1 hp2
  rw [hv] at hrm hrc hrl
  have ix : I64 (x : Int) := ⟨by omega, by have := hro.x1; have := hok.n2; omega⟩
  have iy : I64 (y : Int) := ⟨by omega, by have := hro.y1; have := hok.n2; omega⟩
  have ia : I64 a := ⟨by have := hl.a1; omega, by have := hl.a2; omega⟩
  have ib : I64 b := ⟨by have := hl.b1; omega, by have := hl.b2; omega⟩
  have ic : I64 c := ⟨by have := hl.c1; omega, by have := hl.c2; omega⟩
  have jd : I64 d := ⟨by have := hl.d1; omega, by have := hl.d2; omega⟩
  have hrem : ∀ z, z < m.n → -1000000000000 ≤ remN m a b c d z ∧ remN m a b c d z ≤ 1000000000000 := fun z hz => (remR_in hok hri hz).2
  have hrs : ∀ k, k ≤ m.n → -40000000000000000 ≤ remS m a b c d k ∧ remS m a b c d k ≤ 40000000000000000 := fun k hk => by rw [← hlf]; exact hls k hk
  have HSL := Lib.hid (show redN (lsumF m m.n) (lwhole m) = s by rw [hlf, hlw, hvv]; exact hs)
  have HVL := Lib.hid (show redD (lsumF m m.n) (lwhole m) = sv by rw [hlf, hlw, hvv]; exact hsv)
  have HEX := Lib.hid (show ∃ b1 o1 c1 b2 o2 c2 b3 o3 c3, m = rmL n b1 o1 c1 b2 o2 c2 b3 o3 c3 l1 l2 l3 from ⟨_, _, _, _, _, _, _, _, _, hm⟩)
  have HT := Lib.hid hF
  have R1 := Lib.hid r1
  have R2 := Lib.hid r2
  have R3 := Lib.hid r3
  have HE := Lib.hid hE
  have HL := Lib.hid hL
  have HAT := Lib.hid hat
  have HOK := Lib.hid hok
  have HRM := Lib.hid hrm
  have HRC := Lib.hid hrc
  have HRL := Lib.hid hrl
  have HRF := Lib.hid hrf
  have HCR := Lib.hid hcr
  have HREM := Lib.hid hrem
  have HRS := Lib.hid hrs
  have HMN := Lib.hid hmn
  have HMB := Lib.hid hmb3
  have HS := Lib.hid hs
  have HSV := Lib.hid hsv
  have HVV := Lib.hid hvv
  have HN19 := Lib.hid hn19
  have e5 : IntKind.i64.wrap (b * d) = v := by rw [hvv]; exact IntWalk.i64_in v ⟨by omega, by omega⟩
  clear r1 r2 r3 hE hL hF hm ea eb ec hat hok hw1 hv hrm hrem hrs hmn hmb3 hs hsv hvv hl hro hri hls hlw hlf hp0 hp1 hp2 hn19 hcr hrc hrl hrf hmne hmde
  go_enter Try.func11, Try.ntmps11
  go_wp2_with fail
  generalize hwn : (w.alloc (.cells #[.slice (some ⟨b1, o1, none⟩) n c1, .slice (some ⟨b2, o2, none⟩) n c2, .slice (some ⟨b3, o3, none⟩) n c3] 24)) = w1
  have hbn : Below w.heap.size w w1 := by rw [← hwn]; repeat' (first | exact Below.refl _ _ | refine below_drewN ?_ _ | refine Below.drew ?_ | refine Below.alloc ?_ (by first | omega | (simp; done) | (simp; omega) | (simp [World.setCell]; omega)) _ | refine Below.setCell ?_ (by first | omega | (simp; done) | (simp; omega)) _)
  have HB1 := Lib.hid (show Below w.heap.size w w1 from hbn)
  have K0_1 := Lib.hid (show Blk w1 (w.heap.size) 24 #[.slice (some ⟨b1, o1, none⟩) n c1, .slice (some ⟨b2, o2, none⟩) n c2, .slice (some ⟨b3, o3, none⟩) n c3] by rw [← hwn]; repeat' (first | exact Blk.at_ _ (by first | rfl | (simp; done) | (simp; omega)) _ _ | refine Blk.drewN ?_ _ | refine Blk.drew ?_ | refine Blk.alloc ?_ _ | refine Blk.far ?_ (by first | omega | (simp; done) | (simp; omega)) _ | assumption))
  have HN1 := Lib.hid hbn
  have hz1 := hbn.size
  clear hwn hbn
  have l0_1 : w.heap.size < w1.heap.size := K0_1.out.lt
  have z0_0_1 : w1.cell? ⟨w.heap.size, 0, none⟩ = some (.slice (some ⟨b1, o1, none⟩) n c1) := K0_1.out.cell 0
  have z0_1_1 : w1.cell? ⟨w.heap.size, 1, none⟩ = some (.slice (some ⟨b2, o2, none⟩) n c2) := K0_1.out.cell 1
  have z0_2_1 : w1.cell? ⟨w.heap.size, 2, none⟩ = some (.slice (some ⟨b3, o3, none⟩) n c3) := K0_1.out.cell 2
  refine (awake6_any _).mono ?_
  rintro e w2 ⟨rfl, hb⟩
  have HB2 := Lib.hid (show Below w.heap.size w w2 from step_below hb (by repeat' (first | exact Below.refl _ _ | exact HB1.out | refine below_drewN ?_ _ | refine Below.drew ?_ | refine Below.alloc ?_ (by first | omega | (simp; done) | (simp; omega) | (simp [World.setCell]; omega)) _ | refine Below.setCell ?_ (by first | omega | (simp; done) | (simp; omega)) _ | assumption)))
  have K0_2 := Lib.hid (step_blk hb (show Blk _ (w.heap.size) 24 #[.slice (some ⟨b1, o1, none⟩) n c1, .slice (some ⟨b2, o2, none⟩) n c2, .slice (some ⟨b3, o3, none⟩) n c3] by repeat' (first | exact K0_1.out | exact Blk.at_ _ (by first | rfl | (simp; done) | (simp; omega)) _ _ | refine Blk.drewN ?_ _ | refine Blk.drew ?_ | refine Blk.alloc ?_ _ | refine Blk.far ?_ (by first | omega | (simp; done) | (simp; omega)) _ | assumption)))
  have hz2 := hb.size
  try simp only [World.size_alloc, World.drewN, World.drew] at hz2
  clear hb K0_1 z0_0_1 z0_1_1 z0_2_1 l0_1
  have l0_2 : w.heap.size < w2.heap.size := K0_2.out.lt
  have z0_0_2 : w2.cell? ⟨w.heap.size, 0, none⟩ = some (.slice (some ⟨b1, o1, none⟩) n c1) := K0_2.out.cell 0
  have z0_1_2 : w2.cell? ⟨w.heap.size, 1, none⟩ = some (.slice (some ⟨b2, o2, none⟩) n c2) := K0_2.out.cell 1
  have z0_2_2 : w2.cell? ⟨w.heap.size, 2, none⟩ = some (.slice (some ⟨b3, o3, none⟩) n c3) := K0_2.out.cell 2
  go_wp2_with fail
  refine (few6_is _ _ _ n c1 n c2 n c3 true HT.out _).mono ?_
  rintro e w3 ⟨rfl, hb⟩
  have HB3 := Lib.hid (show Below w.heap.size w w3 from step_below hb (by repeat' (first | exact Below.refl _ _ | exact HB2.out | refine below_drewN ?_ _ | refine Below.drew ?_ | refine Below.alloc ?_ (by first | omega | (simp; done) | (simp; omega) | (simp [World.setCell]; omega)) _ | refine Below.setCell ?_ (by first | omega | (simp; done) | (simp; omega)) _ | assumption)))
  have K0_3 := Lib.hid (step_blk hb (show Blk _ (w.heap.size) 24 #[.slice (some ⟨b1, o1, none⟩) n c1, .slice (some ⟨b2, o2, none⟩) n c2, .slice (some ⟨b3, o3, none⟩) n c3] by repeat' (first | exact K0_2.out | exact Blk.at_ _ (by first | rfl | (simp; done) | (simp; omega)) _ _ | refine Blk.drewN ?_ _ | refine Blk.drew ?_ | refine Blk.alloc ?_ _ | refine Blk.far ?_ (by first | omega | (simp; done) | (simp; omega)) _ | assumption)))
  have hz3 := hb.size
  try simp only [World.size_alloc, World.drewN, World.drew] at hz3
  clear hb K0_2 z0_0_2 z0_1_2 z0_2_2 l0_2
  have l0_3 : w.heap.size < w3.heap.size := K0_3.out.lt
  have z0_0_3 : w3.cell? ⟨w.heap.size, 0, none⟩ = some (.slice (some ⟨b1, o1, none⟩) n c1) := K0_3.out.cell 0
  have z0_1_3 : w3.cell? ⟨w.heap.size, 1, none⟩ = some (.slice (some ⟨b2, o2, none⟩) n c2) := K0_3.out.cell 1
  have z0_2_3 : w3.cell? ⟨w.heap.size, 2, none⟩ = some (.slice (some ⟨b3, o3, none⟩) n c3) := K0_3.out.cell 2
  have g1 := (R1.out.below HB3.out).more HB3.out.size
  have g2 := (R2.out.below HB3.out).more HB3.out.size
  have g3 := (R3.out.below HB3.out).more HB3.out.size
  have R0_3 := Lib.hid g1
  clear g1
  have R1_3 := Lib.hid g2
  clear g2
  have R2_3 := Lib.hid g3
  clear g3
  go_wp2_with fail
  refine (mapped_ok HE.out n c1 c2 c3 _ _ _ m HEX.out (by omega) _ R0_3.out R1_3.out R2_3.out).mono ?_
  rintro e w4 ⟨x4, rfl, hb, hcm⟩
  have HB4 := Lib.hid (show Below w.heap.size w w4 from step_below hb (by repeat' (first | exact Below.refl _ _ | exact HB3.out | refine below_drewN ?_ _ | refine Below.drew ?_ | refine Below.alloc ?_ (by first | omega | (simp; done) | (simp; omega) | (simp [World.setCell]; omega)) _ | refine Below.setCell ?_ (by first | omega | (simp; done) | (simp; omega)) _ | assumption)))
  have K0_4 := Lib.hid (step_blk hb (show Blk _ (w.heap.size) 24 #[.slice (some ⟨b1, o1, none⟩) n c1, .slice (some ⟨b2, o2, none⟩) n c2, .slice (some ⟨b3, o3, none⟩) n c3] by repeat' (first | exact K0_3.out | exact Blk.at_ _ (by first | rfl | (simp; done) | (simp; omega)) _ _ | refine Blk.drewN ?_ _ | refine Blk.drew ?_ | refine Blk.alloc ?_ _ | refine Blk.far ?_ (by first | omega | (simp; done) | (simp; omega)) _ | assumption)))
  have hL4 := Lib.hid (show Below w3.heap.size w3 _ from reads_mid hb (by repeat' (first | exact Below.refl _ _ | refine below_drewN ?_ _ | refine Below.drew ?_ | refine Below.alloc ?_ (by first | omega | (simp; done) | (simp; omega) | (simp [World.setCell]; omega)) _ | refine Below.setCell ?_ (by first | omega | (simp; done) | (simp; omega)) _)))
  have R0_4 := Lib.hid (reads_lay hb hL4.out R0_3.out)
  have R1_4 := Lib.hid (reads_lay hb hL4.out R1_3.out)
  have R2_4 := Lib.hid (reads_lay hb hL4.out R2_3.out)
  clear hL4 R0_3 R1_3 R2_3
  have hz4 := hb.size
  try simp only [World.size_alloc, World.drewN, World.drew] at hz4
  clear hb K0_3 z0_0_3 z0_1_3 z0_2_3 l0_3
  have l0_4 : w.heap.size < w4.heap.size := K0_4.out.lt
  have z0_0_4 : w4.cell? ⟨w.heap.size, 0, none⟩ = some (.slice (some ⟨b1, o1, none⟩) n c1) := K0_4.out.cell 0
  have z0_1_4 : w4.cell? ⟨w.heap.size, 1, none⟩ = some (.slice (some ⟨b2, o2, none⟩) n c2) := K0_4.out.cell 1
  have z0_2_4 : w4.cell? ⟨w.heap.size, 2, none⟩ = some (.slice (some ⟨b3, o3, none⟩) n c3) := K0_4.out.cell 2
  have HCM := Lib.hid hcm
  clear hcm
  go_wp2_with fail
  refine (Reference_ok x4 (HCM.out.like.ok HOK.out) (by rw [HCM.out.like.n]; exact HN19.out) a b c d x y (HCM.out.like.ref.trans HRF.out) _ HCM.out.at_ HCM.out.ck).mono ?_
  rintro e w5 ⟨rfl, hb⟩
  have HB5 := Lib.hid (show Below w.heap.size w w5 from step_below hb (by repeat' (first | exact Below.refl _ _ | exact HB4.out | refine below_drewN ?_ _ | refine Below.drew ?_ | refine Below.alloc ?_ (by first | omega | (simp; done) | (simp; omega) | (simp [World.setCell]; omega)) _ | refine Below.setCell ?_ (by first | omega | (simp; done) | (simp; omega)) _ | assumption)))
  have K0_5 := Lib.hid (step_blk hb (show Blk _ (w.heap.size) 24 #[.slice (some ⟨b1, o1, none⟩) n c1, .slice (some ⟨b2, o2, none⟩) n c2, .slice (some ⟨b3, o3, none⟩) n c3] by repeat' (first | exact K0_4.out | exact Blk.at_ _ (by first | rfl | (simp; done) | (simp; omega)) _ _ | refine Blk.drewN ?_ _ | refine Blk.drew ?_ | refine Blk.alloc ?_ _ | refine Blk.far ?_ (by first | omega | (simp; done) | (simp; omega)) _ | assumption)))
  have hL5 := Lib.hid (show Below w4.heap.size w4 _ from reads_mid hb (by repeat' (first | exact Below.refl _ _ | refine below_drewN ?_ _ | refine Below.drew ?_ | refine Below.alloc ?_ (by first | omega | (simp; done) | (simp; omega) | (simp [World.setCell]; omega)) _ | refine Below.setCell ?_ (by first | omega | (simp; done) | (simp; omega)) _)))
  have R0_5 := Lib.hid (reads_lay hb hL5.out R0_4.out)
  have R1_5 := Lib.hid (reads_lay hb hL5.out R1_4.out)
  have R2_5 := Lib.hid (reads_lay hb hL5.out R2_4.out)
  clear hL5 R0_4 R1_4 R2_4
  have hz5 := hb.size
  try simp only [World.size_alloc, World.drewN, World.drew] at hz5
  clear hb K0_4 z0_0_4 z0_1_4 z0_2_4 l0_4
  have l0_5 : w.heap.size < w5.heap.size := K0_5.out.lt
  have z0_0_5 : w5.cell? ⟨w.heap.size, 0, none⟩ = some (.slice (some ⟨b1, o1, none⟩) n c1) := K0_5.out.cell 0
  have z0_1_5 : w5.cell? ⟨w.heap.size, 1, none⟩ = some (.slice (some ⟨b2, o2, none⟩) n c2) := K0_5.out.cell 1
  have z0_2_5 : w5.cell? ⟨w.heap.size, 2, none⟩ = some (.slice (some ⟨b3, o3, none⟩) n c3) := K0_5.out.cell 2
  clear HCM
  go_wp2_with fail
  generalize hwn : (w5.alloc (.cells #[.int .i64 (a), .int .i64 (b), .int .i64 (c), .int .i64 (d), .int .i64 ((x : Int)), .int .i64 ((y : Int))] 75)) = w6
  have hbn : Below w5.heap.size w5 w6 := by rw [← hwn]; repeat' (first | exact Below.refl _ _ | refine below_drewN ?_ _ | refine Below.drew ?_ | refine Below.alloc ?_ (by first | omega | (simp; done) | (simp; omega) | (simp [World.setCell]; omega)) _ | refine Below.setCell ?_ (by first | omega | (simp; done) | (simp; omega)) _)
  have HB6 := Lib.hid (show Below w.heap.size w w6 from HB5.out.trans (hbn.mono HB5.out.size))
  have K0_6 := Lib.hid (step_blk hbn K0_5.out)
  have K1_6 := Lib.hid (show Blk w6 (w5.heap.size) 75 #[.int .i64 (a), .int .i64 (b), .int .i64 (c), .int .i64 (d), .int .i64 ((x : Int)), .int .i64 ((y : Int))] by rw [← hwn]; repeat' (first | exact Blk.at_ _ (by first | rfl | (simp; done) | (simp; omega)) _ _ | refine Blk.drewN ?_ _ | refine Blk.drew ?_ | refine Blk.alloc ?_ _ | refine Blk.far ?_ (by first | omega | (simp; done) | (simp; omega)) _ | assumption))
  have R0_6 := Lib.hid ((R0_5.out.below hbn).more hbn.size)
  have R1_6 := Lib.hid ((R1_5.out.below hbn).more hbn.size)
  have R2_6 := Lib.hid ((R2_5.out.below hbn).more hbn.size)
  have HN6 := Lib.hid hbn
  have hz6 := hbn.size
  clear hwn hbn K0_5 l0_5 z0_0_5 z0_1_5 z0_2_5 R0_5 R1_5 R2_5
  have l0_6 : w.heap.size < w6.heap.size := K0_6.out.lt
  have z0_0_6 : w6.cell? ⟨w.heap.size, 0, none⟩ = some (.slice (some ⟨b1, o1, none⟩) n c1) := K0_6.out.cell 0
  have z0_1_6 : w6.cell? ⟨w.heap.size, 1, none⟩ = some (.slice (some ⟨b2, o2, none⟩) n c2) := K0_6.out.cell 1
  have z0_2_6 : w6.cell? ⟨w.heap.size, 2, none⟩ = some (.slice (some ⟨b3, o3, none⟩) n c3) := K0_6.out.cell 2
  have l1_6 : w5.heap.size < w6.heap.size := K1_6.out.lt
  have z1_0_6 : w6.cell? ⟨w5.heap.size, 0, none⟩ = some (.int .i64 (a)) := K1_6.out.cell 0
  have z1_1_6 : w6.cell? ⟨w5.heap.size, 1, none⟩ = some (.int .i64 (b)) := K1_6.out.cell 1
  have z1_2_6 : w6.cell? ⟨w5.heap.size, 2, none⟩ = some (.int .i64 (c)) := K1_6.out.cell 2
  have z1_3_6 : w6.cell? ⟨w5.heap.size, 3, none⟩ = some (.int .i64 (d)) := K1_6.out.cell 3
  have z1_4_6 : w6.cell? ⟨w5.heap.size, 4, none⟩ = some (.int .i64 ((x : Int))) := K1_6.out.cell 4
  have z1_5_6 : w6.cell? ⟨w5.heap.size, 5, none⟩ = some (.int .i64 ((y : Int))) := K1_6.out.cell 5
  refine (mapped_ok HE.out n c1 c2 c3 _ _ _ m HEX.out (by omega) _ R0_6.out R1_6.out R2_6.out).mono ?_
  rintro e w7 ⟨x6, rfl, hb, hcm⟩
  have HB7 := Lib.hid (show Below w.heap.size w w7 from step_below hb (by repeat' (first | exact Below.refl _ _ | exact HB6.out | refine below_drewN ?_ _ | refine Below.drew ?_ | refine Below.alloc ?_ (by first | omega | (simp; done) | (simp; omega) | (simp [World.setCell]; omega)) _ | refine Below.setCell ?_ (by first | omega | (simp; done) | (simp; omega)) _ | assumption)))
  have K0_7 := Lib.hid (step_blk hb (show Blk _ (w.heap.size) 24 #[.slice (some ⟨b1, o1, none⟩) n c1, .slice (some ⟨b2, o2, none⟩) n c2, .slice (some ⟨b3, o3, none⟩) n c3] by repeat' (first | exact K0_6.out | exact K1_6.out | exact Blk.at_ _ (by first | rfl | (simp; done) | (simp; omega)) _ _ | refine Blk.drewN ?_ _ | refine Blk.drew ?_ | refine Blk.alloc ?_ _ | refine Blk.far ?_ (by first | omega | (simp; done) | (simp; omega)) _ | assumption)))
  have K1_7 := Lib.hid (step_blk hb (show Blk _ (w5.heap.size) 75 #[.int .i64 (a), .int .i64 (b), .int .i64 (c), .int .i64 (d), .int .i64 ((x : Int)), .int .i64 ((y : Int))] by repeat' (first | exact K0_6.out | exact K1_6.out | exact Blk.at_ _ (by first | rfl | (simp; done) | (simp; omega)) _ _ | refine Blk.drewN ?_ _ | refine Blk.drew ?_ | refine Blk.alloc ?_ _ | refine Blk.far ?_ (by first | omega | (simp; done) | (simp; omega)) _ | assumption)))
  have hL7 := Lib.hid (show Below w6.heap.size w6 _ from reads_mid hb (by repeat' (first | exact Below.refl _ _ | refine below_drewN ?_ _ | refine Below.drew ?_ | refine Below.alloc ?_ (by first | omega | (simp; done) | (simp; omega) | (simp [World.setCell]; omega)) _ | refine Below.setCell ?_ (by first | omega | (simp; done) | (simp; omega)) _)))
  have R0_7 := Lib.hid (reads_lay hb hL7.out R0_6.out)
  have R1_7 := Lib.hid (reads_lay hb hL7.out R1_6.out)
  have R2_7 := Lib.hid (reads_lay hb hL7.out R2_6.out)
  clear hL7 R0_6 R1_6 R2_6
  have hz7 := hb.size
  try simp only [World.size_alloc, World.drewN, World.drew] at hz7
  clear hb K0_6 K1_6 z0_0_6 z0_1_6 z0_2_6 l0_6 z1_0_6 z1_1_6 z1_2_6 z1_3_6 z1_4_6 z1_5_6 l1_6
  have l0_7 : w.heap.size < w7.heap.size := K0_7.out.lt
  have z0_0_7 : w7.cell? ⟨w.heap.size, 0, none⟩ = some (.slice (some ⟨b1, o1, none⟩) n c1) := K0_7.out.cell 0
  have z0_1_7 : w7.cell? ⟨w.heap.size, 1, none⟩ = some (.slice (some ⟨b2, o2, none⟩) n c2) := K0_7.out.cell 1
  have z0_2_7 : w7.cell? ⟨w.heap.size, 2, none⟩ = some (.slice (some ⟨b3, o3, none⟩) n c3) := K0_7.out.cell 2
  have l1_7 : w5.heap.size < w7.heap.size := K1_7.out.lt
  have z1_0_7 : w7.cell? ⟨w5.heap.size, 0, none⟩ = some (.int .i64 (a)) := K1_7.out.cell 0
  have z1_1_7 : w7.cell? ⟨w5.heap.size, 1, none⟩ = some (.int .i64 (b)) := K1_7.out.cell 1
  have z1_2_7 : w7.cell? ⟨w5.heap.size, 2, none⟩ = some (.int .i64 (c)) := K1_7.out.cell 2
  have z1_3_7 : w7.cell? ⟨w5.heap.size, 3, none⟩ = some (.int .i64 (d)) := K1_7.out.cell 3
  have z1_4_7 : w7.cell? ⟨w5.heap.size, 4, none⟩ = some (.int .i64 ((x : Int))) := K1_7.out.cell 4
  have z1_5_7 : w7.cell? ⟨w5.heap.size, 5, none⟩ = some (.int .i64 ((y : Int))) := K1_7.out.cell 5
  have hlk := hcm.like
  have HSX := Lib.hid (show redN (lsumF x6 x6.n) (lwhole x6) = s by rw [hlk.lsum, hlk.lwhole]; exact HSL.out)
  have HVX := Lib.hid (show redD (lsumF x6 x6.n) (lwhole x6) = sv by rw [hlk.lsum, hlk.lwhole]; exact HVL.out)
  have HCM := Lib.hid hcm
  clear hcm hlk
  go_wp2_with fail
  refine (least_ok x6 (HCM.out.like.ok HOK.out) (by rw [HCM.out.like.n]; exact HN19.out) _ HCM.out.at_ HCM.out.ck s sv HSX.out HVX.out).mono ?_
  rintro e w8 ⟨rfl, hb⟩
  have HB8 := Lib.hid (show Below w.heap.size w w8 from step_below hb (by repeat' (first | exact Below.refl _ _ | exact HB7.out | refine below_drewN ?_ _ | refine Below.drew ?_ | refine Below.alloc ?_ (by first | omega | (simp; done) | (simp; omega) | (simp [World.setCell]; omega)) _ | refine Below.setCell ?_ (by first | omega | (simp; done) | (simp; omega)) _ | assumption)))
  have K0_8 := Lib.hid (step_blk hb (show Blk _ (w.heap.size) 24 #[.slice (some ⟨b1, o1, none⟩) n c1, .slice (some ⟨b2, o2, none⟩) n c2, .slice (some ⟨b3, o3, none⟩) n c3] by repeat' (first | exact K0_7.out | exact K1_7.out | exact Blk.at_ _ (by first | rfl | (simp; done) | (simp; omega)) _ _ | refine Blk.drewN ?_ _ | refine Blk.drew ?_ | refine Blk.alloc ?_ _ | refine Blk.far ?_ (by first | omega | (simp; done) | (simp; omega)) _ | assumption)))
  have K1_8 := Lib.hid (step_blk hb (show Blk _ (w5.heap.size) 75 #[.int .i64 (a), .int .i64 (b), .int .i64 (c), .int .i64 (d), .int .i64 ((x : Int)), .int .i64 ((y : Int))] by repeat' (first | exact K0_7.out | exact K1_7.out | exact Blk.at_ _ (by first | rfl | (simp; done) | (simp; omega)) _ _ | refine Blk.drewN ?_ _ | refine Blk.drew ?_ | refine Blk.alloc ?_ _ | refine Blk.far ?_ (by first | omega | (simp; done) | (simp; omega)) _ | assumption)))
  have hL8 := Lib.hid (show Below w7.heap.size w7 _ from reads_mid hb (by repeat' (first | exact Below.refl _ _ | refine below_drewN ?_ _ | refine Below.drew ?_ | refine Below.alloc ?_ (by first | omega | (simp; done) | (simp; omega) | (simp [World.setCell]; omega)) _ | refine Below.setCell ?_ (by first | omega | (simp; done) | (simp; omega)) _)))
  have R0_8 := Lib.hid (reads_lay hb hL8.out R0_7.out)
  have R1_8 := Lib.hid (reads_lay hb hL8.out R1_7.out)
  have R2_8 := Lib.hid (reads_lay hb hL8.out R2_7.out)
  clear hL8 R0_7 R1_7 R2_7
  have hz8 := hb.size
  try simp only [World.size_alloc, World.drewN, World.drew] at hz8
  clear hb K0_7 K1_7 z0_0_7 z0_1_7 z0_2_7 l0_7 z1_0_7 z1_1_7 z1_2_7 z1_3_7 z1_4_7 z1_5_7 l1_7
  have l0_8 : w.heap.size < w8.heap.size := K0_8.out.lt
  have z0_0_8 : w8.cell? ⟨w.heap.size, 0, none⟩ = some (.slice (some ⟨b1, o1, none⟩) n c1) := K0_8.out.cell 0
  have z0_1_8 : w8.cell? ⟨w.heap.size, 1, none⟩ = some (.slice (some ⟨b2, o2, none⟩) n c2) := K0_8.out.cell 1
  have z0_2_8 : w8.cell? ⟨w.heap.size, 2, none⟩ = some (.slice (some ⟨b3, o3, none⟩) n c3) := K0_8.out.cell 2
  have l1_8 : w5.heap.size < w8.heap.size := K1_8.out.lt
  have z1_0_8 : w8.cell? ⟨w5.heap.size, 0, none⟩ = some (.int .i64 (a)) := K1_8.out.cell 0
  have z1_1_8 : w8.cell? ⟨w5.heap.size, 1, none⟩ = some (.int .i64 (b)) := K1_8.out.cell 1
  have z1_2_8 : w8.cell? ⟨w5.heap.size, 2, none⟩ = some (.int .i64 (c)) := K1_8.out.cell 2
  have z1_3_8 : w8.cell? ⟨w5.heap.size, 3, none⟩ = some (.int .i64 (d)) := K1_8.out.cell 3
  have z1_4_8 : w8.cell? ⟨w5.heap.size, 4, none⟩ = some (.int .i64 ((x : Int))) := K1_8.out.cell 4
  have z1_5_8 : w8.cell? ⟨w5.heap.size, 5, none⟩ = some (.int .i64 ((y : Int))) := K1_8.out.cell 5
  clear HCM HSX HVX
  go_wp2_with fail
  generalize hwn : (w8.alloc (.cells #[.int .i64 (s), .int .i64 (sv)] 28)) = w9
  have hbn : Below w8.heap.size w8 w9 := by rw [← hwn]; repeat' (first | exact Below.refl _ _ | refine below_drewN ?_ _ | refine Below.drew ?_ | refine Below.alloc ?_ (by first | omega | (simp; done) | (simp; omega) | (simp [World.setCell]; omega)) _ | refine Below.setCell ?_ (by first | omega | (simp; done) | (simp; omega)) _)
  have HB9 := Lib.hid (show Below w.heap.size w w9 from HB8.out.trans (hbn.mono HB8.out.size))
  have K0_9 := Lib.hid (step_blk hbn K0_8.out)
  have K1_9 := Lib.hid (step_blk hbn K1_8.out)
  have K2_9 := Lib.hid (show Blk w9 (w8.heap.size) 28 #[.int .i64 (s), .int .i64 (sv)] by rw [← hwn]; repeat' (first | exact Blk.at_ _ (by first | rfl | (simp; done) | (simp; omega)) _ _ | refine Blk.drewN ?_ _ | refine Blk.drew ?_ | refine Blk.alloc ?_ _ | refine Blk.far ?_ (by first | omega | (simp; done) | (simp; omega)) _ | assumption))
  have R0_9 := Lib.hid ((R0_8.out.below hbn).more hbn.size)
  have R1_9 := Lib.hid ((R1_8.out.below hbn).more hbn.size)
  have R2_9 := Lib.hid ((R2_8.out.below hbn).more hbn.size)
  have HN9 := Lib.hid hbn
  have hz9 := hbn.size
  clear hwn hbn K0_8 l0_8 z0_0_8 z0_1_8 z0_2_8 K1_8 l1_8 z1_0_8 z1_1_8 z1_2_8 z1_3_8 z1_4_8 z1_5_8 R0_8 R1_8 R2_8
  have l0_9 : w.heap.size < w9.heap.size := K0_9.out.lt
  have z0_0_9 : w9.cell? ⟨w.heap.size, 0, none⟩ = some (.slice (some ⟨b1, o1, none⟩) n c1) := K0_9.out.cell 0
  have z0_1_9 : w9.cell? ⟨w.heap.size, 1, none⟩ = some (.slice (some ⟨b2, o2, none⟩) n c2) := K0_9.out.cell 1
  have z0_2_9 : w9.cell? ⟨w.heap.size, 2, none⟩ = some (.slice (some ⟨b3, o3, none⟩) n c3) := K0_9.out.cell 2
  have l1_9 : w5.heap.size < w9.heap.size := K1_9.out.lt
  have z1_0_9 : w9.cell? ⟨w5.heap.size, 0, none⟩ = some (.int .i64 (a)) := K1_9.out.cell 0
  have z1_1_9 : w9.cell? ⟨w5.heap.size, 1, none⟩ = some (.int .i64 (b)) := K1_9.out.cell 1
  have z1_2_9 : w9.cell? ⟨w5.heap.size, 2, none⟩ = some (.int .i64 (c)) := K1_9.out.cell 2
  have z1_3_9 : w9.cell? ⟨w5.heap.size, 3, none⟩ = some (.int .i64 (d)) := K1_9.out.cell 3
  have z1_4_9 : w9.cell? ⟨w5.heap.size, 4, none⟩ = some (.int .i64 ((x : Int))) := K1_9.out.cell 4
  have z1_5_9 : w9.cell? ⟨w5.heap.size, 5, none⟩ = some (.int .i64 ((y : Int))) := K1_9.out.cell 5
  have l2_9 : w8.heap.size < w9.heap.size := K2_9.out.lt
  have z2_0_9 : w9.cell? ⟨w8.heap.size, 0, none⟩ = some (.int .i64 (s)) := K2_9.out.cell 0
  have z2_1_9 : w9.cell? ⟨w8.heap.size, 1, none⟩ = some (.int .i64 (sv)) := K2_9.out.cell 1
  refine (rcheckmap_is _ n c1 l1 _ n c2 l2 _ n c3 l3 0 HE.out _ R0_9.out R1_9.out R2_9.out (by omega) (by omega) (by omega)).mono ?_
  rintro e w10 ⟨rfl, hb⟩
  have HB10 := Lib.hid (show Below w.heap.size w w10 from step_below hb (by repeat' (first | exact Below.refl _ _ | exact HB9.out | refine below_drewN ?_ _ | refine Below.drew ?_ | refine Below.alloc ?_ (by first | omega | (simp; done) | (simp; omega) | (simp [World.setCell]; omega)) _ | refine Below.setCell ?_ (by first | omega | (simp; done) | (simp; omega)) _ | assumption)))
  have K0_10 := Lib.hid (step_blk hb (show Blk _ (w.heap.size) 24 #[.slice (some ⟨b1, o1, none⟩) n c1, .slice (some ⟨b2, o2, none⟩) n c2, .slice (some ⟨b3, o3, none⟩) n c3] by repeat' (first | exact K0_9.out | exact K1_9.out | exact K2_9.out | exact Blk.at_ _ (by first | rfl | (simp; done) | (simp; omega)) _ _ | refine Blk.drewN ?_ _ | refine Blk.drew ?_ | refine Blk.alloc ?_ _ | refine Blk.far ?_ (by first | omega | (simp; done) | (simp; omega)) _ | assumption)))
  have K1_10 := Lib.hid (step_blk hb (show Blk _ (w5.heap.size) 75 #[.int .i64 (a), .int .i64 (b), .int .i64 (c), .int .i64 (d), .int .i64 ((x : Int)), .int .i64 ((y : Int))] by repeat' (first | exact K0_9.out | exact K1_9.out | exact K2_9.out | exact Blk.at_ _ (by first | rfl | (simp; done) | (simp; omega)) _ _ | refine Blk.drewN ?_ _ | refine Blk.drew ?_ | refine Blk.alloc ?_ _ | refine Blk.far ?_ (by first | omega | (simp; done) | (simp; omega)) _ | assumption)))
  have K2_10 := Lib.hid (step_blk hb (show Blk _ (w8.heap.size) 28 #[.int .i64 (s), .int .i64 (sv)] by repeat' (first | exact K0_9.out | exact K1_9.out | exact K2_9.out | exact Blk.at_ _ (by first | rfl | (simp; done) | (simp; omega)) _ _ | refine Blk.drewN ?_ _ | refine Blk.drew ?_ | refine Blk.alloc ?_ _ | refine Blk.far ?_ (by first | omega | (simp; done) | (simp; omega)) _ | assumption)))
  have hL10 := Lib.hid (show Below w9.heap.size w9 _ from reads_mid hb (by repeat' (first | exact Below.refl _ _ | refine below_drewN ?_ _ | refine Below.drew ?_ | refine Below.alloc ?_ (by first | omega | (simp; done) | (simp; omega) | (simp [World.setCell]; omega)) _ | refine Below.setCell ?_ (by first | omega | (simp; done) | (simp; omega)) _)))
  have R0_10 := Lib.hid (reads_lay hb hL10.out R0_9.out)
  have R1_10 := Lib.hid (reads_lay hb hL10.out R1_9.out)
  have R2_10 := Lib.hid (reads_lay hb hL10.out R2_9.out)
  clear hL10 R0_9 R1_9 R2_9
  have hz10 := hb.size
  try simp only [World.size_alloc, World.drewN, World.drew] at hz10
  clear hb K0_9 K1_9 K2_9 z0_0_9 z0_1_9 z0_2_9 l0_9 z1_0_9 z1_1_9 z1_2_9 z1_3_9 z1_4_9 z1_5_9 l1_9 z2_0_9 z2_1_9 l2_9
  have l0_10 : w.heap.size < w10.heap.size := K0_10.out.lt
  have z0_0_10 : w10.cell? ⟨w.heap.size, 0, none⟩ = some (.slice (some ⟨b1, o1, none⟩) n c1) := K0_10.out.cell 0
  have z0_1_10 : w10.cell? ⟨w.heap.size, 1, none⟩ = some (.slice (some ⟨b2, o2, none⟩) n c2) := K0_10.out.cell 1
  have z0_2_10 : w10.cell? ⟨w.heap.size, 2, none⟩ = some (.slice (some ⟨b3, o3, none⟩) n c3) := K0_10.out.cell 2
  have l1_10 : w5.heap.size < w10.heap.size := K1_10.out.lt
  have z1_0_10 : w10.cell? ⟨w5.heap.size, 0, none⟩ = some (.int .i64 (a)) := K1_10.out.cell 0
  have z1_1_10 : w10.cell? ⟨w5.heap.size, 1, none⟩ = some (.int .i64 (b)) := K1_10.out.cell 1
  have z1_2_10 : w10.cell? ⟨w5.heap.size, 2, none⟩ = some (.int .i64 (c)) := K1_10.out.cell 2
  have z1_3_10 : w10.cell? ⟨w5.heap.size, 3, none⟩ = some (.int .i64 (d)) := K1_10.out.cell 3
  have z1_4_10 : w10.cell? ⟨w5.heap.size, 4, none⟩ = some (.int .i64 ((x : Int))) := K1_10.out.cell 4
  have z1_5_10 : w10.cell? ⟨w5.heap.size, 5, none⟩ = some (.int .i64 ((y : Int))) := K1_10.out.cell 5
  have l2_10 : w8.heap.size < w10.heap.size := K2_10.out.lt
  have z2_0_10 : w10.cell? ⟨w8.heap.size, 0, none⟩ = some (.int .i64 (s)) := K2_10.out.cell 0
  have z2_1_10 : w10.cell? ⟨w8.heap.size, 1, none⟩ = some (.int .i64 (sv)) := K2_10.out.cell 1
  go_wp2_with fail
  refine Fx.regionW (fun W f w' => Below W.heap.size W w') (by kernel_rfl) (by kernel_rfl) ?_ ?_
  · intro f hf0
    exact below_drewN (Below.refl _ _) 1
  repeat (first
    | (refine Fx.skip_ (by rfl) (fun f w h => h) ?_; simp only [Act.put, List.setIfInBounds_toArray, List.set_cons_zero, List.set_cons_succ])
    | (refine Fx.val_ ?_ (by rfl) ?_ (fun f w h => h) ?_
       rotate_left
       · intro f w' hD hk
         have hb := hD
         have kb0 := step_blk hb (show Blk _ (w.heap.size) 24 #[.slice (some ⟨b1, o1, none⟩) n c1, .slice (some ⟨b2, o2, none⟩) n c2, .slice (some ⟨b3, o3, none⟩) n c3] by repeat' (first | exact K0_10.out | exact K1_10.out | exact K2_10.out | exact Blk.at_ _ (by first | rfl | (simp; done) | (simp; omega)) _ _ | refine Blk.drewN ?_ _ | refine Blk.drew ?_ | refine Blk.alloc ?_ _ | refine Blk.far ?_ (by first | omega | (simp; done) | (simp; omega)) _ | assumption))
         have y0_0 : w'.cell? ⟨w.heap.size, 0, none⟩ = some (.slice (some ⟨b1, o1, none⟩) n c1) := kb0.cell 0
         have y0_1 : w'.cell? ⟨w.heap.size, 1, none⟩ = some (.slice (some ⟨b2, o2, none⟩) n c2) := kb0.cell 1
         have y0_2 : w'.cell? ⟨w.heap.size, 2, none⟩ = some (.slice (some ⟨b3, o3, none⟩) n c3) := kb0.cell 2
         have kb1 := step_blk hb (show Blk _ (w5.heap.size) 75 #[.int .i64 (a), .int .i64 (b), .int .i64 (c), .int .i64 (d), .int .i64 ((x : Int)), .int .i64 ((y : Int))] by repeat' (first | exact K0_10.out | exact K1_10.out | exact K2_10.out | exact Blk.at_ _ (by first | rfl | (simp; done) | (simp; omega)) _ _ | refine Blk.drewN ?_ _ | refine Blk.drew ?_ | refine Blk.alloc ?_ _ | refine Blk.far ?_ (by first | omega | (simp; done) | (simp; omega)) _ | assumption))
         have y1_0 : w'.cell? ⟨w5.heap.size, 0, none⟩ = some (.int .i64 (a)) := kb1.cell 0
         have y1_1 : w'.cell? ⟨w5.heap.size, 1, none⟩ = some (.int .i64 (b)) := kb1.cell 1
         have y1_2 : w'.cell? ⟨w5.heap.size, 2, none⟩ = some (.int .i64 (c)) := kb1.cell 2
         have y1_3 : w'.cell? ⟨w5.heap.size, 3, none⟩ = some (.int .i64 (d)) := kb1.cell 3
         have y1_4 : w'.cell? ⟨w5.heap.size, 4, none⟩ = some (.int .i64 ((x : Int))) := kb1.cell 4
         have y1_5 : w'.cell? ⟨w5.heap.size, 5, none⟩ = some (.int .i64 ((y : Int))) := kb1.cell 5
         have kb2 := step_blk hb (show Blk _ (w8.heap.size) 28 #[.int .i64 (s), .int .i64 (sv)] by repeat' (first | exact K0_10.out | exact K1_10.out | exact K2_10.out | exact Blk.at_ _ (by first | rfl | (simp; done) | (simp; omega)) _ _ | refine Blk.drewN ?_ _ | refine Blk.drew ?_ | refine Blk.alloc ?_ _ | refine Blk.far ?_ (by first | omega | (simp; done) | (simp; omega)) _ | assumption))
         have y2_0 : w'.cell? ⟨w8.heap.size, 0, none⟩ = some (.int .i64 (s)) := kb2.cell 0
         have y2_1 : w'.cell? ⟨w8.heap.size, 1, none⟩ = some (.int .i64 (sv)) := kb2.cell 1
         clear kb0 kb1 kb2
         clear hk hD hb
         go_simp
         try rfl
       simp only [Act.put, List.setIfInBounds_toArray, List.set_cons_zero, List.set_cons_succ]))
  refine Fx.call_ (.int .i64 (0)) ?_ ?_ (by rfl) ?_ ?_ ?_
  rotate_left 2
  · intro w'
    go_simp
    refine ⟨?_, ?_⟩ <;> rfl
  · intro f w' hD hk
    exact (rcheckline_is a b c d (x : Int) (y : Int) 0 HL.out ia ib ic jd w').mono fun e w'' ⟨he, hw⟩ => ⟨he, step_below hw hD⟩
  simp only [Act.put, List.setIfInBounds_toArray, List.set_cons_zero, List.set_cons_succ]
  repeat (first
    | (refine Fx.skip_ (by rfl) (fun f w h => h) ?_; simp only [Act.put, List.setIfInBounds_toArray, List.set_cons_zero, List.set_cons_succ])
    | (refine Fx.val_ ?_ (by rfl) ?_ (fun f w h => h) ?_
       rotate_left
       · intro f w' hD hk
         have hb := hD
         have kb0 := step_blk hb (show Blk _ (w.heap.size) 24 #[.slice (some ⟨b1, o1, none⟩) n c1, .slice (some ⟨b2, o2, none⟩) n c2, .slice (some ⟨b3, o3, none⟩) n c3] by repeat' (first | exact K0_10.out | exact K1_10.out | exact K2_10.out | exact Blk.at_ _ (by first | rfl | (simp; done) | (simp; omega)) _ _ | refine Blk.drewN ?_ _ | refine Blk.drew ?_ | refine Blk.alloc ?_ _ | refine Blk.far ?_ (by first | omega | (simp; done) | (simp; omega)) _ | assumption))
         have y0_0 : w'.cell? ⟨w.heap.size, 0, none⟩ = some (.slice (some ⟨b1, o1, none⟩) n c1) := kb0.cell 0
         have y0_1 : w'.cell? ⟨w.heap.size, 1, none⟩ = some (.slice (some ⟨b2, o2, none⟩) n c2) := kb0.cell 1
         have y0_2 : w'.cell? ⟨w.heap.size, 2, none⟩ = some (.slice (some ⟨b3, o3, none⟩) n c3) := kb0.cell 2
         have kb1 := step_blk hb (show Blk _ (w5.heap.size) 75 #[.int .i64 (a), .int .i64 (b), .int .i64 (c), .int .i64 (d), .int .i64 ((x : Int)), .int .i64 ((y : Int))] by repeat' (first | exact K0_10.out | exact K1_10.out | exact K2_10.out | exact Blk.at_ _ (by first | rfl | (simp; done) | (simp; omega)) _ _ | refine Blk.drewN ?_ _ | refine Blk.drew ?_ | refine Blk.alloc ?_ _ | refine Blk.far ?_ (by first | omega | (simp; done) | (simp; omega)) _ | assumption))
         have y1_0 : w'.cell? ⟨w5.heap.size, 0, none⟩ = some (.int .i64 (a)) := kb1.cell 0
         have y1_1 : w'.cell? ⟨w5.heap.size, 1, none⟩ = some (.int .i64 (b)) := kb1.cell 1
         have y1_2 : w'.cell? ⟨w5.heap.size, 2, none⟩ = some (.int .i64 (c)) := kb1.cell 2
         have y1_3 : w'.cell? ⟨w5.heap.size, 3, none⟩ = some (.int .i64 (d)) := kb1.cell 3
         have y1_4 : w'.cell? ⟨w5.heap.size, 4, none⟩ = some (.int .i64 ((x : Int))) := kb1.cell 4
         have y1_5 : w'.cell? ⟨w5.heap.size, 5, none⟩ = some (.int .i64 ((y : Int))) := kb1.cell 5
         have kb2 := step_blk hb (show Blk _ (w8.heap.size) 28 #[.int .i64 (s), .int .i64 (sv)] by repeat' (first | exact K0_10.out | exact K1_10.out | exact K2_10.out | exact Blk.at_ _ (by first | rfl | (simp; done) | (simp; omega)) _ _ | refine Blk.drewN ?_ _ | refine Blk.drew ?_ | refine Blk.alloc ?_ _ | refine Blk.far ?_ (by first | omega | (simp; done) | (simp; omega)) _ | assumption))
         have y2_0 : w'.cell? ⟨w8.heap.size, 0, none⟩ = some (.int .i64 (s)) := kb2.cell 0
         have y2_1 : w'.cell? ⟨w8.heap.size, 1, none⟩ = some (.int .i64 (sv)) := kb2.cell 1
         clear kb0 kb1 kb2
         clear hk hD hb
         go_simp
         try rfl
       simp only [Act.put, List.setIfInBounds_toArray, List.set_cons_zero, List.set_cons_succ]))
  refine Fx.call_ (.agg #[.int .i64 s, .int .i64 sv]) ?_ ?_ (by rfl) ?_ ?_ ?_
  rotate_left 2
  · intro w'
    go_simp
    refine ⟨?_, ?_⟩ <;> rfl
  · intro f w' hD hk
    exact (HRL.out w' (HAT.out.lay (HB10.out.trans (hD.mono HB10.out.size)))).mono fun e w'' ⟨he, hw⟩ => ⟨he, step_below hw hD⟩
  simp only [Act.put, List.setIfInBounds_toArray, List.set_cons_zero, List.set_cons_succ]
  repeat (first
    | (refine Fx.skip_ (by rfl) (fun f w h => h) ?_; simp only [Act.put, List.setIfInBounds_toArray, List.set_cons_zero, List.set_cons_succ])
    | (refine Fx.val_ ?_ (by rfl) ?_ (fun f w h => h) ?_
       rotate_left
       · intro f w' hD hk
         have hb := hD
         have kb0 := step_blk hb (show Blk _ (w.heap.size) 24 #[.slice (some ⟨b1, o1, none⟩) n c1, .slice (some ⟨b2, o2, none⟩) n c2, .slice (some ⟨b3, o3, none⟩) n c3] by repeat' (first | exact K0_10.out | exact K1_10.out | exact K2_10.out | exact Blk.at_ _ (by first | rfl | (simp; done) | (simp; omega)) _ _ | refine Blk.drewN ?_ _ | refine Blk.drew ?_ | refine Blk.alloc ?_ _ | refine Blk.far ?_ (by first | omega | (simp; done) | (simp; omega)) _ | assumption))
         have y0_0 : w'.cell? ⟨w.heap.size, 0, none⟩ = some (.slice (some ⟨b1, o1, none⟩) n c1) := kb0.cell 0
         have y0_1 : w'.cell? ⟨w.heap.size, 1, none⟩ = some (.slice (some ⟨b2, o2, none⟩) n c2) := kb0.cell 1
         have y0_2 : w'.cell? ⟨w.heap.size, 2, none⟩ = some (.slice (some ⟨b3, o3, none⟩) n c3) := kb0.cell 2
         have kb1 := step_blk hb (show Blk _ (w5.heap.size) 75 #[.int .i64 (a), .int .i64 (b), .int .i64 (c), .int .i64 (d), .int .i64 ((x : Int)), .int .i64 ((y : Int))] by repeat' (first | exact K0_10.out | exact K1_10.out | exact K2_10.out | exact Blk.at_ _ (by first | rfl | (simp; done) | (simp; omega)) _ _ | refine Blk.drewN ?_ _ | refine Blk.drew ?_ | refine Blk.alloc ?_ _ | refine Blk.far ?_ (by first | omega | (simp; done) | (simp; omega)) _ | assumption))
         have y1_0 : w'.cell? ⟨w5.heap.size, 0, none⟩ = some (.int .i64 (a)) := kb1.cell 0
         have y1_1 : w'.cell? ⟨w5.heap.size, 1, none⟩ = some (.int .i64 (b)) := kb1.cell 1
         have y1_2 : w'.cell? ⟨w5.heap.size, 2, none⟩ = some (.int .i64 (c)) := kb1.cell 2
         have y1_3 : w'.cell? ⟨w5.heap.size, 3, none⟩ = some (.int .i64 (d)) := kb1.cell 3
         have y1_4 : w'.cell? ⟨w5.heap.size, 4, none⟩ = some (.int .i64 ((x : Int))) := kb1.cell 4
         have y1_5 : w'.cell? ⟨w5.heap.size, 5, none⟩ = some (.int .i64 ((y : Int))) := kb1.cell 5
         have kb2 := step_blk hb (show Blk _ (w8.heap.size) 28 #[.int .i64 (s), .int .i64 (sv)] by repeat' (first | exact K0_10.out | exact K1_10.out | exact K2_10.out | exact Blk.at_ _ (by first | rfl | (simp; done) | (simp; omega)) _ _ | refine Blk.drewN ?_ _ | refine Blk.drew ?_ | refine Blk.alloc ?_ _ | refine Blk.far ?_ (by first | omega | (simp; done) | (simp; omega)) _ | assumption))
         have y2_0 : w'.cell? ⟨w8.heap.size, 0, none⟩ = some (.int .i64 (s)) := kb2.cell 0
         have y2_1 : w'.cell? ⟨w8.heap.size, 1, none⟩ = some (.int .i64 (sv)) := kb2.cell 1
         clear kb0 kb1 kb2
         clear hk hD hb
         go_simp
         try rfl
       simp only [Act.put, List.setIfInBounds_toArray, List.set_cons_zero, List.set_cons_succ]))
  refine Fx.nil_ ?_
  intro f w11 hall hb
  try clear hall
  have HB1011 := Lib.hid hb
  have HB11 := Lib.hid (show Below w.heap.size w w11 from step_below hb (by repeat' (first | exact Below.refl _ _ | exact HB10.out | refine below_drewN ?_ _ | refine Below.drew ?_ | refine Below.alloc ?_ (by first | omega | (simp; done) | (simp; omega) | (simp [World.setCell]; omega)) _ | refine Below.setCell ?_ (by first | omega | (simp; done) | (simp; omega)) _ | assumption)))
  have K0_11 := Lib.hid (step_blk hb (show Blk _ (w.heap.size) 24 #[.slice (some ⟨b1, o1, none⟩) n c1, .slice (some ⟨b2, o2, none⟩) n c2, .slice (some ⟨b3, o3, none⟩) n c3] by repeat' (first | exact K0_10.out | exact K1_10.out | exact K2_10.out | exact Blk.at_ _ (by first | rfl | (simp; done) | (simp; omega)) _ _ | refine Blk.drewN ?_ _ | refine Blk.drew ?_ | refine Blk.alloc ?_ _ | refine Blk.far ?_ (by first | omega | (simp; done) | (simp; omega)) _ | assumption)))
  have K1_11 := Lib.hid (step_blk hb (show Blk _ (w5.heap.size) 75 #[.int .i64 (a), .int .i64 (b), .int .i64 (c), .int .i64 (d), .int .i64 ((x : Int)), .int .i64 ((y : Int))] by repeat' (first | exact K0_10.out | exact K1_10.out | exact K2_10.out | exact Blk.at_ _ (by first | rfl | (simp; done) | (simp; omega)) _ _ | refine Blk.drewN ?_ _ | refine Blk.drew ?_ | refine Blk.alloc ?_ _ | refine Blk.far ?_ (by first | omega | (simp; done) | (simp; omega)) _ | assumption)))
  have K2_11 := Lib.hid (step_blk hb (show Blk _ (w8.heap.size) 28 #[.int .i64 (s), .int .i64 (sv)] by repeat' (first | exact K0_10.out | exact K1_10.out | exact K2_10.out | exact Blk.at_ _ (by first | rfl | (simp; done) | (simp; omega)) _ _ | refine Blk.drewN ?_ _ | refine Blk.drew ?_ | refine Blk.alloc ?_ _ | refine Blk.far ?_ (by first | omega | (simp; done) | (simp; omega)) _ | assumption)))
  have hL11 := Lib.hid (show Below w10.heap.size w10 _ from reads_mid hb (by repeat' (first | exact Below.refl _ _ | refine below_drewN ?_ _ | refine Below.drew ?_ | refine Below.alloc ?_ (by first | omega | (simp; done) | (simp; omega) | (simp [World.setCell]; omega)) _ | refine Below.setCell ?_ (by first | omega | (simp; done) | (simp; omega)) _)))
  have R0_11 := Lib.hid (reads_lay hb hL11.out R0_10.out)
  have R1_11 := Lib.hid (reads_lay hb hL11.out R1_10.out)
  have R2_11 := Lib.hid (reads_lay hb hL11.out R2_10.out)
  clear hL11 R0_10 R1_10 R2_10
  have hz11 := hb.size
  try simp only [World.size_alloc, World.drewN, World.drew] at hz11
  clear hb K0_10 K1_10 K2_10 z0_0_10 z0_1_10 z0_2_10 l0_10 z1_0_10 z1_1_10 z1_2_10 z1_3_10 z1_4_10 z1_5_10 l1_10 z2_0_10 z2_1_10 l2_10
  have l0_11 : w.heap.size < w11.heap.size := K0_11.out.lt
  have z0_0_11 : w11.cell? ⟨w.heap.size, 0, none⟩ = some (.slice (some ⟨b1, o1, none⟩) n c1) := K0_11.out.cell 0
  have z0_1_11 : w11.cell? ⟨w.heap.size, 1, none⟩ = some (.slice (some ⟨b2, o2, none⟩) n c2) := K0_11.out.cell 1
  have z0_2_11 : w11.cell? ⟨w.heap.size, 2, none⟩ = some (.slice (some ⟨b3, o3, none⟩) n c3) := K0_11.out.cell 2
  have l1_11 : w5.heap.size < w11.heap.size := K1_11.out.lt
  have z1_0_11 : w11.cell? ⟨w5.heap.size, 0, none⟩ = some (.int .i64 (a)) := K1_11.out.cell 0
  have z1_1_11 : w11.cell? ⟨w5.heap.size, 1, none⟩ = some (.int .i64 (b)) := K1_11.out.cell 1
  have z1_2_11 : w11.cell? ⟨w5.heap.size, 2, none⟩ = some (.int .i64 (c)) := K1_11.out.cell 2
  have z1_3_11 : w11.cell? ⟨w5.heap.size, 3, none⟩ = some (.int .i64 (d)) := K1_11.out.cell 3
  have z1_4_11 : w11.cell? ⟨w5.heap.size, 4, none⟩ = some (.int .i64 ((x : Int))) := K1_11.out.cell 4
  have z1_5_11 : w11.cell? ⟨w5.heap.size, 5, none⟩ = some (.int .i64 ((y : Int))) := K1_11.out.cell 5
  have l2_11 : w8.heap.size < w11.heap.size := K2_11.out.lt
  have z2_0_11 : w11.cell? ⟨w8.heap.size, 0, none⟩ = some (.int .i64 (s)) := K2_11.out.cell 0
  have z2_1_11 : w11.cell? ⟨w8.heap.size, 1, none⟩ = some (.int .i64 (sv)) := K2_11.out.cell 1
  go_wp2_with fail
  refine (HRC.out _ (HAT.out.lay HB11.out)).mono ?_
  rintro e w12 ⟨rfl, hb⟩
  have HB12 := Lib.hid (show Below w.heap.size w w12 from step_below hb (by repeat' (first | exact Below.refl _ _ | exact HB11.out | refine below_drewN ?_ _ | refine Below.drew ?_ | refine Below.alloc ?_ (by first | omega | (simp; done) | (simp; omega) | (simp [World.setCell]; omega)) _ | refine Below.setCell ?_ (by first | omega | (simp; done) | (simp; omega)) _ | assumption)))
  have K0_12 := Lib.hid (step_blk hb (show Blk _ (w.heap.size) 24 #[.slice (some ⟨b1, o1, none⟩) n c1, .slice (some ⟨b2, o2, none⟩) n c2, .slice (some ⟨b3, o3, none⟩) n c3] by repeat' (first | exact K0_11.out | exact K1_11.out | exact K2_11.out | exact Blk.at_ _ (by first | rfl | (simp; done) | (simp; omega)) _ _ | refine Blk.drewN ?_ _ | refine Blk.drew ?_ | refine Blk.alloc ?_ _ | refine Blk.far ?_ (by first | omega | (simp; done) | (simp; omega)) _ | assumption)))
  have K1_12 := Lib.hid (step_blk hb (show Blk _ (w5.heap.size) 75 #[.int .i64 (a), .int .i64 (b), .int .i64 (c), .int .i64 (d), .int .i64 ((x : Int)), .int .i64 ((y : Int))] by repeat' (first | exact K0_11.out | exact K1_11.out | exact K2_11.out | exact Blk.at_ _ (by first | rfl | (simp; done) | (simp; omega)) _ _ | refine Blk.drewN ?_ _ | refine Blk.drew ?_ | refine Blk.alloc ?_ _ | refine Blk.far ?_ (by first | omega | (simp; done) | (simp; omega)) _ | assumption)))
  have K2_12 := Lib.hid (step_blk hb (show Blk _ (w8.heap.size) 28 #[.int .i64 (s), .int .i64 (sv)] by repeat' (first | exact K0_11.out | exact K1_11.out | exact K2_11.out | exact Blk.at_ _ (by first | rfl | (simp; done) | (simp; omega)) _ _ | refine Blk.drewN ?_ _ | refine Blk.drew ?_ | refine Blk.alloc ?_ _ | refine Blk.far ?_ (by first | omega | (simp; done) | (simp; omega)) _ | assumption)))
  have hL12 := Lib.hid (show Below w11.heap.size w11 _ from reads_mid hb (by repeat' (first | exact Below.refl _ _ | refine below_drewN ?_ _ | refine Below.drew ?_ | refine Below.alloc ?_ (by first | omega | (simp; done) | (simp; omega) | (simp [World.setCell]; omega)) _ | refine Below.setCell ?_ (by first | omega | (simp; done) | (simp; omega)) _)))
  have R0_12 := Lib.hid (reads_lay hb hL12.out R0_11.out)
  have R1_12 := Lib.hid (reads_lay hb hL12.out R1_11.out)
  have R2_12 := Lib.hid (reads_lay hb hL12.out R2_11.out)
  clear hL12 R0_11 R1_11 R2_11
  have hz12 := hb.size
  try simp only [World.size_alloc, World.drewN, World.drew] at hz12
  clear hb K0_11 K1_11 K2_11 z0_0_11 z0_1_11 z0_2_11 l0_11 z1_0_11 z1_1_11 z1_2_11 z1_3_11 z1_4_11 z1_5_11 l1_11 z2_0_11 z2_1_11 l2_11
  have l0_12 : w.heap.size < w12.heap.size := K0_12.out.lt
  have z0_0_12 : w12.cell? ⟨w.heap.size, 0, none⟩ = some (.slice (some ⟨b1, o1, none⟩) n c1) := K0_12.out.cell 0
  have z0_1_12 : w12.cell? ⟨w.heap.size, 1, none⟩ = some (.slice (some ⟨b2, o2, none⟩) n c2) := K0_12.out.cell 1
  have z0_2_12 : w12.cell? ⟨w.heap.size, 2, none⟩ = some (.slice (some ⟨b3, o3, none⟩) n c3) := K0_12.out.cell 2
  have l1_12 : w5.heap.size < w12.heap.size := K1_12.out.lt
  have z1_0_12 : w12.cell? ⟨w5.heap.size, 0, none⟩ = some (.int .i64 (a)) := K1_12.out.cell 0
  have z1_1_12 : w12.cell? ⟨w5.heap.size, 1, none⟩ = some (.int .i64 (b)) := K1_12.out.cell 1
  have z1_2_12 : w12.cell? ⟨w5.heap.size, 2, none⟩ = some (.int .i64 (c)) := K1_12.out.cell 2
  have z1_3_12 : w12.cell? ⟨w5.heap.size, 3, none⟩ = some (.int .i64 (d)) := K1_12.out.cell 3
  have z1_4_12 : w12.cell? ⟨w5.heap.size, 4, none⟩ = some (.int .i64 ((x : Int))) := K1_12.out.cell 4
  have z1_5_12 : w12.cell? ⟨w5.heap.size, 5, none⟩ = some (.int .i64 ((y : Int))) := K1_12.out.cell 5
  have l2_12 : w8.heap.size < w12.heap.size := K2_12.out.lt
  have z2_0_12 : w12.cell? ⟨w8.heap.size, 0, none⟩ = some (.int .i64 (s)) := K2_12.out.cell 0
  have z2_1_12 : w12.cell? ⟨w8.heap.size, 1, none⟩ = some (.int .i64 (sv)) := K2_12.out.cell 1
  go_wp2_with fail
  refine Fx.regionM (fun W g f w' => Kt (PfMR m n []) W g w') (fun i (x : Rm × Pick) => x.1.val) (by kernel_rfl) ?_ ?_
  · intro f hf0
    exact Kt.start
  first
  | (refine Fx.WM.skip 0 (by rfl) (by kernel_rfl) (by kernel_rfl) (by kernel_rfl) (by rfl) (fun g f w h => h) ?_; simp only [Act.put, List.setIfInBounds_toArray, List.set_cons_zero, List.set_cons_succ])
  | (refine Fx.WM.val_ 0 ?_ (by rfl) (by kernel_rfl) (by kernel_rfl) (by kernel_rfl) (by rfl) ?_ (fun g f w h => h) ?_
     rotate_left
     · intro g f w' hx hD hk
       obtain hkp := id hD
       have y0_0 := (K0_12.out.below hkp.bel l0_12).cell 0
       have y0_1 := (K0_12.out.below hkp.bel l0_12).cell 1
       have y0_2 := (K0_12.out.below hkp.bel l0_12).cell 2
       have y1_0 := (K1_12.out.below hkp.bel l1_12).cell 0
       have y1_1 := (K1_12.out.below hkp.bel l1_12).cell 1
       have y1_2 := (K1_12.out.below hkp.bel l1_12).cell 2
       have y1_3 := (K1_12.out.below hkp.bel l1_12).cell 3
       have y1_4 := (K1_12.out.below hkp.bel l1_12).cell 4
       have y1_5 := (K1_12.out.below hkp.bel l1_12).cell 5
       clear hx hk hD hkp
       go_simp
       try rfl
     simp only [Act.put, List.setIfInBounds_toArray, List.set_cons_zero, List.set_cons_succ])
  first
  | (refine Fx.WM.skip 2 (by rfl) (by kernel_rfl) (by kernel_rfl) (by kernel_rfl) (by rfl) (fun g f w h => h) ?_; simp only [Act.put, List.setIfInBounds_toArray, List.set_cons_zero, List.set_cons_succ])
  | (refine Fx.WM.val_ 2 ?_ (by rfl) (by kernel_rfl) (by kernel_rfl) (by kernel_rfl) (by rfl) ?_ (fun g f w h => h) ?_
     rotate_left
     · intro g f w' hx hD hk
       obtain hkp := id hD
       have y0_0 := (K0_12.out.below hkp.bel l0_12).cell 0
       have y0_1 := (K0_12.out.below hkp.bel l0_12).cell 1
       have y0_2 := (K0_12.out.below hkp.bel l0_12).cell 2
       have y1_0 := (K1_12.out.below hkp.bel l1_12).cell 0
       have y1_1 := (K1_12.out.below hkp.bel l1_12).cell 1
       have y1_2 := (K1_12.out.below hkp.bel l1_12).cell 2
       have y1_3 := (K1_12.out.below hkp.bel l1_12).cell 3
       have y1_4 := (K1_12.out.below hkp.bel l1_12).cell 4
       have y1_5 := (K1_12.out.below hkp.bel l1_12).cell 5
       clear hx hk hD hkp
       go_simp
       try rfl
     simp only [Act.put, List.setIfInBounds_toArray, List.set_cons_zero, List.set_cons_succ])
  refine Fx.WM.choose 1 (by rfl) (by kernel_rfl) (by rfl) ?_ ?_
  · skip
    refine Fx.Chooses.call ?_ ?_ (by rfl) ?_ ?_
    rotate_left 2
    · intro w'
      go_simp
      refine ⟨?_, ?_⟩ <;> rfl
    · intro f w' hD hk
      exact (mapped_ok HE.out n c1 c2 c3 _ _ _ m HEX.out (by omega) w' ((R0_12.out.below hD.bel).more hD.bel.size) ((R1_12.out.below hD.bel).more hD.bel.size) ((R2_12.out.below hD.bel).more hD.bel.size)).mono fun e w'' ⟨x, he, hb, hcm⟩ => ⟨(x, (none, 0)), he, hD.choose PfMR.stb hb 1 _ ⟨fun _ => hcm, fun e => absurd e (by decide)⟩⟩
  intro z
  simp only [Act.put, List.setIfInBounds_toArray, List.set_cons_zero, List.set_cons_succ]
  refine Fx.WM.call 3 (.tuple #[.int .i64 0, .int .i64 0]) ?_ ?_ (by rfl) (by kernel_rfl) (by kernel_rfl) (by kernel_rfl) (by rfl) ?_ ?_ ?_
  rotate_left 2
  · intro w'
    go_simp
    refine ⟨?_, ?_⟩ <;> rfl
  · intro g f w' hx hD hk
    exact (cref_is z.1 (((hD.has 1 z (hx 1 _ (by rfl))).1 rfl).like.ok HOK.out) a b c d (x : Int) (y : Int) HL.out ia ib ic jd ix iy (0, 0) (((((hD.has 1 z (hx 1 _ (by rfl))).1 rfl).like.cref a b c d (x : Int) (y : Int))).trans HCR.out) w' ((hD.has 1 z (hx 1 _ (by rfl))).1 rfl).at_ ((hD.has 1 z (hx 1 _ (by rfl))).1 rfl).ck).mono fun e w'' ⟨he, hw⟩ => ⟨he, hD.call PfMR.stb hw⟩
  simp only [Act.put, List.setIfInBounds_toArray, List.set_cons_zero, List.set_cons_succ]
  first
  | (refine Fx.WM.skip 4 (by rfl) (by kernel_rfl) (by kernel_rfl) (by kernel_rfl) (by rfl) (fun g f w h => h) ?_; simp only [Act.put, List.setIfInBounds_toArray, List.set_cons_zero, List.set_cons_succ])
  | (refine Fx.WM.val_ 4 ?_ (by rfl) (by kernel_rfl) (by kernel_rfl) (by kernel_rfl) (by rfl) ?_ (fun g f w h => h) ?_
     rotate_left
     · intro g f w' hx hD hk
       obtain hkp := id hD
       clear hx hk hD hkp
       go_simp
       try rfl
     simp only [Act.put, List.setIfInBounds_toArray, List.set_cons_zero, List.set_cons_succ])
  first
  | (refine Fx.WM.skip 5 (by rfl) (by kernel_rfl) (by kernel_rfl) (by kernel_rfl) (by rfl) (fun g f w h => h) ?_; simp only [Act.put, List.setIfInBounds_toArray, List.set_cons_zero, List.set_cons_succ])
  | (refine Fx.WM.val_ 5 ?_ (by rfl) (by kernel_rfl) (by kernel_rfl) (by kernel_rfl) (by rfl) ?_ (fun g f w h => h) ?_
     rotate_left
     · intro g f w' hx hD hk
       obtain hkp := id hD
       clear hx hk hD hkp
       go_simp
       try rfl
     simp only [Act.put, List.setIfInBounds_toArray, List.set_cons_zero, List.set_cons_succ])
  first
  | (refine Fx.WM.skip 6 (by rfl) (by kernel_rfl) (by kernel_rfl) (by kernel_rfl) (by rfl) (fun g f w h => h) ?_; simp only [Act.put, List.setIfInBounds_toArray, List.set_cons_zero, List.set_cons_succ])
  | (refine Fx.WM.val_ 6 ?_ (by rfl) (by kernel_rfl) (by kernel_rfl) (by kernel_rfl) (by rfl) ?_ (fun g f w h => h) ?_
     rotate_left
     · intro g f w' hx hD hk
       obtain hkp := id hD
       clear hx hk hD hkp
       go_simp
       try rfl
     simp only [Act.put, List.setIfInBounds_toArray, List.set_cons_zero, List.set_cons_succ])
  first
  | (refine Fx.WM.skip 7 (by rfl) (by kernel_rfl) (by kernel_rfl) (by kernel_rfl) (by rfl) (fun g f w h => h) ?_; simp only [Act.put, List.setIfInBounds_toArray, List.set_cons_zero, List.set_cons_succ])
  | (refine Fx.WM.val_ 7 ?_ (by rfl) (by kernel_rfl) (by kernel_rfl) (by kernel_rfl) (by rfl) ?_ (fun g f w h => h) ?_
     rotate_left
     · intro g f w' hx hD hk
       obtain hkp := id hD
       clear hx hk hD hkp
       go_simp
       try rfl
     simp only [Act.put, List.setIfInBounds_toArray, List.set_cons_zero, List.set_cons_succ])
  first
  | (refine Fx.WM.skip 8 (by rfl) (by kernel_rfl) (by kernel_rfl) (by kernel_rfl) (by rfl) (fun g f w h => h) ?_; simp only [Act.put, List.setIfInBounds_toArray, List.set_cons_zero, List.set_cons_succ])
  | (refine Fx.WM.val_ 8 ?_ (by rfl) (by kernel_rfl) (by kernel_rfl) (by kernel_rfl) (by rfl) ?_ (fun g f w h => h) ?_
     rotate_left
     · intro g f w' hx hD hk
       obtain hkp := id hD
       clear hx hk hD hkp
       go_simp
       try rfl
     simp only [Act.put, List.setIfInBounds_toArray, List.set_cons_zero, List.set_cons_succ])
  refine Fx.WM.nil (by kernel_rfl) ?_
  intro wz hkp
  have hb := hkp.bel
  clear hkp
  obtain ⟨w13, hnm⟩ : ∃ z : World, z = wz := ⟨_, rfl⟩
  subst hnm
  have HB13 := Lib.hid (show Below w.heap.size w w13 from step_below hb (by repeat' (first | exact Below.refl _ _ | exact HB12.out | refine below_drewN ?_ _ | refine Below.drew ?_ | refine Below.alloc ?_ (by first | omega | (simp; done) | (simp; omega) | (simp [World.setCell]; omega)) _ | refine Below.setCell ?_ (by first | omega | (simp; done) | (simp; omega)) _ | assumption)))
  have K0_13 := Lib.hid (step_blk hb (show Blk _ (w.heap.size) 24 #[.slice (some ⟨b1, o1, none⟩) n c1, .slice (some ⟨b2, o2, none⟩) n c2, .slice (some ⟨b3, o3, none⟩) n c3] by repeat' (first | exact K0_12.out | exact K1_12.out | exact K2_12.out | exact Blk.at_ _ (by first | rfl | (simp; done) | (simp; omega)) _ _ | refine Blk.drewN ?_ _ | refine Blk.drew ?_ | refine Blk.alloc ?_ _ | refine Blk.far ?_ (by first | omega | (simp; done) | (simp; omega)) _ | assumption)))
  have K1_13 := Lib.hid (step_blk hb (show Blk _ (w5.heap.size) 75 #[.int .i64 (a), .int .i64 (b), .int .i64 (c), .int .i64 (d), .int .i64 ((x : Int)), .int .i64 ((y : Int))] by repeat' (first | exact K0_12.out | exact K1_12.out | exact K2_12.out | exact Blk.at_ _ (by first | rfl | (simp; done) | (simp; omega)) _ _ | refine Blk.drewN ?_ _ | refine Blk.drew ?_ | refine Blk.alloc ?_ _ | refine Blk.far ?_ (by first | omega | (simp; done) | (simp; omega)) _ | assumption)))
  have K2_13 := Lib.hid (step_blk hb (show Blk _ (w8.heap.size) 28 #[.int .i64 (s), .int .i64 (sv)] by repeat' (first | exact K0_12.out | exact K1_12.out | exact K2_12.out | exact Blk.at_ _ (by first | rfl | (simp; done) | (simp; omega)) _ _ | refine Blk.drewN ?_ _ | refine Blk.drew ?_ | refine Blk.alloc ?_ _ | refine Blk.far ?_ (by first | omega | (simp; done) | (simp; omega)) _ | assumption)))
  have hL13 := Lib.hid (show Below w12.heap.size w12 _ from reads_mid hb (by repeat' (first | exact Below.refl _ _ | refine below_drewN ?_ _ | refine Below.drew ?_ | refine Below.alloc ?_ (by first | omega | (simp; done) | (simp; omega) | (simp [World.setCell]; omega)) _ | refine Below.setCell ?_ (by first | omega | (simp; done) | (simp; omega)) _)))
  have R0_13 := Lib.hid (reads_lay hb hL13.out R0_12.out)
  have R1_13 := Lib.hid (reads_lay hb hL13.out R1_12.out)
  have R2_13 := Lib.hid (reads_lay hb hL13.out R2_12.out)
  clear hL13 R0_12 R1_12 R2_12
  have hz13 := hb.size
  try simp only [World.size_alloc, World.drewN, World.drew] at hz13
  clear hb K0_12 K1_12 K2_12 z0_0_12 z0_1_12 z0_2_12 l0_12 z1_0_12 z1_1_12 z1_2_12 z1_3_12 z1_4_12 z1_5_12 l1_12 z2_0_12 z2_1_12 l2_12
  have l0_13 : w.heap.size < w13.heap.size := K0_13.out.lt
  have z0_0_13 : w13.cell? ⟨w.heap.size, 0, none⟩ = some (.slice (some ⟨b1, o1, none⟩) n c1) := K0_13.out.cell 0
  have z0_1_13 : w13.cell? ⟨w.heap.size, 1, none⟩ = some (.slice (some ⟨b2, o2, none⟩) n c2) := K0_13.out.cell 1
  have z0_2_13 : w13.cell? ⟨w.heap.size, 2, none⟩ = some (.slice (some ⟨b3, o3, none⟩) n c3) := K0_13.out.cell 2
  have l1_13 : w5.heap.size < w13.heap.size := K1_13.out.lt
  have z1_0_13 : w13.cell? ⟨w5.heap.size, 0, none⟩ = some (.int .i64 (a)) := K1_13.out.cell 0
  have z1_1_13 : w13.cell? ⟨w5.heap.size, 1, none⟩ = some (.int .i64 (b)) := K1_13.out.cell 1
  have z1_2_13 : w13.cell? ⟨w5.heap.size, 2, none⟩ = some (.int .i64 (c)) := K1_13.out.cell 2
  have z1_3_13 : w13.cell? ⟨w5.heap.size, 3, none⟩ = some (.int .i64 (d)) := K1_13.out.cell 3
  have z1_4_13 : w13.cell? ⟨w5.heap.size, 4, none⟩ = some (.int .i64 ((x : Int))) := K1_13.out.cell 4
  have z1_5_13 : w13.cell? ⟨w5.heap.size, 5, none⟩ = some (.int .i64 ((y : Int))) := K1_13.out.cell 5
  have l2_13 : w8.heap.size < w13.heap.size := K2_13.out.lt
  have z2_0_13 : w13.cell? ⟨w8.heap.size, 0, none⟩ = some (.int .i64 (s)) := K2_13.out.cell 0
  have z2_1_13 : w13.cell? ⟨w8.heap.size, 1, none⟩ = some (.int .i64 (sv)) := K2_13.out.cell 1
  go_wp2
  have KT := K0_13
  have KU := K1_13
  have KF := K2_13
  clear R0_13 R1_13 R2_13
  have hs13 := HB13.out.size
  obtain ⟨bl, hbl⟩ : ∃ bl, w5.heap.size = bl := ⟨_, rfl⟩
  obtain ⟨bf, hbf⟩ : ∃ bf, w8.heap.size = bf := ⟨_, rfl⟩
  have HBL := Lib.hid hbl
  have HBF := Lib.hid hbf
  clear hbl hbf
  rw [HBL.out] at KU
  rw [HBF.out] at KF
  rw [HBL.out, HBF.out]
  have hbl1 : w.heap.size ≤ bl := by rw [← HBL.out]; exact HB5.out.size
  have hbf1 : w.heap.size ≤ bf := by rw [← HBF.out]; exact HB8.out.size
  go_loopw [13, 14] (fun t v wr => ∃ j : Nat, j ≤ n ∧ t = .int .i64 (remS m a b c d j) ∧ v = .int .i64 j ∧ Below w13.heap.size w13 wr) (fun _ v _ => n - (intOf v).toNat)
  case atStart => exact ⟨0, by omega, rfl, rfl, Below.refl _ _⟩
  case round =>
    obtain ⟨j, hj, rfl, rfl, hbj⟩ := hrel
    obtain ⟨w14, hnm⟩ : ∃ z : World, z = wr := ⟨_, rfl⟩
    subst hnm
    have HBJ := Lib.hid hbj
    have hk0 := Blk.below KT.out hbj KT.out.lt
    have hk1 := Blk.below KU.out hbj KU.out.lt
    have hk2 := Blk.below KF.out hbj KF.out.lt
    have hb' := HB13.out.trans (hbj.mono HB13.out.size)
    have hat := HAT.out.lay hb'
    clear hbj
    have HB14 := Lib.hid hb'
    have K0_14 := Lib.hid (show Blk w14 (w.heap.size) 24 #[.slice (some ⟨b1, o1, none⟩) n c1, .slice (some ⟨b2, o2, none⟩) n c2, .slice (some ⟨b3, o3, none⟩) n c3] from hk0)
    have K1_14 := Lib.hid (show Blk w14 (bl) 75 #[.int .i64 (a), .int .i64 (b), .int .i64 (c), .int .i64 (d), .int .i64 ((x : Int)), .int .i64 ((y : Int))] from hk1)
    have K2_14 := Lib.hid (show Blk w14 (bf) 28 #[.int .i64 (s), .int .i64 (sv)] from hk2)
    clear hb' hk0 hk1 hk2
    have l0_14 : w.heap.size < w14.heap.size := K0_14.out.lt
    have z0_0_14 : w14.cell? ⟨w.heap.size, 0, none⟩ = some (.slice (some ⟨b1, o1, none⟩) n c1) := K0_14.out.cell 0
    have z0_1_14 : w14.cell? ⟨w.heap.size, 1, none⟩ = some (.slice (some ⟨b2, o2, none⟩) n c2) := K0_14.out.cell 1
    have z0_2_14 : w14.cell? ⟨w.heap.size, 2, none⟩ = some (.slice (some ⟨b3, o3, none⟩) n c3) := K0_14.out.cell 2
    have l1_14 : bl < w14.heap.size := K1_14.out.lt
    have z1_0_14 : w14.cell? ⟨bl, 0, none⟩ = some (.int .i64 (a)) := K1_14.out.cell 0
    have z1_1_14 : w14.cell? ⟨bl, 1, none⟩ = some (.int .i64 (b)) := K1_14.out.cell 1
    have z1_2_14 : w14.cell? ⟨bl, 2, none⟩ = some (.int .i64 (c)) := K1_14.out.cell 2
    have z1_3_14 : w14.cell? ⟨bl, 3, none⟩ = some (.int .i64 (d)) := K1_14.out.cell 3
    have z1_4_14 : w14.cell? ⟨bl, 4, none⟩ = some (.int .i64 ((x : Int))) := K1_14.out.cell 4
    have z1_5_14 : w14.cell? ⟨bl, 5, none⟩ = some (.int .i64 ((y : Int))) := K1_14.out.cell 5
    have l2_14 : bf < w14.heap.size := K2_14.out.lt
    have z2_0_14 : w14.cell? ⟨bf, 0, none⟩ = some (.int .i64 (s)) := K2_14.out.cell 0
    have z2_1_14 : w14.cell? ⟨bf, 1, none⟩ = some (.int .i64 (sv)) := K2_14.out.cell 1
    by_cases hjt : j < n
    · skip
      have hjm : j < m.n := by rw [HMN.out]; exact hjt
      have hin := HREM.out j hjm
      have hui := HOK.out.u j hjm
      have h3 := hat.r3 j hjm
      rw [HMB.out.1, HMB.out.2] at h3
      have hl3 := hat.l3
      rw [HMB.out.1] at hl3
      obtain ⟨k1, k2, k3, k4, k5⟩ := red_back (r := remN m a b c d j) hbd.1
      have hre := red_le (a := remN m a b c d j) hbd.1
      have hrj := HRS.out j (by omega)
      have hrj1 := HRS.out (j + 1) (by omega)
      have hnx : remS m a b c d (j + 1) = remS m a b c d j + m.u j * remN m a b c d j := rfl
      obtain ⟨r, hr⟩ : ∃ r, remN m a b c d j = r := ⟨_, rfl⟩
      obtain ⟨uu, huu⟩ : ∃ u, m.u j = u := ⟨_, rfl⟩
      obtain ⟨u, hu⟩ : ∃ u, redN r v = u := ⟨_, rfl⟩
      obtain ⟨q, hq⟩ : ∃ q, redD r v = q := ⟨_, rfl⟩
      obtain ⟨rs, hrs⟩ : ∃ q, remS m a b c d j = q := ⟨_, rfl⟩
      rw [hr] at k1 k2 k3 k4 k5 hin hre hnx
      rw [hu] at k1 hre
      rw [hq] at k1 k2 k3 k4 k5
      rw [huu] at h3 hui hnx
      rw [hrs] at hrj hnx
      rw [hnx] at hrj1
      rw [hrs]
      obtain ⟨qd, hqd⟩ : ∃ z, v.tdiv q = z := ⟨_, rfl⟩
      rw [hqd] at k1 k4 k5
      have p1 := prod_small (x := uu) (y := u) (X := 1000) (Y := 1000000000000) (by omega) (by omega) (by omega) (by omega)
      have e6 := IntWalk.i64_in (uu * u) ⟨by omega, by omega⟩
      have eqd := IntWalk.i64_in qd ⟨by omega, by omega⟩
      have hprod : uu * u * qd = uu * r := by rw [Int.mul_assoc, k1]
      have p2 := prod_small (x := uu) (y := r) (X := 1000) (Y := 1000000000000) (by omega) (by omega) (by omega) (by omega)
      have e7 : IntKind.i64.wrap (uu * u * qd) = uu * r := by rw [hprod]; exact IntWalk.i64_in _ ⟨by omega, by omega⟩
      obtain ⟨ur, hur⟩ : ∃ z, uu * r = z := ⟨_, rfl⟩
      rw [hur] at e7 hnx hrj1
      have e8 := IntWalk.i64_in (rs + ur) ⟨by omega, by omega⟩
      have hq0 : ¬ q = 0 := by omega
      have HU := Lib.hid (show redN (remN m a b c d j) (b * d) = u by rw [hr, HVV.out]; exact hu)
      have HV := Lib.hid (show redD (remN m a b c d j) (b * d) = q by rw [hr, HVV.out]; exact hq)
      have HNX := Lib.hid hnx
      have HQD := Lib.hid hqd
      have hjj : (j : Int) < (n : Int) := by omega
      have hz14 := HBJ.out.size
      clear hat hr huu hu hq hrs hqd hprod hur hnx hre p1 p2 hin hui k1 k2 k3 k4 k5 hrj hrj1
      have C0_14 := Lib.hid h3
      clear h3
      have HA14 := Lib.hid (show Below w14.heap.size w14 w14 from Below.refl _ _)
      go_wp2_with fail
      refine (HRM.out j hjm u q HU.out HV.out _ (HAT.out.lay HB14.out)).mono ?_
      rintro e w15 ⟨rfl, hb⟩
      have HB15 := Lib.hid (show Below w.heap.size w w15 from step_below hb (by repeat' (first | exact Below.refl _ _ | exact HB14.out | refine below_drewN ?_ _ | refine Below.drew ?_ | refine Below.alloc ?_ (by first | omega | (simp; done) | (simp; omega) | (simp [World.setCell]; omega)) _ | refine Below.setCell ?_ (by first | omega | (simp; done) | (simp; omega)) _ | assumption)))
      have K0_15 := Lib.hid (step_blk hb (show Blk _ (w.heap.size) 24 #[.slice (some ⟨b1, o1, none⟩) n c1, .slice (some ⟨b2, o2, none⟩) n c2, .slice (some ⟨b3, o3, none⟩) n c3] by repeat' (first | exact K0_14.out | exact K1_14.out | exact K2_14.out | exact Blk.at_ _ (by first | rfl | (simp; done) | (simp; omega)) _ _ | refine Blk.drewN ?_ _ | refine Blk.drew ?_ | refine Blk.alloc ?_ _ | refine Blk.far ?_ (by first | omega | (simp; done) | (simp; omega)) _ | assumption)))
      have K1_15 := Lib.hid (step_blk hb (show Blk _ (bl) 75 #[.int .i64 (a), .int .i64 (b), .int .i64 (c), .int .i64 (d), .int .i64 ((x : Int)), .int .i64 ((y : Int))] by repeat' (first | exact K0_14.out | exact K1_14.out | exact K2_14.out | exact Blk.at_ _ (by first | rfl | (simp; done) | (simp; omega)) _ _ | refine Blk.drewN ?_ _ | refine Blk.drew ?_ | refine Blk.alloc ?_ _ | refine Blk.far ?_ (by first | omega | (simp; done) | (simp; omega)) _ | assumption)))
      have K2_15 := Lib.hid (step_blk hb (show Blk _ (bf) 28 #[.int .i64 (s), .int .i64 (sv)] by repeat' (first | exact K0_14.out | exact K1_14.out | exact K2_14.out | exact Blk.at_ _ (by first | rfl | (simp; done) | (simp; omega)) _ _ | refine Blk.drewN ?_ _ | refine Blk.drew ?_ | refine Blk.alloc ?_ _ | refine Blk.far ?_ (by first | omega | (simp; done) | (simp; omega)) _ | assumption)))
      have C0_15 := Lib.hid (step_cell hb (show World.cell? _ ⟨b3, o3 + j, none⟩ = some (.int .i64 (uu)) by first | exact C0_14.out | go_simp) (by have := hl3; first | omega | (simp; omega)))
      have HA15 := Lib.hid (step_below hb HA14.out)
      clear HA14
      have hz15 := hb.size
      try simp only [World.size_alloc, World.drewN, World.drew] at hz15
      clear hb K0_14 K1_14 K2_14 z0_0_14 z0_1_14 z0_2_14 l0_14 z1_0_14 z1_1_14 z1_2_14 z1_3_14 z1_4_14 z1_5_14 l1_14 z2_0_14 z2_1_14 l2_14
      have l0_15 : w.heap.size < w15.heap.size := K0_15.out.lt
      have z0_0_15 : w15.cell? ⟨w.heap.size, 0, none⟩ = some (.slice (some ⟨b1, o1, none⟩) n c1) := K0_15.out.cell 0
      have z0_1_15 : w15.cell? ⟨w.heap.size, 1, none⟩ = some (.slice (some ⟨b2, o2, none⟩) n c2) := K0_15.out.cell 1
      have z0_2_15 : w15.cell? ⟨w.heap.size, 2, none⟩ = some (.slice (some ⟨b3, o3, none⟩) n c3) := K0_15.out.cell 2
      have l1_15 : bl < w15.heap.size := K1_15.out.lt
      have z1_0_15 : w15.cell? ⟨bl, 0, none⟩ = some (.int .i64 (a)) := K1_15.out.cell 0
      have z1_1_15 : w15.cell? ⟨bl, 1, none⟩ = some (.int .i64 (b)) := K1_15.out.cell 1
      have z1_2_15 : w15.cell? ⟨bl, 2, none⟩ = some (.int .i64 (c)) := K1_15.out.cell 2
      have z1_3_15 : w15.cell? ⟨bl, 3, none⟩ = some (.int .i64 (d)) := K1_15.out.cell 3
      have z1_4_15 : w15.cell? ⟨bl, 4, none⟩ = some (.int .i64 ((x : Int))) := K1_15.out.cell 4
      have z1_5_15 : w15.cell? ⟨bl, 5, none⟩ = some (.int .i64 ((y : Int))) := K1_15.out.cell 5
      have l2_15 : bf < w15.heap.size := K2_15.out.lt
      have z2_0_15 : w15.cell? ⟨bf, 0, none⟩ = some (.int .i64 (s)) := K2_15.out.cell 0
      have z2_1_15 : w15.cell? ⟨bf, 1, none⟩ = some (.int .i64 (sv)) := K2_15.out.cell 1
      go_wp2
      generalize hwn : (w15.alloc (.cells #[.int .i64 (u), .int .i64 (q)] 28)) = w16
      have hbn : Below w15.heap.size w15 w16 := by rw [← hwn]; repeat' (first | exact Below.refl _ _ | refine below_drewN ?_ _ | refine Below.drew ?_ | refine Below.alloc ?_ (by first | omega | (simp; done) | (simp; omega) | (simp [World.setCell]; omega)) _ | refine Below.setCell ?_ (by first | omega | (simp; done) | (simp; omega)) _)
      have HB16 := Lib.hid (show Below w.heap.size w w16 from HB15.out.trans (hbn.mono HB15.out.size))
      have K0_16 := Lib.hid (step_blk hbn K0_15.out)
      have K1_16 := Lib.hid (step_blk hbn K1_15.out)
      have K2_16 := Lib.hid (step_blk hbn K2_15.out)
      have K3_16 := Lib.hid (show Blk w16 (w15.heap.size) 28 #[.int .i64 (u), .int .i64 (q)] by rw [← hwn]; repeat' (first | exact Blk.at_ _ (by first | rfl | (simp; done) | (simp; omega)) _ _ | refine Blk.drewN ?_ _ | refine Blk.drew ?_ | refine Blk.alloc ?_ _ | refine Blk.far ?_ (by first | omega | (simp; done) | (simp; omega)) _ | assumption))
      have C0_16 := Lib.hid (step_cell hbn C0_15.out (by have := hl3; first | omega | (simp; omega)))
      have HA16 := Lib.hid (step_below hbn HA15.out)
      clear HA15
      have HN16 := Lib.hid hbn
      have hz16 := hbn.size
      clear hwn hbn K0_15 l0_15 z0_0_15 z0_1_15 z0_2_15 K1_15 l1_15 z1_0_15 z1_1_15 z1_2_15 z1_3_15 z1_4_15 z1_5_15 K2_15 l2_15 z2_0_15 z2_1_15
      have l0_16 : w.heap.size < w16.heap.size := K0_16.out.lt
      have z0_0_16 : w16.cell? ⟨w.heap.size, 0, none⟩ = some (.slice (some ⟨b1, o1, none⟩) n c1) := K0_16.out.cell 0
      have z0_1_16 : w16.cell? ⟨w.heap.size, 1, none⟩ = some (.slice (some ⟨b2, o2, none⟩) n c2) := K0_16.out.cell 1
      have z0_2_16 : w16.cell? ⟨w.heap.size, 2, none⟩ = some (.slice (some ⟨b3, o3, none⟩) n c3) := K0_16.out.cell 2
      have l1_16 : bl < w16.heap.size := K1_16.out.lt
      have z1_0_16 : w16.cell? ⟨bl, 0, none⟩ = some (.int .i64 (a)) := K1_16.out.cell 0
      have z1_1_16 : w16.cell? ⟨bl, 1, none⟩ = some (.int .i64 (b)) := K1_16.out.cell 1
      have z1_2_16 : w16.cell? ⟨bl, 2, none⟩ = some (.int .i64 (c)) := K1_16.out.cell 2
      have z1_3_16 : w16.cell? ⟨bl, 3, none⟩ = some (.int .i64 (d)) := K1_16.out.cell 3
      have z1_4_16 : w16.cell? ⟨bl, 4, none⟩ = some (.int .i64 ((x : Int))) := K1_16.out.cell 4
      have z1_5_16 : w16.cell? ⟨bl, 5, none⟩ = some (.int .i64 ((y : Int))) := K1_16.out.cell 5
      have l2_16 : bf < w16.heap.size := K2_16.out.lt
      have z2_0_16 : w16.cell? ⟨bf, 0, none⟩ = some (.int .i64 (s)) := K2_16.out.cell 0
      have z2_1_16 : w16.cell? ⟨bf, 1, none⟩ = some (.int .i64 (sv)) := K2_16.out.cell 1
      have l3_16 : w15.heap.size < w16.heap.size := K3_16.out.lt
      have z3_0_16 : w16.cell? ⟨w15.heap.size, 0, none⟩ = some (.int .i64 (u)) := K3_16.out.cell 0
      have z3_1_16 : w16.cell? ⟨w15.heap.size, 1, none⟩ = some (.int .i64 (q)) := K3_16.out.cell 1
      have cx0 := C0_16.out
      have HBZ := Lib.hid (HBJ.out.trans ((show Below w14.heap.size w14 w16 from HA16.out).mono HBJ.out.size))
      have e9 : v.tdiv q = qd := HQD.out
      go_quiet (fail)
      go_wp2
      go_roundw
      case rel => exact ⟨j + 1, by omega, by rw [HNX.out], by go_num, below_drewN HBZ.out _⟩
      case measure => simp [intOf]; omega
    · obtain rfl : n = j := by omega
      have hrj := HRS.out n (Nat.le_of_eq HMN.out.symm)
      have HS1 := Lib.hid (show redN (remS m a b c d n) v = s by have h := HS.out; rw [HMN.out] at h; exact h)
      have HS2 := Lib.hid (show redD (remS m a b c d n) v = sv by have h := HSV.out; rw [HMN.out] at h; exact h)
      obtain ⟨rs, hrs⟩ : ∃ q, remS m a b c d n = q := ⟨_, rfl⟩
      rw [hrs] at hrj
      rw [hrs]
      have HS3 := Lib.hid (show redN rs v = s by rw [← hrs]; exact HS1.out)
      have HS4 := Lib.hid (show redD rs v = sv by rw [← hrs]; exact HS2.out)
      clear hat hrs
      go_wp2_with fail
      refine Fx.regionW (fun W f w' => Below W.heap.size W w') (by kernel_rfl) (by kernel_rfl) ?_ ?_
      · intro f hf0
        exact below_drewN (Below.refl _ _) 1
      repeat (first
        | (refine Fx.skip_ (by rfl) (fun f w h => h) ?_; simp only [Act.put, List.setIfInBounds_toArray, List.set_cons_zero, List.set_cons_succ])
        | (refine Fx.val_ ?_ (by rfl) ?_ (fun f w h => h) ?_
           rotate_left
           · intro f w' hD hk
             have hb := hD
             have kb0 := step_blk hb (show Blk _ (w.heap.size) 24 #[.slice (some ⟨b1, o1, none⟩) n c1, .slice (some ⟨b2, o2, none⟩) n c2, .slice (some ⟨b3, o3, none⟩) n c3] by repeat' (first | exact K0_14.out | exact K1_14.out | exact K2_14.out | exact Blk.at_ _ (by first | rfl | (simp; done) | (simp; omega)) _ _ | refine Blk.drewN ?_ _ | refine Blk.drew ?_ | refine Blk.alloc ?_ _ | refine Blk.far ?_ (by first | omega | (simp; done) | (simp; omega)) _ | assumption))
             have y0_0 : w'.cell? ⟨w.heap.size, 0, none⟩ = some (.slice (some ⟨b1, o1, none⟩) n c1) := kb0.cell 0
             have y0_1 : w'.cell? ⟨w.heap.size, 1, none⟩ = some (.slice (some ⟨b2, o2, none⟩) n c2) := kb0.cell 1
             have y0_2 : w'.cell? ⟨w.heap.size, 2, none⟩ = some (.slice (some ⟨b3, o3, none⟩) n c3) := kb0.cell 2
             have kb1 := step_blk hb (show Blk _ (bl) 75 #[.int .i64 (a), .int .i64 (b), .int .i64 (c), .int .i64 (d), .int .i64 ((x : Int)), .int .i64 ((y : Int))] by repeat' (first | exact K0_14.out | exact K1_14.out | exact K2_14.out | exact Blk.at_ _ (by first | rfl | (simp; done) | (simp; omega)) _ _ | refine Blk.drewN ?_ _ | refine Blk.drew ?_ | refine Blk.alloc ?_ _ | refine Blk.far ?_ (by first | omega | (simp; done) | (simp; omega)) _ | assumption))
             have y1_0 : w'.cell? ⟨bl, 0, none⟩ = some (.int .i64 (a)) := kb1.cell 0
             have y1_1 : w'.cell? ⟨bl, 1, none⟩ = some (.int .i64 (b)) := kb1.cell 1
             have y1_2 : w'.cell? ⟨bl, 2, none⟩ = some (.int .i64 (c)) := kb1.cell 2
             have y1_3 : w'.cell? ⟨bl, 3, none⟩ = some (.int .i64 (d)) := kb1.cell 3
             have y1_4 : w'.cell? ⟨bl, 4, none⟩ = some (.int .i64 ((x : Int))) := kb1.cell 4
             have y1_5 : w'.cell? ⟨bl, 5, none⟩ = some (.int .i64 ((y : Int))) := kb1.cell 5
             have kb2 := step_blk hb (show Blk _ (bf) 28 #[.int .i64 (s), .int .i64 (sv)] by repeat' (first | exact K0_14.out | exact K1_14.out | exact K2_14.out | exact Blk.at_ _ (by first | rfl | (simp; done) | (simp; omega)) _ _ | refine Blk.drewN ?_ _ | refine Blk.drew ?_ | refine Blk.alloc ?_ _ | refine Blk.far ?_ (by first | omega | (simp; done) | (simp; omega)) _ | assumption))
             have y2_0 : w'.cell? ⟨bf, 0, none⟩ = some (.int .i64 (s)) := kb2.cell 0
             have y2_1 : w'.cell? ⟨bf, 1, none⟩ = some (.int .i64 (sv)) := kb2.cell 1
             clear kb0 kb1 kb2
             clear hk hD hb
             go_simp
             try rfl
           simp only [Act.put, List.setIfInBounds_toArray, List.set_cons_zero, List.set_cons_succ]))
      refine Fx.call_ (.agg #[.int .i64 s, .int .i64 sv]) ?_ ?_ (by rfl) ?_ ?_ ?_
      rotate_left 2
      · intro w'
        go_simp
        refine ⟨?_, ?_⟩ <;> rfl
      · intro f w' hD hk
        exact (lowest_red rs v s sv HS3.out HS4.out w' (by omega) (by omega) hbd.1 (by omega)).mono fun e w'' ⟨he, hw⟩ => ⟨he, step_below hw hD⟩
      simp only [Act.put, List.setIfInBounds_toArray, List.set_cons_zero, List.set_cons_succ]
      repeat (first
        | (refine Fx.skip_ (by rfl) (fun f w h => h) ?_; simp only [Act.put, List.setIfInBounds_toArray, List.set_cons_zero, List.set_cons_succ])
        | (refine Fx.val_ ?_ (by rfl) ?_ (fun f w h => h) ?_
           rotate_left
           · intro f w' hD hk
             have hb := hD
             have kb0 := step_blk hb (show Blk _ (w.heap.size) 24 #[.slice (some ⟨b1, o1, none⟩) n c1, .slice (some ⟨b2, o2, none⟩) n c2, .slice (some ⟨b3, o3, none⟩) n c3] by repeat' (first | exact K0_14.out | exact K1_14.out | exact K2_14.out | exact Blk.at_ _ (by first | rfl | (simp; done) | (simp; omega)) _ _ | refine Blk.drewN ?_ _ | refine Blk.drew ?_ | refine Blk.alloc ?_ _ | refine Blk.far ?_ (by first | omega | (simp; done) | (simp; omega)) _ | assumption))
             have y0_0 : w'.cell? ⟨w.heap.size, 0, none⟩ = some (.slice (some ⟨b1, o1, none⟩) n c1) := kb0.cell 0
             have y0_1 : w'.cell? ⟨w.heap.size, 1, none⟩ = some (.slice (some ⟨b2, o2, none⟩) n c2) := kb0.cell 1
             have y0_2 : w'.cell? ⟨w.heap.size, 2, none⟩ = some (.slice (some ⟨b3, o3, none⟩) n c3) := kb0.cell 2
             have kb1 := step_blk hb (show Blk _ (bl) 75 #[.int .i64 (a), .int .i64 (b), .int .i64 (c), .int .i64 (d), .int .i64 ((x : Int)), .int .i64 ((y : Int))] by repeat' (first | exact K0_14.out | exact K1_14.out | exact K2_14.out | exact Blk.at_ _ (by first | rfl | (simp; done) | (simp; omega)) _ _ | refine Blk.drewN ?_ _ | refine Blk.drew ?_ | refine Blk.alloc ?_ _ | refine Blk.far ?_ (by first | omega | (simp; done) | (simp; omega)) _ | assumption))
             have y1_0 : w'.cell? ⟨bl, 0, none⟩ = some (.int .i64 (a)) := kb1.cell 0
             have y1_1 : w'.cell? ⟨bl, 1, none⟩ = some (.int .i64 (b)) := kb1.cell 1
             have y1_2 : w'.cell? ⟨bl, 2, none⟩ = some (.int .i64 (c)) := kb1.cell 2
             have y1_3 : w'.cell? ⟨bl, 3, none⟩ = some (.int .i64 (d)) := kb1.cell 3
             have y1_4 : w'.cell? ⟨bl, 4, none⟩ = some (.int .i64 ((x : Int))) := kb1.cell 4
             have y1_5 : w'.cell? ⟨bl, 5, none⟩ = some (.int .i64 ((y : Int))) := kb1.cell 5
             have kb2 := step_blk hb (show Blk _ (bf) 28 #[.int .i64 (s), .int .i64 (sv)] by repeat' (first | exact K0_14.out | exact K1_14.out | exact K2_14.out | exact Blk.at_ _ (by first | rfl | (simp; done) | (simp; omega)) _ _ | refine Blk.drewN ?_ _ | refine Blk.drew ?_ | refine Blk.alloc ?_ _ | refine Blk.far ?_ (by first | omega | (simp; done) | (simp; omega)) _ | assumption))
             have y2_0 : w'.cell? ⟨bf, 0, none⟩ = some (.int .i64 (s)) := kb2.cell 0
             have y2_1 : w'.cell? ⟨bf, 1, none⟩ = some (.int .i64 (sv)) := kb2.cell 1
             clear kb0 kb1 kb2
             clear hk hD hb
             go_simp
             try rfl
           simp only [Act.put, List.setIfInBounds_toArray, List.set_cons_zero, List.set_cons_succ]))
      refine Fx.nil_ ?_
      intro f w15 hall hb
      try clear hall
      have HB1415 := Lib.hid hb
      have HB15 := Lib.hid (show Below w.heap.size w w15 from step_below hb (by repeat' (first | exact Below.refl _ _ | exact HB14.out | refine below_drewN ?_ _ | refine Below.drew ?_ | refine Below.alloc ?_ (by first | omega | (simp; done) | (simp; omega) | (simp [World.setCell]; omega)) _ | refine Below.setCell ?_ (by first | omega | (simp; done) | (simp; omega)) _ | assumption)))
      have K0_15 := Lib.hid (step_blk hb (show Blk _ (w.heap.size) 24 #[.slice (some ⟨b1, o1, none⟩) n c1, .slice (some ⟨b2, o2, none⟩) n c2, .slice (some ⟨b3, o3, none⟩) n c3] by repeat' (first | exact K0_14.out | exact K1_14.out | exact K2_14.out | exact Blk.at_ _ (by first | rfl | (simp; done) | (simp; omega)) _ _ | refine Blk.drewN ?_ _ | refine Blk.drew ?_ | refine Blk.alloc ?_ _ | refine Blk.far ?_ (by first | omega | (simp; done) | (simp; omega)) _ | assumption)))
      have K1_15 := Lib.hid (step_blk hb (show Blk _ (bl) 75 #[.int .i64 (a), .int .i64 (b), .int .i64 (c), .int .i64 (d), .int .i64 ((x : Int)), .int .i64 ((y : Int))] by repeat' (first | exact K0_14.out | exact K1_14.out | exact K2_14.out | exact Blk.at_ _ (by first | rfl | (simp; done) | (simp; omega)) _ _ | refine Blk.drewN ?_ _ | refine Blk.drew ?_ | refine Blk.alloc ?_ _ | refine Blk.far ?_ (by first | omega | (simp; done) | (simp; omega)) _ | assumption)))
      have K2_15 := Lib.hid (step_blk hb (show Blk _ (bf) 28 #[.int .i64 (s), .int .i64 (sv)] by repeat' (first | exact K0_14.out | exact K1_14.out | exact K2_14.out | exact Blk.at_ _ (by first | rfl | (simp; done) | (simp; omega)) _ _ | refine Blk.drewN ?_ _ | refine Blk.drew ?_ | refine Blk.alloc ?_ _ | refine Blk.far ?_ (by first | omega | (simp; done) | (simp; omega)) _ | assumption)))
      have hz15 := hb.size
      try simp only [World.size_alloc, World.drewN, World.drew] at hz15
      clear hb K0_14 K1_14 K2_14 z0_0_14 z0_1_14 z0_2_14 l0_14 z1_0_14 z1_1_14 z1_2_14 z1_3_14 z1_4_14 z1_5_14 l1_14 z2_0_14 z2_1_14 l2_14
      have l0_15 : w.heap.size < w15.heap.size := K0_15.out.lt
      have z0_0_15 : w15.cell? ⟨w.heap.size, 0, none⟩ = some (.slice (some ⟨b1, o1, none⟩) n c1) := K0_15.out.cell 0
      have z0_1_15 : w15.cell? ⟨w.heap.size, 1, none⟩ = some (.slice (some ⟨b2, o2, none⟩) n c2) := K0_15.out.cell 1
      have z0_2_15 : w15.cell? ⟨w.heap.size, 2, none⟩ = some (.slice (some ⟨b3, o3, none⟩) n c3) := K0_15.out.cell 2
      have l1_15 : bl < w15.heap.size := K1_15.out.lt
      have z1_0_15 : w15.cell? ⟨bl, 0, none⟩ = some (.int .i64 (a)) := K1_15.out.cell 0
      have z1_1_15 : w15.cell? ⟨bl, 1, none⟩ = some (.int .i64 (b)) := K1_15.out.cell 1
      have z1_2_15 : w15.cell? ⟨bl, 2, none⟩ = some (.int .i64 (c)) := K1_15.out.cell 2
      have z1_3_15 : w15.cell? ⟨bl, 3, none⟩ = some (.int .i64 (d)) := K1_15.out.cell 3
      have z1_4_15 : w15.cell? ⟨bl, 4, none⟩ = some (.int .i64 ((x : Int))) := K1_15.out.cell 4
      have z1_5_15 : w15.cell? ⟨bl, 5, none⟩ = some (.int .i64 ((y : Int))) := K1_15.out.cell 5
      have l2_15 : bf < w15.heap.size := K2_15.out.lt
      have z2_0_15 : w15.cell? ⟨bf, 0, none⟩ = some (.int .i64 (s)) := K2_15.out.cell 0
      have z2_1_15 : w15.cell? ⟨bf, 1, none⟩ = some (.int .i64 (sv)) := K2_15.out.cell 1
      go_wp2
      go_ret
      exact ⟨rfl, by repeat' (first | exact Below.refl _ _ | exact HB15.out | refine below_drewN ?_ _ | refine Below.drew ?_ | refine Below.alloc ?_ (by first | omega | (simp; done) | (simp; omega) | (simp [World.setCell]; omega)) _ | refine Below.setCell ?_ (by first | omega | (simp; done) | (simp; omega)) _ | assumption)⟩

set_option maxRecDepth 100000 in
theorem lawFQ_any (A1 : Option Addr) (n1 c1 : Nat) (l1 : List Int) (A2 : Option Addr) (n2 c2 : Nat) (l2 : List Int) (A3 : Option Addr) (n3 c3 : Nat) (l3 : List Int) (w : World)
    (_ : n1 ≤ c1 ∧ c1 ≤ 9223372036854775807) (_ : n2 ≤ c2 ∧ c2 ≤ 9223372036854775807) (_ : n3 ≤ c3 ∧ c3 ≤ 9223372036854775807)
    (r1 : Reads w w.heap.size 1 A1 n1 (l1.map (.int .i64))) (r2 : Reads w w.heap.size 1 A2 n2 (l2.map (.int .i64))) (r3 : Reads w w.heap.size 1 A3 n3 (l3.map (.int .i64))) :
    Calls Try.prog 11 #[.agg #[.slice A1 n1 c1, .slice A2 n2 c2, .slice A3 n3 c3]] w fun e w' => e = .returned (.bool true) ∧ Below w.heap.size w w' := by
  by_cases hF : (fewB6 n1 && (fewB6 n2 && fewB6 n3)) = true → mapErr l1 l2 l3 ≠ 0
  · exact lawFQ_bad A1 n1 c1 l1 A2 n2 c2 l2 A3 n3 c3 l3 w hF r1 r2 r3
  rw [Classical.not_imp, Decidable.not_not] at hF
  obtain ⟨hf, hE⟩ := hF
  obtain ⟨rfl, rfl, b1, o1, b2, o2, b3, o3, rfl, rfl, rfl, -, -, -⟩ := rm_of hE c1 c2 c3 r1 r2 r3
  exact lawFQ_ok _ b1 o1 c1 b2 o2 c2 b3 o3 c3 l1 l2 l3 w hf hE r1 r2 r3
end Go.Proofs.Ytnepjgnnppfibaa

end
