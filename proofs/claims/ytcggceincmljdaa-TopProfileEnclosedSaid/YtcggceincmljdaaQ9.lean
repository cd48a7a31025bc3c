import Derived.Test.YtcggceincmljdaaQ8
import Derived.Test.YtcggceincmljdaaQ1

section
/- The walk of the statement that the true profile is enclosed. -/
namespace Go.Proofs.Ytcggceincmljdaa
open Go Go.RowKit

set_option maxRecDepth 100000 in
set_option maxHeartbeats 4000000 in
theorem lawTP_any (A1 : Option Addr) (n1 c1 : Nat) (hs : List Int) (A2 : Option Addr) (n2 c2 : Nat) (ps : List (Int × Int)) (A3 : Option Addr) (n3 c3 : Nat) (es : List (Int × Int)) (w : World) (hx1 : Reads w w.heap.size 1 A1 n1 (hs.map (.int .i64))) (hx2 : Reads w w.heap.size 2 A2 n2 (cells2 ps)) (hx3 : Reads w w.heap.size 2 A3 n3 (cells2 es)) :
    Calls Try.prog 3 #[.agg #[.slice A1 n1 c1, .slice A2 n2 c2, .slice A3 n3 c3]] w fun e w' => e = .returned (.bool true) ∧ Below w.heap.size w w' := by
  have h1 := hx1.ilen
  have HX1 := Lib.hid hx1
  have HX2 := Lib.hid hx2
  have HX3 := Lib.hid hx3
  clear hx1 hx2 hx3
  go_enter Try.func3, Try.ntmps3
  go_wp2_with fail
  generalize hwn : (w.alloc (.cells #[.slice A1 n1 c1, .slice A2 n2 c2, .slice A3 n3 c3] 25)) = w1
  have hbn : Below w.heap.size w w1 := by rw [← hwn]; repeat' (first | exact Below.refl _ _ | refine below_drewN ?_ _ | refine Below.drew ?_ | refine Below.alloc ?_ (by first | omega | (simp; done) | (simp; omega) | (simp [World.setCell]; omega)) _ | refine Below.setCell ?_ (by first | omega | (simp; done) | (simp; omega)) _)
  have HB1 := Lib.hid (show Below w.heap.size w w1 from hbn)
  have K0_1 := Lib.hid (show Blk w1 (w.heap.size) 25 #[.slice A1 n1 c1, .slice A2 n2 c2, .slice A3 n3 c3] by rw [← hwn]; repeat' (first | exact Blk.at_ _ (by first | rfl | (simp; done) | (simp; omega)) _ _ | refine Blk.drewN ?_ _ | refine Blk.drew ?_ | refine Blk.alloc ?_ _ | refine Blk.far ?_ (by first | omega | (simp; done) | (simp; omega)) _ | assumption))
  have HN1 := Lib.hid hbn
  have hz1 := hbn.size
  clear hwn hbn
  have l0_1 : w.heap.size < w1.heap.size := K0_1.out.lt
  have z0_0_1 : w1.cell? ⟨w.heap.size, 0, none⟩ = some (.slice A1 n1 c1) := K0_1.out.cell 0
  have z0_1_1 : w1.cell? ⟨w.heap.size, 1, none⟩ = some (.slice A2 n2 c2) := K0_1.out.cell 1
  have z0_2_1 : w1.cell? ⟨w.heap.size, 2, none⟩ = some (.slice A3 n3 c3) := K0_1.out.cell 2
  refine (reads_is _).mono ?_
  rintro e w2 ⟨rfl, hb⟩
  have HB2 := Lib.hid (show Below w.heap.size w w2 from step_below hb (by repeat' (first | exact Below.refl _ _ | exact HB1.out | refine below_drewN ?_ _ | refine Below.drew ?_ | refine Below.alloc ?_ (by first | omega | (simp; done) | (simp; omega) | (simp [World.setCell]; omega)) _ | refine Below.setCell ?_ (by first | omega | (simp; done) | (simp; omega)) _ | assumption)))
  have K0_2 := Lib.hid (step_blk hb (show Blk _ (w.heap.size) 25 #[.slice A1 n1 c1, .slice A2 n2 c2, .slice A3 n3 c3] by repeat' (first | exact K0_1.out | exact Blk.at_ _ (by first | rfl | (simp; done) | (simp; omega)) _ _ | refine Blk.drewN ?_ _ | refine Blk.drew ?_ | refine Blk.alloc ?_ _ | refine Blk.far ?_ (by first | omega | (simp; done) | (simp; omega)) _ | assumption)))
  have hz2 := hb.size
  try simp only [World.size_alloc, World.drewN, World.drew] at hz2
  clear hb K0_1 z0_0_1 z0_1_1 z0_2_1 l0_1
  have l0_2 : w.heap.size < w2.heap.size := K0_2.out.lt
  have z0_0_2 : w2.cell? ⟨w.heap.size, 0, none⟩ = some (.slice A1 n1 c1) := K0_2.out.cell 0
  have z0_1_2 : w2.cell? ⟨w.heap.size, 1, none⟩ = some (.slice A2 n2 c2) := K0_2.out.cell 1
  have z0_2_2 : w2.cell? ⟨w.heap.size, 2, none⟩ = some (.slice A3 n3 c3) := K0_2.out.cell 2
  have g1 := (HX1.out.below HB2.out).more HB2.out.size
  have g2 := (HX2.out.below HB2.out).more HB2.out.size
  have g3 := (HX3.out.below HB2.out).more HB2.out.size
  clear HX1 HX2 HX3
  have R0_2 := Lib.hid g1
  clear g1
  have R1_2 := Lib.hid g2
  clear g2
  have R2_2 := Lib.hid g3
  clear g3
  go_wp2_with fail
  refine (readingsof_is A1 n1 c1 hs A2 n2 c2 ps A3 n3 c3 es 1 (.inl rfl) _ R0_2.out R1_2.out R2_2.out).mono ?_
  rintro e w3 ⟨hb, A4, k4, c4, b4, rfl, hm4⟩
  have HB3 := Lib.hid (show Below w.heap.size w w3 from step_below hb (by repeat' (first | exact Below.refl _ _ | exact HB2.out | refine below_drewN ?_ _ | refine Below.drew ?_ | refine Below.alloc ?_ (by first | omega | (simp; done) | (simp; omega) | (simp [World.setCell]; omega)) _ | refine Below.setCell ?_ (by first | omega | (simp; done) | (simp; omega)) _ | assumption)))
  have K0_3 := Lib.hid (step_blk hb (show Blk _ (w.heap.size) 25 #[.slice A1 n1 c1, .slice A2 n2 c2, .slice A3 n3 c3] by repeat' (first | exact K0_2.out | exact Blk.at_ _ (by first | rfl | (simp; done) | (simp; omega)) _ _ | refine Blk.drewN ?_ _ | refine Blk.drew ?_ | refine Blk.alloc ?_ _ | refine Blk.far ?_ (by first | omega | (simp; done) | (simp; omega)) _ | assumption)))
  have hL3 := Lib.hid (show Below w2.heap.size w2 _ from reads_mid hb (by repeat' (first | exact Below.refl _ _ | refine below_drewN ?_ _ | refine Below.drew ?_ | refine Below.alloc ?_ (by first | omega | (simp; done) | (simp; omega) | (simp [World.setCell]; omega)) _ | refine Below.setCell ?_ (by first | omega | (simp; done) | (simp; omega)) _)))
  have R0_3 := Lib.hid (reads_lay hb hL3.out R0_2.out)
  have R1_3 := Lib.hid (reads_lay hb hL3.out R1_2.out)
  have R2_3 := Lib.hid (reads_lay hb hL3.out R2_2.out)
  clear hL3 R0_2 R1_2 R2_2
  have hz3 := hb.size
  try simp only [World.size_alloc, World.drewN, World.drew] at hz3
  clear hb K0_2 z0_0_2 z0_1_2 z0_2_2 l0_2
  have l0_3 : w.heap.size < w3.heap.size := K0_3.out.lt
  have z0_0_3 : w3.cell? ⟨w.heap.size, 0, none⟩ = some (.slice A1 n1 c1) := K0_3.out.cell 0
  have z0_1_3 : w3.cell? ⟨w.heap.size, 1, none⟩ = some (.slice A2 n2 c2) := K0_3.out.cell 1
  have z0_2_3 : w3.cell? ⟨w.heap.size, 2, none⟩ = some (.slice A3 n3 c3) := K0_3.out.cell 2
  have HM4 := Lib.hid hm4
  clear hm4
  cases b4 with
  | false =>
    go_wp2_with fail
    refine (readingsof_is A1 n1 c1 hs A2 n2 c2 ps A3 n3 c3 es 2 (.inr rfl) _ R0_3.out R1_3.out R2_3.out).mono ?_
    rintro e w4 ⟨hb, A5, k5, c5, b5, rfl, hm5⟩
    have HB4 := Lib.hid (show Below w.heap.size w w4 from step_below hb (by repeat' (first | exact Below.refl _ _ | exact HB3.out | refine below_drewN ?_ _ | refine Below.drew ?_ | refine Below.alloc ?_ (by first | omega | (simp; done) | (simp; omega) | (simp [World.setCell]; omega)) _ | refine Below.setCell ?_ (by first | omega | (simp; done) | (simp; omega)) _ | assumption)))
    have K0_4 := Lib.hid (step_blk hb (show Blk _ (w.heap.size) 25 #[.slice A1 n1 c1, .slice A2 n2 c2, .slice A3 n3 c3] by repeat' (first | exact K0_3.out | exact Blk.at_ _ (by first | rfl | (simp; done) | (simp; omega)) _ _ | refine Blk.drewN ?_ _ | refine Blk.drew ?_ | refine Blk.alloc ?_ _ | refine Blk.far ?_ (by first | omega | (simp; done) | (simp; omega)) _ | assumption)))
    have hL4 := Lib.hid (show Below w3.heap.size w3 _ from reads_mid hb (by repeat' (first | exact Below.refl _ _ | refine below_drewN ?_ _ | refine Below.drew ?_ | refine Below.alloc ?_ (by first | omega | (simp; done) | (simp; omega) | (simp [World.setCell]; omega)) _ | refine Below.setCell ?_ (by first | omega | (simp; done) | (simp; omega)) _)))
    have R0_4 := Lib.hid (reads_lay hb hL4.out R0_3.out)
    have R1_4 := Lib.hid (reads_lay hb hL4.out R1_3.out)
    have R2_4 := Lib.hid (reads_lay hb hL4.out R2_3.out)
    clear hL4 R0_3 R1_3 R2_3
    have hz4 := hb.size
    try simp only [World.size_alloc, World.drewN, World.drew] at hz4
    clear hb K0_3 z0_0_3 z0_1_3 z0_2_3 l0_3
    have l0_4 : w.heap.size < w4.heap.size := K0_4.out.lt
    have z0_0_4 : w4.cell? ⟨w.heap.size, 0, none⟩ = some (.slice A1 n1 c1) := K0_4.out.cell 0
    have z0_1_4 : w4.cell? ⟨w.heap.size, 1, none⟩ = some (.slice A2 n2 c2) := K0_4.out.cell 1
    have z0_2_4 : w4.cell? ⟨w.heap.size, 2, none⟩ = some (.slice A3 n3 c3) := K0_4.out.cell 2
    clear hm5 HM4
    go_wp2
    go_ret
    exact ⟨rfl, by repeat' (first | exact Below.refl _ _ | exact HB4.out | refine below_drewN ?_ _ | refine Below.drew ?_ | refine Below.alloc ?_ (by first | omega | (simp; done) | (simp; omega) | (simp [World.setCell]; omega)) _ | refine Below.setCell ?_ (by first | omega | (simp; done) | (simp; omega)) _ | assumption)⟩
  | true =>
  obtain ⟨hk4, hok, hr4⟩ := HM4.out rfl
  subst hk4
  clear HM4
  have R3_3 := Lib.hid hr4
  clear hr4
  go_wp2_with fail
  refine (readingsof_is A1 n1 c1 hs A2 n2 c2 ps A3 n3 c3 es 2 (.inr rfl) _ R0_3.out R1_3.out R2_3.out).mono ?_
  rintro e w4 ⟨hb, A5, k5, c5, b5, rfl, hm5⟩
  have HB4 := Lib.hid (show Below w.heap.size w w4 from step_below hb (by repeat' (first | exact Below.refl _ _ | exact HB3.out | refine below_drewN ?_ _ | refine Below.drew ?_ | refine Below.alloc ?_ (by first | omega | (simp; done) | (simp; omega) | (simp [World.setCell]; omega)) _ | refine Below.setCell ?_ (by first | omega | (simp; done) | (simp; omega)) _ | assumption)))
  have K0_4 := Lib.hid (step_blk hb (show Blk _ (w.heap.size) 25 #[.slice A1 n1 c1, .slice A2 n2 c2, .slice A3 n3 c3] by repeat' (first | exact K0_3.out | exact Blk.at_ _ (by first | rfl | (simp; done) | (simp; omega)) _ _ | refine Blk.drewN ?_ _ | refine Blk.drew ?_ | refine Blk.alloc ?_ _ | refine Blk.far ?_ (by first | omega | (simp; done) | (simp; omega)) _ | assumption)))
  have hL4 := Lib.hid (show Below w3.heap.size w3 _ from reads_mid hb (by repeat' (first | exact Below.refl _ _ | refine below_drewN ?_ _ | refine Below.drew ?_ | refine Below.alloc ?_ (by first | omega | (simp; done) | (simp; omega) | (simp [World.setCell]; omega)) _ | refine Below.setCell ?_ (by first | omega | (simp; done) | (simp; omega)) _)))
  have R0_4 := Lib.hid (reads_lay hb hL4.out R0_3.out)
  have R1_4 := Lib.hid (reads_lay hb hL4.out R1_3.out)
  have R2_4 := Lib.hid (reads_lay hb hL4.out R2_3.out)
  have R3_4 := Lib.hid (reads_lay hb hL4.out R3_3.out)
  clear hL4 R0_3 R1_3 R2_3 R3_3
  have hz4 := hb.size
  try simp only [World.size_alloc, World.drewN, World.drew] at hz4
  clear hb K0_3 z0_0_3 z0_1_3 z0_2_3 l0_3
  have l0_4 : w.heap.size < w4.heap.size := K0_4.out.lt
  have z0_0_4 : w4.cell? ⟨w.heap.size, 0, none⟩ = some (.slice A1 n1 c1) := K0_4.out.cell 0
  have z0_1_4 : w4.cell? ⟨w.heap.size, 1, none⟩ = some (.slice A2 n2 c2) := K0_4.out.cell 1
  have z0_2_4 : w4.cell? ⟨w.heap.size, 2, none⟩ = some (.slice A3 n3 c3) := K0_4.out.cell 2
  have HM5 := Lib.hid hm5
  clear hm5
  cases b5 with
  | false =>
    clear HM5
    go_wp2
    go_ret
    exact ⟨rfl, by repeat' (first | exact Below.refl _ _ | exact HB4.out | refine below_drewN ?_ _ | refine Below.drew ?_ | refine Below.alloc ?_ (by first | omega | (simp; done) | (simp; omega) | (simp [World.setCell]; omega)) _ | refine Below.setCell ?_ (by first | omega | (simp; done) | (simp; omega)) _ | assumption)⟩
  | true =>
  obtain ⟨hk5, -, hr5⟩ := HM5.out rfl
  subst hk5
  clear HM5
  have R4_4 := Lib.hid hr5
  clear hr5
  have hn := hok.n
  have hkk := hok.k
  rw [h1] at hn
  obtain ⟨T1, hT1⟩ : ∃ T, tabT n1 (arsOf (measL hs 1 ps es)) = T := ⟨_, rfl⟩
  obtain ⟨T2, hT2⟩ : ∃ T, tabT n1 (arsOf (measL hs 2 ps es)) = T := ⟨_, rfl⟩
  have hle := meas_le hok
  have hwi := meas_within hok
  rw [h1, hT1, hT2] at hle
  rw [h1, hT2] at hwi
  obtain ⟨t, ht⟩ : ∃ t, wholeT n1 T1 = t := ⟨_, rfl⟩
  have ht2 : wholeT n1 T2 = t := (whole_alike hle).trans ht
  have hd1 := meas_rd hok (part := 1) (.inl rfl)
  have hd2 := meas_rd hok (part := 2) (.inr rfl)
  rw [h1] at hd1 hd2
  have HT1 := Lib.hid hT1
  have HT2 := Lib.hid hT2
  have HLE := Lib.hid hle
  have HWI := Lib.hid hwi
  have HW1 := Lib.hid ht
  have HW2 := Lib.hid ht2
  have HD1 := Lib.hid hd1
  have HD2 := Lib.hid hd2
  have HKP1 := Lib.hid (meas_keep hok (part := 1) (.inl rfl))
  have HKP2 := Lib.hid (meas_keep hok (part := 2) (.inr rfl))
  have HP := Lib.hid (show ∀ v, v < n1 → -1000000000 ≤ hgtF hs v ∧ hgtF hs v ≤ 1000000000 from fun v _ => by have := hgt_in hok.hgt v; omega)
  have HHG := Lib.hid hok.hgt
  clear hT1 hT2 hle hwi ht ht2 hd1 hd2 hok
  have e0 : ((25 : Int) != 25) = false := by simp
  have e1 : ((0 : Int) != 0) = false := by simp
  cases t with
  | false =>
    go_wp2_with fail
    refine (enclosure_is A4 ps.length c4 n1 _ (hgtF hs) T1 false HT1.out HW1.out (by omega) (by omega) (by omega) HD1.out HP.out HKP1.out _ R3_4.out).mono ?_
    rintro e w5 ⟨hb, rfl⟩
    have HB5 := Lib.hid (show Below w.heap.size w w5 from step_below hb (by repeat' (first | exact Below.refl _ _ | exact HB4.out | refine below_drewN ?_ _ | refine Below.drew ?_ | refine Below.alloc ?_ (by first | omega | (simp; done) | (simp; omega) | (simp [World.setCell]; omega)) _ | refine Below.setCell ?_ (by first | omega | (simp; done) | (simp; omega)) _ | assumption)))
    have K0_5 := Lib.hid (step_blk hb (show Blk _ (w.heap.size) 25 #[.slice A1 n1 c1, .slice A2 n2 c2, .slice A3 n3 c3] by repeat' (first | exact K0_4.out | exact Blk.at_ _ (by first | rfl | (simp; done) | (simp; omega)) _ _ | refine Blk.drewN ?_ _ | refine Blk.drew ?_ | refine Blk.alloc ?_ _ | refine Blk.far ?_ (by first | omega | (simp; done) | (simp; omega)) _ | assumption)))
    have hL5 := Lib.hid (show Below w4.heap.size w4 _ from reads_mid hb (by repeat' (first | exact Below.refl _ _ | refine below_drewN ?_ _ | refine Below.drew ?_ | refine Below.alloc ?_ (by first | omega | (simp; done) | (simp; omega) | (simp [World.setCell]; omega)) _ | refine Below.setCell ?_ (by first | omega | (simp; done) | (simp; omega)) _)))
    have R0_5 := Lib.hid (reads_lay hb hL5.out R0_4.out)
    have R1_5 := Lib.hid (reads_lay hb hL5.out R1_4.out)
    have R2_5 := Lib.hid (reads_lay hb hL5.out R2_4.out)
    have R3_5 := Lib.hid (reads_lay hb hL5.out R3_4.out)
    have R4_5 := Lib.hid (reads_lay hb hL5.out R4_4.out)
    clear hL5 R0_4 R1_4 R2_4 R3_4 R4_4
    have hz5 := hb.size
    try simp only [World.size_alloc, World.drewN, World.drew] at hz5
    clear hb K0_4 z0_0_4 z0_1_4 z0_2_4 l0_4
    have l0_5 : w.heap.size < w5.heap.size := K0_5.out.lt
    have z0_0_5 : w5.cell? ⟨w.heap.size, 0, none⟩ = some (.slice A1 n1 c1) := K0_5.out.cell 0
    have z0_1_5 : w5.cell? ⟨w.heap.size, 1, none⟩ = some (.slice A2 n2 c2) := K0_5.out.cell 1
    have z0_2_5 : w5.cell? ⟨w.heap.size, 2, none⟩ = some (.slice A3 n3 c3) := K0_5.out.cell 2
    go_wp2_with fail
    refine (enclosure_is A5 ps.length c5 n1 _ (hgtF hs) T2 false HT2.out HW2.out (by omega) (by omega) (by omega) HD2.out HP.out HKP2.out _ R4_5.out).mono ?_
    rintro e w6 ⟨hb, rfl⟩
    have HB6 := Lib.hid (show Below w.heap.size w w6 from step_below hb (by repeat' (first | exact Below.refl _ _ | exact HB5.out | refine below_drewN ?_ _ | refine Below.drew ?_ | refine Below.alloc ?_ (by first | omega | (simp; done) | (simp; omega) | (simp [World.setCell]; omega)) _ | refine Below.setCell ?_ (by first | omega | (simp; done) | (simp; omega)) _ | assumption)))
    have K0_6 := Lib.hid (step_blk hb (show Blk _ (w.heap.size) 25 #[.slice A1 n1 c1, .slice A2 n2 c2, .slice A3 n3 c3] by repeat' (first | exact K0_5.out | exact Blk.at_ _ (by first | rfl | (simp; done) | (simp; omega)) _ _ | refine Blk.drewN ?_ _ | refine Blk.drew ?_ | refine Blk.alloc ?_ _ | refine Blk.far ?_ (by first | omega | (simp; done) | (simp; omega)) _ | assumption)))
    have hL6 := Lib.hid (show Below w5.heap.size w5 _ from reads_mid hb (by repeat' (first | exact Below.refl _ _ | refine below_drewN ?_ _ | refine Below.drew ?_ | refine Below.alloc ?_ (by first | omega | (simp; done) | (simp; omega) | (simp [World.setCell]; omega)) _ | refine Below.setCell ?_ (by first | omega | (simp; done) | (simp; omega)) _)))
    have R0_6 := Lib.hid (reads_lay hb hL6.out R0_5.out)
    have R1_6 := Lib.hid (reads_lay hb hL6.out R1_5.out)
    have R2_6 := Lib.hid (reads_lay hb hL6.out R2_5.out)
    have R3_6 := Lib.hid (reads_lay hb hL6.out R3_5.out)
    have R4_6 := Lib.hid (reads_lay hb hL6.out R4_5.out)
    clear hL6 R0_5 R1_5 R2_5 R3_5 R4_5
    have hz6 := hb.size
    try simp only [World.size_alloc, World.drewN, World.drew] at hz6
    clear hb K0_5 z0_0_5 z0_1_5 z0_2_5 l0_5
    have l0_6 : w.heap.size < w6.heap.size := K0_6.out.lt
    have z0_0_6 : w6.cell? ⟨w.heap.size, 0, none⟩ = some (.slice A1 n1 c1) := K0_6.out.cell 0
    have z0_1_6 : w6.cell? ⟨w.heap.size, 1, none⟩ = some (.slice A2 n2 c2) := K0_6.out.cell 1
    have z0_2_6 : w6.cell? ⟨w.heap.size, 2, none⟩ = some (.slice A3 n3 c3) := K0_6.out.cell 2
    go_wp2_with fail
    refine (copyints_any A1 n1 c1 _ hs _ R0_6.out (Nat.le_refl _) (by omega)).mono ?_
    rintro e w7 ⟨A7, c7, rfl, hb, hr7, -⟩
    have HB7 := Lib.hid (show Below w.heap.size w w7 from step_below hb (by repeat' (first | exact Below.refl _ _ | exact HB6.out | refine below_drewN ?_ _ | refine Below.drew ?_ | refine Below.alloc ?_ (by first | omega | (simp; done) | (simp; omega) | (simp [World.setCell]; omega)) _ | refine Below.setCell ?_ (by first | omega | (simp; done) | (simp; omega)) _ | assumption)))
    have K0_7 := Lib.hid (step_blk hb (show Blk _ (w.heap.size) 25 #[.slice A1 n1 c1, .slice A2 n2 c2, .slice A3 n3 c3] by repeat' (first | exact K0_6.out | exact Blk.at_ _ (by first | rfl | (simp; done) | (simp; omega)) _ _ | refine Blk.drewN ?_ _ | refine Blk.drew ?_ | refine Blk.alloc ?_ _ | refine Blk.far ?_ (by first | omega | (simp; done) | (simp; omega)) _ | assumption)))
    have hL7 := Lib.hid (show Below w6.heap.size w6 _ from reads_mid hb (by repeat' (first | exact Below.refl _ _ | refine below_drewN ?_ _ | refine Below.drew ?_ | refine Below.alloc ?_ (by first | omega | (simp; done) | (simp; omega) | (simp [World.setCell]; omega)) _ | refine Below.setCell ?_ (by first | omega | (simp; done) | (simp; omega)) _)))
    have R0_7 := Lib.hid (reads_lay hb hL7.out R0_6.out)
    have R1_7 := Lib.hid (reads_lay hb hL7.out R1_6.out)
    have R2_7 := Lib.hid (reads_lay hb hL7.out R2_6.out)
    have R3_7 := Lib.hid (reads_lay hb hL7.out R3_6.out)
    have R4_7 := Lib.hid (reads_lay hb hL7.out R4_6.out)
    clear hL7 R0_6 R1_6 R2_6 R3_6 R4_6
    have hz7 := hb.size
    try simp only [World.size_alloc, World.drewN, World.drew] at hz7
    clear hb K0_6 z0_0_6 z0_1_6 z0_2_6 l0_6
    have l0_7 : w.heap.size < w7.heap.size := K0_7.out.lt
    have z0_0_7 : w7.cell? ⟨w.heap.size, 0, none⟩ = some (.slice A1 n1 c1) := K0_7.out.cell 0
    have z0_1_7 : w7.cell? ⟨w.heap.size, 1, none⟩ = some (.slice A2 n2 c2) := K0_7.out.cell 1
    have z0_2_7 : w7.cell? ⟨w.heap.size, 2, none⟩ = some (.slice A3 n3 c3) := K0_7.out.cell 2
    have R5_7 := Lib.hid hr7
    clear hr7
    go_wp2_with fail
    refine (heights_ok A4 ps.length c4 n1 _ A7 c7 hs (by omega) (by omega) HD1.out HHG.out HKP1.out _ R3_7.out R5_7.out).mono ?_
    rintro e w8 ⟨rfl, hb⟩
    have HB8 := Lib.hid (show Below w.heap.size w w8 from step_below hb (by repeat' (first | exact Below.refl _ _ | exact HB7.out | refine below_drewN ?_ _ | refine Below.drew ?_ | refine Below.alloc ?_ (by first | omega | (simp; done) | (simp; omega) | (simp [World.setCell]; omega)) _ | refine Below.setCell ?_ (by first | omega | (simp; done) | (simp; omega)) _ | assumption)))
    have K0_8 := Lib.hid (step_blk hb (show Blk _ (w.heap.size) 25 #[.slice A1 n1 c1, .slice A2 n2 c2, .slice A3 n3 c3] by repeat' (first | exact K0_7.out | exact Blk.at_ _ (by first | rfl | (simp; done) | (simp; omega)) _ _ | refine Blk.drewN ?_ _ | refine Blk.drew ?_ | refine Blk.alloc ?_ _ | refine Blk.far ?_ (by first | omega | (simp; done) | (simp; omega)) _ | assumption)))
    have hL8 := Lib.hid (show Below w7.heap.size w7 _ from reads_mid hb (by repeat' (first | exact Below.refl _ _ | refine below_drewN ?_ _ | refine Below.drew ?_ | refine Below.alloc ?_ (by first | omega | (simp; done) | (simp; omega) | (simp [World.setCell]; omega)) _ | refine Below.setCell ?_ (by first | omega | (simp; done) | (simp; omega)) _)))
    have R0_8 := Lib.hid (reads_lay hb hL8.out R0_7.out)
    have R1_8 := Lib.hid (reads_lay hb hL8.out R1_7.out)
    have R2_8 := Lib.hid (reads_lay hb hL8.out R2_7.out)
    have R3_8 := Lib.hid (reads_lay hb hL8.out R3_7.out)
    have R4_8 := Lib.hid (reads_lay hb hL8.out R4_7.out)
    have R5_8 := Lib.hid (reads_lay hb hL8.out R5_7.out)
    clear hL8 R0_7 R1_7 R2_7 R3_7 R4_7 R5_7
    have hz8 := hb.size
    try simp only [World.size_alloc, World.drewN, World.drew] at hz8
    clear hb K0_7 z0_0_7 z0_1_7 z0_2_7 l0_7
    have l0_8 : w.heap.size < w8.heap.size := K0_8.out.lt
    have z0_0_8 : w8.cell? ⟨w.heap.size, 0, none⟩ = some (.slice A1 n1 c1) := K0_8.out.cell 0
    have z0_1_8 : w8.cell? ⟨w.heap.size, 1, none⟩ = some (.slice A2 n2 c2) := K0_8.out.cell 1
    have z0_2_8 : w8.cell? ⟨w.heap.size, 2, none⟩ = some (.slice A3 n3 c3) := K0_8.out.cell 2
    go_wp2
    go_ret
    exact ⟨rfl, by repeat' (first | exact Below.refl _ _ | exact HB8.out | refine below_drewN ?_ _ | refine Below.drew ?_ | refine Below.alloc ?_ (by first | omega | (simp; done) | (simp; omega) | (simp [World.setCell]; omega)) _ | refine Below.setCell ?_ (by first | omega | (simp; done) | (simp; omega)) _ | assumption)⟩
  | true =>
  go_wp2_with fail
  refine (enclosure_is A4 ps.length c4 n1 _ (hgtF hs) T1 true HT1.out HW1.out (by omega) (by omega) (by omega) HD1.out HP.out HKP1.out _ R3_4.out).mono ?_
  rintro e w5 ⟨hb, A6, c6, rfl, hr6⟩
  have HB5 := Lib.hid (show Below w.heap.size w w5 from step_below hb (by repeat' (first | exact Below.refl _ _ | exact HB4.out | refine below_drewN ?_ _ | refine Below.drew ?_ | refine Below.alloc ?_ (by first | omega | (simp; done) | (simp; omega) | (simp [World.setCell]; omega)) _ | refine Below.setCell ?_ (by first | omega | (simp; done) | (simp; omega)) _ | assumption)))
  have K0_5 := Lib.hid (step_blk hb (show Blk _ (w.heap.size) 25 #[.slice A1 n1 c1, .slice A2 n2 c2, .slice A3 n3 c3] by repeat' (first | exact K0_4.out | exact Blk.at_ _ (by first | rfl | (simp; done) | (simp; omega)) _ _ | refine Blk.drewN ?_ _ | refine Blk.drew ?_ | refine Blk.alloc ?_ _ | refine Blk.far ?_ (by first | omega | (simp; done) | (simp; omega)) _ | assumption)))
  have hL5 := Lib.hid (show Below w4.heap.size w4 _ from reads_mid hb (by repeat' (first | exact Below.refl _ _ | refine below_drewN ?_ _ | refine Below.drew ?_ | refine Below.alloc ?_ (by first | omega | (simp; done) | (simp; omega) | (simp [World.setCell]; omega)) _ | refine Below.setCell ?_ (by first | omega | (simp; done) | (simp; omega)) _)))
  have R0_5 := Lib.hid (reads_lay hb hL5.out R0_4.out)
  have R1_5 := Lib.hid (reads_lay hb hL5.out R1_4.out)
  have R2_5 := Lib.hid (reads_lay hb hL5.out R2_4.out)
  have R3_5 := Lib.hid (reads_lay hb hL5.out R3_4.out)
  have R4_5 := Lib.hid (reads_lay hb hL5.out R4_4.out)
  clear hL5 R0_4 R1_4 R2_4 R3_4 R4_4
  have hz5 := hb.size
  try simp only [World.size_alloc, World.drewN, World.drew] at hz5
  clear hb K0_4 z0_0_4 z0_1_4 z0_2_4 l0_4
  have l0_5 : w.heap.size < w5.heap.size := K0_5.out.lt
  have z0_0_5 : w5.cell? ⟨w.heap.size, 0, none⟩ = some (.slice A1 n1 c1) := K0_5.out.cell 0
  have z0_1_5 : w5.cell? ⟨w.heap.size, 1, none⟩ = some (.slice A2 n2 c2) := K0_5.out.cell 1
  have z0_2_5 : w5.cell? ⟨w.heap.size, 2, none⟩ = some (.slice A3 n3 c3) := K0_5.out.cell 2
  have R5_5 := Lib.hid hr6
  clear hr6
  go_wp2_with fail
  refine (enclosure_is A5 ps.length c5 n1 _ (hgtF hs) T2 true HT2.out HW2.out (by omega) (by omega) (by omega) HD2.out HP.out HKP2.out _ R4_5.out).mono ?_
  rintro e w6 ⟨hb, A7, c7, rfl, hr7⟩
  have HB6 := Lib.hid (show Below w.heap.size w w6 from step_below hb (by repeat' (first | exact Below.refl _ _ | exact HB5.out | refine below_drewN ?_ _ | refine Below.drew ?_ | refine Below.alloc ?_ (by first | omega | (simp; done) | (simp; omega) | (simp [World.setCell]; omega)) _ | refine Below.setCell ?_ (by first | omega | (simp; done) | (simp; omega)) _ | assumption)))
  have K0_6 := Lib.hid (step_blk hb (show Blk _ (w.heap.size) 25 #[.slice A1 n1 c1, .slice A2 n2 c2, .slice A3 n3 c3] by repeat' (first | exact K0_5.out | exact Blk.at_ _ (by first | rfl | (simp; done) | (simp; omega)) _ _ | refine Blk.drewN ?_ _ | refine Blk.drew ?_ | refine Blk.alloc ?_ _ | refine Blk.far ?_ (by first | omega | (simp; done) | (simp; omega)) _ | assumption)))
  have hL6 := Lib.hid (show Below w5.heap.size w5 _ from reads_mid hb (by repeat' (first | exact Below.refl _ _ | refine below_drewN ?_ _ | refine Below.drew ?_ | refine Below.alloc ?_ (by first | omega | (simp; done) | (simp; omega) | (simp [World.setCell]; omega)) _ | refine Below.setCell ?_ (by first | omega | (simp; done) | (simp; omega)) _)))
  have R0_6 := Lib.hid (reads_lay hb hL6.out R0_5.out)
  have R1_6 := Lib.hid (reads_lay hb hL6.out R1_5.out)
  have R2_6 := Lib.hid (reads_lay hb hL6.out R2_5.out)
  have R3_6 := Lib.hid (reads_lay hb hL6.out R3_5.out)
  have R4_6 := Lib.hid (reads_lay hb hL6.out R4_5.out)
  have R5_6 := Lib.hid (reads_lay hb hL6.out R5_5.out)
  clear hL6 R0_5 R1_5 R2_5 R3_5 R4_5 R5_5
  have hz6 := hb.size
  try simp only [World.size_alloc, World.drewN, World.drew] at hz6
  clear hb K0_5 z0_0_5 z0_1_5 z0_2_5 l0_5
  have l0_6 : w.heap.size < w6.heap.size := K0_6.out.lt
  have z0_0_6 : w6.cell? ⟨w.heap.size, 0, none⟩ = some (.slice A1 n1 c1) := K0_6.out.cell 0
  have z0_1_6 : w6.cell? ⟨w.heap.size, 1, none⟩ = some (.slice A2 n2 c2) := K0_6.out.cell 1
  have z0_2_6 : w6.cell? ⟨w.heap.size, 2, none⟩ = some (.slice A3 n3 c3) := K0_6.out.cell 2
  have R6_6 := Lib.hid hr7
  clear hr7
  go_wp2_with fail
  refine (copyints_any A1 n1 c1 _ hs _ R0_6.out (Nat.le_refl _) (by omega)).mono ?_
  rintro e w7 ⟨A8, c8, rfl, hb, hr8, -⟩
  have HB7 := Lib.hid (show Below w.heap.size w w7 from step_below hb (by repeat' (first | exact Below.refl _ _ | exact HB6.out | refine below_drewN ?_ _ | refine Below.drew ?_ | refine Below.alloc ?_ (by first | omega | (simp; done) | (simp; omega) | (simp [World.setCell]; omega)) _ | refine Below.setCell ?_ (by first | omega | (simp; done) | (simp; omega)) _ | assumption)))
  have K0_7 := Lib.hid (step_blk hb (show Blk _ (w.heap.size) 25 #[.slice A1 n1 c1, .slice A2 n2 c2, .slice A3 n3 c3] by repeat' (first | exact K0_6.out | exact Blk.at_ _ (by first | rfl | (simp; done) | (simp; omega)) _ _ | refine Blk.drewN ?_ _ | refine Blk.drew ?_ | refine Blk.alloc ?_ _ | refine Blk.far ?_ (by first | omega | (simp; done) | (simp; omega)) _ | assumption)))
  have hL7 := Lib.hid (show Below w6.heap.size w6 _ from reads_mid hb (by repeat' (first | exact Below.refl _ _ | refine below_drewN ?_ _ | refine Below.drew ?_ | refine Below.alloc ?_ (by first | omega | (simp; done) | (simp; omega) | (simp [World.setCell]; omega)) _ | refine Below.setCell ?_ (by first | omega | (simp; done) | (simp; omega)) _)))
  have R0_7 := Lib.hid (reads_lay hb hL7.out R0_6.out)
  have R1_7 := Lib.hid (reads_lay hb hL7.out R1_6.out)
  have R2_7 := Lib.hid (reads_lay hb hL7.out R2_6.out)
  have R3_7 := Lib.hid (reads_lay hb hL7.out R3_6.out)
  have R4_7 := Lib.hid (reads_lay hb hL7.out R4_6.out)
  have R5_7 := Lib.hid (reads_lay hb hL7.out R5_6.out)
  have R6_7 := Lib.hid (reads_lay hb hL7.out R6_6.out)
  clear hL7 R0_6 R1_6 R2_6 R3_6 R4_6 R5_6 R6_6
  have hz7 := hb.size
  try simp only [World.size_alloc, World.drewN, World.drew] at hz7
  clear hb K0_6 z0_0_6 z0_1_6 z0_2_6 l0_6
  have l0_7 : w.heap.size < w7.heap.size := K0_7.out.lt
  have z0_0_7 : w7.cell? ⟨w.heap.size, 0, none⟩ = some (.slice A1 n1 c1) := K0_7.out.cell 0
  have z0_1_7 : w7.cell? ⟨w.heap.size, 1, none⟩ = some (.slice A2 n2 c2) := K0_7.out.cell 1
  have z0_2_7 : w7.cell? ⟨w.heap.size, 2, none⟩ = some (.slice A3 n3 c3) := K0_7.out.cell 2
  have R7_7 := Lib.hid hr8
  clear hr8
  go_wp2_with fail
  refine (heights_ok A4 ps.length c4 n1 _ A8 c8 hs (by omega) (by omega) HD1.out HHG.out HKP1.out _ R3_7.out R7_7.out).mono ?_
  rintro e w8 ⟨rfl, hb⟩
  have HB8 := Lib.hid (show Below w.heap.size w w8 from step_below hb (by repeat' (first | exact Below.refl _ _ | exact HB7.out | refine below_drewN ?_ _ | refine Below.drew ?_ | refine Below.alloc ?_ (by first | omega | (simp; done) | (simp; omega) | (simp [World.setCell]; omega)) _ | refine Below.setCell ?_ (by first | omega | (simp; done) | (simp; omega)) _ | assumption)))
  have K0_8 := Lib.hid (step_blk hb (show Blk _ (w.heap.size) 25 #[.slice A1 n1 c1, .slice A2 n2 c2, .slice A3 n3 c3] by repeat' (first | exact K0_7.out | exact Blk.at_ _ (by first | rfl | (simp; done) | (simp; omega)) _ _ | refine Blk.drewN ?_ _ | refine Blk.drew ?_ | refine Blk.alloc ?_ _ | refine Blk.far ?_ (by first | omega | (simp; done) | (simp; omega)) _ | assumption)))
  have hL8 := Lib.hid (show Below w7.heap.size w7 _ from reads_mid hb (by repeat' (first | exact Below.refl _ _ | refine below_drewN ?_ _ | refine Below.drew ?_ | refine Below.alloc ?_ (by first | omega | (simp; done) | (simp; omega) | (simp [World.setCell]; omega)) _ | refine Below.setCell ?_ (by first | omega | (simp; done) | (simp; omega)) _)))
  have R0_8 := Lib.hid (reads_lay hb hL8.out R0_7.out)
  have R1_8 := Lib.hid (reads_lay hb hL8.out R1_7.out)
  have R2_8 := Lib.hid (reads_lay hb hL8.out R2_7.out)
  have R3_8 := Lib.hid (reads_lay hb hL8.out R3_7.out)
  have R4_8 := Lib.hid (reads_lay hb hL8.out R4_7.out)
  have R5_8 := Lib.hid (reads_lay hb hL8.out R5_7.out)
  have R6_8 := Lib.hid (reads_lay hb hL8.out R6_7.out)
  have R7_8 := Lib.hid (reads_lay hb hL8.out R7_7.out)
  clear hL8 R0_7 R1_7 R2_7 R3_7 R4_7 R5_7 R6_7 R7_7
  have hz8 := hb.size
  try simp only [World.size_alloc, World.drewN, World.drew] at hz8
  clear hb K0_7 z0_0_7 z0_1_7 z0_2_7 l0_7
  have l0_8 : w.heap.size < w8.heap.size := K0_8.out.lt
  have z0_0_8 : w8.cell? ⟨w.heap.size, 0, none⟩ = some (.slice A1 n1 c1) := K0_8.out.cell 0
  have z0_1_8 : w8.cell? ⟨w.heap.size, 1, none⟩ = some (.slice A2 n2 c2) := K0_8.out.cell 1
  have z0_2_8 : w8.cell? ⟨w.heap.size, 2, none⟩ = some (.slice A3 n3 c3) := K0_8.out.cell 2
  have e2 : ((n1 : Int) != (n1 : Int)) = false := by simp
  go_wp2
  have RH := R0_8
  have RA := R5_8
  have RB := R6_8
  have KM := K0_8
  clear R0_8 R1_8 R2_8 R3_8 R4_8 R5_8 R6_8 R7_8
  go_loopw [16] (fun x wr => ∃ i : Nat, i ≤ n1 ∧ x = .int .i64 i ∧ Below w8.heap.size w8 wr) (fun x _ => n1 - (intOf x).toNat)
  case atStart => exact ⟨0, by omega, rfl, Below.refl _ _⟩
  case round =>
    obtain ⟨i, hi, rfl, hbk⟩ := hrel
    obtain ⟨w9, hnm⟩ : ∃ z : World, z = wr := ⟨_, rfl⟩
    subst hnm
    have HBK := Lib.hid hbk
    have hb' := HB8.out.trans (hbk.mono HB8.out.size)
    have hrh := (RH.out.below hbk).more hbk.size
    have hra := (RA.out.below hbk).more hbk.size
    have hrb := (RB.out.below hbk).more hbk.size
    have km := Blk.below KM.out hbk KM.out.lt
    clear hbk
    by_cases hlt : i < n1
    rotate_left
    · obtain rfl : n1 = i := by omega
      have HB9 := Lib.hid hb'
      have K0_9 := Lib.hid (show Blk w9 (w.heap.size) 25 #[.slice A1 n1 c1, .slice A2 n2 c2, .slice A3 n3 c3] from km)
      clear hb' km
      have l0_9 : w.heap.size < w9.heap.size := K0_9.out.lt
      have z0_0_9 : w9.cell? ⟨w.heap.size, 0, none⟩ = some (.slice A1 n1 c1) := K0_9.out.cell 0
      have z0_1_9 : w9.cell? ⟨w.heap.size, 1, none⟩ = some (.slice A2 n2 c2) := K0_9.out.cell 1
      have z0_2_9 : w9.cell? ⟨w.heap.size, 2, none⟩ = some (.slice A3 n3 c3) := K0_9.out.cell 2
      go_wp2
      go_ret
      exact ⟨rfl, by repeat' (first | exact Below.refl _ _ | exact HB9.out | refine below_drewN ?_ _ | refine Below.drew ?_ | refine Below.alloc ?_ (by first | omega | (simp; done) | (simp; omega) | (simp [World.setCell]; omega)) _ | refine Below.setCell ?_ (by first | omega | (simp; done) | (simp; omega)) _ | assumption)⟩
    have hn0 : 0 < n1 := by omega
    have hii : (i : Int) < (n1 : Int) := by omega
    obtain ⟨xb, xo, x, hA, hxb, hxi, cx⟩ := hrh.int_ hlt
    obtain ⟨xb2, xo2, x0, hA2, -, hx0, cx0⟩ := hrh.int_ (show 0 < n1 by omega)
    obtain ⟨ab, ao, ⟨a0, a1⟩, hB, hab, hai, ca0, ca1⟩ := hra.pair hlt
    obtain ⟨bb, bo, ⟨b0, b1⟩, hC, hbb, hbi, cb0, cb1⟩ := hrb.pair hlt
    subst hA
    subst hB
    subst hC
    obtain ⟨rfl, rfl⟩ : xb = xb2 ∧ xo = xo2 := by simpa using hA2
    simp only at ca0 ca1 cb0 cb1
    simp only [Nat.add_zero] at cx0
    have HB9 := Lib.hid hb'
    have K0_9 := Lib.hid (show Blk w9 (w.heap.size) 25 #[.slice (some ⟨xb, xo, none⟩) n1 c1, .slice A2 n2 c2, .slice A3 n3 c3] from km)
    clear hb' km
    have l0_9 : w.heap.size < w9.heap.size := K0_9.out.lt
    have z0_0_9 : w9.cell? ⟨w.heap.size, 0, none⟩ = some (.slice (some ⟨xb, xo, none⟩) n1 c1) := K0_9.out.cell 0
    have z0_1_9 : w9.cell? ⟨w.heap.size, 1, none⟩ = some (.slice A2 n2 c2) := K0_9.out.cell 1
    have z0_2_9 : w9.cell? ⟨w.heap.size, 2, none⟩ = some (.slice A3 n3 c3) := K0_9.out.cell 2
    have i1 := HHG.out _ (List.mem_of_getElem? hxi)
    have i2 := HHG.out _ (List.mem_of_getElem? hx0)
    have hw := HWI.out i
    rw [hgtF_at hxi, hgtF_at hx0] at hw
    rw [encR_get _ hlt] at hai hbi
    obtain ⟨ea0, ea1⟩ : -(T1 i 0) = a0 ∧ T1 0 i = a1 := by simpa using hai
    obtain ⟨eb0, eb1⟩ : -(T2 i 0) = b0 ∧ T2 0 i = b1 := by simpa using hbi
    have l1 := (HLE.out i 0).1
    have l2 := (HLE.out 0 i).1
    rw [eb0, eb1] at hw
    obtain ⟨h, hh⟩ : ∃ h, x - x0 = h := ⟨_, rfl⟩
    rw [hh] at hw
    have HW := Lib.hid hw
    have e3 : IntKind.i64.wrap (x - x0) = h := by rw [hh]; exact IntWalk.i64_in h ⟨by omega, by omega⟩
    have d1 : decide (b0 < a0) = false := by simp; omega
    have d2 : decide (a1 < b1) = false := by simp; omega
    have e4 := IntWalk.i64_in ((i : Int) + 1) ⟨by omega, by omega⟩
    clear hA2 hai hbi hxi hx0 hw hrh hra hrb ea0 ea1 eb0 eb1 l1 l2 hh
    go_wp2_with fail
    refine Fx.regionW (fun W f w' => Below W.heap.size W w') (by kernel_rfl) (by kernel_rfl) ?_ ?_
    · intro f hf0
      exact below_drewN (Below.refl _ _) 1
    repeat (first
      | (refine Fx.skip_ (by rfl) (fun f w h => h) ?_; simp only [Act.put, List.setIfInBounds_toArray, List.set_cons_zero, List.set_cons_succ])
      | (refine Fx.val_ ?_ (by rfl) ?_ (fun f w h => h) ?_
         rotate_left
         · intro f w' hD hk
           have hb := hD
           have kb0 := step_blk hb (show Blk _ (w.heap.size) 25 #[.slice (some ⟨xb, xo, none⟩) n1 c1, .slice A2 n2 c2, .slice A3 n3 c3] by repeat' (first | exact K0_9.out | exact Blk.at_ _ (by first | rfl | (simp; done) | (simp; omega)) _ _ | refine Blk.drewN ?_ _ | refine Blk.drew ?_ | refine Blk.alloc ?_ _ | refine Blk.far ?_ (by first | omega | (simp; done) | (simp; omega)) _ | assumption))
           have y0_0 : w'.cell? ⟨w.heap.size, 0, none⟩ = some (.slice (some ⟨xb, xo, none⟩) n1 c1) := kb0.cell 0
           have y0_1 : w'.cell? ⟨w.heap.size, 1, none⟩ = some (.slice A2 n2 c2) := kb0.cell 1
           have y0_2 : w'.cell? ⟨w.heap.size, 2, none⟩ = some (.slice A3 n3 c3) := kb0.cell 2
           have q0 := (hb.cell (p := ⟨xb, _, none⟩) hxb).trans cx
           have q1 := (hb.cell (p := ⟨xb, _, none⟩) hxb).trans cx0
           clear kb0
           clear hk hD hb
           go_simp
           try rfl
         simp only [Act.put, List.setIfInBounds_toArray, List.set_cons_zero, List.set_cons_succ]))
    refine Fx.nil_ ?_
    intro f w10 hall hb
    try clear hall
    have HB910 := Lib.hid hb
    have HB10 := Lib.hid (show Below w.heap.size w w10 from step_below hb (by repeat' (first | exact Below.refl _ _ | exact HB9.out | refine below_drewN ?_ _ | refine Below.drew ?_ | refine Below.alloc ?_ (by first | omega | (simp; done) | (simp; omega) | (simp [World.setCell]; omega)) _ | refine Below.setCell ?_ (by first | omega | (simp; done) | (simp; omega)) _ | assumption)))
    have K0_10 := Lib.hid (step_blk hb (show Blk _ (w.heap.size) 25 #[.slice (some ⟨xb, xo, none⟩) n1 c1, .slice A2 n2 c2, .slice A3 n3 c3] by repeat' (first | exact K0_9.out | exact Blk.at_ _ (by first | rfl | (simp; done) | (simp; omega)) _ _ | refine Blk.drewN ?_ _ | refine Blk.drew ?_ | refine Blk.alloc ?_ _ | refine Blk.far ?_ (by first | omega | (simp; done) | (simp; omega)) _ | assumption)))
    have hz10 := hb.size
    try simp only [World.size_alloc, World.drewN, World.drew] at hz10
    clear hb K0_9 z0_0_9 z0_1_9 z0_2_9 l0_9
    have l0_10 : w.heap.size < w10.heap.size := K0_10.out.lt
    have z0_0_10 : w10.cell? ⟨w.heap.size, 0, none⟩ = some (.slice (some ⟨xb, xo, none⟩) n1 c1) := K0_10.out.cell 0
    have z0_1_10 : w10.cell? ⟨w.heap.size, 1, none⟩ = some (.slice A2 n2 c2) := K0_10.out.cell 1
    have z0_2_10 : w10.cell? ⟨w.heap.size, 2, none⟩ = some (.slice A3 n3 c3) := K0_10.out.cell 2
    have hbn := HB910.out
    have ca0 := (hbn.cell (p := ⟨ab, _, none⟩) hab).trans ca0
    have ca1 := (hbn.cell (p := ⟨ab, _, none⟩) hab).trans ca1
    have cb0 := (hbn.cell (p := ⟨bb, _, none⟩) hbb).trans cb0
    have cb1 := (hbn.cell (p := ⟨bb, _, none⟩) hbb).trans cb1
    have hab2 : ab < w10.heap.size := by have := hbn.size; omega
    have hbb2 : bb < w10.heap.size := by have := hbn.size; omega
    clear hbn cx cx0
    go_wp2_with fail
    refine Fx.regionW (fun W f w' => Below W.heap.size W w') (by kernel_rfl) (by kernel_rfl) ?_ ?_
    · intro f hf0
      exact below_drewN (Below.refl _ _) 1
    repeat (first
      | (refine Fx.skip_ (by rfl) (fun f w h => h) ?_; simp only [Act.put, List.setIfInBounds_toArray, List.set_cons_zero, List.set_cons_succ])
      | (refine Fx.val_ ?_ (by rfl) ?_ (fun f w h => h) ?_
         rotate_left
         · intro f w' hD hk
           have hb := hD
           have kb0 := step_blk hb (show Blk _ (w.heap.size) 25 #[.slice (some ⟨xb, xo, none⟩) n1 c1, .slice A2 n2 c2, .slice A3 n3 c3] by repeat' (first | exact K0_10.out | exact Blk.at_ _ (by first | rfl | (simp; done) | (simp; omega)) _ _ | refine Blk.drewN ?_ _ | refine Blk.drew ?_ | refine Blk.alloc ?_ _ | refine Blk.far ?_ (by first | omega | (simp; done) | (simp; omega)) _ | assumption))
           have y0_0 : w'.cell? ⟨w.heap.size, 0, none⟩ = some (.slice (some ⟨xb, xo, none⟩) n1 c1) := kb0.cell 0
           have y0_1 : w'.cell? ⟨w.heap.size, 1, none⟩ = some (.slice A2 n2 c2) := kb0.cell 1
           have y0_2 : w'.cell? ⟨w.heap.size, 2, none⟩ = some (.slice A3 n3 c3) := kb0.cell 2
           have q0 := (hb.cell (p := ⟨ab, _, none⟩) hab2).trans ca0
           have q1 := (hb.cell (p := ⟨ab, _, none⟩) hab2).trans ca1
           have q2 := (hb.cell (p := ⟨bb, _, none⟩) hbb2).trans cb0
           have q3 := (hb.cell (p := ⟨bb, _, none⟩) hbb2).trans cb1
           clear kb0
           clear hk hD hb
           go_simp
           try rfl
         simp only [Act.put, List.setIfInBounds_toArray, List.set_cons_zero, List.set_cons_succ]))
    refine Fx.call_ (.bool true) ?_ ?_ (by rfl) ?_ ?_ ?_
    rotate_left 2
    · intro w'
      go_simp
      refine ⟨?_, ?_⟩ <;> rfl
    · intro f w' hD hk
      exact (withinref_is _ _ _ true HW.out w').mono fun e w'' ⟨he, hw⟩ => ⟨he, hw ▸ hD⟩
    simp only [Act.put, List.setIfInBounds_toArray, List.set_cons_zero, List.set_cons_succ]
    repeat (first
      | (refine Fx.skip_ (by rfl) (fun f w h => h) ?_; simp only [Act.put, List.setIfInBounds_toArray, List.set_cons_zero, List.set_cons_succ])
      | (refine Fx.val_ ?_ (by rfl) ?_ (fun f w h => h) ?_
         rotate_left
         · intro f w' hD hk
           have hb := hD
           have kb0 := step_blk hb (show Blk _ (w.heap.size) 25 #[.slice (some ⟨xb, xo, none⟩) n1 c1, .slice A2 n2 c2, .slice A3 n3 c3] by repeat' (first | exact K0_10.out | exact Blk.at_ _ (by first | rfl | (simp; done) | (simp; omega)) _ _ | refine Blk.drewN ?_ _ | refine Blk.drew ?_ | refine Blk.alloc ?_ _ | refine Blk.far ?_ (by first | omega | (simp; done) | (simp; omega)) _ | assumption))
           have y0_0 : w'.cell? ⟨w.heap.size, 0, none⟩ = some (.slice (some ⟨xb, xo, none⟩) n1 c1) := kb0.cell 0
           have y0_1 : w'.cell? ⟨w.heap.size, 1, none⟩ = some (.slice A2 n2 c2) := kb0.cell 1
           have y0_2 : w'.cell? ⟨w.heap.size, 2, none⟩ = some (.slice A3 n3 c3) := kb0.cell 2
           have q0 := (hb.cell (p := ⟨ab, _, none⟩) hab2).trans ca0
           have q1 := (hb.cell (p := ⟨ab, _, none⟩) hab2).trans ca1
           have q2 := (hb.cell (p := ⟨bb, _, none⟩) hbb2).trans cb0
           have q3 := (hb.cell (p := ⟨bb, _, none⟩) hbb2).trans cb1
           clear kb0
           clear hk hD hb
           go_simp
           try rfl
         simp only [Act.put, List.setIfInBounds_toArray, List.set_cons_zero, List.set_cons_succ]))
    refine Fx.nil_ ?_
    intro f w11 hall hb
    try clear hall
    have HB1011 := Lib.hid hb
    have HB11 := Lib.hid (show Below w.heap.size w w11 from step_below hb (by repeat' (first | exact Below.refl _ _ | exact HB10.out | refine below_drewN ?_ _ | refine Below.drew ?_ | refine Below.alloc ?_ (by first | omega | (simp; done) | (simp; omega) | (simp [World.setCell]; omega)) _ | refine Below.setCell ?_ (by first | omega | (simp; done) | (simp; omega)) _ | assumption)))
    have K0_11 := Lib.hid (step_blk hb (show Blk _ (w.heap.size) 25 #[.slice (some ⟨xb, xo, none⟩) n1 c1, .slice A2 n2 c2, .slice A3 n3 c3] by repeat' (first | exact K0_10.out | exact Blk.at_ _ (by first | rfl | (simp; done) | (simp; omega)) _ _ | refine Blk.drewN ?_ _ | refine Blk.drew ?_ | refine Blk.alloc ?_ _ | refine Blk.far ?_ (by first | omega | (simp; done) | (simp; omega)) _ | assumption)))
    have hz11 := hb.size
    try simp only [World.size_alloc, World.drewN, World.drew] at hz11
    clear hb K0_10 z0_0_10 z0_1_10 z0_2_10 l0_10
    have l0_11 : w.heap.size < w11.heap.size := K0_11.out.lt
    have z0_0_11 : w11.cell? ⟨w.heap.size, 0, none⟩ = some (.slice (some ⟨xb, xo, none⟩) n1 c1) := K0_11.out.cell 0
    have z0_1_11 : w11.cell? ⟨w.heap.size, 1, none⟩ = some (.slice A2 n2 c2) := K0_11.out.cell 1
    have z0_2_11 : w11.cell? ⟨w.heap.size, 2, none⟩ = some (.slice A3 n3 c3) := K0_11.out.cell 2
    have HBB := Lib.hid (HBK.out.trans ((HB910.out.trans (HB1011.out.mono HB910.out.size)).mono HBK.out.size))
    go_wp2
    go_roundw
    case rel => exact ⟨i + 1, by omega, by go_num, HBB.out⟩
    case measure => simp [intOf]; omega
end Go.Proofs.Ytcggceincmljdaa

end
