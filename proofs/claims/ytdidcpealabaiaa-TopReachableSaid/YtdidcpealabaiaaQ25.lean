import Derived.Test.YtdidcpealabaiaaQ24
import Derived.Deep.Cut

section
/- The walk of the statement on what is reachable. -/
namespace Go.Proofs.Ytdidcpealabaiaa
open Go Go.RowKit

set_option maxRecDepth 100000 in
set_option maxHeartbeats 8000000 in
theorem lawTR_yes (m : Mnt) (A : Option Addr) (n c : Nat) (l : List Tgt) (day pos mi : Int) (w : World) (hx : TourIn m A n c l day pos w) (hl : shortB m l = true) (h5 : n ≤ 5) (hT : (tourF m l day pos).2 = 0) :
    Calls Try.prog 10 #[tourV m A n c day pos, .int .i64 mi] w fun e w' => e = .returned (.bool true) ∧ Below w.heap.size w w' := by
  have hma := hx.mnt.at_
  have hrd := hx.rd
  have hfit := hx.fit
  have hlen := hx.len
  have hnc := hx.hn.1
  have hcc := hx.hn.2
  unfold tourV
  clear hx
  obtain ⟨-, hn1, hn2, hn23⟩ := short_parts hl
  obtain ⟨r1, r2, ⟨r3, r4⟩, r5, -⟩ := tour_right hT
  obtain ⟨⟨q1, q2, q3, q4⟩, ⟨o1, o2, sp1, sp2⟩, -⟩ := mnt_right r1
  have hln : l.length = n := hrd.tlen
  have hposR : PosR pos := by unfold PosR; omega
  obtain ⟨V, hV⟩ : ∃ V, leastC m day pos l = V := ⟨_, rfl⟩
  have HL := Lib.hid hl
  have HF := Lib.hid hfit
  have HN := Lib.hid hln
  have HE := Lib.hid (tour_zero hT)
  have HZ0 := Lib.hid hT
  have HV := Lib.hid hV
  have HM := Lib.hid r1
  have HD := Lib.hid r2
  have d5 : ¬ (5 : Int) < (n : Int) := by omega
  clear hl hfit hln hT hV r1 r2
  go_enter Try.func10, Try.ntmps10
  have R0_0 := Lib.hid hrd
  clear hrd
  have R1_0 := Lib.hid hma
  clear hma
  go_wp2_with fail
  refine (aimed_any _).mono ?_
  rintro e w1 ⟨rfl, hb⟩
  have HB1 := Lib.hid (show Below w.heap.size w w1 from step_below hb (by repeat' (first | exact Below.refl _ _ | exact HB0.out | refine below_drewN ?_ _ | refine Below.drew ?_ | refine Below.alloc ?_ (by first | omega | (simp; done) | (simp; omega) | (simp [World.setCell]; omega)) _ | refine Below.setCell ?_ (by first | omega | (simp; done) | (simp; omega)) _ | assumption)))
  have K0_1 := Lib.hid (step_blk hb (show Blk _ (w.heap.size) 62 #[.int .i64 (m.ls), .int .i64 (m.ms), .int .i64 (m.lo), .int .i64 (m.hi), .int .i64 (m.sp), .slice m.A1 m.n1 m.c1, .slice m.A2 m.n2 m.c2, .slice (A) n c, .int .i64 (day), .int .i64 (pos)] by repeat' (first | exact Blk.at_ _ (by first | rfl | (simp; done) | (simp; omega)) _ _ | refine Blk.drewN ?_ _ | refine Blk.drew ?_ | refine Blk.alloc ?_ _ | refine Blk.far ?_ (by first | omega | (simp; done) | (simp; omega)) _ | assumption)))
  have hL1 := Lib.hid (show Below w.heap.size w _ from reads_mid hb (by repeat' (first | exact Below.refl _ _ | refine below_drewN ?_ _ | refine Below.drew ?_ | refine Below.alloc ?_ (by first | omega | (simp; done) | (simp; omega) | (simp [World.setCell]; omega)) _ | refine Below.setCell ?_ (by first | omega | (simp; done) | (simp; omega)) _)))
  have R0_1 := Lib.hid (reads_lay hb hL1.out R0_0.out)
  have R1_1 := Lib.hid (mnt_lay hb hL1.out R1_0.out)
  clear hL1 R0_0 R1_0
  have hz1 := hb.size
  try simp only [World.size_alloc, World.drewN, World.drew] at hz1
  clear hb
  have l0_1 : w.heap.size < w1.heap.size := K0_1.out.lt
  have z0_0_1 : w1.cell? ⟨w.heap.size, 0, none⟩ = some (.int .i64 (m.ls)) := K0_1.out.cell 0
  have z0_1_1 : w1.cell? ⟨w.heap.size, 1, none⟩ = some (.int .i64 (m.ms)) := K0_1.out.cell 1
  have z0_2_1 : w1.cell? ⟨w.heap.size, 2, none⟩ = some (.int .i64 (m.lo)) := K0_1.out.cell 2
  have z0_3_1 : w1.cell? ⟨w.heap.size, 3, none⟩ = some (.int .i64 (m.hi)) := K0_1.out.cell 3
  have z0_4_1 : w1.cell? ⟨w.heap.size, 4, none⟩ = some (.int .i64 (m.sp)) := K0_1.out.cell 4
  have z0_5_1 : w1.cell? ⟨w.heap.size, 5, none⟩ = some (.slice m.A1 m.n1 m.c1) := K0_1.out.cell 5
  have z0_6_1 : w1.cell? ⟨w.heap.size, 6, none⟩ = some (.slice m.A2 m.n2 m.c2) := K0_1.out.cell 6
  have z0_7_1 : w1.cell? ⟨w.heap.size, 7, none⟩ = some (.slice (A) n c) := K0_1.out.cell 7
  have z0_8_1 : w1.cell? ⟨w.heap.size, 8, none⟩ = some (.int .i64 (day)) := K0_1.out.cell 8
  have z0_9_1 : w1.cell? ⟨w.heap.size, 9, none⟩ = some (.int .i64 (pos)) := K0_1.out.cell 9
  go_wp2_with fail
  refine (shortp_is m A n c _ l day pos true HL.out _ R0_1.out (Nat.le_refl _) (by omega)).mono ?_
  rintro e w2 ⟨rfl, hb⟩
  have HB2 := Lib.hid (show Below w.heap.size w w2 from step_below hb (by repeat' (first | exact Below.refl _ _ | exact HB1.out | refine below_drewN ?_ _ | refine Below.drew ?_ | refine Below.alloc ?_ (by first | omega | (simp; done) | (simp; omega) | (simp [World.setCell]; omega)) _ | refine Below.setCell ?_ (by first | omega | (simp; done) | (simp; omega)) _ | assumption)))
  have K0_2 := Lib.hid (step_blk hb (show Blk _ (w.heap.size) 62 #[.int .i64 (m.ls), .int .i64 (m.ms), .int .i64 (m.lo), .int .i64 (m.hi), .int .i64 (m.sp), .slice m.A1 m.n1 m.c1, .slice m.A2 m.n2 m.c2, .slice (A) n c, .int .i64 (day), .int .i64 (pos)] by repeat' (first | exact K0_1.out | exact Blk.at_ _ (by first | rfl | (simp; done) | (simp; omega)) _ _ | refine Blk.drewN ?_ _ | refine Blk.drew ?_ | refine Blk.alloc ?_ _ | refine Blk.far ?_ (by first | omega | (simp; done) | (simp; omega)) _ | assumption)))
  have hL2 := Lib.hid (show Below w1.heap.size w1 _ from reads_mid hb (by repeat' (first | exact Below.refl _ _ | refine below_drewN ?_ _ | refine Below.drew ?_ | refine Below.alloc ?_ (by first | omega | (simp; done) | (simp; omega) | (simp [World.setCell]; omega)) _ | refine Below.setCell ?_ (by first | omega | (simp; done) | (simp; omega)) _)))
  have R0_2 := Lib.hid (reads_lay hb hL2.out R0_1.out)
  have R1_2 := Lib.hid (mnt_lay hb hL2.out R1_1.out)
  clear hL2 R0_1 R1_1
  have hz2 := hb.size
  try simp only [World.size_alloc, World.drewN, World.drew] at hz2
  clear hb K0_1 z0_0_1 z0_1_1 z0_2_1 z0_3_1 z0_4_1 z0_5_1 z0_6_1 z0_7_1 z0_8_1 z0_9_1 l0_1
  have l0_2 : w.heap.size < w2.heap.size := K0_2.out.lt
  have z0_0_2 : w2.cell? ⟨w.heap.size, 0, none⟩ = some (.int .i64 (m.ls)) := K0_2.out.cell 0
  have z0_1_2 : w2.cell? ⟨w.heap.size, 1, none⟩ = some (.int .i64 (m.ms)) := K0_2.out.cell 1
  have z0_2_2 : w2.cell? ⟨w.heap.size, 2, none⟩ = some (.int .i64 (m.lo)) := K0_2.out.cell 2
  have z0_3_2 : w2.cell? ⟨w.heap.size, 3, none⟩ = some (.int .i64 (m.hi)) := K0_2.out.cell 3
  have z0_4_2 : w2.cell? ⟨w.heap.size, 4, none⟩ = some (.int .i64 (m.sp)) := K0_2.out.cell 4
  have z0_5_2 : w2.cell? ⟨w.heap.size, 5, none⟩ = some (.slice m.A1 m.n1 m.c1) := K0_2.out.cell 5
  have z0_6_2 : w2.cell? ⟨w.heap.size, 6, none⟩ = some (.slice m.A2 m.n2 m.c2) := K0_2.out.cell 6
  have z0_7_2 : w2.cell? ⟨w.heap.size, 7, none⟩ = some (.slice (A) n c) := K0_2.out.cell 7
  have z0_8_2 : w2.cell? ⟨w.heap.size, 8, none⟩ = some (.int .i64 (day)) := K0_2.out.cell 8
  have z0_9_2 : w2.cell? ⟨w.heap.size, 9, none⟩ = some (.int .i64 (pos)) := K0_2.out.cell 9
  go_wp2_with fail
  refine (pchecktour_is m day pos l A n c 0 0 HE.out _ R1_2.out R0_2.out ⟨by omega, by omega⟩ HF.out).mono ?_
  rintro e w3 ⟨rfl, hb⟩
  have HB3 := Lib.hid (show Below w.heap.size w w3 from step_below hb (by repeat' (first | exact Below.refl _ _ | exact HB2.out | refine below_drewN ?_ _ | refine Below.drew ?_ | refine Below.alloc ?_ (by first | omega | (simp; done) | (simp; omega) | (simp [World.setCell]; omega)) _ | refine Below.setCell ?_ (by first | omega | (simp; done) | (simp; omega)) _ | assumption)))
  have K0_3 := Lib.hid (step_blk hb (show Blk _ (w.heap.size) 62 #[.int .i64 (m.ls), .int .i64 (m.ms), .int .i64 (m.lo), .int .i64 (m.hi), .int .i64 (m.sp), .slice m.A1 m.n1 m.c1, .slice m.A2 m.n2 m.c2, .slice (A) n c, .int .i64 (day), .int .i64 (pos)] by repeat' (first | exact K0_2.out | exact Blk.at_ _ (by first | rfl | (simp; done) | (simp; omega)) _ _ | refine Blk.drewN ?_ _ | refine Blk.drew ?_ | refine Blk.alloc ?_ _ | refine Blk.far ?_ (by first | omega | (simp; done) | (simp; omega)) _ | assumption)))
  have hL3 := Lib.hid (show Below w2.heap.size w2 _ from reads_mid hb (by repeat' (first | exact Below.refl _ _ | refine below_drewN ?_ _ | refine Below.drew ?_ | refine Below.alloc ?_ (by first | omega | (simp; done) | (simp; omega) | (simp [World.setCell]; omega)) _ | refine Below.setCell ?_ (by first | omega | (simp; done) | (simp; omega)) _)))
  have R0_3 := Lib.hid (reads_lay hb hL3.out R0_2.out)
  have R1_3 := Lib.hid (mnt_lay hb hL3.out R1_2.out)
  clear hL3 R0_2 R1_2
  have hz3 := hb.size
  try simp only [World.size_alloc, World.drewN, World.drew] at hz3
  clear hb K0_2 z0_0_2 z0_1_2 z0_2_2 z0_3_2 z0_4_2 z0_5_2 z0_6_2 z0_7_2 z0_8_2 z0_9_2 l0_2
  have l0_3 : w.heap.size < w3.heap.size := K0_3.out.lt
  have z0_0_3 : w3.cell? ⟨w.heap.size, 0, none⟩ = some (.int .i64 (m.ls)) := K0_3.out.cell 0
  have z0_1_3 : w3.cell? ⟨w.heap.size, 1, none⟩ = some (.int .i64 (m.ms)) := K0_3.out.cell 1
  have z0_2_3 : w3.cell? ⟨w.heap.size, 2, none⟩ = some (.int .i64 (m.lo)) := K0_3.out.cell 2
  have z0_3_3 : w3.cell? ⟨w.heap.size, 3, none⟩ = some (.int .i64 (m.hi)) := K0_3.out.cell 3
  have z0_4_3 : w3.cell? ⟨w.heap.size, 4, none⟩ = some (.int .i64 (m.sp)) := K0_3.out.cell 4
  have z0_5_3 : w3.cell? ⟨w.heap.size, 5, none⟩ = some (.slice m.A1 m.n1 m.c1) := K0_3.out.cell 5
  have z0_6_3 : w3.cell? ⟨w.heap.size, 6, none⟩ = some (.slice m.A2 m.n2 m.c2) := K0_3.out.cell 6
  have z0_7_3 : w3.cell? ⟨w.heap.size, 7, none⟩ = some (.slice (A) n c) := K0_3.out.cell 7
  have z0_8_3 : w3.cell? ⟨w.heap.size, 8, none⟩ = some (.int .i64 (day)) := K0_3.out.cell 8
  have z0_9_3 : w3.cell? ⟨w.heap.size, 9, none⟩ = some (.int .i64 (pos)) := K0_3.out.cell 9
  go_wp2_with fail
  refine (pchoosef_like HN.out HV.out m.A1 m.A2 m.c1 m.c2 A c HZ0.out _ (show MntAt (m.to m.A1 m.c1 m.A2 m.c2) _ from R1_3.out) R0_3.out ⟨by omega, by omega⟩ HF.out).mono ?_
  rintro e w4 ⟨⟨⟨At, ct⟩, ⟨Xp, cp⟩⟩, rfl, hb, hq⟩
  have HB4 := Lib.hid (show Below w.heap.size w w4 from step_below hb (by repeat' (first | exact Below.refl _ _ | exact HB3.out | refine below_drewN ?_ _ | refine Below.drew ?_ | refine Below.alloc ?_ (by first | omega | (simp; done) | (simp; omega) | (simp [World.setCell]; omega)) _ | refine Below.setCell ?_ (by first | omega | (simp; done) | (simp; omega)) _ | assumption)))
  have K0_4 := Lib.hid (step_blk hb (show Blk _ (w.heap.size) 62 #[.int .i64 (m.ls), .int .i64 (m.ms), .int .i64 (m.lo), .int .i64 (m.hi), .int .i64 (m.sp), .slice m.A1 m.n1 m.c1, .slice m.A2 m.n2 m.c2, .slice (A) n c, .int .i64 (day), .int .i64 (pos)] by repeat' (first | exact K0_3.out | exact Blk.at_ _ (by first | rfl | (simp; done) | (simp; omega)) _ _ | refine Blk.drewN ?_ _ | refine Blk.drew ?_ | refine Blk.alloc ?_ _ | refine Blk.far ?_ (by first | omega | (simp; done) | (simp; omega)) _ | assumption)))
  have hL4 := Lib.hid (show Below w3.heap.size w3 _ from reads_mid hb (by repeat' (first | exact Below.refl _ _ | refine below_drewN ?_ _ | refine Below.drew ?_ | refine Below.alloc ?_ (by first | omega | (simp; done) | (simp; omega) | (simp [World.setCell]; omega)) _ | refine Below.setCell ?_ (by first | omega | (simp; done) | (simp; omega)) _)))
  have R0_4 := Lib.hid (reads_lay hb hL4.out R0_3.out)
  have R1_4 := Lib.hid (mnt_lay hb hL4.out R1_3.out)
  clear hL4 R0_3 R1_3
  have hz4 := hb.size
  try simp only [World.size_alloc, World.drewN, World.drew] at hz4
  clear hb K0_3 z0_0_3 z0_1_3 z0_2_3 z0_3_3 z0_4_3 z0_5_3 z0_6_3 z0_7_3 z0_8_3 z0_9_3 l0_3
  have l0_4 : w.heap.size < w4.heap.size := K0_4.out.lt
  have z0_0_4 : w4.cell? ⟨w.heap.size, 0, none⟩ = some (.int .i64 (m.ls)) := K0_4.out.cell 0
  have z0_1_4 : w4.cell? ⟨w.heap.size, 1, none⟩ = some (.int .i64 (m.ms)) := K0_4.out.cell 1
  have z0_2_4 : w4.cell? ⟨w.heap.size, 2, none⟩ = some (.int .i64 (m.lo)) := K0_4.out.cell 2
  have z0_3_4 : w4.cell? ⟨w.heap.size, 3, none⟩ = some (.int .i64 (m.hi)) := K0_4.out.cell 3
  have z0_4_4 : w4.cell? ⟨w.heap.size, 4, none⟩ = some (.int .i64 (m.sp)) := K0_4.out.cell 4
  have z0_5_4 : w4.cell? ⟨w.heap.size, 5, none⟩ = some (.slice m.A1 m.n1 m.c1) := K0_4.out.cell 5
  have z0_6_4 : w4.cell? ⟨w.heap.size, 6, none⟩ = some (.slice m.A2 m.n2 m.c2) := K0_4.out.cell 6
  have z0_7_4 : w4.cell? ⟨w.heap.size, 7, none⟩ = some (.slice (A) n c) := K0_4.out.cell 7
  have z0_8_4 : w4.cell? ⟨w.heap.size, 8, none⟩ = some (.int .i64 (day)) := K0_4.out.cell 8
  have z0_9_4 : w4.cell? ⟨w.heap.size, 9, none⟩ = some (.int .i64 (pos)) := K0_4.out.cell 9
  obtain ⟨B, tp, ks, ho, hr, hp, hk, hcst⟩ := hq
  simp only at ho hr
  rw [HN.out] at ho hr
  have hks := own_reads2 ho
  have hct := own_cap ho
  have HK := Lib.hid hk
  clear ho hr hp hk hcst
  have R2_4 := Lib.hid hks
  clear hks
  go_upto_region 11 with fail
  generalize hwn : (w4.alloc (.cells #[.slice (At) n ct, .slice Xp n cp] 67)) = w5
  have hbn : Below w4.heap.size w4 w5 := by rw [← hwn]; repeat' (first | exact Below.refl _ _ | refine below_drewN ?_ _ | refine Below.drew ?_ | refine Below.alloc ?_ (by first | omega | (simp; done) | (simp; omega) | (simp [World.setCell]; omega)) _ | refine Below.setCell ?_ (by first | omega | (simp; done) | (simp; omega)) _)
  have HB5 := Lib.hid (show Below w.heap.size w w5 from HB4.out.trans (hbn.mono HB4.out.size))
  have K0_5 := Lib.hid (step_blk hbn K0_4.out)
  have K1_5 := Lib.hid (show Blk w5 (w4.heap.size) 67 #[.slice (At) n ct, .slice Xp n cp] by rw [← hwn]; repeat' (first | exact Blk.at_ _ (by first | rfl | (simp; done) | (simp; omega)) _ _ | refine Blk.drewN ?_ _ | refine Blk.drew ?_ | refine Blk.alloc ?_ _ | refine Blk.far ?_ (by first | omega | (simp; done) | (simp; omega)) _ | assumption))
  have R0_5 := Lib.hid ((R0_4.out.below hbn).more hbn.size)
  have R1_5 := Lib.hid (R1_4.out.lay hbn)
  have R2_5 := Lib.hid ((R2_4.out.below hbn).more hbn.size)
  have HN5 := Lib.hid hbn
  have hz5 := hbn.size
  clear hwn hbn K0_4 l0_4 z0_0_4 z0_1_4 z0_2_4 z0_3_4 z0_4_4 z0_5_4 z0_6_4 z0_7_4 z0_8_4 z0_9_4 R0_4 R1_4 R2_4
  have l0_5 : w.heap.size < w5.heap.size := K0_5.out.lt
  have z0_0_5 : w5.cell? ⟨w.heap.size, 0, none⟩ = some (.int .i64 (m.ls)) := K0_5.out.cell 0
  have z0_1_5 : w5.cell? ⟨w.heap.size, 1, none⟩ = some (.int .i64 (m.ms)) := K0_5.out.cell 1
  have z0_2_5 : w5.cell? ⟨w.heap.size, 2, none⟩ = some (.int .i64 (m.lo)) := K0_5.out.cell 2
  have z0_3_5 : w5.cell? ⟨w.heap.size, 3, none⟩ = some (.int .i64 (m.hi)) := K0_5.out.cell 3
  have z0_4_5 : w5.cell? ⟨w.heap.size, 4, none⟩ = some (.int .i64 (m.sp)) := K0_5.out.cell 4
  have z0_5_5 : w5.cell? ⟨w.heap.size, 5, none⟩ = some (.slice m.A1 m.n1 m.c1) := K0_5.out.cell 5
  have z0_6_5 : w5.cell? ⟨w.heap.size, 6, none⟩ = some (.slice m.A2 m.n2 m.c2) := K0_5.out.cell 6
  have z0_7_5 : w5.cell? ⟨w.heap.size, 7, none⟩ = some (.slice (A) n c) := K0_5.out.cell 7
  have z0_8_5 : w5.cell? ⟨w.heap.size, 8, none⟩ = some (.int .i64 (day)) := K0_5.out.cell 8
  have z0_9_5 : w5.cell? ⟨w.heap.size, 9, none⟩ = some (.int .i64 (pos)) := K0_5.out.cell 9
  have l1_5 : w4.heap.size < w5.heap.size := K1_5.out.lt
  have z1_0_5 : w5.cell? ⟨w4.heap.size, 0, none⟩ = some (.slice (At) n ct) := K1_5.out.cell 0
  have z1_1_5 : w5.cell? ⟨w4.heap.size, 1, none⟩ = some (.slice Xp n cp) := K1_5.out.cell 1
  obtain ⟨r, ip, F, hU⟩ := times_u m day pos mi l ks
  obtain ⟨hkl, hpo⟩ := pathErr_ok HK.out
  obtain ⟨hFk, hF0⟩ := hU.kind hkl
  obtain ⟨P, hPl⟩ : ∃ P, pathL m day l ks = P := ⟨_, rfl⟩
  obtain ⟨Z, hZ⟩ : ∃ Z, tgtPos m day l ks = Z := ⟨_, rfl⟩
  have hZR := zip_mem HZ0.out hpo
  have hZP : Z = l.zip P := by rw [← hZ, ← hPl]; rfl
  have hplen : P.length = n := by rw [← hPl, pathL_len hkl, HN.out]
  rw [hZ] at hZR hF0
  have hrng := path_range hpo
  rw [hPl] at hrng
  rw [HN.out] at hF0
  obtain ⟨BL, hBL⟩ : ∃ BL, begL m.sp (mi, pos) Z n = BL := ⟨_, rfl⟩
  have hBL2 : begL m.sp (mi, pos) (tgtPos m day l ks) l.length = BL := by rw [hZ, HN.out]; exact hBL
  rw [hBL] at hF0
  have HU := Lib.hid hU
  have HKL := Lib.hid hkl
  have HPO := Lib.hid hpo
  have HP := Lib.hid hPl
  have HZP := Lib.hid hZP
  have HPLEN := Lib.hid hplen
  have HZR := Lib.hid hZR
  have HRNG := Lib.hid hrng
  have HF0 := Lib.hid hF0
  have HFK := Lib.hid hFk
  have HBL := Lib.hid hBL
  have HBL2 := Lib.hid hBL2
  clear hU hkl hpo hPl hZ hZR hZP hplen hrng hF0 hFk hBL hBL2
  refine Fx.regionM (fun W g f w' => Kp (PfU n ks 14 r BL F 15) W g w') (fun i (x : Pick2) => if i = 14 then .slice x.1.1 n x.1.2 else .tuple #[.slice x.1.1 r x.1.2, .int .i64 ip, .int .i64 F]) (by kernel_rfl) ?_ ?_
  · intro f hf0
    exact Kp.start
  first
  | (refine Fx.WM.skip 0 (by rfl) (by kernel_rfl) (by kernel_rfl) (by kernel_rfl) (by rfl) (fun g f w h => h) ?_; simp only [Act.put, List.setIfInBounds_toArray, List.set_cons_zero, List.set_cons_succ])
  | (refine Fx.WM.val_ 0 ?_ (by rfl) (by kernel_rfl) (by kernel_rfl) (by kernel_rfl) (by rfl) ?_ (fun g f w h => h) ?_
     rotate_left
     · intro g f w' hx hD hk
       obtain hkp := id hD
       have yb := K0_5.out.below hkp.bel l0_5
       have y0_0 := yb.cell 0
       have y0_1 := yb.cell 1
       have y0_2 := yb.cell 2
       have y0_3 := yb.cell 3
       have y0_4 := yb.cell 4
       have y0_5 := yb.cell 5
       have y0_6 := yb.cell 6
       have y0_7 := yb.cell 7
       have y0_8 := yb.cell 8
       have y0_9 := yb.cell 9
       clear yb
       clear hx hk hD hkp
       go_simp
       try rfl
     simp only [Act.put, List.setIfInBounds_toArray, List.set_cons_zero, List.set_cons_succ])
  first
  | (refine Fx.WM.skip 1 (by rfl) (by kernel_rfl) (by kernel_rfl) (by kernel_rfl) (by rfl) (fun g f w h => h) ?_; simp only [Act.put, List.setIfInBounds_toArray, List.set_cons_zero, List.set_cons_succ])
  | (refine Fx.WM.val_ 1 ?_ (by rfl) (by kernel_rfl) (by kernel_rfl) (by kernel_rfl) (by rfl) ?_ (fun g f w h => h) ?_
     rotate_left
     · intro g f w' hx hD hk
       obtain hkp := id hD
       have yb := K0_5.out.below hkp.bel l0_5
       have y0_0 := yb.cell 0
       have y0_1 := yb.cell 1
       have y0_2 := yb.cell 2
       have y0_3 := yb.cell 3
       have y0_4 := yb.cell 4
       have y0_5 := yb.cell 5
       have y0_6 := yb.cell 6
       have y0_7 := yb.cell 7
       have y0_8 := yb.cell 8
       have y0_9 := yb.cell 9
       clear yb
       clear hx hk hD hkp
       go_simp
       try rfl
     simp only [Act.put, List.setIfInBounds_toArray, List.set_cons_zero, List.set_cons_succ])
  first
  | (refine Fx.WM.skip 2 (by rfl) (by kernel_rfl) (by kernel_rfl) (by kernel_rfl) (by rfl) (fun g f w h => h) ?_; simp only [Act.put, List.setIfInBounds_toArray, List.set_cons_zero, List.set_cons_succ])
  | (refine Fx.WM.val_ 2 ?_ (by rfl) (by kernel_rfl) (by kernel_rfl) (by kernel_rfl) (by rfl) ?_ (fun g f w h => h) ?_
     rotate_left
     · intro g f w' hx hD hk
       obtain hkp := id hD
       have yb := K0_5.out.below hkp.bel l0_5
       have y0_0 := yb.cell 0
       have y0_1 := yb.cell 1
       have y0_2 := yb.cell 2
       have y0_3 := yb.cell 3
       have y0_4 := yb.cell 4
       have y0_5 := yb.cell 5
       have y0_6 := yb.cell 6
       have y0_7 := yb.cell 7
       have y0_8 := yb.cell 8
       have y0_9 := yb.cell 9
       clear yb
       clear hx hk hD hkp
       go_simp
       try rfl
     simp only [Act.put, List.setIfInBounds_toArray, List.set_cons_zero, List.set_cons_succ])
  first
  | (refine Fx.WM.skip 3 (by rfl) (by kernel_rfl) (by kernel_rfl) (by kernel_rfl) (by rfl) (fun g f w h => h) ?_; simp only [Act.put, List.setIfInBounds_toArray, List.set_cons_zero, List.set_cons_succ])
  | (refine Fx.WM.val_ 3 ?_ (by rfl) (by kernel_rfl) (by kernel_rfl) (by kernel_rfl) (by rfl) ?_ (fun g f w h => h) ?_
     rotate_left
     · intro g f w' hx hD hk
       obtain hkp := id hD
       have yb := K0_5.out.below hkp.bel l0_5
       have y0_0 := yb.cell 0
       have y0_1 := yb.cell 1
       have y0_2 := yb.cell 2
       have y0_3 := yb.cell 3
       have y0_4 := yb.cell 4
       have y0_5 := yb.cell 5
       have y0_6 := yb.cell 6
       have y0_7 := yb.cell 7
       have y0_8 := yb.cell 8
       have y0_9 := yb.cell 9
       clear yb
       clear hx hk hD hkp
       go_simp
       try rfl
     simp only [Act.put, List.setIfInBounds_toArray, List.set_cons_zero, List.set_cons_succ])
  first
  | (refine Fx.WM.skip 4 (by rfl) (by kernel_rfl) (by kernel_rfl) (by kernel_rfl) (by rfl) (fun g f w h => h) ?_; simp only [Act.put, List.setIfInBounds_toArray, List.set_cons_zero, List.set_cons_succ])
  | (refine Fx.WM.val_ 4 ?_ (by rfl) (by kernel_rfl) (by kernel_rfl) (by kernel_rfl) (by rfl) ?_ (fun g f w h => h) ?_
     rotate_left
     · intro g f w' hx hD hk
       obtain hkp := id hD
       have yb := K0_5.out.below hkp.bel l0_5
       have y0_0 := yb.cell 0
       have y0_1 := yb.cell 1
       have y0_2 := yb.cell 2
       have y0_3 := yb.cell 3
       have y0_4 := yb.cell 4
       have y0_5 := yb.cell 5
       have y0_6 := yb.cell 6
       have y0_7 := yb.cell 7
       have y0_8 := yb.cell 8
       have y0_9 := yb.cell 9
       clear yb
       clear hx hk hD hkp
       go_simp
       try rfl
     simp only [Act.put, List.setIfInBounds_toArray, List.set_cons_zero, List.set_cons_succ])
  first
  | (refine Fx.WM.skip 5 (by rfl) (by kernel_rfl) (by kernel_rfl) (by kernel_rfl) (by rfl) (fun g f w h => h) ?_; simp only [Act.put, List.setIfInBounds_toArray, List.set_cons_zero, List.set_cons_succ])
  | (refine Fx.WM.val_ 5 ?_ (by rfl) (by kernel_rfl) (by kernel_rfl) (by kernel_rfl) (by rfl) ?_ (fun g f w h => h) ?_
     rotate_left
     · intro g f w' hx hD hk
       obtain hkp := id hD
       have yb := K0_5.out.below hkp.bel l0_5
       have y0_0 := yb.cell 0
       have y0_1 := yb.cell 1
       have y0_2 := yb.cell 2
       have y0_3 := yb.cell 3
       have y0_4 := yb.cell 4
       have y0_5 := yb.cell 5
       have y0_6 := yb.cell 6
       have y0_7 := yb.cell 7
       have y0_8 := yb.cell 8
       have y0_9 := yb.cell 9
       clear yb
       clear hx hk hD hkp
       go_simp
       try rfl
     simp only [Act.put, List.setIfInBounds_toArray, List.set_cons_zero, List.set_cons_succ])
  first
  | (refine Fx.WM.skip 6 (by rfl) (by kernel_rfl) (by kernel_rfl) (by kernel_rfl) (by rfl) (fun g f w h => h) ?_; simp only [Act.put, List.setIfInBounds_toArray, List.set_cons_zero, List.set_cons_succ])
  | (refine Fx.WM.val_ 6 ?_ (by rfl) (by kernel_rfl) (by kernel_rfl) (by kernel_rfl) (by rfl) ?_ (fun g f w h => h) ?_
     rotate_left
     · intro g f w' hx hD hk
       obtain hkp := id hD
       have yb := K0_5.out.below hkp.bel l0_5
       have y0_0 := yb.cell 0
       have y0_1 := yb.cell 1
       have y0_2 := yb.cell 2
       have y0_3 := yb.cell 3
       have y0_4 := yb.cell 4
       have y0_5 := yb.cell 5
       have y0_6 := yb.cell 6
       have y0_7 := yb.cell 7
       have y0_8 := yb.cell 8
       have y0_9 := yb.cell 9
       clear yb
       clear hx hk hD hkp
       go_simp
       try rfl
     simp only [Act.put, List.setIfInBounds_toArray, List.set_cons_zero, List.set_cons_succ])
  first
  | (refine Fx.WM.skip 7 (by rfl) (by kernel_rfl) (by kernel_rfl) (by kernel_rfl) (by rfl) (fun g f w h => h) ?_; simp only [Act.put, List.setIfInBounds_toArray, List.set_cons_zero, List.set_cons_succ])
  | (refine Fx.WM.val_ 7 ?_ (by rfl) (by kernel_rfl) (by kernel_rfl) (by kernel_rfl) (by rfl) ?_ (fun g f w h => h) ?_
     rotate_left
     · intro g f w' hx hD hk
       obtain hkp := id hD
       have yb := K0_5.out.below hkp.bel l0_5
       have y0_0 := yb.cell 0
       have y0_1 := yb.cell 1
       have y0_2 := yb.cell 2
       have y0_3 := yb.cell 3
       have y0_4 := yb.cell 4
       have y0_5 := yb.cell 5
       have y0_6 := yb.cell 6
       have y0_7 := yb.cell 7
       have y0_8 := yb.cell 8
       have y0_9 := yb.cell 9
       clear yb
       clear hx hk hD hkp
       go_simp
       try rfl
     simp only [Act.put, List.setIfInBounds_toArray, List.set_cons_zero, List.set_cons_succ])
  first
  | (refine Fx.WM.skip 8 (by rfl) (by kernel_rfl) (by kernel_rfl) (by kernel_rfl) (by rfl) (fun g f w h => h) ?_; simp only [Act.put, List.setIfInBounds_toArray, List.set_cons_zero, List.set_cons_succ])
  | (refine Fx.WM.val_ 8 ?_ (by rfl) (by kernel_rfl) (by kernel_rfl) (by kernel_rfl) (by rfl) ?_ (fun g f w h => h) ?_
     rotate_left
     · intro g f w' hx hD hk
       obtain hkp := id hD
       have yb := K0_5.out.below hkp.bel l0_5
       have y0_0 := yb.cell 0
       have y0_1 := yb.cell 1
       have y0_2 := yb.cell 2
       have y0_3 := yb.cell 3
       have y0_4 := yb.cell 4
       have y0_5 := yb.cell 5
       have y0_6 := yb.cell 6
       have y0_7 := yb.cell 7
       have y0_8 := yb.cell 8
       have y0_9 := yb.cell 9
       clear yb
       clear hx hk hD hkp
       go_simp
       try rfl
     simp only [Act.put, List.setIfInBounds_toArray, List.set_cons_zero, List.set_cons_succ])
  first
  | (refine Fx.WM.skip 9 (by rfl) (by kernel_rfl) (by kernel_rfl) (by kernel_rfl) (by rfl) (fun g f w h => h) ?_; simp only [Act.put, List.setIfInBounds_toArray, List.set_cons_zero, List.set_cons_succ])
  | (refine Fx.WM.val_ 9 ?_ (by rfl) (by kernel_rfl) (by kernel_rfl) (by kernel_rfl) (by rfl) ?_ (fun g f w h => h) ?_
     rotate_left
     · intro g f w' hx hD hk
       obtain hkp := id hD
       have yb := K0_5.out.below hkp.bel l0_5
       have y0_0 := yb.cell 0
       have y0_1 := yb.cell 1
       have y0_2 := yb.cell 2
       have y0_3 := yb.cell 3
       have y0_4 := yb.cell 4
       have y0_5 := yb.cell 5
       have y0_6 := yb.cell 6
       have y0_7 := yb.cell 7
       have y0_8 := yb.cell 8
       have y0_9 := yb.cell 9
       clear yb
       clear hx hk hD hkp
       go_simp
       try rfl
     simp only [Act.put, List.setIfInBounds_toArray, List.set_cons_zero, List.set_cons_succ])
  first
  | (refine Fx.WM.skip 10 (by rfl) (by kernel_rfl) (by kernel_rfl) (by kernel_rfl) (by rfl) (fun g f w h => h) ?_; simp only [Act.put, List.setIfInBounds_toArray, List.set_cons_zero, List.set_cons_succ])
  | (refine Fx.WM.val_ 10 ?_ (by rfl) (by kernel_rfl) (by kernel_rfl) (by kernel_rfl) (by rfl) ?_ (fun g f w h => h) ?_
     rotate_left
     · intro g f w' hx hD hk
       obtain hkp := id hD
       have yb := K0_5.out.below hkp.bel l0_5
       have y0_0 := yb.cell 0
       have y0_1 := yb.cell 1
       have y0_2 := yb.cell 2
       have y0_3 := yb.cell 3
       have y0_4 := yb.cell 4
       have y0_5 := yb.cell 5
       have y0_6 := yb.cell 6
       have y0_7 := yb.cell 7
       have y0_8 := yb.cell 8
       have y0_9 := yb.cell 9
       clear yb
       clear hx hk hD hkp
       go_simp
       try rfl
     simp only [Act.put, List.setIfInBounds_toArray, List.set_cons_zero, List.set_cons_succ])
  first
  | (refine Fx.WM.skip 11 (by rfl) (by kernel_rfl) (by kernel_rfl) (by kernel_rfl) (by rfl) (fun g f w h => h) ?_; simp only [Act.put, List.setIfInBounds_toArray, List.set_cons_zero, List.set_cons_succ])
  | (refine Fx.WM.val_ 11 ?_ (by rfl) (by kernel_rfl) (by kernel_rfl) (by kernel_rfl) (by rfl) ?_ (fun g f w h => h) ?_
     rotate_left
     · intro g f w' hx hD hk
       obtain hkp := id hD
       have yb := K0_5.out.below hkp.bel l0_5
       have y0_0 := yb.cell 0
       have y0_1 := yb.cell 1
       have y0_2 := yb.cell 2
       have y0_3 := yb.cell 3
       have y0_4 := yb.cell 4
       have y0_5 := yb.cell 5
       have y0_6 := yb.cell 6
       have y0_7 := yb.cell 7
       have y0_8 := yb.cell 8
       have y0_9 := yb.cell 9
       clear yb
       clear hx hk hD hkp
       go_simp
       try rfl
     simp only [Act.put, List.setIfInBounds_toArray, List.set_cons_zero, List.set_cons_succ])
  first
  | (refine Fx.WM.skip 12 (by rfl) (by kernel_rfl) (by kernel_rfl) (by kernel_rfl) (by rfl) (fun g f w h => h) ?_; simp only [Act.put, List.setIfInBounds_toArray, List.set_cons_zero, List.set_cons_succ])
  | (refine Fx.WM.val_ 12 ?_ (by rfl) (by kernel_rfl) (by kernel_rfl) (by kernel_rfl) (by rfl) ?_ (fun g f w h => h) ?_
     rotate_left
     · intro g f w' hx hD hk
       obtain hkp := id hD
       have yb := K1_5.out.below hkp.bel l1_5
       have y1_0 := yb.cell 0
       have y1_1 := yb.cell 1
       clear yb
       clear hx hk hD hkp
       go_simp
       try rfl
     simp only [Act.put, List.setIfInBounds_toArray, List.set_cons_zero, List.set_cons_succ])
  first
  | (refine Fx.WM.skip 13 (by rfl) (by kernel_rfl) (by kernel_rfl) (by kernel_rfl) (by rfl) (fun g f w h => h) ?_; simp only [Act.put, List.setIfInBounds_toArray, List.set_cons_zero, List.set_cons_succ])
  | (refine Fx.WM.val_ 13 ?_ (by rfl) (by kernel_rfl) (by kernel_rfl) (by kernel_rfl) (by rfl) ?_ (fun g f w h => h) ?_
     rotate_left
     · intro g f w' hx hD hk
       obtain hkp := id hD
       have yb := K1_5.out.below hkp.bel l1_5
       have y1_0 := yb.cell 0
       have y1_1 := yb.cell 1
       clear yb
       clear hx hk hD hkp
       go_simp
       try rfl
     simp only [Act.put, List.setIfInBounds_toArray, List.set_cons_zero, List.set_cons_succ])
  refine Fx.WM.choose 14 (by rfl) (by kernel_rfl) (by rfl) ?_ ?_
  · skip
    refine Fx.Chooses.call ?_ ?_ (by rfl) ?_ ?_
    rotate_left 2
    · intro w'
      go_simp
      refine ⟨?_, ?_⟩ <;> rfl
    · intro f w' hD hk
      exact (copyints_any At n ct w'.heap.size ks w' ((R2_5.out.below hD.bel).more hD.bel.size) (Nat.le_refl _) (by omega)).mono fun e w'' ⟨A', c', he, hb, hr, ho⟩ => ⟨((A', c'), (none, 0)), he, hD.choose PfU.stb hb 14 _ ⟨fun _ => ⟨hr, own_cap ho⟩, fun e => absurd e (by decide)⟩⟩
  intro x
  simp only [Act.put, List.setIfInBounds_toArray, List.set_cons_zero, List.set_cons_succ]
  refine Fx.WM.choose 15 (by rfl) (by kernel_rfl) (by rfl) ?_ ?_
  · skip
    refine Fx.Chooses.call ?_ ?_ (by rfl) ?_ ?_
    rotate_left 2
    · intro w'
      go_simp
      refine ⟨?_, ?_⟩ <;> rfl
    · intro f w' hD hk
      exact (ptimes_u m day pos mi l A n c x.1.1 n x.1.2 ks HK.out HZ0.out HU.out w' (R1_5.out.lay hD.bel) ((R0_5.out.below hD.bel).more hD.bel.size) ⟨by omega, by omega⟩ HF.out ((hD.has 14 x (by rfl)).1 rfl).1 ((hD.has 14 x (by rfl)).1 rfl).2).mono fun e w'' ⟨T', cT', he, hb, hr⟩ => ⟨((T', cT'), (none, 0)), he, hD.choose PfU.stb hb 15 _ ⟨fun e => absurd e (by decide), fun _ e0 => by rw [← HBL2.out]; exact hr e0⟩⟩
  intro z
  simp only [Act.put, List.setIfInBounds_toArray, List.set_cons_zero, List.set_cons_succ]
  first
  | (refine Fx.WM.skip 16 (by rfl) (by kernel_rfl) (by kernel_rfl) (by kernel_rfl) (by rfl) (fun g f w h => h) ?_; simp only [Act.put, List.setIfInBounds_toArray, List.set_cons_zero, List.set_cons_succ])
  | (refine Fx.WM.val_ 16 ?_ (by rfl) (by kernel_rfl) (by kernel_rfl) (by kernel_rfl) (by rfl) ?_ (fun g f w h => h) ?_
     rotate_left
     · intro g f w' hx hD hk
       obtain hkp := id hD
       clear hx hk hD hkp
       go_simp
       try rfl
     simp only [Act.put, List.setIfInBounds_toArray, List.set_cons_zero, List.set_cons_succ])
  first
  | (refine Fx.WM.skip 17 (by rfl) (by kernel_rfl) (by kernel_rfl) (by kernel_rfl) (by rfl) (fun g f w h => h) ?_; simp only [Act.put, List.setIfInBounds_toArray, List.set_cons_zero, List.set_cons_succ])
  | (refine Fx.WM.val_ 17 ?_ (by rfl) (by kernel_rfl) (by kernel_rfl) (by kernel_rfl) (by rfl) ?_ (fun g f w h => h) ?_
     rotate_left
     · intro g f w' hx hD hk
       obtain hkp := id hD
       clear hx hk hD hkp
       go_simp
       try rfl
     simp only [Act.put, List.setIfInBounds_toArray, List.set_cons_zero, List.set_cons_succ])
  first
  | (refine Fx.WM.skip 18 (by rfl) (by kernel_rfl) (by kernel_rfl) (by kernel_rfl) (by rfl) (fun g f w h => h) ?_; simp only [Act.put, List.setIfInBounds_toArray, List.set_cons_zero, List.set_cons_succ])
  | (refine Fx.WM.val_ 18 ?_ (by rfl) (by kernel_rfl) (by kernel_rfl) (by kernel_rfl) (by rfl) ?_ (fun g f w h => h) ?_
     rotate_left
     · intro g f w' hx hD hk
       obtain hkp := id hD
       clear hx hk hD hkp
       go_simp
       try rfl
     simp only [Act.put, List.setIfInBounds_toArray, List.set_cons_zero, List.set_cons_succ])
  first
  | (refine Fx.WM.skip 19 (by rfl) (by kernel_rfl) (by kernel_rfl) (by kernel_rfl) (by rfl) (fun g f w h => h) ?_; simp only [Act.put, List.setIfInBounds_toArray, List.set_cons_zero, List.set_cons_succ])
  | (refine Fx.WM.val_ 19 ?_ (by rfl) (by kernel_rfl) (by kernel_rfl) (by kernel_rfl) (by rfl) ?_ (fun g f w h => h) ?_
     rotate_left
     · intro g f w' hx hD hk
       obtain hkp := id hD
       clear hx hk hD hkp
       go_simp
       try rfl
     simp only [Act.put, List.setIfInBounds_toArray, List.set_cons_zero, List.set_cons_succ])
  first
  | (refine Fx.WM.skip 20 (by rfl) (by kernel_rfl) (by kernel_rfl) (by kernel_rfl) (by rfl) (fun g f w h => h) ?_; simp only [Act.put, List.setIfInBounds_toArray, List.set_cons_zero, List.set_cons_succ])
  | (refine Fx.WM.val_ 20 ?_ (by rfl) (by kernel_rfl) (by kernel_rfl) (by kernel_rfl) (by rfl) ?_ (fun g f w h => h) ?_
     rotate_left
     · intro g f w' hx hD hk
       obtain hkp := id hD
       clear hx hk hD hkp
       go_simp
       try rfl
     simp only [Act.put, List.setIfInBounds_toArray, List.set_cons_zero, List.set_cons_succ])
  first
  | (refine Fx.WM.skip 21 (by rfl) (by kernel_rfl) (by kernel_rfl) (by kernel_rfl) (by rfl) (fun g f w h => h) ?_; simp only [Act.put, List.setIfInBounds_toArray, List.set_cons_zero, List.set_cons_succ])
  | (refine Fx.WM.val_ 21 ?_ (by rfl) (by kernel_rfl) (by kernel_rfl) (by kernel_rfl) (by rfl) ?_ (fun g f w h => h) ?_
     rotate_left
     · intro g f w' hx hD hk
       obtain hkp := id hD
       clear hx hk hD hkp
       go_simp
       try rfl
     simp only [Act.put, List.setIfInBounds_toArray, List.set_cons_zero, List.set_cons_succ])
  first
  | (refine Fx.WM.skip 22 (by rfl) (by kernel_rfl) (by kernel_rfl) (by kernel_rfl) (by rfl) (fun g f w h => h) ?_; simp only [Act.put, List.setIfInBounds_toArray, List.set_cons_zero, List.set_cons_succ])
  | (refine Fx.WM.val_ 22 ?_ (by rfl) (by kernel_rfl) (by kernel_rfl) (by kernel_rfl) (by rfl) ?_ (fun g f w h => h) ?_
     rotate_left
     · intro g f w' hx hD hk
       obtain hkp := id hD
       clear hx hk hD hkp
       go_simp
       try rfl
     simp only [Act.put, List.setIfInBounds_toArray, List.set_cons_zero, List.set_cons_succ])
  refine Fx.WM.nil (by kernel_rfl) ?_
  intro wz hkp
  have hb := hkp.bel
  have htm := (hkp.has 15 z (by rfl)).2 rfl
  clear hkp
  obtain ⟨w6, hnm⟩ : ∃ z : World, z = wz := ⟨_, rfl⟩
  subst hnm
  have HB6 := Lib.hid (show Below w.heap.size w w6 from step_below hb (by repeat' (first | exact Below.refl _ _ | exact HB5.out | refine below_drewN ?_ _ | refine Below.drew ?_ | refine Below.alloc ?_ (by first | omega | (simp; done) | (simp; omega) | (simp [World.setCell]; omega)) _ | refine Below.setCell ?_ (by first | omega | (simp; done) | (simp; omega)) _ | assumption)))
  have K0_6 := Lib.hid (step_blk hb (show Blk _ (w.heap.size) 62 #[.int .i64 (m.ls), .int .i64 (m.ms), .int .i64 (m.lo), .int .i64 (m.hi), .int .i64 (m.sp), .slice m.A1 m.n1 m.c1, .slice m.A2 m.n2 m.c2, .slice (A) n c, .int .i64 (day), .int .i64 (pos)] by repeat' (first | exact K0_5.out | exact K1_5.out | exact Blk.at_ _ (by first | rfl | (simp; done) | (simp; omega)) _ _ | refine Blk.drewN ?_ _ | refine Blk.drew ?_ | refine Blk.alloc ?_ _ | refine Blk.far ?_ (by first | omega | (simp; done) | (simp; omega)) _ | assumption)))
  have K1_6 := Lib.hid (step_blk hb (show Blk _ (w4.heap.size) 67 #[.slice (At) n ct, .slice Xp n cp] by repeat' (first | exact K0_5.out | exact K1_5.out | exact Blk.at_ _ (by first | rfl | (simp; done) | (simp; omega)) _ _ | refine Blk.drewN ?_ _ | refine Blk.drew ?_ | refine Blk.alloc ?_ _ | refine Blk.far ?_ (by first | omega | (simp; done) | (simp; omega)) _ | assumption)))
  have hL6 := Lib.hid (show Below w5.heap.size w5 _ from reads_mid hb (by repeat' (first | exact Below.refl _ _ | refine below_drewN ?_ _ | refine Below.drew ?_ | refine Below.alloc ?_ (by first | omega | (simp; done) | (simp; omega) | (simp [World.setCell]; omega)) _ | refine Below.setCell ?_ (by first | omega | (simp; done) | (simp; omega)) _)))
  have R0_6 := Lib.hid (reads_lay hb hL6.out R0_5.out)
  have R1_6 := Lib.hid (mnt_lay hb hL6.out R1_5.out)
  have R2_6 := Lib.hid (reads_lay hb hL6.out R2_5.out)
  clear hL6 R0_5 R1_5 R2_5
  have hz6 := hb.size
  try simp only [World.size_alloc, World.drewN, World.drew] at hz6
  clear hb K0_5 K1_5 z0_0_5 z0_1_5 z0_2_5 z0_3_5 z0_4_5 z0_5_5 z0_6_5 z0_7_5 z0_8_5 z0_9_5 l0_5 z1_0_5 z1_1_5 l1_5
  have l0_6 : w.heap.size < w6.heap.size := K0_6.out.lt
  have z0_0_6 : w6.cell? ⟨w.heap.size, 0, none⟩ = some (.int .i64 (m.ls)) := K0_6.out.cell 0
  have z0_1_6 : w6.cell? ⟨w.heap.size, 1, none⟩ = some (.int .i64 (m.ms)) := K0_6.out.cell 1
  have z0_2_6 : w6.cell? ⟨w.heap.size, 2, none⟩ = some (.int .i64 (m.lo)) := K0_6.out.cell 2
  have z0_3_6 : w6.cell? ⟨w.heap.size, 3, none⟩ = some (.int .i64 (m.hi)) := K0_6.out.cell 3
  have z0_4_6 : w6.cell? ⟨w.heap.size, 4, none⟩ = some (.int .i64 (m.sp)) := K0_6.out.cell 4
  have z0_5_6 : w6.cell? ⟨w.heap.size, 5, none⟩ = some (.slice m.A1 m.n1 m.c1) := K0_6.out.cell 5
  have z0_6_6 : w6.cell? ⟨w.heap.size, 6, none⟩ = some (.slice m.A2 m.n2 m.c2) := K0_6.out.cell 6
  have z0_7_6 : w6.cell? ⟨w.heap.size, 7, none⟩ = some (.slice (A) n c) := K0_6.out.cell 7
  have z0_8_6 : w6.cell? ⟨w.heap.size, 8, none⟩ = some (.int .i64 (day)) := K0_6.out.cell 8
  have z0_9_6 : w6.cell? ⟨w.heap.size, 9, none⟩ = some (.int .i64 (pos)) := K0_6.out.cell 9
  have l1_6 : w4.heap.size < w6.heap.size := K1_6.out.lt
  have z1_0_6 : w6.cell? ⟨w4.heap.size, 0, none⟩ = some (.slice (At) n ct) := K1_6.out.cell 0
  have z1_1_6 : w6.cell? ⟨w4.heap.size, 1, none⟩ = some (.slice Xp n cp) := K1_6.out.cell 1
  obtain ⟨⟨T, cT⟩, z2⟩ := z
  simp only at htm
  have HTM := Lib.hid htm
  clear htm
  rcases HFK.out with rfl | rfl | rfl
  · as_aux_lemma =>
      skip
      go_wp2
      go_loopw [13, 14, 15] (fun f mn i wr => ∃ k : Nat, k ≤ n ∧ f = .int .i64 (lastI pos (P.take k)) ∧ mn = .int .i64 (mi) ∧ i = .int .i64 k ∧ Below w6.heap.size w6 wr) (fun _ _ i _ => n - (intOf i).toNat)
      case atStart => exact ⟨0, by omega, by simp [lastI], rfl, rfl, Below.refl _ _⟩
      case round =>
        obtain ⟨k, hk, rfl, rfl, rfl, hb7⟩ := hrel
        obtain ⟨w7, hnm⟩ : ∃ z : World, z = wr := ⟨_, rfl⟩
        subst hnm
        have hbw7 := HB6.out.trans (hb7.mono HB6.out.size)
        have hk0 := K0_6.out.below hb7 l0_6
        have hk1 := K1_6.out.below hb7 l1_6
        have hr0 := (R0_6.out.below hb7).more hb7.size
        have hr1 := R1_6.out.lay hb7
        have hr2 := (R2_6.out.below hb7).more hb7.size
        skip
        have HB67 := Lib.hid hb7
        have hs67 := hb7.size
        clear hb7
        have HB7 := Lib.hid hbw7
        have K0_7 := Lib.hid (show Blk w7 (w.heap.size) 62 #[.int .i64 (m.ls), .int .i64 (m.ms), .int .i64 (m.lo), .int .i64 (m.hi), .int .i64 (m.sp), .slice m.A1 m.n1 m.c1, .slice m.A2 m.n2 m.c2, .slice (A) n c, .int .i64 (day), .int .i64 (pos)] from hk0)
        have K1_7 := Lib.hid (show Blk w7 (w4.heap.size) 67 #[.slice (At) n ct, .slice Xp n cp] from hk1)
        clear hbw7 hk0 hk1
        have l0_7 : w.heap.size < w7.heap.size := K0_7.out.lt
        have z0_0_7 : w7.cell? ⟨w.heap.size, 0, none⟩ = some (.int .i64 (m.ls)) := K0_7.out.cell 0
        have z0_1_7 : w7.cell? ⟨w.heap.size, 1, none⟩ = some (.int .i64 (m.ms)) := K0_7.out.cell 1
        have z0_2_7 : w7.cell? ⟨w.heap.size, 2, none⟩ = some (.int .i64 (m.lo)) := K0_7.out.cell 2
        have z0_3_7 : w7.cell? ⟨w.heap.size, 3, none⟩ = some (.int .i64 (m.hi)) := K0_7.out.cell 3
        have z0_4_7 : w7.cell? ⟨w.heap.size, 4, none⟩ = some (.int .i64 (m.sp)) := K0_7.out.cell 4
        have z0_5_7 : w7.cell? ⟨w.heap.size, 5, none⟩ = some (.slice m.A1 m.n1 m.c1) := K0_7.out.cell 5
        have z0_6_7 : w7.cell? ⟨w.heap.size, 6, none⟩ = some (.slice m.A2 m.n2 m.c2) := K0_7.out.cell 6
        have z0_7_7 : w7.cell? ⟨w.heap.size, 7, none⟩ = some (.slice (A) n c) := K0_7.out.cell 7
        have z0_8_7 : w7.cell? ⟨w.heap.size, 8, none⟩ = some (.int .i64 (day)) := K0_7.out.cell 8
        have z0_9_7 : w7.cell? ⟨w.heap.size, 9, none⟩ = some (.int .i64 (pos)) := K0_7.out.cell 9
        have l1_7 : w4.heap.size < w7.heap.size := K1_7.out.lt
        have z1_0_7 : w7.cell? ⟨w4.heap.size, 0, none⟩ = some (.slice (At) n ct) := K1_7.out.cell 0
        have z1_1_7 : w7.cell? ⟨w4.heap.size, 1, none⟩ = some (.slice Xp n cp) := K1_7.out.cell 1
        have R0_7 := Lib.hid hr0
        clear hr0
        have R1_7 := Lib.hid hr1
        clear hr1
        have R2_7 := Lib.hid hr2
        clear hr2
        skip
        have HA7 := Lib.hid (show Below w7.heap.size w7 w7 from Below.refl _ _)
        by_cases hlt : k < n
        rotate_left
        · obtain rfl : n = k := by omega
          go_wp2
          go_ret
          exact ⟨rfl, by repeat' (first | exact Below.refl _ _ | exact HB7.out | refine below_drewN ?_ _ | refine Below.drew ?_ | refine Below.alloc ?_ (by first | omega | (simp; done) | (simp; omega) | (simp [World.setCell]; omega)) _ | refine Below.setCell ?_ (by first | omega | (simp; done) | (simp; omega)) _ | assumption)⟩
        obtain ⟨xb, xo, t, rfl, hxb, ht, c0, c1, c2, c3, c4, c5⟩ := R0_7.out.tgt hlt
        obtain ⟨yb, yo, K, rfl, hyb, hK, c6⟩ := R2_7.out.int_ hlt
        skip
        obtain ⟨te1, te2⟩ := tour_each HZ0.out ht
        have hok := path_at HPO.out ht hK
        obtain ⟨X, Y, hA⟩ : ∃ X Y, appF m t day = (X, Y) := ⟨_, _, rfl⟩
        obtain ⟨L, E0, hTA⟩ : ∃ L E0, turnsAt m X Y = (L, E0) := ⟨_, _, rfl⟩
        have hE0 : E0 = 0 := by have h := te2; unfold turnsF at h; rw [hA] at h; simp only at h; rw [hTA] at h; exact h
        subst hE0
        obtain ⟨hiff, hto⟩ := turn_ok_iff (k := K) hA hTA
        have hhas : decide (K ∈ L) = true := hiff ▸ hok
        obtain ⟨g1, g2, g3, g4⟩ := turn_range (of_decide_eq_true hok)
        have hY : m.lo ≤ Y ∧ Y ≤ m.hi := by
          unfold turnsAt at hTA
          split at hTA
          · cases hTA
          · rename_i h; exact (withinB_iff _ _ _).1 (by simpa using h)
        obtain ⟨y1, y2⟩ := hY
        obtain ⟨v, hv⟩ : ∃ v, posK m day t K = v := ⟨_, rfl⟩
        have hPv : P[k]? = some v := by
          rw [← HP.out]
          unfold pathL
          rw [List.getElem?_zipWith, ht, hK, ← hv]
        have hzt : Z[k]? = some (t, v) := by rw [HZP.out]; exact zip_at ht hPv
        obtain ⟨z1, z2, z3, z4, z5⟩ := HZR.out _ (List.mem_of_getElem? hzt)
        simp only at z1 z2 z3 z4 z5
        rw [hv] at hto g1 g2
        have hX := app_in (day := day) HM.out te1
        rw [hA] at hX
        simp only at hX
        obtain ⟨x1, x2, -, -⟩ := hX
        obtain ⟨f1, hf1⟩ : ∃ f, lastI pos (P.take k) = f := ⟨_, rfl⟩
        have hfr : -25920000 ≤ f1 ∧ f1 ≤ 25920000 := by
          rw [← hf1]
          have h : ∀ (xs : List Int) (a : Int), (-25920000 ≤ a ∧ a ≤ 25920000) → (∀ z ∈ xs, -25920000 ≤ z ∧ z ≤ 25920000) → -25920000 ≤ lastI a xs ∧ lastI a xs ≤ 25920000 := fun xs => by
            induction xs with
            | nil => exact fun a h _ => h
            | cons z r ih => exact fun a _ h => ih z (h z (by simp)) fun y hy => h y (by simp [hy])
          exact h _ _ ⟨by omega, by omega⟩ fun z hz => by have := HRNG.out z (List.mem_of_mem_take hz); omega
        obtain ⟨fr1, fr2⟩ := hfr
        have hfR : PosR f1 := by unfold PosR; omega
        rw [hf1]
        have hlast : lastI pos (P.take (k + 1)) = v := by rw [List.take_add_one, hPv]; exact lastI_snoc v _ _
        obtain ⟨u, hu⟩ : ∃ u, wayF f1 v = u := ⟨_, rfl⟩
        have hu0 := way_in hfR z1
        rw [hu] at hu0
        obtain ⟨u1, u2⟩ := hu0
        have hsm : smallL 25920000 [f1, v] = true := by
          unfold smallL
          simp only [List.all_cons, List.all_nil, Bool.and_true, Bool.and_eq_true, withinB_iff]
          omega
        have e1 := IntWalk.i64_in (K * 1296000) ⟨by omega, by omega⟩
        have e2 := IntWalk.i64_in (X + K * 1296000) ⟨by omega, by omega⟩
        obtain ⟨ql, hql⟩ : ∃ q, L.length = q := ⟨_, rfl⟩
        have hq43 : ql ≤ 43 := by rw [← hql]; have h := turnsAt_len2 m X Y; rw [hTA] at h; exact h
        have hmtd : mtdErr m t day = 0 := by unfold mtdErr; rw [HM.out, te1, HD.out]; rfl
        have htl : t.name.size ≤ maxLen := HF.out t (List.mem_of_getElem? ht)
        have hkk : (k : Int) < (n : Int) := by omega
        skip
        have HZT := Lib.hid hzt
        have HU_ := Lib.hid hu
        have HA := Lib.hid hA
        have HTA := Lib.hid hTA
        have HTO := Lib.hid hto
        have HHAS := Lib.hid hhas
        have HSM := Lib.hid hsm
        have HQL := Lib.hid hql
        have HMT := Lib.hid hmtd
        have HLAST := Lib.hid hlast
        have C0_7 := Lib.hid c0
        have C1_7 := Lib.hid c1
        have C2_7 := Lib.hid c2
        have C3_7 := Lib.hid c3
        have C4_7 := Lib.hid c4
        have C5_7 := Lib.hid c5
        have C6_7 := Lib.hid c6
        clear c0 c1 c2 c3 c4 c5 c6 ht hK hzt hu hA hTA hto hhas hsm hql hmtd hv hPv te1 te2 hok hiff hlast hf1
        go_wp2
        refine Fx.regionM (fun W g f w' => Kp (PfR ql L 10) W g w') (fun i (x : Pick2) => .tuple #[.slice x.1.1 ql x.1.2, .int .i64 (0)]) (by kernel_rfl) ?_ ?_
        · intro f hf0
          exact Kp.start
        first
        | (refine Fx.WM.skip 0 (by rfl) (by kernel_rfl) (by kernel_rfl) (by kernel_rfl) (by rfl) (fun g f w h => h) ?_; simp only [Act.put, List.setIfInBounds_toArray, List.set_cons_zero, List.set_cons_succ])
        | (refine Fx.WM.val_ 0 ?_ (by rfl) (by kernel_rfl) (by kernel_rfl) (by kernel_rfl) (by rfl) ?_ (fun g f w h => h) ?_
           rotate_left
           · intro g f w' hx hD hk
             obtain hkp := id hD
             have yb := K0_7.out.below hkp.bel l0_7
             have y0_0 := yb.cell 0
             have y0_1 := yb.cell 1
             have y0_2 := yb.cell 2
             have y0_3 := yb.cell 3
             have y0_4 := yb.cell 4
             have y0_5 := yb.cell 5
             have y0_6 := yb.cell 6
             have y0_7 := yb.cell 7
             have y0_8 := yb.cell 8
             have y0_9 := yb.cell 9
             clear yb
             clear hx hk hD hkp
             go_simp
             try rfl
           simp only [Act.put, List.setIfInBounds_toArray, List.set_cons_zero, List.set_cons_succ])
        first
        | (refine Fx.WM.skip 1 (by rfl) (by kernel_rfl) (by kernel_rfl) (by kernel_rfl) (by rfl) (fun g f w h => h) ?_; simp only [Act.put, List.setIfInBounds_toArray, List.set_cons_zero, List.set_cons_succ])
        | (refine Fx.WM.val_ 1 ?_ (by rfl) (by kernel_rfl) (by kernel_rfl) (by kernel_rfl) (by rfl) ?_ (fun g f w h => h) ?_
           rotate_left
           · intro g f w' hx hD hk
             obtain hkp := id hD
             have yb := K0_7.out.below hkp.bel l0_7
             have y0_0 := yb.cell 0
             have y0_1 := yb.cell 1
             have y0_2 := yb.cell 2
             have y0_3 := yb.cell 3
             have y0_4 := yb.cell 4
             have y0_5 := yb.cell 5
             have y0_6 := yb.cell 6
             have y0_7 := yb.cell 7
             have y0_8 := yb.cell 8
             have y0_9 := yb.cell 9
             clear yb
             clear hx hk hD hkp
             go_simp
             try rfl
           simp only [Act.put, List.setIfInBounds_toArray, List.set_cons_zero, List.set_cons_succ])
        first
        | (refine Fx.WM.skip 2 (by rfl) (by kernel_rfl) (by kernel_rfl) (by kernel_rfl) (by rfl) (fun g f w h => h) ?_; simp only [Act.put, List.setIfInBounds_toArray, List.set_cons_zero, List.set_cons_succ])
        | (refine Fx.WM.val_ 2 ?_ (by rfl) (by kernel_rfl) (by kernel_rfl) (by kernel_rfl) (by rfl) ?_ (fun g f w h => h) ?_
           rotate_left
           · intro g f w' hx hD hk
             obtain hkp := id hD
             have yb := K0_7.out.below hkp.bel l0_7
             have y0_0 := yb.cell 0
             have y0_1 := yb.cell 1
             have y0_2 := yb.cell 2
             have y0_3 := yb.cell 3
             have y0_4 := yb.cell 4
             have y0_5 := yb.cell 5
             have y0_6 := yb.cell 6
             have y0_7 := yb.cell 7
             have y0_8 := yb.cell 8
             have y0_9 := yb.cell 9
             clear yb
             clear hx hk hD hkp
             go_simp
             try rfl
           simp only [Act.put, List.setIfInBounds_toArray, List.set_cons_zero, List.set_cons_succ])
        first
        | (refine Fx.WM.skip 3 (by rfl) (by kernel_rfl) (by kernel_rfl) (by kernel_rfl) (by rfl) (fun g f w h => h) ?_; simp only [Act.put, List.setIfInBounds_toArray, List.set_cons_zero, List.set_cons_succ])
        | (refine Fx.WM.val_ 3 ?_ (by rfl) (by kernel_rfl) (by kernel_rfl) (by kernel_rfl) (by rfl) ?_ (fun g f w h => h) ?_
           rotate_left
           · intro g f w' hx hD hk
             obtain hkp := id hD
             have yb := K0_7.out.below hkp.bel l0_7
             have y0_0 := yb.cell 0
             have y0_1 := yb.cell 1
             have y0_2 := yb.cell 2
             have y0_3 := yb.cell 3
             have y0_4 := yb.cell 4
             have y0_5 := yb.cell 5
             have y0_6 := yb.cell 6
             have y0_7 := yb.cell 7
             have y0_8 := yb.cell 8
             have y0_9 := yb.cell 9
             clear yb
             clear hx hk hD hkp
             go_simp
             try rfl
           simp only [Act.put, List.setIfInBounds_toArray, List.set_cons_zero, List.set_cons_succ])
        first
        | (refine Fx.WM.skip 4 (by rfl) (by kernel_rfl) (by kernel_rfl) (by kernel_rfl) (by rfl) (fun g f w h => h) ?_; simp only [Act.put, List.setIfInBounds_toArray, List.set_cons_zero, List.set_cons_succ])
        | (refine Fx.WM.val_ 4 ?_ (by rfl) (by kernel_rfl) (by kernel_rfl) (by kernel_rfl) (by rfl) ?_ (fun g f w h => h) ?_
           rotate_left
           · intro g f w' hx hD hk
             obtain hkp := id hD
             have yb := K0_7.out.below hkp.bel l0_7
             have y0_0 := yb.cell 0
             have y0_1 := yb.cell 1
             have y0_2 := yb.cell 2
             have y0_3 := yb.cell 3
             have y0_4 := yb.cell 4
             have y0_5 := yb.cell 5
             have y0_6 := yb.cell 6
             have y0_7 := yb.cell 7
             have y0_8 := yb.cell 8
             have y0_9 := yb.cell 9
             clear yb
             clear hx hk hD hkp
             go_simp
             try rfl
           simp only [Act.put, List.setIfInBounds_toArray, List.set_cons_zero, List.set_cons_succ])
        first
        | (refine Fx.WM.skip 5 (by rfl) (by kernel_rfl) (by kernel_rfl) (by kernel_rfl) (by rfl) (fun g f w h => h) ?_; simp only [Act.put, List.setIfInBounds_toArray, List.set_cons_zero, List.set_cons_succ])
        | (refine Fx.WM.val_ 5 ?_ (by rfl) (by kernel_rfl) (by kernel_rfl) (by kernel_rfl) (by rfl) ?_ (fun g f w h => h) ?_
           rotate_left
           · intro g f w' hx hD hk
             obtain hkp := id hD
             have yb := K0_7.out.below hkp.bel l0_7
             have y0_0 := yb.cell 0
             have y0_1 := yb.cell 1
             have y0_2 := yb.cell 2
             have y0_3 := yb.cell 3
             have y0_4 := yb.cell 4
             have y0_5 := yb.cell 5
             have y0_6 := yb.cell 6
             have y0_7 := yb.cell 7
             have y0_8 := yb.cell 8
             have y0_9 := yb.cell 9
             clear yb
             clear hx hk hD hkp
             go_simp
             try rfl
           simp only [Act.put, List.setIfInBounds_toArray, List.set_cons_zero, List.set_cons_succ])
        first
        | (refine Fx.WM.skip 6 (by rfl) (by kernel_rfl) (by kernel_rfl) (by kernel_rfl) (by rfl) (fun g f w h => h) ?_; simp only [Act.put, List.setIfInBounds_toArray, List.set_cons_zero, List.set_cons_succ])
        | (refine Fx.WM.val_ 6 ?_ (by rfl) (by kernel_rfl) (by kernel_rfl) (by kernel_rfl) (by rfl) ?_ (fun g f w h => h) ?_
           rotate_left
           · intro g f w' hx hD hk
             obtain hkp := id hD
             have yb := K0_7.out.below hkp.bel l0_7
             have y0_0 := yb.cell 0
             have y0_1 := yb.cell 1
             have y0_2 := yb.cell 2
             have y0_3 := yb.cell 3
             have y0_4 := yb.cell 4
             have y0_5 := yb.cell 5
             have y0_6 := yb.cell 6
             have y0_7 := yb.cell 7
             have y0_8 := yb.cell 8
             have y0_9 := yb.cell 9
             clear yb
             have yc0 := (hkp.bel.cell (p := ⟨xb, xo + k * 6, none⟩) (by have := hxb; show xb < _; omega)).trans C0_7.out
             have yc1 := (hkp.bel.cell (p := ⟨xb, xo + k * 6 + 1, none⟩) (by have := hxb; show xb < _; omega)).trans C1_7.out
             have yc2 := (hkp.bel.cell (p := ⟨xb, xo + k * 6 + 2, none⟩) (by have := hxb; show xb < _; omega)).trans C2_7.out
             have yc3 := (hkp.bel.cell (p := ⟨xb, xo + k * 6 + 3, none⟩) (by have := hxb; show xb < _; omega)).trans C3_7.out
             have yc4 := (hkp.bel.cell (p := ⟨xb, xo + k * 6 + 4, none⟩) (by have := hxb; show xb < _; omega)).trans C4_7.out
             have yc5 := (hkp.bel.cell (p := ⟨xb, xo + k * 6 + 5, none⟩) (by have := hxb; show xb < _; omega)).trans C5_7.out
             have yc6 := (hkp.bel.cell (p := ⟨yb, yo + k, none⟩) (by have := hyb; show yb < _; omega)).trans C6_7.out
             clear hx hk hD hkp
             go_simp
             try rfl
           simp only [Act.put, List.setIfInBounds_toArray, List.set_cons_zero, List.set_cons_succ])
        first
        | (refine Fx.WM.skip 7 (by rfl) (by kernel_rfl) (by kernel_rfl) (by kernel_rfl) (by rfl) (fun g f w h => h) ?_; simp only [Act.put, List.setIfInBounds_toArray, List.set_cons_zero, List.set_cons_succ])
        | (refine Fx.WM.val_ 7 ?_ (by rfl) (by kernel_rfl) (by kernel_rfl) (by kernel_rfl) (by rfl) ?_ (fun g f w h => h) ?_
           rotate_left
           · intro g f w' hx hD hk
             obtain hkp := id hD
             have yb := K0_7.out.below hkp.bel l0_7
             have y0_0 := yb.cell 0
             have y0_1 := yb.cell 1
             have y0_2 := yb.cell 2
             have y0_3 := yb.cell 3
             have y0_4 := yb.cell 4
             have y0_5 := yb.cell 5
             have y0_6 := yb.cell 6
             have y0_7 := yb.cell 7
             have y0_8 := yb.cell 8
             have y0_9 := yb.cell 9
             clear yb
             clear hx hk hD hkp
             go_simp
             try rfl
           simp only [Act.put, List.setIfInBounds_toArray, List.set_cons_zero, List.set_cons_succ])
        first
        | (refine Fx.WM.skip 8 (by rfl) (by kernel_rfl) (by kernel_rfl) (by kernel_rfl) (by rfl) (fun g f w h => h) ?_; simp only [Act.put, List.setIfInBounds_toArray, List.set_cons_zero, List.set_cons_succ])
        | (refine Fx.WM.val_ 8 ?_ (by rfl) (by kernel_rfl) (by kernel_rfl) (by kernel_rfl) (by rfl) ?_ (fun g f w h => h) ?_
           rotate_left
           · intro g f w' hx hD hk
             obtain hkp := id hD
             have yb := K0_7.out.below hkp.bel l0_7
             have y0_0 := yb.cell 0
             have y0_1 := yb.cell 1
             have y0_2 := yb.cell 2
             have y0_3 := yb.cell 3
             have y0_4 := yb.cell 4
             have y0_5 := yb.cell 5
             have y0_6 := yb.cell 6
             have y0_7 := yb.cell 7
             have y0_8 := yb.cell 8
             have y0_9 := yb.cell 9
             clear yb
             clear hx hk hD hkp
             go_simp
             try rfl
           simp only [Act.put, List.setIfInBounds_toArray, List.set_cons_zero, List.set_cons_succ])
        first
        | (refine Fx.WM.skip 9 (by rfl) (by kernel_rfl) (by kernel_rfl) (by kernel_rfl) (by rfl) (fun g f w h => h) ?_; simp only [Act.put, List.setIfInBounds_toArray, List.set_cons_zero, List.set_cons_succ])
        | (refine Fx.WM.val_ 9 ?_ (by rfl) (by kernel_rfl) (by kernel_rfl) (by kernel_rfl) (by rfl) ?_ (fun g f w h => h) ?_
           rotate_left
           · intro g f w' hx hD hk
             obtain hkp := id hD
             have yb := K0_7.out.below hkp.bel l0_7
             have y0_0 := yb.cell 0
             have y0_1 := yb.cell 1
             have y0_2 := yb.cell 2
             have y0_3 := yb.cell 3
             have y0_4 := yb.cell 4
             have y0_5 := yb.cell 5
             have y0_6 := yb.cell 6
             have y0_7 := yb.cell 7
             have y0_8 := yb.cell 8
             have y0_9 := yb.cell 9
             clear yb
             clear hx hk hD hkp
             go_simp
             try rfl
           simp only [Act.put, List.setIfInBounds_toArray, List.set_cons_zero, List.set_cons_succ])
        refine Fx.WM.choose 10 (by rfl) (by kernel_rfl) (by rfl) ?_ ?_
        · skip
          refine Fx.Chooses.call ?_ ?_ (by rfl) ?_ ?_
          rotate_left 2
          · intro w'
            go_simp
            refine ⟨?_, ?_⟩ <;> rfl
          · intro f w' hD hk
            exact (pTurns_ok m t day X Y L 0 ql HA.out HTA.out HQL.out HMT.out w' (R1_7.out.lay hD.bel) htl).mono fun e w'' ⟨A', c', he, hb, hr⟩ => ⟨((A', c'), (none, 0)), he, hD.choose PfR.stb hb 10 _ fun _ => hr⟩
        intro x
        simp only [Act.put, List.setIfInBounds_toArray, List.set_cons_zero, List.set_cons_succ]
        first
        | (refine Fx.WM.skip 11 (by rfl) (by kernel_rfl) (by kernel_rfl) (by kernel_rfl) (by rfl) (fun g f w h => h) ?_; simp only [Act.put, List.setIfInBounds_toArray, List.set_cons_zero, List.set_cons_succ])
        | (refine Fx.WM.val_ 11 ?_ (by rfl) (by kernel_rfl) (by kernel_rfl) (by kernel_rfl) (by rfl) ?_ (fun g f w h => h) ?_
           rotate_left
           · intro g f w' hx hD hk
             obtain hkp := id hD
             clear hx hk hD hkp
             go_simp
             try rfl
           simp only [Act.put, List.setIfInBounds_toArray, List.set_cons_zero, List.set_cons_succ])
        first
        | (refine Fx.WM.skip 12 (by rfl) (by kernel_rfl) (by kernel_rfl) (by kernel_rfl) (by rfl) (fun g f w h => h) ?_; simp only [Act.put, List.setIfInBounds_toArray, List.set_cons_zero, List.set_cons_succ])
        | (refine Fx.WM.val_ 12 ?_ (by rfl) (by kernel_rfl) (by kernel_rfl) (by kernel_rfl) (by rfl) ?_ (fun g f w h => h) ?_
           rotate_left
           · intro g f w' hx hD hk
             obtain hkp := id hD
             clear hx hk hD hkp
             go_simp
             try rfl
           simp only [Act.put, List.setIfInBounds_toArray, List.set_cons_zero, List.set_cons_succ])
        first
        | (refine Fx.WM.skip 13 (by rfl) (by kernel_rfl) (by kernel_rfl) (by kernel_rfl) (by rfl) (fun g f w h => h) ?_; simp only [Act.put, List.setIfInBounds_toArray, List.set_cons_zero, List.set_cons_succ])
        | (refine Fx.WM.val_ 13 ?_ (by rfl) (by kernel_rfl) (by kernel_rfl) (by kernel_rfl) (by rfl) ?_ (fun g f w h => h) ?_
           rotate_left
           · intro g f w' hx hD hk
             obtain hkp := id hD
             clear hx hk hD hkp
             go_simp
             try rfl
           simp only [Act.put, List.setIfInBounds_toArray, List.set_cons_zero, List.set_cons_succ])
        first
        | (refine Fx.WM.skip 14 (by rfl) (by kernel_rfl) (by kernel_rfl) (by kernel_rfl) (by rfl) (fun g f w h => h) ?_; simp only [Act.put, List.setIfInBounds_toArray, List.set_cons_zero, List.set_cons_succ])
        | (refine Fx.WM.val_ 14 ?_ (by rfl) (by kernel_rfl) (by kernel_rfl) (by kernel_rfl) (by rfl) ?_ (fun g f w h => h) ?_
           rotate_left
           · intro g f w' hx hD hk
             obtain hkp := id hD
             clear hx hk hD hkp
             go_simp
             try rfl
           simp only [Act.put, List.setIfInBounds_toArray, List.set_cons_zero, List.set_cons_succ])
        first
        | (refine Fx.WM.skip 15 (by rfl) (by kernel_rfl) (by kernel_rfl) (by kernel_rfl) (by rfl) (fun g f w h => h) ?_; simp only [Act.put, List.setIfInBounds_toArray, List.set_cons_zero, List.set_cons_succ])
        | (refine Fx.WM.val_ 15 ?_ (by rfl) (by kernel_rfl) (by kernel_rfl) (by kernel_rfl) (by rfl) ?_ (fun g f w h => h) ?_
           rotate_left
           · intro g f w' hx hD hk
             obtain hkp := id hD
             clear hx hk hD hkp
             go_simp
             try rfl
           simp only [Act.put, List.setIfInBounds_toArray, List.set_cons_zero, List.set_cons_succ])
        refine Fx.WM.nil (by kernel_rfl) ?_
        intro wz hkp
        have hb := hkp.bel
        have hLr := hkp.has 10 x (by rfl) rfl
        clear hkp
        obtain ⟨w8, hnm⟩ : ∃ z : World, z = wz := ⟨_, rfl⟩
        subst hnm
        have HB8 := Lib.hid (show Below w.heap.size w w8 from step_below hb (by repeat' (first | exact Below.refl _ _ | exact HB7.out | refine below_drewN ?_ _ | refine Below.drew ?_ | refine Below.alloc ?_ (by first | omega | (simp; done) | (simp; omega) | (simp [World.setCell]; omega)) _ | refine Below.setCell ?_ (by first | omega | (simp; done) | (simp; omega)) _ | assumption)))
        have K0_8 := Lib.hid (step_blk hb (show Blk _ (w.heap.size) 62 #[.int .i64 (m.ls), .int .i64 (m.ms), .int .i64 (m.lo), .int .i64 (m.hi), .int .i64 (m.sp), .slice m.A1 m.n1 m.c1, .slice m.A2 m.n2 m.c2, .slice (some ⟨xb, xo, none⟩) n c, .int .i64 (day), .int .i64 (pos)] by repeat' (first | exact K0_7.out | exact K1_7.out | exact Blk.at_ _ (by first | rfl | (simp; done) | (simp; omega)) _ _ | refine Blk.drewN ?_ _ | refine Blk.drew ?_ | refine Blk.alloc ?_ _ | refine Blk.far ?_ (by first | omega | (simp; done) | (simp; omega)) _ | assumption)))
        have K1_8 := Lib.hid (step_blk hb (show Blk _ (w4.heap.size) 67 #[.slice (some ⟨yb, yo, none⟩) n ct, .slice Xp n cp] by repeat' (first | exact K0_7.out | exact K1_7.out | exact Blk.at_ _ (by first | rfl | (simp; done) | (simp; omega)) _ _ | refine Blk.drewN ?_ _ | refine Blk.drew ?_ | refine Blk.alloc ?_ _ | refine Blk.far ?_ (by first | omega | (simp; done) | (simp; omega)) _ | assumption)))
        have C0_8 := Lib.hid (step_cell hb (show World.cell? _ ⟨xb, xo + k * 6, none⟩ = some (.string t.name) by first | exact C0_7.out | go_simp) (by have := hxb; first | omega | (simp; omega)))
        have C1_8 := Lib.hid (step_cell hb (show World.cell? _ ⟨xb, xo + k * 6 + 1, none⟩ = some (.int .i64 (t.az)) by first | exact C1_7.out | go_simp) (by have := hxb; first | omega | (simp; omega)))
        have C2_8 := Lib.hid (step_cell hb (show World.cell? _ ⟨xb, xo + k * 6 + 2, none⟩ = some (.int .i64 (t.ht)) by first | exact C2_7.out | go_simp) (by have := hxb; first | omega | (simp; omega)))
        have C3_8 := Lib.hid (step_cell hb (show World.cell? _ ⟨xb, xo + k * 6 + 3, none⟩ = some (.int .i64 (t.fr)) by first | exact C3_7.out | go_simp) (by have := hxb; first | omega | (simp; omega)))
        have C4_8 := Lib.hid (step_cell hb (show World.cell? _ ⟨xb, xo + k * 6 + 4, none⟩ = some (.int .i64 (t.to)) by first | exact C4_7.out | go_simp) (by have := hxb; first | omega | (simp; omega)))
        have C5_8 := Lib.hid (step_cell hb (show World.cell? _ ⟨xb, xo + k * 6 + 5, none⟩ = some (.int .i64 (t.dw)) by first | exact C5_7.out | go_simp) (by have := hxb; first | omega | (simp; omega)))
        have C6_8 := Lib.hid (step_cell hb (show World.cell? _ ⟨yb, yo + k, none⟩ = some (.int .i64 (K)) by first | exact C6_7.out | go_simp) (by have := hyb; first | omega | (simp; omega)))
        have hL8 := Lib.hid (show Below w7.heap.size w7 _ from reads_mid hb (by repeat' (first | exact Below.refl _ _ | refine below_drewN ?_ _ | refine Below.drew ?_ | refine Below.alloc ?_ (by first | omega | (simp; done) | (simp; omega) | (simp [World.setCell]; omega)) _ | refine Below.setCell ?_ (by first | omega | (simp; done) | (simp; omega)) _)))
        have R0_8 := Lib.hid (reads_lay hb hL8.out R0_7.out)
        have R1_8 := Lib.hid (mnt_lay hb hL8.out R1_7.out)
        have R2_8 := Lib.hid (reads_lay hb hL8.out R2_7.out)
        clear hL8 R0_7 R1_7 R2_7
        have HA8 := Lib.hid (step_below hb HA7.out)
        clear HA7
        have hz8 := hb.size
        try simp only [World.size_alloc, World.drewN, World.drew] at hz8
        clear hb K0_7 K1_7 z0_0_7 z0_1_7 z0_2_7 z0_3_7 z0_4_7 z0_5_7 z0_6_7 z0_7_7 z0_8_7 z0_9_7 l0_7 z1_0_7 z1_1_7 l1_7
        have l0_8 : w.heap.size < w8.heap.size := K0_8.out.lt
        have z0_0_8 : w8.cell? ⟨w.heap.size, 0, none⟩ = some (.int .i64 (m.ls)) := K0_8.out.cell 0
        have z0_1_8 : w8.cell? ⟨w.heap.size, 1, none⟩ = some (.int .i64 (m.ms)) := K0_8.out.cell 1
        have z0_2_8 : w8.cell? ⟨w.heap.size, 2, none⟩ = some (.int .i64 (m.lo)) := K0_8.out.cell 2
        have z0_3_8 : w8.cell? ⟨w.heap.size, 3, none⟩ = some (.int .i64 (m.hi)) := K0_8.out.cell 3
        have z0_4_8 : w8.cell? ⟨w.heap.size, 4, none⟩ = some (.int .i64 (m.sp)) := K0_8.out.cell 4
        have z0_5_8 : w8.cell? ⟨w.heap.size, 5, none⟩ = some (.slice m.A1 m.n1 m.c1) := K0_8.out.cell 5
        have z0_6_8 : w8.cell? ⟨w.heap.size, 6, none⟩ = some (.slice m.A2 m.n2 m.c2) := K0_8.out.cell 6
        have z0_7_8 : w8.cell? ⟨w.heap.size, 7, none⟩ = some (.slice (some ⟨xb, xo, none⟩) n c) := K0_8.out.cell 7
        have z0_8_8 : w8.cell? ⟨w.heap.size, 8, none⟩ = some (.int .i64 (day)) := K0_8.out.cell 8
        have z0_9_8 : w8.cell? ⟨w.heap.size, 9, none⟩ = some (.int .i64 (pos)) := K0_8.out.cell 9
        have l1_8 : w4.heap.size < w8.heap.size := K1_8.out.lt
        have z1_0_8 : w8.cell? ⟨w4.heap.size, 0, none⟩ = some (.slice (some ⟨yb, yo, none⟩) n ct) := K1_8.out.cell 0
        have z1_1_8 : w8.cell? ⟨w4.heap.size, 1, none⟩ = some (.slice Xp n cp) := K1_8.out.cell 1
        have R3_8 := Lib.hid hLr
        clear hLr
        go_wp2
        apply share (Fact := fun (_ : Nat) (z : Pick2) (wz : World) => ∃ bx, z.1.1 = some ⟨bx, 0, none⟩ ∧ w8.heap.size ≤ bx ∧ Below w8.heap.size w8 wz ∧ Blk wz bx 60 #[.int .i64 X, .int .i64 Y])
        · intro key
          refine Fx.regionM (fun W g f w' => KpS (PfR 0 [] 98) 60 (.int .i64 (X)) (.int .i64 (Y)) 14 15 W g f w') (fun i (x : Pick2) => if i = 14 then .pointer x.1.1 else undef) (by kernel_rfl) ?_ ?_
          · intro f hf0
            exact KpS.start
          first
          | (refine Fx.WM.skip 0 (by rfl) (by kernel_rfl) (by kernel_rfl) (by kernel_rfl) (by rfl) (fun g f w h => h.same (by decide)) ?_; simp only [Act.put, List.setIfInBounds_toArray, List.set_cons_zero, List.set_cons_succ])
          | (refine Fx.WM.val_ 0 ?_ (by rfl) (by kernel_rfl) (by kernel_rfl) (by kernel_rfl) (by rfl) ?_ (fun g f w h => h.same (by decide)) ?_
             rotate_left
             · intro g f w' hx hD hk
               obtain hkp := id hD
               have yb := K0_8.out.below hkp.bel l0_8
               have y0_0 := yb.cell 0
               have y0_1 := yb.cell 1
               have y0_2 := yb.cell 2
               have y0_3 := yb.cell 3
               have y0_4 := yb.cell 4
               have y0_5 := yb.cell 5
               have y0_6 := yb.cell 6
               have y0_7 := yb.cell 7
               have y0_8 := yb.cell 8
               have y0_9 := yb.cell 9
               clear yb
               clear hx hk hD hkp
               go_simp
               try rfl
             simp only [Act.put, List.setIfInBounds_toArray, List.set_cons_zero, List.set_cons_succ])
          first
          | (refine Fx.WM.skip 1 (by rfl) (by kernel_rfl) (by kernel_rfl) (by kernel_rfl) (by rfl) (fun g f w h => h.same (by decide)) ?_; simp only [Act.put, List.setIfInBounds_toArray, List.set_cons_zero, List.set_cons_succ])
          | (refine Fx.WM.val_ 1 ?_ (by rfl) (by kernel_rfl) (by kernel_rfl) (by kernel_rfl) (by rfl) ?_ (fun g f w h => h.same (by decide)) ?_
             rotate_left
             · intro g f w' hx hD hk
               obtain hkp := id hD
               have yb := K0_8.out.below hkp.bel l0_8
               have y0_0 := yb.cell 0
               have y0_1 := yb.cell 1
               have y0_2 := yb.cell 2
               have y0_3 := yb.cell 3
               have y0_4 := yb.cell 4
               have y0_5 := yb.cell 5
               have y0_6 := yb.cell 6
               have y0_7 := yb.cell 7
               have y0_8 := yb.cell 8
               have y0_9 := yb.cell 9
               clear yb
               clear hx hk hD hkp
               go_simp
               try rfl
             simp only [Act.put, List.setIfInBounds_toArray, List.set_cons_zero, List.set_cons_succ])
          first
          | (refine Fx.WM.skip 2 (by rfl) (by kernel_rfl) (by kernel_rfl) (by kernel_rfl) (by rfl) (fun g f w h => h.same (by decide)) ?_; simp only [Act.put, List.setIfInBounds_toArray, List.set_cons_zero, List.set_cons_succ])
          | (refine Fx.WM.val_ 2 ?_ (by rfl) (by kernel_rfl) (by kernel_rfl) (by kernel_rfl) (by rfl) ?_ (fun g f w h => h.same (by decide)) ?_
             rotate_left
             · intro g f w' hx hD hk
               obtain hkp := id hD
               have yb := K0_8.out.below hkp.bel l0_8
               have y0_0 := yb.cell 0
               have y0_1 := yb.cell 1
               have y0_2 := yb.cell 2
               have y0_3 := yb.cell 3
               have y0_4 := yb.cell 4
               have y0_5 := yb.cell 5
               have y0_6 := yb.cell 6
               have y0_7 := yb.cell 7
               have y0_8 := yb.cell 8
               have y0_9 := yb.cell 9
               clear yb
               clear hx hk hD hkp
               go_simp
               try rfl
             simp only [Act.put, List.setIfInBounds_toArray, List.set_cons_zero, List.set_cons_succ])
          first
          | (refine Fx.WM.skip 3 (by rfl) (by kernel_rfl) (by kernel_rfl) (by kernel_rfl) (by rfl) (fun g f w h => h.same (by decide)) ?_; simp only [Act.put, List.setIfInBounds_toArray, List.set_cons_zero, List.set_cons_succ])
          | (refine Fx.WM.val_ 3 ?_ (by rfl) (by kernel_rfl) (by kernel_rfl) (by kernel_rfl) (by rfl) ?_ (fun g f w h => h.same (by decide)) ?_
             rotate_left
             · intro g f w' hx hD hk
               obtain hkp := id hD
               have yb := K0_8.out.below hkp.bel l0_8
               have y0_0 := yb.cell 0
               have y0_1 := yb.cell 1
               have y0_2 := yb.cell 2
               have y0_3 := yb.cell 3
               have y0_4 := yb.cell 4
               have y0_5 := yb.cell 5
               have y0_6 := yb.cell 6
               have y0_7 := yb.cell 7
               have y0_8 := yb.cell 8
               have y0_9 := yb.cell 9
               clear yb
               clear hx hk hD hkp
               go_simp
               try rfl
             simp only [Act.put, List.setIfInBounds_toArray, List.set_cons_zero, List.set_cons_succ])
          first
          | (refine Fx.WM.skip 4 (by rfl) (by kernel_rfl) (by kernel_rfl) (by kernel_rfl) (by rfl) (fun g f w h => h.same (by decide)) ?_; simp only [Act.put, List.setIfInBounds_toArray, List.set_cons_zero, List.set_cons_succ])
          | (refine Fx.WM.val_ 4 ?_ (by rfl) (by kernel_rfl) (by kernel_rfl) (by kernel_rfl) (by rfl) ?_ (fun g f w h => h.same (by decide)) ?_
             rotate_left
             · intro g f w' hx hD hk
               obtain hkp := id hD
               have yb := K0_8.out.below hkp.bel l0_8
               have y0_0 := yb.cell 0
               have y0_1 := yb.cell 1
               have y0_2 := yb.cell 2
               have y0_3 := yb.cell 3
               have y0_4 := yb.cell 4
               have y0_5 := yb.cell 5
               have y0_6 := yb.cell 6
               have y0_7 := yb.cell 7
               have y0_8 := yb.cell 8
               have y0_9 := yb.cell 9
               clear yb
               clear hx hk hD hkp
               go_simp
               try rfl
             simp only [Act.put, List.setIfInBounds_toArray, List.set_cons_zero, List.set_cons_succ])
          first
          | (refine Fx.WM.skip 5 (by rfl) (by kernel_rfl) (by kernel_rfl) (by kernel_rfl) (by rfl) (fun g f w h => h.same (by decide)) ?_; simp only [Act.put, List.setIfInBounds_toArray, List.set_cons_zero, List.set_cons_succ])
          | (refine Fx.WM.val_ 5 ?_ (by rfl) (by kernel_rfl) (by kernel_rfl) (by kernel_rfl) (by rfl) ?_ (fun g f w h => h.same (by decide)) ?_
             rotate_left
             · intro g f w' hx hD hk
               obtain hkp := id hD
               have yb := K0_8.out.below hkp.bel l0_8
               have y0_0 := yb.cell 0
               have y0_1 := yb.cell 1
               have y0_2 := yb.cell 2
               have y0_3 := yb.cell 3
               have y0_4 := yb.cell 4
               have y0_5 := yb.cell 5
               have y0_6 := yb.cell 6
               have y0_7 := yb.cell 7
               have y0_8 := yb.cell 8
               have y0_9 := yb.cell 9
               clear yb
               clear hx hk hD hkp
               go_simp
               try rfl
             simp only [Act.put, List.setIfInBounds_toArray, List.set_cons_zero, List.set_cons_succ])
          first
          | (refine Fx.WM.skip 6 (by rfl) (by kernel_rfl) (by kernel_rfl) (by kernel_rfl) (by rfl) (fun g f w h => h.same (by decide)) ?_; simp only [Act.put, List.setIfInBounds_toArray, List.set_cons_zero, List.set_cons_succ])
          | (refine Fx.WM.val_ 6 ?_ (by rfl) (by kernel_rfl) (by kernel_rfl) (by kernel_rfl) (by rfl) ?_ (fun g f w h => h.same (by decide)) ?_
             rotate_left
             · intro g f w' hx hD hk
               obtain hkp := id hD
               have yb := K0_8.out.below hkp.bel l0_8
               have y0_0 := yb.cell 0
               have y0_1 := yb.cell 1
               have y0_2 := yb.cell 2
               have y0_3 := yb.cell 3
               have y0_4 := yb.cell 4
               have y0_5 := yb.cell 5
               have y0_6 := yb.cell 6
               have y0_7 := yb.cell 7
               have y0_8 := yb.cell 8
               have y0_9 := yb.cell 9
               clear yb
               have yc0 := (hkp.bel.cell (p := ⟨xb, xo + k * 6, none⟩) (by have := hxb; show xb < _; omega)).trans C0_8.out
               have yc1 := (hkp.bel.cell (p := ⟨xb, xo + k * 6 + 1, none⟩) (by have := hxb; show xb < _; omega)).trans C1_8.out
               have yc2 := (hkp.bel.cell (p := ⟨xb, xo + k * 6 + 2, none⟩) (by have := hxb; show xb < _; omega)).trans C2_8.out
               have yc3 := (hkp.bel.cell (p := ⟨xb, xo + k * 6 + 3, none⟩) (by have := hxb; show xb < _; omega)).trans C3_8.out
               have yc4 := (hkp.bel.cell (p := ⟨xb, xo + k * 6 + 4, none⟩) (by have := hxb; show xb < _; omega)).trans C4_8.out
               have yc5 := (hkp.bel.cell (p := ⟨xb, xo + k * 6 + 5, none⟩) (by have := hxb; show xb < _; omega)).trans C5_8.out
               have yc6 := (hkp.bel.cell (p := ⟨yb, yo + k, none⟩) (by have := hyb; show yb < _; omega)).trans C6_8.out
               clear hx hk hD hkp
               go_simp
               try rfl
             simp only [Act.put, List.setIfInBounds_toArray, List.set_cons_zero, List.set_cons_succ])
          first
          | (refine Fx.WM.skip 7 (by rfl) (by kernel_rfl) (by kernel_rfl) (by kernel_rfl) (by rfl) (fun g f w h => h.same (by decide)) ?_; simp only [Act.put, List.setIfInBounds_toArray, List.set_cons_zero, List.set_cons_succ])
          | (refine Fx.WM.val_ 7 ?_ (by rfl) (by kernel_rfl) (by kernel_rfl) (by kernel_rfl) (by rfl) ?_ (fun g f w h => h.same (by decide)) ?_
             rotate_left
             · intro g f w' hx hD hk
               obtain hkp := id hD
               have yb := K0_8.out.below hkp.bel l0_8
               have y0_0 := yb.cell 0
               have y0_1 := yb.cell 1
               have y0_2 := yb.cell 2
               have y0_3 := yb.cell 3
               have y0_4 := yb.cell 4
               have y0_5 := yb.cell 5
               have y0_6 := yb.cell 6
               have y0_7 := yb.cell 7
               have y0_8 := yb.cell 8
               have y0_9 := yb.cell 9
               clear yb
               clear hx hk hD hkp
               go_simp
               try rfl
             simp only [Act.put, List.setIfInBounds_toArray, List.set_cons_zero, List.set_cons_succ])
          first
          | (refine Fx.WM.skip 8 (by rfl) (by kernel_rfl) (by kernel_rfl) (by kernel_rfl) (by rfl) (fun g f w h => h.same (by decide)) ?_; simp only [Act.put, List.setIfInBounds_toArray, List.set_cons_zero, List.set_cons_succ])
          | (refine Fx.WM.val_ 8 ?_ (by rfl) (by kernel_rfl) (by kernel_rfl) (by kernel_rfl) (by rfl) ?_ (fun g f w h => h.same (by decide)) ?_
             rotate_left
             · intro g f w' hx hD hk
               obtain hkp := id hD
               have yb := K0_8.out.below hkp.bel l0_8
               have y0_0 := yb.cell 0
               have y0_1 := yb.cell 1
               have y0_2 := yb.cell 2
               have y0_3 := yb.cell 3
               have y0_4 := yb.cell 4
               have y0_5 := yb.cell 5
               have y0_6 := yb.cell 6
               have y0_7 := yb.cell 7
               have y0_8 := yb.cell 8
               have y0_9 := yb.cell 9
               clear yb
               clear hx hk hD hkp
               go_simp
               try rfl
             simp only [Act.put, List.setIfInBounds_toArray, List.set_cons_zero, List.set_cons_succ])
          first
          | (refine Fx.WM.skip 9 (by rfl) (by kernel_rfl) (by kernel_rfl) (by kernel_rfl) (by rfl) (fun g f w h => h.same (by decide)) ?_; simp only [Act.put, List.setIfInBounds_toArray, List.set_cons_zero, List.set_cons_succ])
          | (refine Fx.WM.val_ 9 ?_ (by rfl) (by kernel_rfl) (by kernel_rfl) (by kernel_rfl) (by rfl) ?_ (fun g f w h => h.same (by decide)) ?_
             rotate_left
             · intro g f w' hx hD hk
               obtain hkp := id hD
               have yb := K0_8.out.below hkp.bel l0_8
               have y0_0 := yb.cell 0
               have y0_1 := yb.cell 1
               have y0_2 := yb.cell 2
               have y0_3 := yb.cell 3
               have y0_4 := yb.cell 4
               have y0_5 := yb.cell 5
               have y0_6 := yb.cell 6
               have y0_7 := yb.cell 7
               have y0_8 := yb.cell 8
               have y0_9 := yb.cell 9
               clear yb
               clear hx hk hD hkp
               go_simp
               try rfl
             simp only [Act.put, List.setIfInBounds_toArray, List.set_cons_zero, List.set_cons_succ])
          refine Fx.WM.call 10 (.tuple #[.agg #[.int .i64 (X), .int .i64 (Y)], .int .i64 (0)]) ?_ ?_ (by rfl) (by kernel_rfl) (by kernel_rfl) (by kernel_rfl) (by rfl) ?_ ?_ ?_
          rotate_left 2
          · intro w'
            go_simp
            refine ⟨?_, ?_⟩ <;> rfl
          · intro g f w' hx hD hk
            exact (pApparent_ok m t day X Y HA.out HMT.out w' (R1_8.out.lay hD.bel) htl).mono fun e w'' ⟨he, hw⟩ => ⟨he, hD.call PfR.stb (by decide) hw⟩
          simp only [Act.put, List.setIfInBounds_toArray, List.set_cons_zero, List.set_cons_succ]
          first
          | (refine Fx.WM.skip 11 (by rfl) (by kernel_rfl) (by kernel_rfl) (by kernel_rfl) (by rfl) (fun g f w h => h.same (by decide)) ?_; simp only [Act.put, List.setIfInBounds_toArray, List.set_cons_zero, List.set_cons_succ])
          | (refine Fx.WM.val_ 11 ?_ (by rfl) (by kernel_rfl) (by kernel_rfl) (by kernel_rfl) (by rfl) ?_ (fun g f w h => h.same (by decide)) ?_
             rotate_left
             · intro g f w' hx hD hk
               obtain hkp := id hD
               clear hx hk hD hkp
               go_simp
               try rfl
             simp only [Act.put, List.setIfInBounds_toArray, List.set_cons_zero, List.set_cons_succ])
          first
          | (refine Fx.WM.skip 12 (by rfl) (by kernel_rfl) (by kernel_rfl) (by kernel_rfl) (by rfl) (fun g f w h => h.same (by decide)) ?_; simp only [Act.put, List.setIfInBounds_toArray, List.set_cons_zero, List.set_cons_succ])
          | (refine Fx.WM.val_ 12 ?_ (by rfl) (by kernel_rfl) (by kernel_rfl) (by kernel_rfl) (by rfl) ?_ (fun g f w h => h.same (by decide)) ?_
             rotate_left
             · intro g f w' hx hD hk
               obtain hkp := id hD
               clear hx hk hD hkp
               go_simp
               try rfl
             simp only [Act.put, List.setIfInBounds_toArray, List.set_cons_zero, List.set_cons_succ])
          first
          | (refine Fx.WM.skip 13 (by rfl) (by kernel_rfl) (by kernel_rfl) (by kernel_rfl) (by rfl) (fun g f w h => h.same (by decide)) ?_; simp only [Act.put, List.setIfInBounds_toArray, List.set_cons_zero, List.set_cons_succ])
          | (refine Fx.WM.val_ 13 ?_ (by rfl) (by kernel_rfl) (by kernel_rfl) (by kernel_rfl) (by rfl) ?_ (fun g f w h => h.same (by decide)) ?_
             rotate_left
             · intro g f w' hx hD hk
               obtain hkp := id hD
               clear hx hk hD hkp
               go_simp
               try rfl
             simp only [Act.put, List.setIfInBounds_toArray, List.set_cons_zero, List.set_cons_succ])
          refine Fx.WM.choose 14 (by rfl) (by kernel_rfl) (by rfl) ?_ ?_
          · skip
            refine Fx.Chooses.make (by rfl) ?_
            intro f w' hD hk
            refine ⟨((some ⟨w'.heap.size, 0, none⟩, 0), (none, 0)), w'.alloc (.cells #[.int .i64 (0), .int .i64 (0)] 60), ?_, ?_⟩
            · clear hk hD
              go_simp
              try rfl
            · exact hD.make PfR.stb (hk.2.1 15 (by kernel_rfl)) (by decide)
          intro z
          simp only [Act.put, List.setIfInBounds_toArray, List.set_cons_zero, List.set_cons_succ]
          refine Fx.WM.eff 15 undef (by rfl) (by kernel_rfl) (by kernel_rfl) (by kernel_rfl) (by rfl) ?_ ?_
          · intro g f w' hx hD hk
            obtain ⟨bx, e0, e1, r0, r1, r2, r3, r4, r5⟩ := KpS.cells hD (hx 14 _ (by rfl))
            refine Fx.gives_skip (w' := ((w'.setCell ⟨bx, 0, none⟩ (.int .i64 (X))).setCell ⟨bx, 1, none⟩ (.int .i64 (Y)))) ?_ ?_
            · clear hx hk hD
              go_simp
              try rfl
            · exact KpS.store hD (hx 14 _ (by rfl)) r0
          simp only [Act.put, List.setIfInBounds_toArray, List.set_cons_zero, List.set_cons_succ]
          first
          | (refine Fx.WM.skip 16 (by rfl) (by kernel_rfl) (by kernel_rfl) (by kernel_rfl) (by rfl) (fun g f w h => h.same (by decide)) ?_; simp only [Act.put, List.setIfInBounds_toArray, List.set_cons_zero, List.set_cons_succ])
          | (refine Fx.WM.val_ 16 ?_ (by rfl) (by kernel_rfl) (by kernel_rfl) (by kernel_rfl) (by rfl) ?_ (fun g f w h => h.same (by decide)) ?_
             rotate_left
             · intro g f w' hx hD hk
               obtain hkp := id hD
               clear hx hk hD hkp
               go_simp
               try rfl
             simp only [Act.put, List.setIfInBounds_toArray, List.set_cons_zero, List.set_cons_succ])
          refine Fx.WM.nil (by kernel_rfl) ?_
          intro wz hkp
          obtain ⟨bx, h1, h2, h3⟩ := KpS.end_ hkp (x := z) (by rfl) (by rfl)
          obtain ⟨dd, -⟩ : ∃ d : Nat, d = d := ⟨0, rfl⟩
          exact key dd z wz ⟨bx, h1, h2, hkp.bel, h3⟩
        rintro - ⟨⟨z1_, z2_⟩, z3_⟩ w9 ⟨bx, hz, hbx, hb, hblk⟩
        simp only at hz
        subst hz
        have HB9 := Lib.hid (show Below w.heap.size w w9 from step_below hb (by repeat' (first | exact Below.refl _ _ | exact HB8.out | refine below_drewN ?_ _ | refine Below.drew ?_ | refine Below.alloc ?_ (by first | omega | (simp; done) | (simp; omega) | (simp [World.setCell]; omega)) _ | refine Below.setCell ?_ (by first | omega | (simp; done) | (simp; omega)) _ | assumption)))
        have K0_9 := Lib.hid (step_blk hb (show Blk _ (w.heap.size) 62 #[.int .i64 (m.ls), .int .i64 (m.ms), .int .i64 (m.lo), .int .i64 (m.hi), .int .i64 (m.sp), .slice m.A1 m.n1 m.c1, .slice m.A2 m.n2 m.c2, .slice (some ⟨xb, xo, none⟩) n c, .int .i64 (day), .int .i64 (pos)] by repeat' (first | exact K0_8.out | exact K1_8.out | exact Blk.at_ _ (by first | rfl | (simp; done) | (simp; omega)) _ _ | refine Blk.drewN ?_ _ | refine Blk.drew ?_ | refine Blk.alloc ?_ _ | refine Blk.far ?_ (by first | omega | (simp; done) | (simp; omega)) _ | assumption)))
        have K1_9 := Lib.hid (step_blk hb (show Blk _ (w4.heap.size) 67 #[.slice (some ⟨yb, yo, none⟩) n ct, .slice Xp n cp] by repeat' (first | exact K0_8.out | exact K1_8.out | exact Blk.at_ _ (by first | rfl | (simp; done) | (simp; omega)) _ _ | refine Blk.drewN ?_ _ | refine Blk.drew ?_ | refine Blk.alloc ?_ _ | refine Blk.far ?_ (by first | omega | (simp; done) | (simp; omega)) _ | assumption)))
        have C0_9 := Lib.hid (step_cell hb (show World.cell? _ ⟨xb, xo + k * 6, none⟩ = some (.string t.name) by first | exact C0_8.out | go_simp) (by have := hxb; first | omega | (simp; omega)))
        have C1_9 := Lib.hid (step_cell hb (show World.cell? _ ⟨xb, xo + k * 6 + 1, none⟩ = some (.int .i64 (t.az)) by first | exact C1_8.out | go_simp) (by have := hxb; first | omega | (simp; omega)))
        have C2_9 := Lib.hid (step_cell hb (show World.cell? _ ⟨xb, xo + k * 6 + 2, none⟩ = some (.int .i64 (t.ht)) by first | exact C2_8.out | go_simp) (by have := hxb; first | omega | (simp; omega)))
        have C3_9 := Lib.hid (step_cell hb (show World.cell? _ ⟨xb, xo + k * 6 + 3, none⟩ = some (.int .i64 (t.fr)) by first | exact C3_8.out | go_simp) (by have := hxb; first | omega | (simp; omega)))
        have C4_9 := Lib.hid (step_cell hb (show World.cell? _ ⟨xb, xo + k * 6 + 4, none⟩ = some (.int .i64 (t.to)) by first | exact C4_8.out | go_simp) (by have := hxb; first | omega | (simp; omega)))
        have C5_9 := Lib.hid (step_cell hb (show World.cell? _ ⟨xb, xo + k * 6 + 5, none⟩ = some (.int .i64 (t.dw)) by first | exact C5_8.out | go_simp) (by have := hxb; first | omega | (simp; omega)))
        have C6_9 := Lib.hid (step_cell hb (show World.cell? _ ⟨yb, yo + k, none⟩ = some (.int .i64 (K)) by first | exact C6_8.out | go_simp) (by have := hyb; first | omega | (simp; omega)))
        have hL9 := Lib.hid (show Below w8.heap.size w8 _ from reads_mid hb (by repeat' (first | exact Below.refl _ _ | refine below_drewN ?_ _ | refine Below.drew ?_ | refine Below.alloc ?_ (by first | omega | (simp; done) | (simp; omega) | (simp [World.setCell]; omega)) _ | refine Below.setCell ?_ (by first | omega | (simp; done) | (simp; omega)) _)))
        have R0_9 := Lib.hid (reads_lay hb hL9.out R0_8.out)
        have R1_9 := Lib.hid (mnt_lay hb hL9.out R1_8.out)
        have R2_9 := Lib.hid (reads_lay hb hL9.out R2_8.out)
        have R3_9 := Lib.hid (reads_lay hb hL9.out R3_8.out)
        clear hL9 R0_8 R1_8 R2_8 R3_8
        have HA9 := Lib.hid (step_below hb HA8.out)
        clear HA8
        have hz9 := hb.size
        try simp only [World.size_alloc, World.drewN, World.drew] at hz9
        clear hb K0_8 K1_8 z0_0_8 z0_1_8 z0_2_8 z0_3_8 z0_4_8 z0_5_8 z0_6_8 z0_7_8 z0_8_8 z0_9_8 l0_8 z1_0_8 z1_1_8 l1_8
        have l0_9 : w.heap.size < w9.heap.size := K0_9.out.lt
        have z0_0_9 : w9.cell? ⟨w.heap.size, 0, none⟩ = some (.int .i64 (m.ls)) := K0_9.out.cell 0
        have z0_1_9 : w9.cell? ⟨w.heap.size, 1, none⟩ = some (.int .i64 (m.ms)) := K0_9.out.cell 1
        have z0_2_9 : w9.cell? ⟨w.heap.size, 2, none⟩ = some (.int .i64 (m.lo)) := K0_9.out.cell 2
        have z0_3_9 : w9.cell? ⟨w.heap.size, 3, none⟩ = some (.int .i64 (m.hi)) := K0_9.out.cell 3
        have z0_4_9 : w9.cell? ⟨w.heap.size, 4, none⟩ = some (.int .i64 (m.sp)) := K0_9.out.cell 4
        have z0_5_9 : w9.cell? ⟨w.heap.size, 5, none⟩ = some (.slice m.A1 m.n1 m.c1) := K0_9.out.cell 5
        have z0_6_9 : w9.cell? ⟨w.heap.size, 6, none⟩ = some (.slice m.A2 m.n2 m.c2) := K0_9.out.cell 6
        have z0_7_9 : w9.cell? ⟨w.heap.size, 7, none⟩ = some (.slice (some ⟨xb, xo, none⟩) n c) := K0_9.out.cell 7
        have z0_8_9 : w9.cell? ⟨w.heap.size, 8, none⟩ = some (.int .i64 (day)) := K0_9.out.cell 8
        have z0_9_9 : w9.cell? ⟨w.heap.size, 9, none⟩ = some (.int .i64 (pos)) := K0_9.out.cell 9
        have l1_9 : w4.heap.size < w9.heap.size := K1_9.out.lt
        have z1_0_9 : w9.cell? ⟨w4.heap.size, 0, none⟩ = some (.slice (some ⟨yb, yo, none⟩) n ct) := K1_9.out.cell 0
        have z1_1_9 : w9.cell? ⟨w4.heap.size, 1, none⟩ = some (.slice Xp n cp) := K1_9.out.cell 1
        have K2_9 := Lib.hid (show Blk w9 (bx) 60 #[.int .i64 (X), .int .i64 (Y)] from hblk)
        clear hblk
        have l2_9 : bx < w9.heap.size := K2_9.out.lt
        have z2_0_9 : w9.cell? ⟨bx, 0, none⟩ = some (.int .i64 (X)) := K2_9.out.cell 0
        have z2_1_9 : w9.cell? ⟨bx, 1, none⟩ = some (.int .i64 (Y)) := K2_9.out.cell 1
        have v6 := C6_9.out
        have ylo : decide (Y < m.lo) = false := decide_eq_false (by omega)
        have yhi : decide (m.hi < Y) = false := decide_eq_false (by omega)
        go_wp2_with fail
        refine (has_is x.1.1 ql x.1.2 _ L K true HHAS.out _ R3_9.out (by omega)).mono ?_
        rintro e w' ⟨rfl, rfl⟩
        go_wp2_with fail
        refine Fx.regionW (fun W f w' => Below W.heap.size W w') (by kernel_rfl) (by kernel_rfl) ?_ ?_
        · intro f hf0
          exact below_drewN (Below.refl _ _) 1
        repeat (first
          | (refine Fx.skip_ (by rfl) (fun f w h => h) ?_; simp only [Act.put, List.setIfInBounds_toArray, List.set_cons_zero, List.set_cons_succ])
          | (refine Fx.val_ ?_ (by rfl) ?_ (fun f w h => h) ?_
             rotate_left
             · intro f w' hD hk
               have hb := hD
               have kb0 := step_blk hb (show Blk _ (w.heap.size) 62 #[.int .i64 (m.ls), .int .i64 (m.ms), .int .i64 (m.lo), .int .i64 (m.hi), .int .i64 (m.sp), .slice m.A1 m.n1 m.c1, .slice m.A2 m.n2 m.c2, .slice (some ⟨xb, xo, none⟩) n c, .int .i64 (day), .int .i64 (pos)] by repeat' (first | exact K0_9.out | exact K1_9.out | exact K2_9.out | exact Blk.at_ _ (by first | rfl | (simp; done) | (simp; omega)) _ _ | refine Blk.drewN ?_ _ | refine Blk.drew ?_ | refine Blk.alloc ?_ _ | refine Blk.far ?_ (by first | omega | (simp; done) | (simp; omega)) _ | assumption))
               have y0_0 : w'.cell? ⟨w.heap.size, 0, none⟩ = some (.int .i64 (m.ls)) := kb0.cell 0
               have y0_1 : w'.cell? ⟨w.heap.size, 1, none⟩ = some (.int .i64 (m.ms)) := kb0.cell 1
               have y0_2 : w'.cell? ⟨w.heap.size, 2, none⟩ = some (.int .i64 (m.lo)) := kb0.cell 2
               have y0_3 : w'.cell? ⟨w.heap.size, 3, none⟩ = some (.int .i64 (m.hi)) := kb0.cell 3
               have y0_4 : w'.cell? ⟨w.heap.size, 4, none⟩ = some (.int .i64 (m.sp)) := kb0.cell 4
               have y0_5 : w'.cell? ⟨w.heap.size, 5, none⟩ = some (.slice m.A1 m.n1 m.c1) := kb0.cell 5
               have y0_6 : w'.cell? ⟨w.heap.size, 6, none⟩ = some (.slice m.A2 m.n2 m.c2) := kb0.cell 6
               have y0_7 : w'.cell? ⟨w.heap.size, 7, none⟩ = some (.slice (some ⟨xb, xo, none⟩) n c) := kb0.cell 7
               have y0_8 : w'.cell? ⟨w.heap.size, 8, none⟩ = some (.int .i64 (day)) := kb0.cell 8
               have y0_9 : w'.cell? ⟨w.heap.size, 9, none⟩ = some (.int .i64 (pos)) := kb0.cell 9
               have kb1 := step_blk hb (show Blk _ (w4.heap.size) 67 #[.slice (some ⟨yb, yo, none⟩) n ct, .slice Xp n cp] by repeat' (first | exact K0_9.out | exact K1_9.out | exact K2_9.out | exact Blk.at_ _ (by first | rfl | (simp; done) | (simp; omega)) _ _ | refine Blk.drewN ?_ _ | refine Blk.drew ?_ | refine Blk.alloc ?_ _ | refine Blk.far ?_ (by first | omega | (simp; done) | (simp; omega)) _ | assumption))
               have y1_0 : w'.cell? ⟨w4.heap.size, 0, none⟩ = some (.slice (some ⟨yb, yo, none⟩) n ct) := kb1.cell 0
               have y1_1 : w'.cell? ⟨w4.heap.size, 1, none⟩ = some (.slice Xp n cp) := kb1.cell 1
               have kb2 := step_blk hb (show Blk _ (bx) 60 #[.int .i64 (X), .int .i64 (Y)] by repeat' (first | exact K0_9.out | exact K1_9.out | exact K2_9.out | exact Blk.at_ _ (by first | rfl | (simp; done) | (simp; omega)) _ _ | refine Blk.drewN ?_ _ | refine Blk.drew ?_ | refine Blk.alloc ?_ _ | refine Blk.far ?_ (by first | omega | (simp; done) | (simp; omega)) _ | assumption))
               have y2_0 : w'.cell? ⟨bx, 0, none⟩ = some (.int .i64 (X)) := kb2.cell 0
               have y2_1 : w'.cell? ⟨bx, 1, none⟩ = some (.int .i64 (Y)) := kb2.cell 1
               have yc0 : w'.cell? ⟨xb, xo + k * 6, none⟩ = some (.string t.name) := step_cell hb (show World.cell? _ ⟨xb, xo + k * 6, none⟩ = some (.string t.name) by first | exact C0_9.out | go_simp) (by have := hxb; first | omega | (simp; omega))
               have yc1 : w'.cell? ⟨xb, xo + k * 6 + 1, none⟩ = some (.int .i64 (t.az)) := step_cell hb (show World.cell? _ ⟨xb, xo + k * 6 + 1, none⟩ = some (.int .i64 (t.az)) by first | exact C1_9.out | go_simp) (by have := hxb; first | omega | (simp; omega))
               have yc2 : w'.cell? ⟨xb, xo + k * 6 + 2, none⟩ = some (.int .i64 (t.ht)) := step_cell hb (show World.cell? _ ⟨xb, xo + k * 6 + 2, none⟩ = some (.int .i64 (t.ht)) by first | exact C2_9.out | go_simp) (by have := hxb; first | omega | (simp; omega))
               have yc3 : w'.cell? ⟨xb, xo + k * 6 + 3, none⟩ = some (.int .i64 (t.fr)) := step_cell hb (show World.cell? _ ⟨xb, xo + k * 6 + 3, none⟩ = some (.int .i64 (t.fr)) by first | exact C3_9.out | go_simp) (by have := hxb; first | omega | (simp; omega))
               have yc4 : w'.cell? ⟨xb, xo + k * 6 + 4, none⟩ = some (.int .i64 (t.to)) := step_cell hb (show World.cell? _ ⟨xb, xo + k * 6 + 4, none⟩ = some (.int .i64 (t.to)) by first | exact C4_9.out | go_simp) (by have := hxb; first | omega | (simp; omega))
               have yc5 : w'.cell? ⟨xb, xo + k * 6 + 5, none⟩ = some (.int .i64 (t.dw)) := step_cell hb (show World.cell? _ ⟨xb, xo + k * 6 + 5, none⟩ = some (.int .i64 (t.dw)) by first | exact C5_9.out | go_simp) (by have := hxb; first | omega | (simp; omega))
               have yc6 : w'.cell? ⟨yb, yo + k, none⟩ = some (.int .i64 (K)) := step_cell hb (show World.cell? _ ⟨yb, yo + k, none⟩ = some (.int .i64 (K)) by first | exact C6_9.out | go_simp) (by have := hyb; first | omega | (simp; omega))
               clear kb0 kb1 kb2
               clear hk hD hb
               go_simp
               try rfl
             simp only [Act.put, List.setIfInBounds_toArray, List.set_cons_zero, List.set_cons_succ]))
        refine Fx.nil_ ?_
        intro f w10 hall hb
        try clear hall
        have HB910 := Lib.hid hb
        have HB10 := Lib.hid (show Below w.heap.size w w10 from step_below hb (by repeat' (first | exact Below.refl _ _ | exact HB9.out | refine below_drewN ?_ _ | refine Below.drew ?_ | refine Below.alloc ?_ (by first | omega | (simp; done) | (simp; omega) | (simp [World.setCell]; omega)) _ | refine Below.setCell ?_ (by first | omega | (simp; done) | (simp; omega)) _ | assumption)))
        have K0_10 := Lib.hid (step_blk hb (show Blk _ (w.heap.size) 62 #[.int .i64 (m.ls), .int .i64 (m.ms), .int .i64 (m.lo), .int .i64 (m.hi), .int .i64 (m.sp), .slice m.A1 m.n1 m.c1, .slice m.A2 m.n2 m.c2, .slice (some ⟨xb, xo, none⟩) n c, .int .i64 (day), .int .i64 (pos)] by repeat' (first | exact K0_9.out | exact K1_9.out | exact K2_9.out | exact Blk.at_ _ (by first | rfl | (simp; done) | (simp; omega)) _ _ | refine Blk.drewN ?_ _ | refine Blk.drew ?_ | refine Blk.alloc ?_ _ | refine Blk.far ?_ (by first | omega | (simp; done) | (simp; omega)) _ | assumption)))
        have K1_10 := Lib.hid (step_blk hb (show Blk _ (w4.heap.size) 67 #[.slice (some ⟨yb, yo, none⟩) n ct, .slice Xp n cp] by repeat' (first | exact K0_9.out | exact K1_9.out | exact K2_9.out | exact Blk.at_ _ (by first | rfl | (simp; done) | (simp; omega)) _ _ | refine Blk.drewN ?_ _ | refine Blk.drew ?_ | refine Blk.alloc ?_ _ | refine Blk.far ?_ (by first | omega | (simp; done) | (simp; omega)) _ | assumption)))
        have K2_10 := Lib.hid (step_blk hb (show Blk _ (bx) 60 #[.int .i64 (X), .int .i64 (Y)] by repeat' (first | exact K0_9.out | exact K1_9.out | exact K2_9.out | exact Blk.at_ _ (by first | rfl | (simp; done) | (simp; omega)) _ _ | refine Blk.drewN ?_ _ | refine Blk.drew ?_ | refine Blk.alloc ?_ _ | refine Blk.far ?_ (by first | omega | (simp; done) | (simp; omega)) _ | assumption)))
        have C0_10 := Lib.hid (step_cell hb (show World.cell? _ ⟨xb, xo + k * 6, none⟩ = some (.string t.name) by first | exact C0_9.out | go_simp) (by have := hxb; first | omega | (simp; omega)))
        have C1_10 := Lib.hid (step_cell hb (show World.cell? _ ⟨xb, xo + k * 6 + 1, none⟩ = some (.int .i64 (t.az)) by first | exact C1_9.out | go_simp) (by have := hxb; first | omega | (simp; omega)))
        have C2_10 := Lib.hid (step_cell hb (show World.cell? _ ⟨xb, xo + k * 6 + 2, none⟩ = some (.int .i64 (t.ht)) by first | exact C2_9.out | go_simp) (by have := hxb; first | omega | (simp; omega)))
        have C3_10 := Lib.hid (step_cell hb (show World.cell? _ ⟨xb, xo + k * 6 + 3, none⟩ = some (.int .i64 (t.fr)) by first | exact C3_9.out | go_simp) (by have := hxb; first | omega | (simp; omega)))
        have C4_10 := Lib.hid (step_cell hb (show World.cell? _ ⟨xb, xo + k * 6 + 4, none⟩ = some (.int .i64 (t.to)) by first | exact C4_9.out | go_simp) (by have := hxb; first | omega | (simp; omega)))
        have C5_10 := Lib.hid (step_cell hb (show World.cell? _ ⟨xb, xo + k * 6 + 5, none⟩ = some (.int .i64 (t.dw)) by first | exact C5_9.out | go_simp) (by have := hxb; first | omega | (simp; omega)))
        have C6_10 := Lib.hid (step_cell hb (show World.cell? _ ⟨yb, yo + k, none⟩ = some (.int .i64 (K)) by first | exact C6_9.out | go_simp) (by have := hyb; first | omega | (simp; omega)))
        have hL10 := Lib.hid (show Below w9.heap.size w9 _ from reads_mid hb (by repeat' (first | exact Below.refl _ _ | refine below_drewN ?_ _ | refine Below.drew ?_ | refine Below.alloc ?_ (by first | omega | (simp; done) | (simp; omega) | (simp [World.setCell]; omega)) _ | refine Below.setCell ?_ (by first | omega | (simp; done) | (simp; omega)) _)))
        have R0_10 := Lib.hid (reads_lay hb hL10.out R0_9.out)
        have R1_10 := Lib.hid (mnt_lay hb hL10.out R1_9.out)
        have R2_10 := Lib.hid (reads_lay hb hL10.out R2_9.out)
        have R3_10 := Lib.hid (reads_lay hb hL10.out R3_9.out)
        clear hL10 R0_9 R1_9 R2_9 R3_9
        have HA10 := Lib.hid (step_below hb HA9.out)
        clear HA9
        have hz10 := hb.size
        try simp only [World.size_alloc, World.drewN, World.drew] at hz10
        clear hb K0_9 K1_9 K2_9 z0_0_9 z0_1_9 z0_2_9 z0_3_9 z0_4_9 z0_5_9 z0_6_9 z0_7_9 z0_8_9 z0_9_9 l0_9 z1_0_9 z1_1_9 l1_9 z2_0_9 z2_1_9 l2_9
        have l0_10 : w.heap.size < w10.heap.size := K0_10.out.lt
        have z0_0_10 : w10.cell? ⟨w.heap.size, 0, none⟩ = some (.int .i64 (m.ls)) := K0_10.out.cell 0
        have z0_1_10 : w10.cell? ⟨w.heap.size, 1, none⟩ = some (.int .i64 (m.ms)) := K0_10.out.cell 1
        have z0_2_10 : w10.cell? ⟨w.heap.size, 2, none⟩ = some (.int .i64 (m.lo)) := K0_10.out.cell 2
        have z0_3_10 : w10.cell? ⟨w.heap.size, 3, none⟩ = some (.int .i64 (m.hi)) := K0_10.out.cell 3
        have z0_4_10 : w10.cell? ⟨w.heap.size, 4, none⟩ = some (.int .i64 (m.sp)) := K0_10.out.cell 4
        have z0_5_10 : w10.cell? ⟨w.heap.size, 5, none⟩ = some (.slice m.A1 m.n1 m.c1) := K0_10.out.cell 5
        have z0_6_10 : w10.cell? ⟨w.heap.size, 6, none⟩ = some (.slice m.A2 m.n2 m.c2) := K0_10.out.cell 6
        have z0_7_10 : w10.cell? ⟨w.heap.size, 7, none⟩ = some (.slice (some ⟨xb, xo, none⟩) n c) := K0_10.out.cell 7
        have z0_8_10 : w10.cell? ⟨w.heap.size, 8, none⟩ = some (.int .i64 (day)) := K0_10.out.cell 8
        have z0_9_10 : w10.cell? ⟨w.heap.size, 9, none⟩ = some (.int .i64 (pos)) := K0_10.out.cell 9
        have l1_10 : w4.heap.size < w10.heap.size := K1_10.out.lt
        have z1_0_10 : w10.cell? ⟨w4.heap.size, 0, none⟩ = some (.slice (some ⟨yb, yo, none⟩) n ct) := K1_10.out.cell 0
        have z1_1_10 : w10.cell? ⟨w4.heap.size, 1, none⟩ = some (.slice Xp n cp) := K1_10.out.cell 1
        have l2_10 : bx < w10.heap.size := K2_10.out.lt
        have z2_0_10 : w10.cell? ⟨bx, 0, none⟩ = some (.int .i64 (X)) := K2_10.out.cell 0
        have z2_1_10 : w10.cell? ⟨bx, 1, none⟩ = some (.int .i64 (Y)) := K2_10.out.cell 1
        rw [← HTO.out]
        have vls : decide (v < m.ls) = false := decide_eq_false (by omega)
        have vms : decide (m.ms < v) = false := decide_eq_false (by omega)
        go_wp2_with fail
        refine (Waypt_ok f1 v u (decide (648000 < u)) HSM.out HU_.out rfl _).mono ?_
        rintro e w11 ⟨rfl, hb⟩
        have HB11 := Lib.hid (show Below w.heap.size w w11 from step_below hb (by repeat' (first | exact Below.refl _ _ | exact HB10.out | refine below_drewN ?_ _ | refine Below.drew ?_ | refine Below.alloc ?_ (by first | omega | (simp; done) | (simp; omega) | (simp [World.setCell]; omega)) _ | refine Below.setCell ?_ (by first | omega | (simp; done) | (simp; omega)) _ | assumption)))
        have K0_11 := Lib.hid (step_blk hb (show Blk _ (w.heap.size) 62 #[.int .i64 (m.ls), .int .i64 (m.ms), .int .i64 (m.lo), .int .i64 (m.hi), .int .i64 (m.sp), .slice m.A1 m.n1 m.c1, .slice m.A2 m.n2 m.c2, .slice (some ⟨xb, xo, none⟩) n c, .int .i64 (day), .int .i64 (pos)] by repeat' (first | exact K0_10.out | exact K1_10.out | exact K2_10.out | exact Blk.at_ _ (by first | rfl | (simp; done) | (simp; omega)) _ _ | refine Blk.drewN ?_ _ | refine Blk.drew ?_ | refine Blk.alloc ?_ _ | refine Blk.far ?_ (by first | omega | (simp; done) | (simp; omega)) _ | assumption)))
        have K1_11 := Lib.hid (step_blk hb (show Blk _ (w4.heap.size) 67 #[.slice (some ⟨yb, yo, none⟩) n ct, .slice Xp n cp] by repeat' (first | exact K0_10.out | exact K1_10.out | exact K2_10.out | exact Blk.at_ _ (by first | rfl | (simp; done) | (simp; omega)) _ _ | refine Blk.drewN ?_ _ | refine Blk.drew ?_ | refine Blk.alloc ?_ _ | refine Blk.far ?_ (by first | omega | (simp; done) | (simp; omega)) _ | assumption)))
        have K2_11 := Lib.hid (step_blk hb (show Blk _ (bx) 60 #[.int .i64 (X), .int .i64 (Y)] by repeat' (first | exact K0_10.out | exact K1_10.out | exact K2_10.out | exact Blk.at_ _ (by first | rfl | (simp; done) | (simp; omega)) _ _ | refine Blk.drewN ?_ _ | refine Blk.drew ?_ | refine Blk.alloc ?_ _ | refine Blk.far ?_ (by first | omega | (simp; done) | (simp; omega)) _ | assumption)))
        have C0_11 := Lib.hid (step_cell hb (show World.cell? _ ⟨xb, xo + k * 6, none⟩ = some (.string t.name) by first | exact C0_10.out | go_simp) (by have := hxb; first | omega | (simp; omega)))
        have C1_11 := Lib.hid (step_cell hb (show World.cell? _ ⟨xb, xo + k * 6 + 1, none⟩ = some (.int .i64 (t.az)) by first | exact C1_10.out | go_simp) (by have := hxb; first | omega | (simp; omega)))
        have C2_11 := Lib.hid (step_cell hb (show World.cell? _ ⟨xb, xo + k * 6 + 2, none⟩ = some (.int .i64 (t.ht)) by first | exact C2_10.out | go_simp) (by have := hxb; first | omega | (simp; omega)))
        have C3_11 := Lib.hid (step_cell hb (show World.cell? _ ⟨xb, xo + k * 6 + 3, none⟩ = some (.int .i64 (t.fr)) by first | exact C3_10.out | go_simp) (by have := hxb; first | omega | (simp; omega)))
        have C4_11 := Lib.hid (step_cell hb (show World.cell? _ ⟨xb, xo + k * 6 + 4, none⟩ = some (.int .i64 (t.to)) by first | exact C4_10.out | go_simp) (by have := hxb; first | omega | (simp; omega)))
        have C5_11 := Lib.hid (step_cell hb (show World.cell? _ ⟨xb, xo + k * 6 + 5, none⟩ = some (.int .i64 (t.dw)) by first | exact C5_10.out | go_simp) (by have := hxb; first | omega | (simp; omega)))
        have C6_11 := Lib.hid (step_cell hb (show World.cell? _ ⟨yb, yo + k, none⟩ = some (.int .i64 (K)) by first | exact C6_10.out | go_simp) (by have := hyb; first | omega | (simp; omega)))
        have hL11 := Lib.hid (show Below w10.heap.size w10 _ from reads_mid hb (by repeat' (first | exact Below.refl _ _ | refine below_drewN ?_ _ | refine Below.drew ?_ | refine Below.alloc ?_ (by first | omega | (simp; done) | (simp; omega) | (simp [World.setCell]; omega)) _ | refine Below.setCell ?_ (by first | omega | (simp; done) | (simp; omega)) _)))
        have R0_11 := Lib.hid (reads_lay hb hL11.out R0_10.out)
        have R1_11 := Lib.hid (mnt_lay hb hL11.out R1_10.out)
        have R2_11 := Lib.hid (reads_lay hb hL11.out R2_10.out)
        have R3_11 := Lib.hid (reads_lay hb hL11.out R3_10.out)
        clear hL11 R0_10 R1_10 R2_10 R3_10
        have HA11 := Lib.hid (step_below hb HA10.out)
        clear HA10
        have hz11 := hb.size
        try simp only [World.size_alloc, World.drewN, World.drew] at hz11
        clear hb K0_10 K1_10 K2_10 z0_0_10 z0_1_10 z0_2_10 z0_3_10 z0_4_10 z0_5_10 z0_6_10 z0_7_10 z0_8_10 z0_9_10 l0_10 z1_0_10 z1_1_10 l1_10 z2_0_10 z2_1_10 l2_10
        have l0_11 : w.heap.size < w11.heap.size := K0_11.out.lt
        have z0_0_11 : w11.cell? ⟨w.heap.size, 0, none⟩ = some (.int .i64 (m.ls)) := K0_11.out.cell 0
        have z0_1_11 : w11.cell? ⟨w.heap.size, 1, none⟩ = some (.int .i64 (m.ms)) := K0_11.out.cell 1
        have z0_2_11 : w11.cell? ⟨w.heap.size, 2, none⟩ = some (.int .i64 (m.lo)) := K0_11.out.cell 2
        have z0_3_11 : w11.cell? ⟨w.heap.size, 3, none⟩ = some (.int .i64 (m.hi)) := K0_11.out.cell 3
        have z0_4_11 : w11.cell? ⟨w.heap.size, 4, none⟩ = some (.int .i64 (m.sp)) := K0_11.out.cell 4
        have z0_5_11 : w11.cell? ⟨w.heap.size, 5, none⟩ = some (.slice m.A1 m.n1 m.c1) := K0_11.out.cell 5
        have z0_6_11 : w11.cell? ⟨w.heap.size, 6, none⟩ = some (.slice m.A2 m.n2 m.c2) := K0_11.out.cell 6
        have z0_7_11 : w11.cell? ⟨w.heap.size, 7, none⟩ = some (.slice (some ⟨xb, xo, none⟩) n c) := K0_11.out.cell 7
        have z0_8_11 : w11.cell? ⟨w.heap.size, 8, none⟩ = some (.int .i64 (day)) := K0_11.out.cell 8
        have z0_9_11 : w11.cell? ⟨w.heap.size, 9, none⟩ = some (.int .i64 (pos)) := K0_11.out.cell 9
        have l1_11 : w4.heap.size < w11.heap.size := K1_11.out.lt
        have z1_0_11 : w11.cell? ⟨w4.heap.size, 0, none⟩ = some (.slice (some ⟨yb, yo, none⟩) n ct) := K1_11.out.cell 0
        have z1_1_11 : w11.cell? ⟨w4.heap.size, 1, none⟩ = some (.slice Xp n cp) := K1_11.out.cell 1
        have l2_11 : bx < w11.heap.size := K2_11.out.lt
        have z2_0_11 : w11.cell? ⟨bx, 0, none⟩ = some (.int .i64 (X)) := K2_11.out.cell 0
        have z2_1_11 : w11.cell? ⟨bx, 1, none⟩ = some (.int .i64 (Y)) := K2_11.out.cell 1
        go_wp2
        go_roundw
        case rel => exact ⟨k + 1, by omega, by rw [HLAST.out], rfl, by go_num, HB67.out.trans (HA11.out.mono HB67.out.size)⟩
        case measure => simp [intOf]; omega
  · as_aux_lemma =>
      skip
      go_wp2
      go_loopw [13, 14, 15] (fun f mn i wr => ∃ k : Nat, k ≤ n ∧ f = .int .i64 (lastI pos (P.take k)) ∧ mn = .int .i64 (mi) ∧ i = .int .i64 k ∧ Below w6.heap.size w6 wr) (fun _ _ i _ => n - (intOf i).toNat)
      case atStart => exact ⟨0, by omega, by simp [lastI], rfl, rfl, Below.refl _ _⟩
      case round =>
        obtain ⟨k, hk, rfl, rfl, rfl, hb7⟩ := hrel
        obtain ⟨w7, hnm⟩ : ∃ z : World, z = wr := ⟨_, rfl⟩
        subst hnm
        have hbw7 := HB6.out.trans (hb7.mono HB6.out.size)
        have hk0 := K0_6.out.below hb7 l0_6
        have hk1 := K1_6.out.below hb7 l1_6
        have hr0 := (R0_6.out.below hb7).more hb7.size
        have hr1 := R1_6.out.lay hb7
        have hr2 := (R2_6.out.below hb7).more hb7.size
        skip
        have HB67 := Lib.hid hb7
        have hs67 := hb7.size
        clear hb7
        have HB7 := Lib.hid hbw7
        have K0_7 := Lib.hid (show Blk w7 (w.heap.size) 62 #[.int .i64 (m.ls), .int .i64 (m.ms), .int .i64 (m.lo), .int .i64 (m.hi), .int .i64 (m.sp), .slice m.A1 m.n1 m.c1, .slice m.A2 m.n2 m.c2, .slice (A) n c, .int .i64 (day), .int .i64 (pos)] from hk0)
        have K1_7 := Lib.hid (show Blk w7 (w4.heap.size) 67 #[.slice (At) n ct, .slice Xp n cp] from hk1)
        clear hbw7 hk0 hk1
        have l0_7 : w.heap.size < w7.heap.size := K0_7.out.lt
        have z0_0_7 : w7.cell? ⟨w.heap.size, 0, none⟩ = some (.int .i64 (m.ls)) := K0_7.out.cell 0
        have z0_1_7 : w7.cell? ⟨w.heap.size, 1, none⟩ = some (.int .i64 (m.ms)) := K0_7.out.cell 1
        have z0_2_7 : w7.cell? ⟨w.heap.size, 2, none⟩ = some (.int .i64 (m.lo)) := K0_7.out.cell 2
        have z0_3_7 : w7.cell? ⟨w.heap.size, 3, none⟩ = some (.int .i64 (m.hi)) := K0_7.out.cell 3
        have z0_4_7 : w7.cell? ⟨w.heap.size, 4, none⟩ = some (.int .i64 (m.sp)) := K0_7.out.cell 4
        have z0_5_7 : w7.cell? ⟨w.heap.size, 5, none⟩ = some (.slice m.A1 m.n1 m.c1) := K0_7.out.cell 5
        have z0_6_7 : w7.cell? ⟨w.heap.size, 6, none⟩ = some (.slice m.A2 m.n2 m.c2) := K0_7.out.cell 6
        have z0_7_7 : w7.cell? ⟨w.heap.size, 7, none⟩ = some (.slice (A) n c) := K0_7.out.cell 7
        have z0_8_7 : w7.cell? ⟨w.heap.size, 8, none⟩ = some (.int .i64 (day)) := K0_7.out.cell 8
        have z0_9_7 : w7.cell? ⟨w.heap.size, 9, none⟩ = some (.int .i64 (pos)) := K0_7.out.cell 9
        have l1_7 : w4.heap.size < w7.heap.size := K1_7.out.lt
        have z1_0_7 : w7.cell? ⟨w4.heap.size, 0, none⟩ = some (.slice (At) n ct) := K1_7.out.cell 0
        have z1_1_7 : w7.cell? ⟨w4.heap.size, 1, none⟩ = some (.slice Xp n cp) := K1_7.out.cell 1
        have R0_7 := Lib.hid hr0
        clear hr0
        have R1_7 := Lib.hid hr1
        clear hr1
        have R2_7 := Lib.hid hr2
        clear hr2
        skip
        have HA7 := Lib.hid (show Below w7.heap.size w7 w7 from Below.refl _ _)
        by_cases hlt : k < n
        rotate_left
        · obtain rfl : n = k := by omega
          go_wp2
          go_ret
          exact ⟨rfl, by repeat' (first | exact Below.refl _ _ | exact HB7.out | refine below_drewN ?_ _ | refine Below.drew ?_ | refine Below.alloc ?_ (by first | omega | (simp; done) | (simp; omega) | (simp [World.setCell]; omega)) _ | refine Below.setCell ?_ (by first | omega | (simp; done) | (simp; omega)) _ | assumption)⟩
        obtain ⟨xb, xo, t, rfl, hxb, ht, c0, c1, c2, c3, c4, c5⟩ := R0_7.out.tgt hlt
        obtain ⟨yb, yo, K, rfl, hyb, hK, c6⟩ := R2_7.out.int_ hlt
        skip
        obtain ⟨te1, te2⟩ := tour_each HZ0.out ht
        have hok := path_at HPO.out ht hK
        obtain ⟨X, Y, hA⟩ : ∃ X Y, appF m t day = (X, Y) := ⟨_, _, rfl⟩
        obtain ⟨L, E0, hTA⟩ : ∃ L E0, turnsAt m X Y = (L, E0) := ⟨_, _, rfl⟩
        have hE0 : E0 = 0 := by have h := te2; unfold turnsF at h; rw [hA] at h; simp only at h; rw [hTA] at h; exact h
        subst hE0
        obtain ⟨hiff, hto⟩ := turn_ok_iff (k := K) hA hTA
        have hhas : decide (K ∈ L) = true := hiff ▸ hok
        obtain ⟨g1, g2, g3, g4⟩ := turn_range (of_decide_eq_true hok)
        have hY : m.lo ≤ Y ∧ Y ≤ m.hi := by
          unfold turnsAt at hTA
          split at hTA
          · cases hTA
          · rename_i h; exact (withinB_iff _ _ _).1 (by simpa using h)
        obtain ⟨y1, y2⟩ := hY
        obtain ⟨v, hv⟩ : ∃ v, posK m day t K = v := ⟨_, rfl⟩
        have hPv : P[k]? = some v := by
          rw [← HP.out]
          unfold pathL
          rw [List.getElem?_zipWith, ht, hK, ← hv]
        have hzt : Z[k]? = some (t, v) := by rw [HZP.out]; exact zip_at ht hPv
        obtain ⟨z1, z2, z3, z4, z5⟩ := HZR.out _ (List.mem_of_getElem? hzt)
        simp only at z1 z2 z3 z4 z5
        rw [hv] at hto g1 g2
        have hX := app_in (day := day) HM.out te1
        rw [hA] at hX
        simp only at hX
        obtain ⟨x1, x2, -, -⟩ := hX
        obtain ⟨f1, hf1⟩ : ∃ f, lastI pos (P.take k) = f := ⟨_, rfl⟩
        have hfr : -25920000 ≤ f1 ∧ f1 ≤ 25920000 := by
          rw [← hf1]
          have h : ∀ (xs : List Int) (a : Int), (-25920000 ≤ a ∧ a ≤ 25920000) → (∀ z ∈ xs, -25920000 ≤ z ∧ z ≤ 25920000) → -25920000 ≤ lastI a xs ∧ lastI a xs ≤ 25920000 := fun xs => by
            induction xs with
            | nil => exact fun a h _ => h
            | cons z r ih => exact fun a _ h => ih z (h z (by simp)) fun y hy => h y (by simp [hy])
          exact h _ _ ⟨by omega, by omega⟩ fun z hz => by have := HRNG.out z (List.mem_of_mem_take hz); omega
        obtain ⟨fr1, fr2⟩ := hfr
        have hfR : PosR f1 := by unfold PosR; omega
        rw [hf1]
        have hlast : lastI pos (P.take (k + 1)) = v := by rw [List.take_add_one, hPv]; exact lastI_snoc v _ _
        obtain ⟨u, hu⟩ : ∃ u, wayF f1 v = u := ⟨_, rfl⟩
        have hu0 := way_in hfR z1
        rw [hu] at hu0
        obtain ⟨u1, u2⟩ := hu0
        have hsm : smallL 25920000 [f1, v] = true := by
          unfold smallL
          simp only [List.all_cons, List.all_nil, Bool.and_true, Bool.and_eq_true, withinB_iff]
          omega
        have e1 := IntWalk.i64_in (K * 1296000) ⟨by omega, by omega⟩
        have e2 := IntWalk.i64_in (X + K * 1296000) ⟨by omega, by omega⟩
        obtain ⟨ql, hql⟩ : ∃ q, L.length = q := ⟨_, rfl⟩
        have hq43 : ql ≤ 43 := by rw [← hql]; have h := turnsAt_len2 m X Y; rw [hTA] at h; exact h
        have hmtd : mtdErr m t day = 0 := by unfold mtdErr; rw [HM.out, te1, HD.out]; rfl
        have htl : t.name.size ≤ maxLen := HF.out t (List.mem_of_getElem? ht)
        have hkk : (k : Int) < (n : Int) := by omega
        skip
        have HZT := Lib.hid hzt
        have HU_ := Lib.hid hu
        have HA := Lib.hid hA
        have HTA := Lib.hid hTA
        have HTO := Lib.hid hto
        have HHAS := Lib.hid hhas
        have HSM := Lib.hid hsm
        have HQL := Lib.hid hql
        have HMT := Lib.hid hmtd
        have HLAST := Lib.hid hlast
        have C0_7 := Lib.hid c0
        have C1_7 := Lib.hid c1
        have C2_7 := Lib.hid c2
        have C3_7 := Lib.hid c3
        have C4_7 := Lib.hid c4
        have C5_7 := Lib.hid c5
        have C6_7 := Lib.hid c6
        clear c0 c1 c2 c3 c4 c5 c6 ht hK hzt hu hA hTA hto hhas hsm hql hmtd hv hPv te1 te2 hok hiff hlast hf1
        go_wp2
        refine Fx.regionM (fun W g f w' => Kp (PfR ql L 10) W g w') (fun i (x : Pick2) => .tuple #[.slice x.1.1 ql x.1.2, .int .i64 (0)]) (by kernel_rfl) ?_ ?_
        · intro f hf0
          exact Kp.start
        first
        | (refine Fx.WM.skip 0 (by rfl) (by kernel_rfl) (by kernel_rfl) (by kernel_rfl) (by rfl) (fun g f w h => h) ?_; simp only [Act.put, List.setIfInBounds_toArray, List.set_cons_zero, List.set_cons_succ])
        | (refine Fx.WM.val_ 0 ?_ (by rfl) (by kernel_rfl) (by kernel_rfl) (by kernel_rfl) (by rfl) ?_ (fun g f w h => h) ?_
           rotate_left
           · intro g f w' hx hD hk
             obtain hkp := id hD
             have yb := K0_7.out.below hkp.bel l0_7
             have y0_0 := yb.cell 0
             have y0_1 := yb.cell 1
             have y0_2 := yb.cell 2
             have y0_3 := yb.cell 3
             have y0_4 := yb.cell 4
             have y0_5 := yb.cell 5
             have y0_6 := yb.cell 6
             have y0_7 := yb.cell 7
             have y0_8 := yb.cell 8
             have y0_9 := yb.cell 9
             clear yb
             clear hx hk hD hkp
             go_simp
             try rfl
           simp only [Act.put, List.setIfInBounds_toArray, List.set_cons_zero, List.set_cons_succ])
        first
        | (refine Fx.WM.skip 1 (by rfl) (by kernel_rfl) (by kernel_rfl) (by kernel_rfl) (by rfl) (fun g f w h => h) ?_; simp only [Act.put, List.setIfInBounds_toArray, List.set_cons_zero, List.set_cons_succ])
        | (refine Fx.WM.val_ 1 ?_ (by rfl) (by kernel_rfl) (by kernel_rfl) (by kernel_rfl) (by rfl) ?_ (fun g f w h => h) ?_
           rotate_left
           · intro g f w' hx hD hk
             obtain hkp := id hD
             have yb := K0_7.out.below hkp.bel l0_7
             have y0_0 := yb.cell 0
             have y0_1 := yb.cell 1
             have y0_2 := yb.cell 2
             have y0_3 := yb.cell 3
             have y0_4 := yb.cell 4
             have y0_5 := yb.cell 5
             have y0_6 := yb.cell 6
             have y0_7 := yb.cell 7
             have y0_8 := yb.cell 8
             have y0_9 := yb.cell 9
             clear yb
             clear hx hk hD hkp
             go_simp
             try rfl
           simp only [Act.put, List.setIfInBounds_toArray, List.set_cons_zero, List.set_cons_succ])
        first
        | (refine Fx.WM.skip 2 (by rfl) (by kernel_rfl) (by kernel_rfl) (by kernel_rfl) (by rfl) (fun g f w h => h) ?_; simp only [Act.put, List.setIfInBounds_toArray, List.set_cons_zero, List.set_cons_succ])
        | (refine Fx.WM.val_ 2 ?_ (by rfl) (by kernel_rfl) (by kernel_rfl) (by kernel_rfl) (by rfl) ?_ (fun g f w h => h) ?_
           rotate_left
           · intro g f w' hx hD hk
             obtain hkp := id hD
             have yb := K0_7.out.below hkp.bel l0_7
             have y0_0 := yb.cell 0
             have y0_1 := yb.cell 1
             have y0_2 := yb.cell 2
             have y0_3 := yb.cell 3
             have y0_4 := yb.cell 4
             have y0_5 := yb.cell 5
             have y0_6 := yb.cell 6
             have y0_7 := yb.cell 7
             have y0_8 := yb.cell 8
             have y0_9 := yb.cell 9
             clear yb
             clear hx hk hD hkp
             go_simp
             try rfl
           simp only [Act.put, List.setIfInBounds_toArray, List.set_cons_zero, List.set_cons_succ])
        first
        | (refine Fx.WM.skip 3 (by rfl) (by kernel_rfl) (by kernel_rfl) (by kernel_rfl) (by rfl) (fun g f w h => h) ?_; simp only [Act.put, List.setIfInBounds_toArray, List.set_cons_zero, List.set_cons_succ])
        | (refine Fx.WM.val_ 3 ?_ (by rfl) (by kernel_rfl) (by kernel_rfl) (by kernel_rfl) (by rfl) ?_ (fun g f w h => h) ?_
           rotate_left
           · intro g f w' hx hD hk
             obtain hkp := id hD
             have yb := K0_7.out.below hkp.bel l0_7
             have y0_0 := yb.cell 0
             have y0_1 := yb.cell 1
             have y0_2 := yb.cell 2
             have y0_3 := yb.cell 3
             have y0_4 := yb.cell 4
             have y0_5 := yb.cell 5
             have y0_6 := yb.cell 6
             have y0_7 := yb.cell 7
             have y0_8 := yb.cell 8
             have y0_9 := yb.cell 9
             clear yb
             clear hx hk hD hkp
             go_simp
             try rfl
           simp only [Act.put, List.setIfInBounds_toArray, List.set_cons_zero, List.set_cons_succ])
        first
        | (refine Fx.WM.skip 4 (by rfl) (by kernel_rfl) (by kernel_rfl) (by kernel_rfl) (by rfl) (fun g f w h => h) ?_; simp only [Act.put, List.setIfInBounds_toArray, List.set_cons_zero, List.set_cons_succ])
        | (refine Fx.WM.val_ 4 ?_ (by rfl) (by kernel_rfl) (by kernel_rfl) (by kernel_rfl) (by rfl) ?_ (fun g f w h => h) ?_
           rotate_left
           · intro g f w' hx hD hk
             obtain hkp := id hD
             have yb := K0_7.out.below hkp.bel l0_7
             have y0_0 := yb.cell 0
             have y0_1 := yb.cell 1
             have y0_2 := yb.cell 2
             have y0_3 := yb.cell 3
             have y0_4 := yb.cell 4
             have y0_5 := yb.cell 5
             have y0_6 := yb.cell 6
             have y0_7 := yb.cell 7
             have y0_8 := yb.cell 8
             have y0_9 := yb.cell 9
             clear yb
             clear hx hk hD hkp
             go_simp
             try rfl
           simp only [Act.put, List.setIfInBounds_toArray, List.set_cons_zero, List.set_cons_succ])
        first
        | (refine Fx.WM.skip 5 (by rfl) (by kernel_rfl) (by kernel_rfl) (by kernel_rfl) (by rfl) (fun g f w h => h) ?_; simp only [Act.put, List.setIfInBounds_toArray, List.set_cons_zero, List.set_cons_succ])
        | (refine Fx.WM.val_ 5 ?_ (by rfl) (by kernel_rfl) (by kernel_rfl) (by kernel_rfl) (by rfl) ?_ (fun g f w h => h) ?_
           rotate_left
           · intro g f w' hx hD hk
             obtain hkp := id hD
             have yb := K0_7.out.below hkp.bel l0_7
             have y0_0 := yb.cell 0
             have y0_1 := yb.cell 1
             have y0_2 := yb.cell 2
             have y0_3 := yb.cell 3
             have y0_4 := yb.cell 4
             have y0_5 := yb.cell 5
             have y0_6 := yb.cell 6
             have y0_7 := yb.cell 7
             have y0_8 := yb.cell 8
             have y0_9 := yb.cell 9
             clear yb
             clear hx hk hD hkp
             go_simp
             try rfl
           simp only [Act.put, List.setIfInBounds_toArray, List.set_cons_zero, List.set_cons_succ])
        first
        | (refine Fx.WM.skip 6 (by rfl) (by kernel_rfl) (by kernel_rfl) (by kernel_rfl) (by rfl) (fun g f w h => h) ?_; simp only [Act.put, List.setIfInBounds_toArray, List.set_cons_zero, List.set_cons_succ])
        | (refine Fx.WM.val_ 6 ?_ (by rfl) (by kernel_rfl) (by kernel_rfl) (by kernel_rfl) (by rfl) ?_ (fun g f w h => h) ?_
           rotate_left
           · intro g f w' hx hD hk
             obtain hkp := id hD
             have yb := K0_7.out.below hkp.bel l0_7
             have y0_0 := yb.cell 0
             have y0_1 := yb.cell 1
             have y0_2 := yb.cell 2
             have y0_3 := yb.cell 3
             have y0_4 := yb.cell 4
             have y0_5 := yb.cell 5
             have y0_6 := yb.cell 6
             have y0_7 := yb.cell 7
             have y0_8 := yb.cell 8
             have y0_9 := yb.cell 9
             clear yb
             have yc0 := (hkp.bel.cell (p := ⟨xb, xo + k * 6, none⟩) (by have := hxb; show xb < _; omega)).trans C0_7.out
             have yc1 := (hkp.bel.cell (p := ⟨xb, xo + k * 6 + 1, none⟩) (by have := hxb; show xb < _; omega)).trans C1_7.out
             have yc2 := (hkp.bel.cell (p := ⟨xb, xo + k * 6 + 2, none⟩) (by have := hxb; show xb < _; omega)).trans C2_7.out
             have yc3 := (hkp.bel.cell (p := ⟨xb, xo + k * 6 + 3, none⟩) (by have := hxb; show xb < _; omega)).trans C3_7.out
             have yc4 := (hkp.bel.cell (p := ⟨xb, xo + k * 6 + 4, none⟩) (by have := hxb; show xb < _; omega)).trans C4_7.out
             have yc5 := (hkp.bel.cell (p := ⟨xb, xo + k * 6 + 5, none⟩) (by have := hxb; show xb < _; omega)).trans C5_7.out
             have yc6 := (hkp.bel.cell (p := ⟨yb, yo + k, none⟩) (by have := hyb; show yb < _; omega)).trans C6_7.out
             clear hx hk hD hkp
             go_simp
             try rfl
           simp only [Act.put, List.setIfInBounds_toArray, List.set_cons_zero, List.set_cons_succ])
        first
        | (refine Fx.WM.skip 7 (by rfl) (by kernel_rfl) (by kernel_rfl) (by kernel_rfl) (by rfl) (fun g f w h => h) ?_; simp only [Act.put, List.setIfInBounds_toArray, List.set_cons_zero, List.set_cons_succ])
        | (refine Fx.WM.val_ 7 ?_ (by rfl) (by kernel_rfl) (by kernel_rfl) (by kernel_rfl) (by rfl) ?_ (fun g f w h => h) ?_
           rotate_left
           · intro g f w' hx hD hk
             obtain hkp := id hD
             have yb := K0_7.out.below hkp.bel l0_7
             have y0_0 := yb.cell 0
             have y0_1 := yb.cell 1
             have y0_2 := yb.cell 2
             have y0_3 := yb.cell 3
             have y0_4 := yb.cell 4
             have y0_5 := yb.cell 5
             have y0_6 := yb.cell 6
             have y0_7 := yb.cell 7
             have y0_8 := yb.cell 8
             have y0_9 := yb.cell 9
             clear yb
             clear hx hk hD hkp
             go_simp
             try rfl
           simp only [Act.put, List.setIfInBounds_toArray, List.set_cons_zero, List.set_cons_succ])
        first
        | (refine Fx.WM.skip 8 (by rfl) (by kernel_rfl) (by kernel_rfl) (by kernel_rfl) (by rfl) (fun g f w h => h) ?_; simp only [Act.put, List.setIfInBounds_toArray, List.set_cons_zero, List.set_cons_succ])
        | (refine Fx.WM.val_ 8 ?_ (by rfl) (by kernel_rfl) (by kernel_rfl) (by kernel_rfl) (by rfl) ?_ (fun g f w h => h) ?_
           rotate_left
           · intro g f w' hx hD hk
             obtain hkp := id hD
             have yb := K0_7.out.below hkp.bel l0_7
             have y0_0 := yb.cell 0
             have y0_1 := yb.cell 1
             have y0_2 := yb.cell 2
             have y0_3 := yb.cell 3
             have y0_4 := yb.cell 4
             have y0_5 := yb.cell 5
             have y0_6 := yb.cell 6
             have y0_7 := yb.cell 7
             have y0_8 := yb.cell 8
             have y0_9 := yb.cell 9
             clear yb
             clear hx hk hD hkp
             go_simp
             try rfl
           simp only [Act.put, List.setIfInBounds_toArray, List.set_cons_zero, List.set_cons_succ])
        first
        | (refine Fx.WM.skip 9 (by rfl) (by kernel_rfl) (by kernel_rfl) (by kernel_rfl) (by rfl) (fun g f w h => h) ?_; simp only [Act.put, List.setIfInBounds_toArray, List.set_cons_zero, List.set_cons_succ])
        | (refine Fx.WM.val_ 9 ?_ (by rfl) (by kernel_rfl) (by kernel_rfl) (by kernel_rfl) (by rfl) ?_ (fun g f w h => h) ?_
           rotate_left
           · intro g f w' hx hD hk
             obtain hkp := id hD
             have yb := K0_7.out.below hkp.bel l0_7
             have y0_0 := yb.cell 0
             have y0_1 := yb.cell 1
             have y0_2 := yb.cell 2
             have y0_3 := yb.cell 3
             have y0_4 := yb.cell 4
             have y0_5 := yb.cell 5
             have y0_6 := yb.cell 6
             have y0_7 := yb.cell 7
             have y0_8 := yb.cell 8
             have y0_9 := yb.cell 9
             clear yb
             clear hx hk hD hkp
             go_simp
             try rfl
           simp only [Act.put, List.setIfInBounds_toArray, List.set_cons_zero, List.set_cons_succ])
        refine Fx.WM.choose 10 (by rfl) (by kernel_rfl) (by rfl) ?_ ?_
        · skip
          refine Fx.Chooses.call ?_ ?_ (by rfl) ?_ ?_
          rotate_left 2
          · intro w'
            go_simp
            refine ⟨?_, ?_⟩ <;> rfl
          · intro f w' hD hk
            exact (pTurns_ok m t day X Y L 0 ql HA.out HTA.out HQL.out HMT.out w' (R1_7.out.lay hD.bel) htl).mono fun e w'' ⟨A', c', he, hb, hr⟩ => ⟨((A', c'), (none, 0)), he, hD.choose PfR.stb hb 10 _ fun _ => hr⟩
        intro x
        simp only [Act.put, List.setIfInBounds_toArray, List.set_cons_zero, List.set_cons_succ]
        first
        | (refine Fx.WM.skip 11 (by rfl) (by kernel_rfl) (by kernel_rfl) (by kernel_rfl) (by rfl) (fun g f w h => h) ?_; simp only [Act.put, List.setIfInBounds_toArray, List.set_cons_zero, List.set_cons_succ])
        | (refine Fx.WM.val_ 11 ?_ (by rfl) (by kernel_rfl) (by kernel_rfl) (by kernel_rfl) (by rfl) ?_ (fun g f w h => h) ?_
           rotate_left
           · intro g f w' hx hD hk
             obtain hkp := id hD
             clear hx hk hD hkp
             go_simp
             try rfl
           simp only [Act.put, List.setIfInBounds_toArray, List.set_cons_zero, List.set_cons_succ])
        first
        | (refine Fx.WM.skip 12 (by rfl) (by kernel_rfl) (by kernel_rfl) (by kernel_rfl) (by rfl) (fun g f w h => h) ?_; simp only [Act.put, List.setIfInBounds_toArray, List.set_cons_zero, List.set_cons_succ])
        | (refine Fx.WM.val_ 12 ?_ (by rfl) (by kernel_rfl) (by kernel_rfl) (by kernel_rfl) (by rfl) ?_ (fun g f w h => h) ?_
           rotate_left
           · intro g f w' hx hD hk
             obtain hkp := id hD
             clear hx hk hD hkp
             go_simp
             try rfl
           simp only [Act.put, List.setIfInBounds_toArray, List.set_cons_zero, List.set_cons_succ])
        first
        | (refine Fx.WM.skip 13 (by rfl) (by kernel_rfl) (by kernel_rfl) (by kernel_rfl) (by rfl) (fun g f w h => h) ?_; simp only [Act.put, List.setIfInBounds_toArray, List.set_cons_zero, List.set_cons_succ])
        | (refine Fx.WM.val_ 13 ?_ (by rfl) (by kernel_rfl) (by kernel_rfl) (by kernel_rfl) (by rfl) ?_ (fun g f w h => h) ?_
           rotate_left
           · intro g f w' hx hD hk
             obtain hkp := id hD
             clear hx hk hD hkp
             go_simp
             try rfl
           simp only [Act.put, List.setIfInBounds_toArray, List.set_cons_zero, List.set_cons_succ])
        first
        | (refine Fx.WM.skip 14 (by rfl) (by kernel_rfl) (by kernel_rfl) (by kernel_rfl) (by rfl) (fun g f w h => h) ?_; simp only [Act.put, List.setIfInBounds_toArray, List.set_cons_zero, List.set_cons_succ])
        | (refine Fx.WM.val_ 14 ?_ (by rfl) (by kernel_rfl) (by kernel_rfl) (by kernel_rfl) (by rfl) ?_ (fun g f w h => h) ?_
           rotate_left
           · intro g f w' hx hD hk
             obtain hkp := id hD
             clear hx hk hD hkp
             go_simp
             try rfl
           simp only [Act.put, List.setIfInBounds_toArray, List.set_cons_zero, List.set_cons_succ])
        first
        | (refine Fx.WM.skip 15 (by rfl) (by kernel_rfl) (by kernel_rfl) (by kernel_rfl) (by rfl) (fun g f w h => h) ?_; simp only [Act.put, List.setIfInBounds_toArray, List.set_cons_zero, List.set_cons_succ])
        | (refine Fx.WM.val_ 15 ?_ (by rfl) (by kernel_rfl) (by kernel_rfl) (by kernel_rfl) (by rfl) ?_ (fun g f w h => h) ?_
           rotate_left
           · intro g f w' hx hD hk
             obtain hkp := id hD
             clear hx hk hD hkp
             go_simp
             try rfl
           simp only [Act.put, List.setIfInBounds_toArray, List.set_cons_zero, List.set_cons_succ])
        refine Fx.WM.nil (by kernel_rfl) ?_
        intro wz hkp
        have hb := hkp.bel
        have hLr := hkp.has 10 x (by rfl) rfl
        clear hkp
        obtain ⟨w8, hnm⟩ : ∃ z : World, z = wz := ⟨_, rfl⟩
        subst hnm
        have HB8 := Lib.hid (show Below w.heap.size w w8 from step_below hb (by repeat' (first | exact Below.refl _ _ | exact HB7.out | refine below_drewN ?_ _ | refine Below.drew ?_ | refine Below.alloc ?_ (by first | omega | (simp; done) | (simp; omega) | (simp [World.setCell]; omega)) _ | refine Below.setCell ?_ (by first | omega | (simp; done) | (simp; omega)) _ | assumption)))
        have K0_8 := Lib.hid (step_blk hb (show Blk _ (w.heap.size) 62 #[.int .i64 (m.ls), .int .i64 (m.ms), .int .i64 (m.lo), .int .i64 (m.hi), .int .i64 (m.sp), .slice m.A1 m.n1 m.c1, .slice m.A2 m.n2 m.c2, .slice (some ⟨xb, xo, none⟩) n c, .int .i64 (day), .int .i64 (pos)] by repeat' (first | exact K0_7.out | exact K1_7.out | exact Blk.at_ _ (by first | rfl | (simp; done) | (simp; omega)) _ _ | refine Blk.drewN ?_ _ | refine Blk.drew ?_ | refine Blk.alloc ?_ _ | refine Blk.far ?_ (by first | omega | (simp; done) | (simp; omega)) _ | assumption)))
        have K1_8 := Lib.hid (step_blk hb (show Blk _ (w4.heap.size) 67 #[.slice (some ⟨yb, yo, none⟩) n ct, .slice Xp n cp] by repeat' (first | exact K0_7.out | exact K1_7.out | exact Blk.at_ _ (by first | rfl | (simp; done) | (simp; omega)) _ _ | refine Blk.drewN ?_ _ | refine Blk.drew ?_ | refine Blk.alloc ?_ _ | refine Blk.far ?_ (by first | omega | (simp; done) | (simp; omega)) _ | assumption)))
        have C0_8 := Lib.hid (step_cell hb (show World.cell? _ ⟨xb, xo + k * 6, none⟩ = some (.string t.name) by first | exact C0_7.out | go_simp) (by have := hxb; first | omega | (simp; omega)))
        have C1_8 := Lib.hid (step_cell hb (show World.cell? _ ⟨xb, xo + k * 6 + 1, none⟩ = some (.int .i64 (t.az)) by first | exact C1_7.out | go_simp) (by have := hxb; first | omega | (simp; omega)))
        have C2_8 := Lib.hid (step_cell hb (show World.cell? _ ⟨xb, xo + k * 6 + 2, none⟩ = some (.int .i64 (t.ht)) by first | exact C2_7.out | go_simp) (by have := hxb; first | omega | (simp; omega)))
        have C3_8 := Lib.hid (step_cell hb (show World.cell? _ ⟨xb, xo + k * 6 + 3, none⟩ = some (.int .i64 (t.fr)) by first | exact C3_7.out | go_simp) (by have := hxb; first | omega | (simp; omega)))
        have C4_8 := Lib.hid (step_cell hb (show World.cell? _ ⟨xb, xo + k * 6 + 4, none⟩ = some (.int .i64 (t.to)) by first | exact C4_7.out | go_simp) (by have := hxb; first | omega | (simp; omega)))
        have C5_8 := Lib.hid (step_cell hb (show World.cell? _ ⟨xb, xo + k * 6 + 5, none⟩ = some (.int .i64 (t.dw)) by first | exact C5_7.out | go_simp) (by have := hxb; first | omega | (simp; omega)))
        have C6_8 := Lib.hid (step_cell hb (show World.cell? _ ⟨yb, yo + k, none⟩ = some (.int .i64 (K)) by first | exact C6_7.out | go_simp) (by have := hyb; first | omega | (simp; omega)))
        have hL8 := Lib.hid (show Below w7.heap.size w7 _ from reads_mid hb (by repeat' (first | exact Below.refl _ _ | refine below_drewN ?_ _ | refine Below.drew ?_ | refine Below.alloc ?_ (by first | omega | (simp; done) | (simp; omega) | (simp [World.setCell]; omega)) _ | refine Below.setCell ?_ (by first | omega | (simp; done) | (simp; omega)) _)))
        have R0_8 := Lib.hid (reads_lay hb hL8.out R0_7.out)
        have R1_8 := Lib.hid (mnt_lay hb hL8.out R1_7.out)
        have R2_8 := Lib.hid (reads_lay hb hL8.out R2_7.out)
        clear hL8 R0_7 R1_7 R2_7
        have HA8 := Lib.hid (step_below hb HA7.out)
        clear HA7
        have hz8 := hb.size
        try simp only [World.size_alloc, World.drewN, World.drew] at hz8
        clear hb K0_7 K1_7 z0_0_7 z0_1_7 z0_2_7 z0_3_7 z0_4_7 z0_5_7 z0_6_7 z0_7_7 z0_8_7 z0_9_7 l0_7 z1_0_7 z1_1_7 l1_7
        have l0_8 : w.heap.size < w8.heap.size := K0_8.out.lt
        have z0_0_8 : w8.cell? ⟨w.heap.size, 0, none⟩ = some (.int .i64 (m.ls)) := K0_8.out.cell 0
        have z0_1_8 : w8.cell? ⟨w.heap.size, 1, none⟩ = some (.int .i64 (m.ms)) := K0_8.out.cell 1
        have z0_2_8 : w8.cell? ⟨w.heap.size, 2, none⟩ = some (.int .i64 (m.lo)) := K0_8.out.cell 2
        have z0_3_8 : w8.cell? ⟨w.heap.size, 3, none⟩ = some (.int .i64 (m.hi)) := K0_8.out.cell 3
        have z0_4_8 : w8.cell? ⟨w.heap.size, 4, none⟩ = some (.int .i64 (m.sp)) := K0_8.out.cell 4
        have z0_5_8 : w8.cell? ⟨w.heap.size, 5, none⟩ = some (.slice m.A1 m.n1 m.c1) := K0_8.out.cell 5
        have z0_6_8 : w8.cell? ⟨w.heap.size, 6, none⟩ = some (.slice m.A2 m.n2 m.c2) := K0_8.out.cell 6
        have z0_7_8 : w8.cell? ⟨w.heap.size, 7, none⟩ = some (.slice (some ⟨xb, xo, none⟩) n c) := K0_8.out.cell 7
        have z0_8_8 : w8.cell? ⟨w.heap.size, 8, none⟩ = some (.int .i64 (day)) := K0_8.out.cell 8
        have z0_9_8 : w8.cell? ⟨w.heap.size, 9, none⟩ = some (.int .i64 (pos)) := K0_8.out.cell 9
        have l1_8 : w4.heap.size < w8.heap.size := K1_8.out.lt
        have z1_0_8 : w8.cell? ⟨w4.heap.size, 0, none⟩ = some (.slice (some ⟨yb, yo, none⟩) n ct) := K1_8.out.cell 0
        have z1_1_8 : w8.cell? ⟨w4.heap.size, 1, none⟩ = some (.slice Xp n cp) := K1_8.out.cell 1
        have R3_8 := Lib.hid hLr
        clear hLr
        go_wp2
        apply share (Fact := fun (_ : Nat) (z : Pick2) (wz : World) => ∃ bx, z.1.1 = some ⟨bx, 0, none⟩ ∧ w8.heap.size ≤ bx ∧ Below w8.heap.size w8 wz ∧ Blk wz bx 60 #[.int .i64 X, .int .i64 Y])
        · intro key
          refine Fx.regionM (fun W g f w' => KpS (PfR 0 [] 98) 60 (.int .i64 (X)) (.int .i64 (Y)) 14 15 W g f w') (fun i (x : Pick2) => if i = 14 then .pointer x.1.1 else undef) (by kernel_rfl) ?_ ?_
          · intro f hf0
            exact KpS.start
          first
          | (refine Fx.WM.skip 0 (by rfl) (by kernel_rfl) (by kernel_rfl) (by kernel_rfl) (by rfl) (fun g f w h => h.same (by decide)) ?_; simp only [Act.put, List.setIfInBounds_toArray, List.set_cons_zero, List.set_cons_succ])
          | (refine Fx.WM.val_ 0 ?_ (by rfl) (by kernel_rfl) (by kernel_rfl) (by kernel_rfl) (by rfl) ?_ (fun g f w h => h.same (by decide)) ?_
             rotate_left
             · intro g f w' hx hD hk
               obtain hkp := id hD
               have yb := K0_8.out.below hkp.bel l0_8
               have y0_0 := yb.cell 0
               have y0_1 := yb.cell 1
               have y0_2 := yb.cell 2
               have y0_3 := yb.cell 3
               have y0_4 := yb.cell 4
               have y0_5 := yb.cell 5
               have y0_6 := yb.cell 6
               have y0_7 := yb.cell 7
               have y0_8 := yb.cell 8
               have y0_9 := yb.cell 9
               clear yb
               clear hx hk hD hkp
               go_simp
               try rfl
             simp only [Act.put, List.setIfInBounds_toArray, List.set_cons_zero, List.set_cons_succ])
          first
          | (refine Fx.WM.skip 1 (by rfl) (by kernel_rfl) (by kernel_rfl) (by kernel_rfl) (by rfl) (fun g f w h => h.same (by decide)) ?_; simp only [Act.put, List.setIfInBounds_toArray, List.set_cons_zero, List.set_cons_succ])
          | (refine Fx.WM.val_ 1 ?_ (by rfl) (by kernel_rfl) (by kernel_rfl) (by kernel_rfl) (by rfl) ?_ (fun g f w h => h.same (by decide)) ?_
             rotate_left
             · intro g f w' hx hD hk
               obtain hkp := id hD
               have yb := K0_8.out.below hkp.bel l0_8
               have y0_0 := yb.cell 0
               have y0_1 := yb.cell 1
               have y0_2 := yb.cell 2
               have y0_3 := yb.cell 3
               have y0_4 := yb.cell 4
               have y0_5 := yb.cell 5
               have y0_6 := yb.cell 6
               have y0_7 := yb.cell 7
               have y0_8 := yb.cell 8
               have y0_9 := yb.cell 9
               clear yb
               clear hx hk hD hkp
               go_simp
               try rfl
             simp only [Act.put, List.setIfInBounds_toArray, List.set_cons_zero, List.set_cons_succ])
          first
          | (refine Fx.WM.skip 2 (by rfl) (by kernel_rfl) (by kernel_rfl) (by kernel_rfl) (by rfl) (fun g f w h => h.same (by decide)) ?_; simp only [Act.put, List.setIfInBounds_toArray, List.set_cons_zero, List.set_cons_succ])
          | (refine Fx.WM.val_ 2 ?_ (by rfl) (by kernel_rfl) (by kernel_rfl) (by kernel_rfl) (by rfl) ?_ (fun g f w h => h.same (by decide)) ?_
             rotate_left
             · intro g f w' hx hD hk
               obtain hkp := id hD
               have yb := K0_8.out.below hkp.bel l0_8
               have y0_0 := yb.cell 0
               have y0_1 := yb.cell 1
               have y0_2 := yb.cell 2
               have y0_3 := yb.cell 3
               have y0_4 := yb.cell 4
               have y0_5 := yb.cell 5
               have y0_6 := yb.cell 6
               have y0_7 := yb.cell 7
               have y0_8 := yb.cell 8
               have y0_9 := yb.cell 9
               clear yb
               clear hx hk hD hkp
               go_simp
               try rfl
             simp only [Act.put, List.setIfInBounds_toArray, List.set_cons_zero, List.set_cons_succ])
          first
          | (refine Fx.WM.skip 3 (by rfl) (by kernel_rfl) (by kernel_rfl) (by kernel_rfl) (by rfl) (fun g f w h => h.same (by decide)) ?_; simp only [Act.put, List.setIfInBounds_toArray, List.set_cons_zero, List.set_cons_succ])
          | (refine Fx.WM.val_ 3 ?_ (by rfl) (by kernel_rfl) (by kernel_rfl) (by kernel_rfl) (by rfl) ?_ (fun g f w h => h.same (by decide)) ?_
             rotate_left
             · intro g f w' hx hD hk
               obtain hkp := id hD
               have yb := K0_8.out.below hkp.bel l0_8
               have y0_0 := yb.cell 0
               have y0_1 := yb.cell 1
               have y0_2 := yb.cell 2
               have y0_3 := yb.cell 3
               have y0_4 := yb.cell 4
               have y0_5 := yb.cell 5
               have y0_6 := yb.cell 6
               have y0_7 := yb.cell 7
               have y0_8 := yb.cell 8
               have y0_9 := yb.cell 9
               clear yb
               clear hx hk hD hkp
               go_simp
               try rfl
             simp only [Act.put, List.setIfInBounds_toArray, List.set_cons_zero, List.set_cons_succ])
          first
          | (refine Fx.WM.skip 4 (by rfl) (by kernel_rfl) (by kernel_rfl) (by kernel_rfl) (by rfl) (fun g f w h => h.same (by decide)) ?_; simp only [Act.put, List.setIfInBounds_toArray, List.set_cons_zero, List.set_cons_succ])
          | (refine Fx.WM.val_ 4 ?_ (by rfl) (by kernel_rfl) (by kernel_rfl) (by kernel_rfl) (by rfl) ?_ (fun g f w h => h.same (by decide)) ?_
             rotate_left
             · intro g f w' hx hD hk
               obtain hkp := id hD
               have yb := K0_8.out.below hkp.bel l0_8
               have y0_0 := yb.cell 0
               have y0_1 := yb.cell 1
               have y0_2 := yb.cell 2
               have y0_3 := yb.cell 3
               have y0_4 := yb.cell 4
               have y0_5 := yb.cell 5
               have y0_6 := yb.cell 6
               have y0_7 := yb.cell 7
               have y0_8 := yb.cell 8
               have y0_9 := yb.cell 9
               clear yb
               clear hx hk hD hkp
               go_simp
               try rfl
             simp only [Act.put, List.setIfInBounds_toArray, List.set_cons_zero, List.set_cons_succ])
          first
          | (refine Fx.WM.skip 5 (by rfl) (by kernel_rfl) (by kernel_rfl) (by kernel_rfl) (by rfl) (fun g f w h => h.same (by decide)) ?_; simp only [Act.put, List.setIfInBounds_toArray, List.set_cons_zero, List.set_cons_succ])
          | (refine Fx.WM.val_ 5 ?_ (by rfl) (by kernel_rfl) (by kernel_rfl) (by kernel_rfl) (by rfl) ?_ (fun g f w h => h.same (by decide)) ?_
             rotate_left
             · intro g f w' hx hD hk
               obtain hkp := id hD
               have yb := K0_8.out.below hkp.bel l0_8
               have y0_0 := yb.cell 0
               have y0_1 := yb.cell 1
               have y0_2 := yb.cell 2
               have y0_3 := yb.cell 3
               have y0_4 := yb.cell 4
               have y0_5 := yb.cell 5
               have y0_6 := yb.cell 6
               have y0_7 := yb.cell 7
               have y0_8 := yb.cell 8
               have y0_9 := yb.cell 9
               clear yb
               clear hx hk hD hkp
               go_simp
               try rfl
             simp only [Act.put, List.setIfInBounds_toArray, List.set_cons_zero, List.set_cons_succ])
          first
          | (refine Fx.WM.skip 6 (by rfl) (by kernel_rfl) (by kernel_rfl) (by kernel_rfl) (by rfl) (fun g f w h => h.same (by decide)) ?_; simp only [Act.put, List.setIfInBounds_toArray, List.set_cons_zero, List.set_cons_succ])
          | (refine Fx.WM.val_ 6 ?_ (by rfl) (by kernel_rfl) (by kernel_rfl) (by kernel_rfl) (by rfl) ?_ (fun g f w h => h.same (by decide)) ?_
             rotate_left
             · intro g f w' hx hD hk
               obtain hkp := id hD
               have yb := K0_8.out.below hkp.bel l0_8
               have y0_0 := yb.cell 0
               have y0_1 := yb.cell 1
               have y0_2 := yb.cell 2
               have y0_3 := yb.cell 3
               have y0_4 := yb.cell 4
               have y0_5 := yb.cell 5
               have y0_6 := yb.cell 6
               have y0_7 := yb.cell 7
               have y0_8 := yb.cell 8
               have y0_9 := yb.cell 9
               clear yb
               have yc0 := (hkp.bel.cell (p := ⟨xb, xo + k * 6, none⟩) (by have := hxb; show xb < _; omega)).trans C0_8.out
               have yc1 := (hkp.bel.cell (p := ⟨xb, xo + k * 6 + 1, none⟩) (by have := hxb; show xb < _; omega)).trans C1_8.out
               have yc2 := (hkp.bel.cell (p := ⟨xb, xo + k * 6 + 2, none⟩) (by have := hxb; show xb < _; omega)).trans C2_8.out
               have yc3 := (hkp.bel.cell (p := ⟨xb, xo + k * 6 + 3, none⟩) (by have := hxb; show xb < _; omega)).trans C3_8.out
               have yc4 := (hkp.bel.cell (p := ⟨xb, xo + k * 6 + 4, none⟩) (by have := hxb; show xb < _; omega)).trans C4_8.out
               have yc5 := (hkp.bel.cell (p := ⟨xb, xo + k * 6 + 5, none⟩) (by have := hxb; show xb < _; omega)).trans C5_8.out
               have yc6 := (hkp.bel.cell (p := ⟨yb, yo + k, none⟩) (by have := hyb; show yb < _; omega)).trans C6_8.out
               clear hx hk hD hkp
               go_simp
               try rfl
             simp only [Act.put, List.setIfInBounds_toArray, List.set_cons_zero, List.set_cons_succ])
          first
          | (refine Fx.WM.skip 7 (by rfl) (by kernel_rfl) (by kernel_rfl) (by kernel_rfl) (by rfl) (fun g f w h => h.same (by decide)) ?_; simp only [Act.put, List.setIfInBounds_toArray, List.set_cons_zero, List.set_cons_succ])
          | (refine Fx.WM.val_ 7 ?_ (by rfl) (by kernel_rfl) (by kernel_rfl) (by kernel_rfl) (by rfl) ?_ (fun g f w h => h.same (by decide)) ?_
             rotate_left
             · intro g f w' hx hD hk
               obtain hkp := id hD
               have yb := K0_8.out.below hkp.bel l0_8
               have y0_0 := yb.cell 0
               have y0_1 := yb.cell 1
               have y0_2 := yb.cell 2
               have y0_3 := yb.cell 3
               have y0_4 := yb.cell 4
               have y0_5 := yb.cell 5
               have y0_6 := yb.cell 6
               have y0_7 := yb.cell 7
               have y0_8 := yb.cell 8
               have y0_9 := yb.cell 9
               clear yb
               clear hx hk hD hkp
               go_simp
               try rfl
             simp only [Act.put, List.setIfInBounds_toArray, List.set_cons_zero, List.set_cons_succ])
          first
          | (refine Fx.WM.skip 8 (by rfl) (by kernel_rfl) (by kernel_rfl) (by kernel_rfl) (by rfl) (fun g f w h => h.same (by decide)) ?_; simp only [Act.put, List.setIfInBounds_toArray, List.set_cons_zero, List.set_cons_succ])
          | (refine Fx.WM.val_ 8 ?_ (by rfl) (by kernel_rfl) (by kernel_rfl) (by kernel_rfl) (by rfl) ?_ (fun g f w h => h.same (by decide)) ?_
             rotate_left
             · intro g f w' hx hD hk
               obtain hkp := id hD
               have yb := K0_8.out.below hkp.bel l0_8
               have y0_0 := yb.cell 0
               have y0_1 := yb.cell 1
               have y0_2 := yb.cell 2
               have y0_3 := yb.cell 3
               have y0_4 := yb.cell 4
               have y0_5 := yb.cell 5
               have y0_6 := yb.cell 6
               have y0_7 := yb.cell 7
               have y0_8 := yb.cell 8
               have y0_9 := yb.cell 9
               clear yb
               clear hx hk hD hkp
               go_simp
               try rfl
             simp only [Act.put, List.setIfInBounds_toArray, List.set_cons_zero, List.set_cons_succ])
          first
          | (refine Fx.WM.skip 9 (by rfl) (by kernel_rfl) (by kernel_rfl) (by kernel_rfl) (by rfl) (fun g f w h => h.same (by decide)) ?_; simp only [Act.put, List.setIfInBounds_toArray, List.set_cons_zero, List.set_cons_succ])
          | (refine Fx.WM.val_ 9 ?_ (by rfl) (by kernel_rfl) (by kernel_rfl) (by kernel_rfl) (by rfl) ?_ (fun g f w h => h.same (by decide)) ?_
             rotate_left
             · intro g f w' hx hD hk
               obtain hkp := id hD
               have yb := K0_8.out.below hkp.bel l0_8
               have y0_0 := yb.cell 0
               have y0_1 := yb.cell 1
               have y0_2 := yb.cell 2
               have y0_3 := yb.cell 3
               have y0_4 := yb.cell 4
               have y0_5 := yb.cell 5
               have y0_6 := yb.cell 6
               have y0_7 := yb.cell 7
               have y0_8 := yb.cell 8
               have y0_9 := yb.cell 9
               clear yb
               clear hx hk hD hkp
               go_simp
               try rfl
             simp only [Act.put, List.setIfInBounds_toArray, List.set_cons_zero, List.set_cons_succ])
          refine Fx.WM.call 10 (.tuple #[.agg #[.int .i64 (X), .int .i64 (Y)], .int .i64 (0)]) ?_ ?_ (by rfl) (by kernel_rfl) (by kernel_rfl) (by kernel_rfl) (by rfl) ?_ ?_ ?_
          rotate_left 2
          · intro w'
            go_simp
            refine ⟨?_, ?_⟩ <;> rfl
          · intro g f w' hx hD hk
            exact (pApparent_ok m t day X Y HA.out HMT.out w' (R1_8.out.lay hD.bel) htl).mono fun e w'' ⟨he, hw⟩ => ⟨he, hD.call PfR.stb (by decide) hw⟩
          simp only [Act.put, List.setIfInBounds_toArray, List.set_cons_zero, List.set_cons_succ]
          first
          | (refine Fx.WM.skip 11 (by rfl) (by kernel_rfl) (by kernel_rfl) (by kernel_rfl) (by rfl) (fun g f w h => h.same (by decide)) ?_; simp only [Act.put, List.setIfInBounds_toArray, List.set_cons_zero, List.set_cons_succ])
          | (refine Fx.WM.val_ 11 ?_ (by rfl) (by kernel_rfl) (by kernel_rfl) (by kernel_rfl) (by rfl) ?_ (fun g f w h => h.same (by decide)) ?_
             rotate_left
             · intro g f w' hx hD hk
               obtain hkp := id hD
               clear hx hk hD hkp
               go_simp
               try rfl
             simp only [Act.put, List.setIfInBounds_toArray, List.set_cons_zero, List.set_cons_succ])
          first
          | (refine Fx.WM.skip 12 (by rfl) (by kernel_rfl) (by kernel_rfl) (by kernel_rfl) (by rfl) (fun g f w h => h.same (by decide)) ?_; simp only [Act.put, List.setIfInBounds_toArray, List.set_cons_zero, List.set_cons_succ])
          | (refine Fx.WM.val_ 12 ?_ (by rfl) (by kernel_rfl) (by kernel_rfl) (by kernel_rfl) (by rfl) ?_ (fun g f w h => h.same (by decide)) ?_
             rotate_left
             · intro g f w' hx hD hk
               obtain hkp := id hD
               clear hx hk hD hkp
               go_simp
               try rfl
             simp only [Act.put, List.setIfInBounds_toArray, List.set_cons_zero, List.set_cons_succ])
          first
          | (refine Fx.WM.skip 13 (by rfl) (by kernel_rfl) (by kernel_rfl) (by kernel_rfl) (by rfl) (fun g f w h => h.same (by decide)) ?_; simp only [Act.put, List.setIfInBounds_toArray, List.set_cons_zero, List.set_cons_succ])
          | (refine Fx.WM.val_ 13 ?_ (by rfl) (by kernel_rfl) (by kernel_rfl) (by kernel_rfl) (by rfl) ?_ (fun g f w h => h.same (by decide)) ?_
             rotate_left
             · intro g f w' hx hD hk
               obtain hkp := id hD
               clear hx hk hD hkp
               go_simp
               try rfl
             simp only [Act.put, List.setIfInBounds_toArray, List.set_cons_zero, List.set_cons_succ])
          refine Fx.WM.choose 14 (by rfl) (by kernel_rfl) (by rfl) ?_ ?_
          · skip
            refine Fx.Chooses.make (by rfl) ?_
            intro f w' hD hk
            refine ⟨((some ⟨w'.heap.size, 0, none⟩, 0), (none, 0)), w'.alloc (.cells #[.int .i64 (0), .int .i64 (0)] 60), ?_, ?_⟩
            · clear hk hD
              go_simp
              try rfl
            · exact hD.make PfR.stb (hk.2.1 15 (by kernel_rfl)) (by decide)
          intro z
          simp only [Act.put, List.setIfInBounds_toArray, List.set_cons_zero, List.set_cons_succ]
          refine Fx.WM.eff 15 undef (by rfl) (by kernel_rfl) (by kernel_rfl) (by kernel_rfl) (by rfl) ?_ ?_
          · intro g f w' hx hD hk
            obtain ⟨bx, e0, e1, r0, r1, r2, r3, r4, r5⟩ := KpS.cells hD (hx 14 _ (by rfl))
            refine Fx.gives_skip (w' := ((w'.setCell ⟨bx, 0, none⟩ (.int .i64 (X))).setCell ⟨bx, 1, none⟩ (.int .i64 (Y)))) ?_ ?_
            · clear hx hk hD
              go_simp
              try rfl
            · exact KpS.store hD (hx 14 _ (by rfl)) r0
          simp only [Act.put, List.setIfInBounds_toArray, List.set_cons_zero, List.set_cons_succ]
          first
          | (refine Fx.WM.skip 16 (by rfl) (by kernel_rfl) (by kernel_rfl) (by kernel_rfl) (by rfl) (fun g f w h => h.same (by decide)) ?_; simp only [Act.put, List.setIfInBounds_toArray, List.set_cons_zero, List.set_cons_succ])
          | (refine Fx.WM.val_ 16 ?_ (by rfl) (by kernel_rfl) (by kernel_rfl) (by kernel_rfl) (by rfl) ?_ (fun g f w h => h.same (by decide)) ?_
             rotate_left
             · intro g f w' hx hD hk
               obtain hkp := id hD
               clear hx hk hD hkp
               go_simp
               try rfl
             simp only [Act.put, List.setIfInBounds_toArray, List.set_cons_zero, List.set_cons_succ])
          refine Fx.WM.nil (by kernel_rfl) ?_
          intro wz hkp
          obtain ⟨bx, h1, h2, h3⟩ := KpS.end_ hkp (x := z) (by rfl) (by rfl)
          obtain ⟨dd, -⟩ : ∃ d : Nat, d = d := ⟨0, rfl⟩
          exact key dd z wz ⟨bx, h1, h2, hkp.bel, h3⟩
        rintro - ⟨⟨z1_, z2_⟩, z3_⟩ w9 ⟨bx, hz, hbx, hb, hblk⟩
        simp only at hz
        subst hz
        have HB9 := Lib.hid (show Below w.heap.size w w9 from step_below hb (by repeat' (first | exact Below.refl _ _ | exact HB8.out | refine below_drewN ?_ _ | refine Below.drew ?_ | refine Below.alloc ?_ (by first | omega | (simp; done) | (simp; omega) | (simp [World.setCell]; omega)) _ | refine Below.setCell ?_ (by first | omega | (simp; done) | (simp; omega)) _ | assumption)))
        have K0_9 := Lib.hid (step_blk hb (show Blk _ (w.heap.size) 62 #[.int .i64 (m.ls), .int .i64 (m.ms), .int .i64 (m.lo), .int .i64 (m.hi), .int .i64 (m.sp), .slice m.A1 m.n1 m.c1, .slice m.A2 m.n2 m.c2, .slice (some ⟨xb, xo, none⟩) n c, .int .i64 (day), .int .i64 (pos)] by repeat' (first | exact K0_8.out | exact K1_8.out | exact Blk.at_ _ (by first | rfl | (simp; done) | (simp; omega)) _ _ | refine Blk.drewN ?_ _ | refine Blk.drew ?_ | refine Blk.alloc ?_ _ | refine Blk.far ?_ (by first | omega | (simp; done) | (simp; omega)) _ | assumption)))
        have K1_9 := Lib.hid (step_blk hb (show Blk _ (w4.heap.size) 67 #[.slice (some ⟨yb, yo, none⟩) n ct, .slice Xp n cp] by repeat' (first | exact K0_8.out | exact K1_8.out | exact Blk.at_ _ (by first | rfl | (simp; done) | (simp; omega)) _ _ | refine Blk.drewN ?_ _ | refine Blk.drew ?_ | refine Blk.alloc ?_ _ | refine Blk.far ?_ (by first | omega | (simp; done) | (simp; omega)) _ | assumption)))
        have C0_9 := Lib.hid (step_cell hb (show World.cell? _ ⟨xb, xo + k * 6, none⟩ = some (.string t.name) by first | exact C0_8.out | go_simp) (by have := hxb; first | omega | (simp; omega)))
        have C1_9 := Lib.hid (step_cell hb (show World.cell? _ ⟨xb, xo + k * 6 + 1, none⟩ = some (.int .i64 (t.az)) by first | exact C1_8.out | go_simp) (by have := hxb; first | omega | (simp; omega)))
        have C2_9 := Lib.hid (step_cell hb (show World.cell? _ ⟨xb, xo + k * 6 + 2, none⟩ = some (.int .i64 (t.ht)) by first | exact C2_8.out | go_simp) (by have := hxb; first | omega | (simp; omega)))
        have C3_9 := Lib.hid (step_cell hb (show World.cell? _ ⟨xb, xo + k * 6 + 3, none⟩ = some (.int .i64 (t.fr)) by first | exact C3_8.out | go_simp) (by have := hxb; first | omega | (simp; omega)))
        have C4_9 := Lib.hid (step_cell hb (show World.cell? _ ⟨xb, xo + k * 6 + 4, none⟩ = some (.int .i64 (t.to)) by first | exact C4_8.out | go_simp) (by have := hxb; first | omega | (simp; omega)))
        have C5_9 := Lib.hid (step_cell hb (show World.cell? _ ⟨xb, xo + k * 6 + 5, none⟩ = some (.int .i64 (t.dw)) by first | exact C5_8.out | go_simp) (by have := hxb; first | omega | (simp; omega)))
        have C6_9 := Lib.hid (step_cell hb (show World.cell? _ ⟨yb, yo + k, none⟩ = some (.int .i64 (K)) by first | exact C6_8.out | go_simp) (by have := hyb; first | omega | (simp; omega)))
        have hL9 := Lib.hid (show Below w8.heap.size w8 _ from reads_mid hb (by repeat' (first | exact Below.refl _ _ | refine below_drewN ?_ _ | refine Below.drew ?_ | refine Below.alloc ?_ (by first | omega | (simp; done) | (simp; omega) | (simp [World.setCell]; omega)) _ | refine Below.setCell ?_ (by first | omega | (simp; done) | (simp; omega)) _)))
        have R0_9 := Lib.hid (reads_lay hb hL9.out R0_8.out)
        have R1_9 := Lib.hid (mnt_lay hb hL9.out R1_8.out)
        have R2_9 := Lib.hid (reads_lay hb hL9.out R2_8.out)
        have R3_9 := Lib.hid (reads_lay hb hL9.out R3_8.out)
        clear hL9 R0_8 R1_8 R2_8 R3_8
        have HA9 := Lib.hid (step_below hb HA8.out)
        clear HA8
        have hz9 := hb.size
        try simp only [World.size_alloc, World.drewN, World.drew] at hz9
        clear hb K0_8 K1_8 z0_0_8 z0_1_8 z0_2_8 z0_3_8 z0_4_8 z0_5_8 z0_6_8 z0_7_8 z0_8_8 z0_9_8 l0_8 z1_0_8 z1_1_8 l1_8
        have l0_9 : w.heap.size < w9.heap.size := K0_9.out.lt
        have z0_0_9 : w9.cell? ⟨w.heap.size, 0, none⟩ = some (.int .i64 (m.ls)) := K0_9.out.cell 0
        have z0_1_9 : w9.cell? ⟨w.heap.size, 1, none⟩ = some (.int .i64 (m.ms)) := K0_9.out.cell 1
        have z0_2_9 : w9.cell? ⟨w.heap.size, 2, none⟩ = some (.int .i64 (m.lo)) := K0_9.out.cell 2
        have z0_3_9 : w9.cell? ⟨w.heap.size, 3, none⟩ = some (.int .i64 (m.hi)) := K0_9.out.cell 3
        have z0_4_9 : w9.cell? ⟨w.heap.size, 4, none⟩ = some (.int .i64 (m.sp)) := K0_9.out.cell 4
        have z0_5_9 : w9.cell? ⟨w.heap.size, 5, none⟩ = some (.slice m.A1 m.n1 m.c1) := K0_9.out.cell 5
        have z0_6_9 : w9.cell? ⟨w.heap.size, 6, none⟩ = some (.slice m.A2 m.n2 m.c2) := K0_9.out.cell 6
        have z0_7_9 : w9.cell? ⟨w.heap.size, 7, none⟩ = some (.slice (some ⟨xb, xo, none⟩) n c) := K0_9.out.cell 7
        have z0_8_9 : w9.cell? ⟨w.heap.size, 8, none⟩ = some (.int .i64 (day)) := K0_9.out.cell 8
        have z0_9_9 : w9.cell? ⟨w.heap.size, 9, none⟩ = some (.int .i64 (pos)) := K0_9.out.cell 9
        have l1_9 : w4.heap.size < w9.heap.size := K1_9.out.lt
        have z1_0_9 : w9.cell? ⟨w4.heap.size, 0, none⟩ = some (.slice (some ⟨yb, yo, none⟩) n ct) := K1_9.out.cell 0
        have z1_1_9 : w9.cell? ⟨w4.heap.size, 1, none⟩ = some (.slice Xp n cp) := K1_9.out.cell 1
        have K2_9 := Lib.hid (show Blk w9 (bx) 60 #[.int .i64 (X), .int .i64 (Y)] from hblk)
        clear hblk
        have l2_9 : bx < w9.heap.size := K2_9.out.lt
        have z2_0_9 : w9.cell? ⟨bx, 0, none⟩ = some (.int .i64 (X)) := K2_9.out.cell 0
        have z2_1_9 : w9.cell? ⟨bx, 1, none⟩ = some (.int .i64 (Y)) := K2_9.out.cell 1
        have v6 := C6_9.out
        have ylo : decide (Y < m.lo) = false := decide_eq_false (by omega)
        have yhi : decide (m.hi < Y) = false := decide_eq_false (by omega)
        go_wp2_with fail
        refine (has_is x.1.1 ql x.1.2 _ L K true HHAS.out _ R3_9.out (by omega)).mono ?_
        rintro e w' ⟨rfl, rfl⟩
        go_wp2_with fail
        refine Fx.regionW (fun W f w' => Below W.heap.size W w') (by kernel_rfl) (by kernel_rfl) ?_ ?_
        · intro f hf0
          exact below_drewN (Below.refl _ _) 1
        repeat (first
          | (refine Fx.skip_ (by rfl) (fun f w h => h) ?_; simp only [Act.put, List.setIfInBounds_toArray, List.set_cons_zero, List.set_cons_succ])
          | (refine Fx.val_ ?_ (by rfl) ?_ (fun f w h => h) ?_
             rotate_left
             · intro f w' hD hk
               have hb := hD
               have kb0 := step_blk hb (show Blk _ (w.heap.size) 62 #[.int .i64 (m.ls), .int .i64 (m.ms), .int .i64 (m.lo), .int .i64 (m.hi), .int .i64 (m.sp), .slice m.A1 m.n1 m.c1, .slice m.A2 m.n2 m.c2, .slice (some ⟨xb, xo, none⟩) n c, .int .i64 (day), .int .i64 (pos)] by repeat' (first | exact K0_9.out | exact K1_9.out | exact K2_9.out | exact Blk.at_ _ (by first | rfl | (simp; done) | (simp; omega)) _ _ | refine Blk.drewN ?_ _ | refine Blk.drew ?_ | refine Blk.alloc ?_ _ | refine Blk.far ?_ (by first | omega | (simp; done) | (simp; omega)) _ | assumption))
               have y0_0 : w'.cell? ⟨w.heap.size, 0, none⟩ = some (.int .i64 (m.ls)) := kb0.cell 0
               have y0_1 : w'.cell? ⟨w.heap.size, 1, none⟩ = some (.int .i64 (m.ms)) := kb0.cell 1
               have y0_2 : w'.cell? ⟨w.heap.size, 2, none⟩ = some (.int .i64 (m.lo)) := kb0.cell 2
               have y0_3 : w'.cell? ⟨w.heap.size, 3, none⟩ = some (.int .i64 (m.hi)) := kb0.cell 3
               have y0_4 : w'.cell? ⟨w.heap.size, 4, none⟩ = some (.int .i64 (m.sp)) := kb0.cell 4
               have y0_5 : w'.cell? ⟨w.heap.size, 5, none⟩ = some (.slice m.A1 m.n1 m.c1) := kb0.cell 5
               have y0_6 : w'.cell? ⟨w.heap.size, 6, none⟩ = some (.slice m.A2 m.n2 m.c2) := kb0.cell 6
               have y0_7 : w'.cell? ⟨w.heap.size, 7, none⟩ = some (.slice (some ⟨xb, xo, none⟩) n c) := kb0.cell 7
               have y0_8 : w'.cell? ⟨w.heap.size, 8, none⟩ = some (.int .i64 (day)) := kb0.cell 8
               have y0_9 : w'.cell? ⟨w.heap.size, 9, none⟩ = some (.int .i64 (pos)) := kb0.cell 9
               have kb1 := step_blk hb (show Blk _ (w4.heap.size) 67 #[.slice (some ⟨yb, yo, none⟩) n ct, .slice Xp n cp] by repeat' (first | exact K0_9.out | exact K1_9.out | exact K2_9.out | exact Blk.at_ _ (by first | rfl | (simp; done) | (simp; omega)) _ _ | refine Blk.drewN ?_ _ | refine Blk.drew ?_ | refine Blk.alloc ?_ _ | refine Blk.far ?_ (by first | omega | (simp; done) | (simp; omega)) _ | assumption))
               have y1_0 : w'.cell? ⟨w4.heap.size, 0, none⟩ = some (.slice (some ⟨yb, yo, none⟩) n ct) := kb1.cell 0
               have y1_1 : w'.cell? ⟨w4.heap.size, 1, none⟩ = some (.slice Xp n cp) := kb1.cell 1
               have kb2 := step_blk hb (show Blk _ (bx) 60 #[.int .i64 (X), .int .i64 (Y)] by repeat' (first | exact K0_9.out | exact K1_9.out | exact K2_9.out | exact Blk.at_ _ (by first | rfl | (simp; done) | (simp; omega)) _ _ | refine Blk.drewN ?_ _ | refine Blk.drew ?_ | refine Blk.alloc ?_ _ | refine Blk.far ?_ (by first | omega | (simp; done) | (simp; omega)) _ | assumption))
               have y2_0 : w'.cell? ⟨bx, 0, none⟩ = some (.int .i64 (X)) := kb2.cell 0
               have y2_1 : w'.cell? ⟨bx, 1, none⟩ = some (.int .i64 (Y)) := kb2.cell 1
               have yc0 : w'.cell? ⟨xb, xo + k * 6, none⟩ = some (.string t.name) := step_cell hb (show World.cell? _ ⟨xb, xo + k * 6, none⟩ = some (.string t.name) by first | exact C0_9.out | go_simp) (by have := hxb; first | omega | (simp; omega))
               have yc1 : w'.cell? ⟨xb, xo + k * 6 + 1, none⟩ = some (.int .i64 (t.az)) := step_cell hb (show World.cell? _ ⟨xb, xo + k * 6 + 1, none⟩ = some (.int .i64 (t.az)) by first | exact C1_9.out | go_simp) (by have := hxb; first | omega | (simp; omega))
               have yc2 : w'.cell? ⟨xb, xo + k * 6 + 2, none⟩ = some (.int .i64 (t.ht)) := step_cell hb (show World.cell? _ ⟨xb, xo + k * 6 + 2, none⟩ = some (.int .i64 (t.ht)) by first | exact C2_9.out | go_simp) (by have := hxb; first | omega | (simp; omega))
               have yc3 : w'.cell? ⟨xb, xo + k * 6 + 3, none⟩ = some (.int .i64 (t.fr)) := step_cell hb (show World.cell? _ ⟨xb, xo + k * 6 + 3, none⟩ = some (.int .i64 (t.fr)) by first | exact C3_9.out | go_simp) (by have := hxb; first | omega | (simp; omega))
               have yc4 : w'.cell? ⟨xb, xo + k * 6 + 4, none⟩ = some (.int .i64 (t.to)) := step_cell hb (show World.cell? _ ⟨xb, xo + k * 6 + 4, none⟩ = some (.int .i64 (t.to)) by first | exact C4_9.out | go_simp) (by have := hxb; first | omega | (simp; omega))
               have yc5 : w'.cell? ⟨xb, xo + k * 6 + 5, none⟩ = some (.int .i64 (t.dw)) := step_cell hb (show World.cell? _ ⟨xb, xo + k * 6 + 5, none⟩ = some (.int .i64 (t.dw)) by first | exact C5_9.out | go_simp) (by have := hxb; first | omega | (simp; omega))
               have yc6 : w'.cell? ⟨yb, yo + k, none⟩ = some (.int .i64 (K)) := step_cell hb (show World.cell? _ ⟨yb, yo + k, none⟩ = some (.int .i64 (K)) by first | exact C6_9.out | go_simp) (by have := hyb; first | omega | (simp; omega))
               clear kb0 kb1 kb2
               clear hk hD hb
               go_simp
               try rfl
             simp only [Act.put, List.setIfInBounds_toArray, List.set_cons_zero, List.set_cons_succ]))
        refine Fx.nil_ ?_
        intro f w10 hall hb
        try clear hall
        have HB910 := Lib.hid hb
        have HB10 := Lib.hid (show Below w.heap.size w w10 from step_below hb (by repeat' (first | exact Below.refl _ _ | exact HB9.out | refine below_drewN ?_ _ | refine Below.drew ?_ | refine Below.alloc ?_ (by first | omega | (simp; done) | (simp; omega) | (simp [World.setCell]; omega)) _ | refine Below.setCell ?_ (by first | omega | (simp; done) | (simp; omega)) _ | assumption)))
        have K0_10 := Lib.hid (step_blk hb (show Blk _ (w.heap.size) 62 #[.int .i64 (m.ls), .int .i64 (m.ms), .int .i64 (m.lo), .int .i64 (m.hi), .int .i64 (m.sp), .slice m.A1 m.n1 m.c1, .slice m.A2 m.n2 m.c2, .slice (some ⟨xb, xo, none⟩) n c, .int .i64 (day), .int .i64 (pos)] by repeat' (first | exact K0_9.out | exact K1_9.out | exact K2_9.out | exact Blk.at_ _ (by first | rfl | (simp; done) | (simp; omega)) _ _ | refine Blk.drewN ?_ _ | refine Blk.drew ?_ | refine Blk.alloc ?_ _ | refine Blk.far ?_ (by first | omega | (simp; done) | (simp; omega)) _ | assumption)))
        have K1_10 := Lib.hid (step_blk hb (show Blk _ (w4.heap.size) 67 #[.slice (some ⟨yb, yo, none⟩) n ct, .slice Xp n cp] by repeat' (first | exact K0_9.out | exact K1_9.out | exact K2_9.out | exact Blk.at_ _ (by first | rfl | (simp; done) | (simp; omega)) _ _ | refine Blk.drewN ?_ _ | refine Blk.drew ?_ | refine Blk.alloc ?_ _ | refine Blk.far ?_ (by first | omega | (simp; done) | (simp; omega)) _ | assumption)))
        have K2_10 := Lib.hid (step_blk hb (show Blk _ (bx) 60 #[.int .i64 (X), .int .i64 (Y)] by repeat' (first | exact K0_9.out | exact K1_9.out | exact K2_9.out | exact Blk.at_ _ (by first | rfl | (simp; done) | (simp; omega)) _ _ | refine Blk.drewN ?_ _ | refine Blk.drew ?_ | refine Blk.alloc ?_ _ | refine Blk.far ?_ (by first | omega | (simp; done) | (simp; omega)) _ | assumption)))
        have C0_10 := Lib.hid (step_cell hb (show World.cell? _ ⟨xb, xo + k * 6, none⟩ = some (.string t.name) by first | exact C0_9.out | go_simp) (by have := hxb; first | omega | (simp; omega)))
        have C1_10 := Lib.hid (step_cell hb (show World.cell? _ ⟨xb, xo + k * 6 + 1, none⟩ = some (.int .i64 (t.az)) by first | exact C1_9.out | go_simp) (by have := hxb; first | omega | (simp; omega)))
        have C2_10 := Lib.hid (step_cell hb (show World.cell? _ ⟨xb, xo + k * 6 + 2, none⟩ = some (.int .i64 (t.ht)) by first | exact C2_9.out | go_simp) (by have := hxb; first | omega | (simp; omega)))
        have C3_10 := Lib.hid (step_cell hb (show World.cell? _ ⟨xb, xo + k * 6 + 3, none⟩ = some (.int .i64 (t.fr)) by first | exact C3_9.out | go_simp) (by have := hxb; first | omega | (simp; omega)))
        have C4_10 := Lib.hid (step_cell hb (show World.cell? _ ⟨xb, xo + k * 6 + 4, none⟩ = some (.int .i64 (t.to)) by first | exact C4_9.out | go_simp) (by have := hxb; first | omega | (simp; omega)))
        have C5_10 := Lib.hid (step_cell hb (show World.cell? _ ⟨xb, xo + k * 6 + 5, none⟩ = some (.int .i64 (t.dw)) by first | exact C5_9.out | go_simp) (by have := hxb; first | omega | (simp; omega)))
        have C6_10 := Lib.hid (step_cell hb (show World.cell? _ ⟨yb, yo + k, none⟩ = some (.int .i64 (K)) by first | exact C6_9.out | go_simp) (by have := hyb; first | omega | (simp; omega)))
        have hL10 := Lib.hid (show Below w9.heap.size w9 _ from reads_mid hb (by repeat' (first | exact Below.refl _ _ | refine below_drewN ?_ _ | refine Below.drew ?_ | refine Below.alloc ?_ (by first | omega | (simp; done) | (simp; omega) | (simp [World.setCell]; omega)) _ | refine Below.setCell ?_ (by first | omega | (simp; done) | (simp; omega)) _)))
        have R0_10 := Lib.hid (reads_lay hb hL10.out R0_9.out)
        have R1_10 := Lib.hid (mnt_lay hb hL10.out R1_9.out)
        have R2_10 := Lib.hid (reads_lay hb hL10.out R2_9.out)
        have R3_10 := Lib.hid (reads_lay hb hL10.out R3_9.out)
        clear hL10 R0_9 R1_9 R2_9 R3_9
        have HA10 := Lib.hid (step_below hb HA9.out)
        clear HA9
        have hz10 := hb.size
        try simp only [World.size_alloc, World.drewN, World.drew] at hz10
        clear hb K0_9 K1_9 K2_9 z0_0_9 z0_1_9 z0_2_9 z0_3_9 z0_4_9 z0_5_9 z0_6_9 z0_7_9 z0_8_9 z0_9_9 l0_9 z1_0_9 z1_1_9 l1_9 z2_0_9 z2_1_9 l2_9
        have l0_10 : w.heap.size < w10.heap.size := K0_10.out.lt
        have z0_0_10 : w10.cell? ⟨w.heap.size, 0, none⟩ = some (.int .i64 (m.ls)) := K0_10.out.cell 0
        have z0_1_10 : w10.cell? ⟨w.heap.size, 1, none⟩ = some (.int .i64 (m.ms)) := K0_10.out.cell 1
        have z0_2_10 : w10.cell? ⟨w.heap.size, 2, none⟩ = some (.int .i64 (m.lo)) := K0_10.out.cell 2
        have z0_3_10 : w10.cell? ⟨w.heap.size, 3, none⟩ = some (.int .i64 (m.hi)) := K0_10.out.cell 3
        have z0_4_10 : w10.cell? ⟨w.heap.size, 4, none⟩ = some (.int .i64 (m.sp)) := K0_10.out.cell 4
        have z0_5_10 : w10.cell? ⟨w.heap.size, 5, none⟩ = some (.slice m.A1 m.n1 m.c1) := K0_10.out.cell 5
        have z0_6_10 : w10.cell? ⟨w.heap.size, 6, none⟩ = some (.slice m.A2 m.n2 m.c2) := K0_10.out.cell 6
        have z0_7_10 : w10.cell? ⟨w.heap.size, 7, none⟩ = some (.slice (some ⟨xb, xo, none⟩) n c) := K0_10.out.cell 7
        have z0_8_10 : w10.cell? ⟨w.heap.size, 8, none⟩ = some (.int .i64 (day)) := K0_10.out.cell 8
        have z0_9_10 : w10.cell? ⟨w.heap.size, 9, none⟩ = some (.int .i64 (pos)) := K0_10.out.cell 9
        have l1_10 : w4.heap.size < w10.heap.size := K1_10.out.lt
        have z1_0_10 : w10.cell? ⟨w4.heap.size, 0, none⟩ = some (.slice (some ⟨yb, yo, none⟩) n ct) := K1_10.out.cell 0
        have z1_1_10 : w10.cell? ⟨w4.heap.size, 1, none⟩ = some (.slice Xp n cp) := K1_10.out.cell 1
        have l2_10 : bx < w10.heap.size := K2_10.out.lt
        have z2_0_10 : w10.cell? ⟨bx, 0, none⟩ = some (.int .i64 (X)) := K2_10.out.cell 0
        have z2_1_10 : w10.cell? ⟨bx, 1, none⟩ = some (.int .i64 (Y)) := K2_10.out.cell 1
        rw [← HTO.out]
        have vls : decide (v < m.ls) = false := decide_eq_false (by omega)
        have vms : decide (m.ms < v) = false := decide_eq_false (by omega)
        go_wp2_with fail
        refine (Waypt_ok f1 v u (decide (648000 < u)) HSM.out HU_.out rfl _).mono ?_
        rintro e w11 ⟨rfl, hb⟩
        have HB11 := Lib.hid (show Below w.heap.size w w11 from step_below hb (by repeat' (first | exact Below.refl _ _ | exact HB10.out | refine below_drewN ?_ _ | refine Below.drew ?_ | refine Below.alloc ?_ (by first | omega | (simp; done) | (simp; omega) | (simp [World.setCell]; omega)) _ | refine Below.setCell ?_ (by first | omega | (simp; done) | (simp; omega)) _ | assumption)))
        have K0_11 := Lib.hid (step_blk hb (show Blk _ (w.heap.size) 62 #[.int .i64 (m.ls), .int .i64 (m.ms), .int .i64 (m.lo), .int .i64 (m.hi), .int .i64 (m.sp), .slice m.A1 m.n1 m.c1, .slice m.A2 m.n2 m.c2, .slice (some ⟨xb, xo, none⟩) n c, .int .i64 (day), .int .i64 (pos)] by repeat' (first | exact K0_10.out | exact K1_10.out | exact K2_10.out | exact Blk.at_ _ (by first | rfl | (simp; done) | (simp; omega)) _ _ | refine Blk.drewN ?_ _ | refine Blk.drew ?_ | refine Blk.alloc ?_ _ | refine Blk.far ?_ (by first | omega | (simp; done) | (simp; omega)) _ | assumption)))
        have K1_11 := Lib.hid (step_blk hb (show Blk _ (w4.heap.size) 67 #[.slice (some ⟨yb, yo, none⟩) n ct, .slice Xp n cp] by repeat' (first | exact K0_10.out | exact K1_10.out | exact K2_10.out | exact Blk.at_ _ (by first | rfl | (simp; done) | (simp; omega)) _ _ | refine Blk.drewN ?_ _ | refine Blk.drew ?_ | refine Blk.alloc ?_ _ | refine Blk.far ?_ (by first | omega | (simp; done) | (simp; omega)) _ | assumption)))
        have K2_11 := Lib.hid (step_blk hb (show Blk _ (bx) 60 #[.int .i64 (X), .int .i64 (Y)] by repeat' (first | exact K0_10.out | exact K1_10.out | exact K2_10.out | exact Blk.at_ _ (by first | rfl | (simp; done) | (simp; omega)) _ _ | refine Blk.drewN ?_ _ | refine Blk.drew ?_ | refine Blk.alloc ?_ _ | refine Blk.far ?_ (by first | omega | (simp; done) | (simp; omega)) _ | assumption)))
        have C0_11 := Lib.hid (step_cell hb (show World.cell? _ ⟨xb, xo + k * 6, none⟩ = some (.string t.name) by first | exact C0_10.out | go_simp) (by have := hxb; first | omega | (simp; omega)))
        have C1_11 := Lib.hid (step_cell hb (show World.cell? _ ⟨xb, xo + k * 6 + 1, none⟩ = some (.int .i64 (t.az)) by first | exact C1_10.out | go_simp) (by have := hxb; first | omega | (simp; omega)))
        have C2_11 := Lib.hid (step_cell hb (show World.cell? _ ⟨xb, xo + k * 6 + 2, none⟩ = some (.int .i64 (t.ht)) by first | exact C2_10.out | go_simp) (by have := hxb; first | omega | (simp; omega)))
        have C3_11 := Lib.hid (step_cell hb (show World.cell? _ ⟨xb, xo + k * 6 + 3, none⟩ = some (.int .i64 (t.fr)) by first | exact C3_10.out | go_simp) (by have := hxb; first | omega | (simp; omega)))
        have C4_11 := Lib.hid (step_cell hb (show World.cell? _ ⟨xb, xo + k * 6 + 4, none⟩ = some (.int .i64 (t.to)) by first | exact C4_10.out | go_simp) (by have := hxb; first | omega | (simp; omega)))
        have C5_11 := Lib.hid (step_cell hb (show World.cell? _ ⟨xb, xo + k * 6 + 5, none⟩ = some (.int .i64 (t.dw)) by first | exact C5_10.out | go_simp) (by have := hxb; first | omega | (simp; omega)))
        have C6_11 := Lib.hid (step_cell hb (show World.cell? _ ⟨yb, yo + k, none⟩ = some (.int .i64 (K)) by first | exact C6_10.out | go_simp) (by have := hyb; first | omega | (simp; omega)))
        have hL11 := Lib.hid (show Below w10.heap.size w10 _ from reads_mid hb (by repeat' (first | exact Below.refl _ _ | refine below_drewN ?_ _ | refine Below.drew ?_ | refine Below.alloc ?_ (by first | omega | (simp; done) | (simp; omega) | (simp [World.setCell]; omega)) _ | refine Below.setCell ?_ (by first | omega | (simp; done) | (simp; omega)) _)))
        have R0_11 := Lib.hid (reads_lay hb hL11.out R0_10.out)
        have R1_11 := Lib.hid (mnt_lay hb hL11.out R1_10.out)
        have R2_11 := Lib.hid (reads_lay hb hL11.out R2_10.out)
        have R3_11 := Lib.hid (reads_lay hb hL11.out R3_10.out)
        clear hL11 R0_10 R1_10 R2_10 R3_10
        have HA11 := Lib.hid (step_below hb HA10.out)
        clear HA10
        have hz11 := hb.size
        try simp only [World.size_alloc, World.drewN, World.drew] at hz11
        clear hb K0_10 K1_10 K2_10 z0_0_10 z0_1_10 z0_2_10 z0_3_10 z0_4_10 z0_5_10 z0_6_10 z0_7_10 z0_8_10 z0_9_10 l0_10 z1_0_10 z1_1_10 l1_10 z2_0_10 z2_1_10 l2_10
        have l0_11 : w.heap.size < w11.heap.size := K0_11.out.lt
        have z0_0_11 : w11.cell? ⟨w.heap.size, 0, none⟩ = some (.int .i64 (m.ls)) := K0_11.out.cell 0
        have z0_1_11 : w11.cell? ⟨w.heap.size, 1, none⟩ = some (.int .i64 (m.ms)) := K0_11.out.cell 1
        have z0_2_11 : w11.cell? ⟨w.heap.size, 2, none⟩ = some (.int .i64 (m.lo)) := K0_11.out.cell 2
        have z0_3_11 : w11.cell? ⟨w.heap.size, 3, none⟩ = some (.int .i64 (m.hi)) := K0_11.out.cell 3
        have z0_4_11 : w11.cell? ⟨w.heap.size, 4, none⟩ = some (.int .i64 (m.sp)) := K0_11.out.cell 4
        have z0_5_11 : w11.cell? ⟨w.heap.size, 5, none⟩ = some (.slice m.A1 m.n1 m.c1) := K0_11.out.cell 5
        have z0_6_11 : w11.cell? ⟨w.heap.size, 6, none⟩ = some (.slice m.A2 m.n2 m.c2) := K0_11.out.cell 6
        have z0_7_11 : w11.cell? ⟨w.heap.size, 7, none⟩ = some (.slice (some ⟨xb, xo, none⟩) n c) := K0_11.out.cell 7
        have z0_8_11 : w11.cell? ⟨w.heap.size, 8, none⟩ = some (.int .i64 (day)) := K0_11.out.cell 8
        have z0_9_11 : w11.cell? ⟨w.heap.size, 9, none⟩ = some (.int .i64 (pos)) := K0_11.out.cell 9
        have l1_11 : w4.heap.size < w11.heap.size := K1_11.out.lt
        have z1_0_11 : w11.cell? ⟨w4.heap.size, 0, none⟩ = some (.slice (some ⟨yb, yo, none⟩) n ct) := K1_11.out.cell 0
        have z1_1_11 : w11.cell? ⟨w4.heap.size, 1, none⟩ = some (.slice Xp n cp) := K1_11.out.cell 1
        have l2_11 : bx < w11.heap.size := K2_11.out.lt
        have z2_0_11 : w11.cell? ⟨bx, 0, none⟩ = some (.int .i64 (X)) := K2_11.out.cell 0
        have z2_1_11 : w11.cell? ⟨bx, 1, none⟩ = some (.int .i64 (Y)) := K2_11.out.cell 1
        go_wp2
        go_roundw
        case rel => exact ⟨k + 1, by omega, by rw [HLAST.out], rfl, by go_num, HB67.out.trans (HA11.out.mono HB67.out.size)⟩
        case measure => simp [intOf]; omega
  · as_aux_lemma =>
      obtain ⟨hrn, ⟨mi1, mi2⟩, -, hnl⟩ := HF0.out rfl
      have hrn := hrn.symm
      subst hrn
      have HNL := Lib.hid hnl
      clear hnl
      have htr := HTM.out rfl
      have R3_6 := Lib.hid htr
      clear htr
      go_wp2
      go_loopw [13, 14, 15] (fun f mn i wr => ∃ k : Nat, k ≤ n ∧ f = .int .i64 (lastI pos (P.take k)) ∧ mn = .int .i64 ((stT m.sp (mi, pos) Z k).1) ∧ i = .int .i64 k ∧ Below w6.heap.size w6 wr) (fun _ _ i _ => n - (intOf i).toNat)
      case atStart => exact ⟨0, by omega, by simp [lastI], rfl, rfl, Below.refl _ _⟩
      case round =>
        obtain ⟨k, hk, rfl, rfl, rfl, hb7⟩ := hrel
        obtain ⟨w7, hnm⟩ : ∃ z : World, z = wr := ⟨_, rfl⟩
        subst hnm
        have hbw7 := HB6.out.trans (hb7.mono HB6.out.size)
        have hk0 := K0_6.out.below hb7 l0_6
        have hk1 := K1_6.out.below hb7 l1_6
        have hr0 := (R0_6.out.below hb7).more hb7.size
        have hr1 := R1_6.out.lay hb7
        have hr2 := (R2_6.out.below hb7).more hb7.size
        have hr3 := (R3_6.out.below hb7).more hb7.size
        have HB67 := Lib.hid hb7
        have hs67 := hb7.size
        clear hb7
        have HB7 := Lib.hid hbw7
        have K0_7 := Lib.hid (show Blk w7 (w.heap.size) 62 #[.int .i64 (m.ls), .int .i64 (m.ms), .int .i64 (m.lo), .int .i64 (m.hi), .int .i64 (m.sp), .slice m.A1 m.n1 m.c1, .slice m.A2 m.n2 m.c2, .slice (A) n c, .int .i64 (day), .int .i64 (pos)] from hk0)
        have K1_7 := Lib.hid (show Blk w7 (w4.heap.size) 67 #[.slice (At) n ct, .slice Xp n cp] from hk1)
        clear hbw7 hk0 hk1
        have l0_7 : w.heap.size < w7.heap.size := K0_7.out.lt
        have z0_0_7 : w7.cell? ⟨w.heap.size, 0, none⟩ = some (.int .i64 (m.ls)) := K0_7.out.cell 0
        have z0_1_7 : w7.cell? ⟨w.heap.size, 1, none⟩ = some (.int .i64 (m.ms)) := K0_7.out.cell 1
        have z0_2_7 : w7.cell? ⟨w.heap.size, 2, none⟩ = some (.int .i64 (m.lo)) := K0_7.out.cell 2
        have z0_3_7 : w7.cell? ⟨w.heap.size, 3, none⟩ = some (.int .i64 (m.hi)) := K0_7.out.cell 3
        have z0_4_7 : w7.cell? ⟨w.heap.size, 4, none⟩ = some (.int .i64 (m.sp)) := K0_7.out.cell 4
        have z0_5_7 : w7.cell? ⟨w.heap.size, 5, none⟩ = some (.slice m.A1 m.n1 m.c1) := K0_7.out.cell 5
        have z0_6_7 : w7.cell? ⟨w.heap.size, 6, none⟩ = some (.slice m.A2 m.n2 m.c2) := K0_7.out.cell 6
        have z0_7_7 : w7.cell? ⟨w.heap.size, 7, none⟩ = some (.slice (A) n c) := K0_7.out.cell 7
        have z0_8_7 : w7.cell? ⟨w.heap.size, 8, none⟩ = some (.int .i64 (day)) := K0_7.out.cell 8
        have z0_9_7 : w7.cell? ⟨w.heap.size, 9, none⟩ = some (.int .i64 (pos)) := K0_7.out.cell 9
        have l1_7 : w4.heap.size < w7.heap.size := K1_7.out.lt
        have z1_0_7 : w7.cell? ⟨w4.heap.size, 0, none⟩ = some (.slice (At) n ct) := K1_7.out.cell 0
        have z1_1_7 : w7.cell? ⟨w4.heap.size, 1, none⟩ = some (.slice Xp n cp) := K1_7.out.cell 1
        have R0_7 := Lib.hid hr0
        clear hr0
        have R1_7 := Lib.hid hr1
        clear hr1
        have R2_7 := Lib.hid hr2
        clear hr2
        have R3_7 := Lib.hid hr3
        clear hr3
        have HA7 := Lib.hid (show Below w7.heap.size w7 w7 from Below.refl _ _)
        by_cases hlt : k < n
        rotate_left
        · obtain rfl : n = k := by omega
          go_wp2
          go_ret
          exact ⟨rfl, by repeat' (first | exact Below.refl _ _ | exact HB7.out | refine below_drewN ?_ _ | refine Below.drew ?_ | refine Below.alloc ?_ (by first | omega | (simp; done) | (simp; omega) | (simp [World.setCell]; omega)) _ | refine Below.setCell ?_ (by first | omega | (simp; done) | (simp; omega)) _ | assumption)⟩
        obtain ⟨xb, xo, t, rfl, hxb, ht, c0, c1, c2, c3, c4, c5⟩ := R0_7.out.tgt hlt
        obtain ⟨yb, yo, K, rfl, hyb, hK, c6⟩ := R2_7.out.int_ hlt
        obtain ⟨tk, to_, g, rfl, htk, hg, c7⟩ := R3_7.out.int_ hlt
        obtain ⟨te1, te2⟩ := tour_each HZ0.out ht
        have hok := path_at HPO.out ht hK
        obtain ⟨X, Y, hA⟩ : ∃ X Y, appF m t day = (X, Y) := ⟨_, _, rfl⟩
        obtain ⟨L, E0, hTA⟩ : ∃ L E0, turnsAt m X Y = (L, E0) := ⟨_, _, rfl⟩
        have hE0 : E0 = 0 := by have h := te2; unfold turnsF at h; rw [hA] at h; simp only at h; rw [hTA] at h; exact h
        subst hE0
        obtain ⟨hiff, hto⟩ := turn_ok_iff (k := K) hA hTA
        have hhas : decide (K ∈ L) = true := hiff ▸ hok
        obtain ⟨g1, g2, g3, g4⟩ := turn_range (of_decide_eq_true hok)
        have hY : m.lo ≤ Y ∧ Y ≤ m.hi := by
          unfold turnsAt at hTA
          split at hTA
          · cases hTA
          · rename_i h; exact (withinB_iff _ _ _).1 (by simpa using h)
        obtain ⟨y1, y2⟩ := hY
        obtain ⟨v, hv⟩ : ∃ v, posK m day t K = v := ⟨_, rfl⟩
        have hPv : P[k]? = some v := by
          rw [← HP.out]
          unfold pathL
          rw [List.getElem?_zipWith, ht, hK, ← hv]
        have hzt : Z[k]? = some (t, v) := by rw [HZP.out]; exact zip_at ht hPv
        obtain ⟨z1, z2, z3, z4, z5⟩ := HZR.out _ (List.mem_of_getElem? hzt)
        simp only at z1 z2 z3 z4 z5
        rw [hv] at hto g1 g2
        have hX := app_in (day := day) HM.out te1
        rw [hA] at hX
        simp only at hX
        obtain ⟨x1, x2, -, -⟩ := hX
        obtain ⟨f1, hf1⟩ : ∃ f, lastI pos (P.take k) = f := ⟨_, rfl⟩
        have hfr : -25920000 ≤ f1 ∧ f1 ≤ 25920000 := by
          rw [← hf1]
          have h : ∀ (xs : List Int) (a : Int), (-25920000 ≤ a ∧ a ≤ 25920000) → (∀ z ∈ xs, -25920000 ≤ z ∧ z ≤ 25920000) → -25920000 ≤ lastI a xs ∧ lastI a xs ≤ 25920000 := fun xs => by
            induction xs with
            | nil => exact fun a h _ => h
            | cons z r ih => exact fun a _ h => ih z (h z (by simp)) fun y hy => h y (by simp [hy])
          exact h _ _ ⟨by omega, by omega⟩ fun z hz => by have := HRNG.out z (List.mem_of_mem_take hz); omega
        obtain ⟨fr1, fr2⟩ := hfr
        have hfR : PosR f1 := by unfold PosR; omega
        rw [hf1]
        have hlast : lastI pos (P.take (k + 1)) = v := by rw [List.take_add_one, hPv]; exact lastI_snoc v _ _
        obtain ⟨u, hu⟩ : ∃ u, wayF f1 v = u := ⟨_, rfl⟩
        have hu0 := way_in hfR z1
        rw [hu] at hu0
        obtain ⟨u1, u2⟩ := hu0
        have hsm : smallL 25920000 [f1, v] = true := by
          unfold smallL
          simp only [List.all_cons, List.all_nil, Bool.and_true, Bool.and_eq_true, withinB_iff]
          omega
        have e1 := IntWalk.i64_in (K * 1296000) ⟨by omega, by omega⟩
        have e2 := IntWalk.i64_in (X + K * 1296000) ⟨by omega, by omega⟩
        obtain ⟨ql, hql⟩ : ∃ q, L.length = q := ⟨_, rfl⟩
        have hq43 : ql ≤ 43 := by rw [← hql]; have h := turnsAt_len2 m X Y; rw [hTA] at h; exact h
        have hmtd : mtdErr m t day = 0 := by unfold mtdErr; rw [HM.out, te1, HD.out]; rfl
        have htl : t.name.size ≤ maxLen := HF.out t (List.mem_of_getElem? ht)
        have hkk : (k : Int) < (n : Int) := by omega
        have hlp : l.length = P.length := by rw [HN.out, HPLEN.out]
        have hzl : Z.length = n := by rw [HZP.out, List.length_zip, HPLEN.out, HN.out]; omega
        have hst2 : (stT m.sp (mi, pos) Z k).2 = f1 := by rw [HZP.out, stT_pos k (by rw [HN.out]; omega) hlp]; exact hf1
        obtain ⟨a1, ha1⟩ : ∃ a, (stT m.sp (mi, pos) Z k).1 = a := ⟨_, rfl⟩
        obtain ⟨b1, b2, -⟩ := stT_in (s0 := (mi, pos)) (k := k) sp1 ⟨mi1, mi2⟩ hposR HZR.out (by rw [hzl]; exact hk) (fun j q hj hq => HNL.out j q (by omega) hq)
        rw [ha1] at b1 b2 ⊢
        have hst : stT m.sp (mi, pos) Z k = (a1, f1) := Prod.ext ha1 hst2
        have hbk := begL_at2 (sp := m.sp) (s0 := (mi, pos)) hlt hzt
        rw [HBL.out, hg, hst] at hbk
        have hbg : begT m.sp (a1, f1) (t, v) = g := (Option.some.inj hbk).symm
        obtain ⟨cq, hcq⟩ : ∃ c, ceilQ u m.sp = c := ⟨_, rfl⟩
        have hc0 := ceilQ_in ⟨u1, u2⟩ sp1
        rw [hcq] at hc0
        obtain ⟨s1, s2⟩ := hc0
        have hgf : (if a1 + cq < t.fr then t.fr else a1 + cq) = g := by have h := hbg; unfold begT at h; simp only at h; rwa [hu, hcq] at h
        have hlk := HNL.out k _ hlt hzt
        have hstp : stepT m.sp (stT m.sp (mi, pos) Z k) (t, v) = (g + t.dw, v) := by rw [hst]; unfold stepT; rw [hbg]
        unfold lateE at hlk
        rw [hstp] at hlk
        have hlt2 : ¬ t.to < g + t.dw := fun h => by rw [if_pos h] at hlk; exact absurd hlk (by decide)
        have htd := (tgt_right (tour_each HZ0.out ht).1).2.2.2.2.2
        have hg1 : a1 + cq ≤ g ∧ t.fr ≤ g := by rw [← hgf]; split <;> omega
        obtain ⟨gg1, gg2⟩ := hg1
        have e3 := IntWalk.i64_in (a1 + cq) ⟨by omega, by omega⟩
        have e4 := IntWalk.i64_in (g + t.dw) ⟨by omega, by omega⟩
        have j1 : decide (g < a1 + cq) = false := decide_eq_false (by omega)
        have j2 : decide (g < t.fr) = false := decide_eq_false (by omega)
        have j3 : decide (t.to < g + t.dw) = false := decide_eq_false (by omega)
        have hnx : (stT m.sp (mi, pos) Z (k + 1)).1 = g + t.dw := by rw [stT_succ hzt, hstp]
        have HGF := Lib.hid hgf
        have HCQ := Lib.hid hcq
        have HNX := Lib.hid hnx
        have C0_7 := Lib.hid c7
        clear ha1 hst hst2 hbk hbg hcq hgf hlk hstp hlt2 hnx hg c7 hzl hlp
        have HZT := Lib.hid hzt
        have HU_ := Lib.hid hu
        have HA := Lib.hid hA
        have HTA := Lib.hid hTA
        have HTO := Lib.hid hto
        have HHAS := Lib.hid hhas
        have HSM := Lib.hid hsm
        have HQL := Lib.hid hql
        have HMT := Lib.hid hmtd
        have HLAST := Lib.hid hlast
        have C1_7 := Lib.hid c0
        have C2_7 := Lib.hid c1
        have C3_7 := Lib.hid c2
        have C4_7 := Lib.hid c3
        have C5_7 := Lib.hid c4
        have C6_7 := Lib.hid c5
        have C7_7 := Lib.hid c6
        clear c0 c1 c2 c3 c4 c5 c6 ht hK hzt hu hA hTA hto hhas hsm hql hmtd hv hPv te1 te2 hok hiff hlast hf1
        go_wp2
        refine Fx.regionM (fun W g f w' => Kp (PfR ql L 10) W g w') (fun i (x : Pick2) => .tuple #[.slice x.1.1 ql x.1.2, .int .i64 (0)]) (by kernel_rfl) ?_ ?_
        · intro f hf0
          exact Kp.start
        first
        | (refine Fx.WM.skip 0 (by rfl) (by kernel_rfl) (by kernel_rfl) (by kernel_rfl) (by rfl) (fun g f w h => h) ?_; simp only [Act.put, List.setIfInBounds_toArray, List.set_cons_zero, List.set_cons_succ])
        | (refine Fx.WM.val_ 0 ?_ (by rfl) (by kernel_rfl) (by kernel_rfl) (by kernel_rfl) (by rfl) ?_ (fun g f w h => h) ?_
           rotate_left
           · intro g f w' hx hD hk
             obtain hkp := id hD
             have yb := K0_7.out.below hkp.bel l0_7
             have y0_0 := yb.cell 0
             have y0_1 := yb.cell 1
             have y0_2 := yb.cell 2
             have y0_3 := yb.cell 3
             have y0_4 := yb.cell 4
             have y0_5 := yb.cell 5
             have y0_6 := yb.cell 6
             have y0_7 := yb.cell 7
             have y0_8 := yb.cell 8
             have y0_9 := yb.cell 9
             clear yb
             clear hx hk hD hkp
             go_simp
             try rfl
           simp only [Act.put, List.setIfInBounds_toArray, List.set_cons_zero, List.set_cons_succ])
        first
        | (refine Fx.WM.skip 1 (by rfl) (by kernel_rfl) (by kernel_rfl) (by kernel_rfl) (by rfl) (fun g f w h => h) ?_; simp only [Act.put, List.setIfInBounds_toArray, List.set_cons_zero, List.set_cons_succ])
        | (refine Fx.WM.val_ 1 ?_ (by rfl) (by kernel_rfl) (by kernel_rfl) (by kernel_rfl) (by rfl) ?_ (fun g f w h => h) ?_
           rotate_left
           · intro g f w' hx hD hk
             obtain hkp := id hD
             have yb := K0_7.out.below hkp.bel l0_7
             have y0_0 := yb.cell 0
             have y0_1 := yb.cell 1
             have y0_2 := yb.cell 2
             have y0_3 := yb.cell 3
             have y0_4 := yb.cell 4
             have y0_5 := yb.cell 5
             have y0_6 := yb.cell 6
             have y0_7 := yb.cell 7
             have y0_8 := yb.cell 8
             have y0_9 := yb.cell 9
             clear yb
             clear hx hk hD hkp
             go_simp
             try rfl
           simp only [Act.put, List.setIfInBounds_toArray, List.set_cons_zero, List.set_cons_succ])
        first
        | (refine Fx.WM.skip 2 (by rfl) (by kernel_rfl) (by kernel_rfl) (by kernel_rfl) (by rfl) (fun g f w h => h) ?_; simp only [Act.put, List.setIfInBounds_toArray, List.set_cons_zero, List.set_cons_succ])
        | (refine Fx.WM.val_ 2 ?_ (by rfl) (by kernel_rfl) (by kernel_rfl) (by kernel_rfl) (by rfl) ?_ (fun g f w h => h) ?_
           rotate_left
           · intro g f w' hx hD hk
             obtain hkp := id hD
             have yb := K0_7.out.below hkp.bel l0_7
             have y0_0 := yb.cell 0
             have y0_1 := yb.cell 1
             have y0_2 := yb.cell 2
             have y0_3 := yb.cell 3
             have y0_4 := yb.cell 4
             have y0_5 := yb.cell 5
             have y0_6 := yb.cell 6
             have y0_7 := yb.cell 7
             have y0_8 := yb.cell 8
             have y0_9 := yb.cell 9
             clear yb
             clear hx hk hD hkp
             go_simp
             try rfl
           simp only [Act.put, List.setIfInBounds_toArray, List.set_cons_zero, List.set_cons_succ])
        first
        | (refine Fx.WM.skip 3 (by rfl) (by kernel_rfl) (by kernel_rfl) (by kernel_rfl) (by rfl) (fun g f w h => h) ?_; simp only [Act.put, List.setIfInBounds_toArray, List.set_cons_zero, List.set_cons_succ])
        | (refine Fx.WM.val_ 3 ?_ (by rfl) (by kernel_rfl) (by kernel_rfl) (by kernel_rfl) (by rfl) ?_ (fun g f w h => h) ?_
           rotate_left
           · intro g f w' hx hD hk
             obtain hkp := id hD
             have yb := K0_7.out.below hkp.bel l0_7
             have y0_0 := yb.cell 0
             have y0_1 := yb.cell 1
             have y0_2 := yb.cell 2
             have y0_3 := yb.cell 3
             have y0_4 := yb.cell 4
             have y0_5 := yb.cell 5
             have y0_6 := yb.cell 6
             have y0_7 := yb.cell 7
             have y0_8 := yb.cell 8
             have y0_9 := yb.cell 9
             clear yb
             clear hx hk hD hkp
             go_simp
             try rfl
           simp only [Act.put, List.setIfInBounds_toArray, List.set_cons_zero, List.set_cons_succ])
        first
        | (refine Fx.WM.skip 4 (by rfl) (by kernel_rfl) (by kernel_rfl) (by kernel_rfl) (by rfl) (fun g f w h => h) ?_; simp only [Act.put, List.setIfInBounds_toArray, List.set_cons_zero, List.set_cons_succ])
        | (refine Fx.WM.val_ 4 ?_ (by rfl) (by kernel_rfl) (by kernel_rfl) (by kernel_rfl) (by rfl) ?_ (fun g f w h => h) ?_
           rotate_left
           · intro g f w' hx hD hk
             obtain hkp := id hD
             have yb := K0_7.out.below hkp.bel l0_7
             have y0_0 := yb.cell 0
             have y0_1 := yb.cell 1
             have y0_2 := yb.cell 2
             have y0_3 := yb.cell 3
             have y0_4 := yb.cell 4
             have y0_5 := yb.cell 5
             have y0_6 := yb.cell 6
             have y0_7 := yb.cell 7
             have y0_8 := yb.cell 8
             have y0_9 := yb.cell 9
             clear yb
             clear hx hk hD hkp
             go_simp
             try rfl
           simp only [Act.put, List.setIfInBounds_toArray, List.set_cons_zero, List.set_cons_succ])
        first
        | (refine Fx.WM.skip 5 (by rfl) (by kernel_rfl) (by kernel_rfl) (by kernel_rfl) (by rfl) (fun g f w h => h) ?_; simp only [Act.put, List.setIfInBounds_toArray, List.set_cons_zero, List.set_cons_succ])
        | (refine Fx.WM.val_ 5 ?_ (by rfl) (by kernel_rfl) (by kernel_rfl) (by kernel_rfl) (by rfl) ?_ (fun g f w h => h) ?_
           rotate_left
           · intro g f w' hx hD hk
             obtain hkp := id hD
             have yb := K0_7.out.below hkp.bel l0_7
             have y0_0 := yb.cell 0
             have y0_1 := yb.cell 1
             have y0_2 := yb.cell 2
             have y0_3 := yb.cell 3
             have y0_4 := yb.cell 4
             have y0_5 := yb.cell 5
             have y0_6 := yb.cell 6
             have y0_7 := yb.cell 7
             have y0_8 := yb.cell 8
             have y0_9 := yb.cell 9
             clear yb
             clear hx hk hD hkp
             go_simp
             try rfl
           simp only [Act.put, List.setIfInBounds_toArray, List.set_cons_zero, List.set_cons_succ])
        first
        | (refine Fx.WM.skip 6 (by rfl) (by kernel_rfl) (by kernel_rfl) (by kernel_rfl) (by rfl) (fun g f w h => h) ?_; simp only [Act.put, List.setIfInBounds_toArray, List.set_cons_zero, List.set_cons_succ])
        | (refine Fx.WM.val_ 6 ?_ (by rfl) (by kernel_rfl) (by kernel_rfl) (by kernel_rfl) (by rfl) ?_ (fun g f w h => h) ?_
           rotate_left
           · intro g f w' hx hD hk
             obtain hkp := id hD
             have yb := K0_7.out.below hkp.bel l0_7
             have y0_0 := yb.cell 0
             have y0_1 := yb.cell 1
             have y0_2 := yb.cell 2
             have y0_3 := yb.cell 3
             have y0_4 := yb.cell 4
             have y0_5 := yb.cell 5
             have y0_6 := yb.cell 6
             have y0_7 := yb.cell 7
             have y0_8 := yb.cell 8
             have y0_9 := yb.cell 9
             clear yb
             have yc0 := (hkp.bel.cell (p := ⟨tk, to_ + k, none⟩) (by have := htk; show tk < _; omega)).trans C0_7.out
             have yc1 := (hkp.bel.cell (p := ⟨xb, xo + k * 6, none⟩) (by have := hxb; show xb < _; omega)).trans C1_7.out
             have yc2 := (hkp.bel.cell (p := ⟨xb, xo + k * 6 + 1, none⟩) (by have := hxb; show xb < _; omega)).trans C2_7.out
             have yc3 := (hkp.bel.cell (p := ⟨xb, xo + k * 6 + 2, none⟩) (by have := hxb; show xb < _; omega)).trans C3_7.out
             have yc4 := (hkp.bel.cell (p := ⟨xb, xo + k * 6 + 3, none⟩) (by have := hxb; show xb < _; omega)).trans C4_7.out
             have yc5 := (hkp.bel.cell (p := ⟨xb, xo + k * 6 + 4, none⟩) (by have := hxb; show xb < _; omega)).trans C5_7.out
             have yc6 := (hkp.bel.cell (p := ⟨xb, xo + k * 6 + 5, none⟩) (by have := hxb; show xb < _; omega)).trans C6_7.out
             have yc7 := (hkp.bel.cell (p := ⟨yb, yo + k, none⟩) (by have := hyb; show yb < _; omega)).trans C7_7.out
             clear hx hk hD hkp
             go_simp
             try rfl
           simp only [Act.put, List.setIfInBounds_toArray, List.set_cons_zero, List.set_cons_succ])
        first
        | (refine Fx.WM.skip 7 (by rfl) (by kernel_rfl) (by kernel_rfl) (by kernel_rfl) (by rfl) (fun g f w h => h) ?_; simp only [Act.put, List.setIfInBounds_toArray, List.set_cons_zero, List.set_cons_succ])
        | (refine Fx.WM.val_ 7 ?_ (by rfl) (by kernel_rfl) (by kernel_rfl) (by kernel_rfl) (by rfl) ?_ (fun g f w h => h) ?_
           rotate_left
           · intro g f w' hx hD hk
             obtain hkp := id hD
             have yb := K0_7.out.below hkp.bel l0_7
             have y0_0 := yb.cell 0
             have y0_1 := yb.cell 1
             have y0_2 := yb.cell 2
             have y0_3 := yb.cell 3
             have y0_4 := yb.cell 4
             have y0_5 := yb.cell 5
             have y0_6 := yb.cell 6
             have y0_7 := yb.cell 7
             have y0_8 := yb.cell 8
             have y0_9 := yb.cell 9
             clear yb
             clear hx hk hD hkp
             go_simp
             try rfl
           simp only [Act.put, List.setIfInBounds_toArray, List.set_cons_zero, List.set_cons_succ])
        first
        | (refine Fx.WM.skip 8 (by rfl) (by kernel_rfl) (by kernel_rfl) (by kernel_rfl) (by rfl) (fun g f w h => h) ?_; simp only [Act.put, List.setIfInBounds_toArray, List.set_cons_zero, List.set_cons_succ])
        | (refine Fx.WM.val_ 8 ?_ (by rfl) (by kernel_rfl) (by kernel_rfl) (by kernel_rfl) (by rfl) ?_ (fun g f w h => h) ?_
           rotate_left
           · intro g f w' hx hD hk
             obtain hkp := id hD
             have yb := K0_7.out.below hkp.bel l0_7
             have y0_0 := yb.cell 0
             have y0_1 := yb.cell 1
             have y0_2 := yb.cell 2
             have y0_3 := yb.cell 3
             have y0_4 := yb.cell 4
             have y0_5 := yb.cell 5
             have y0_6 := yb.cell 6
             have y0_7 := yb.cell 7
             have y0_8 := yb.cell 8
             have y0_9 := yb.cell 9
             clear yb
             clear hx hk hD hkp
             go_simp
             try rfl
           simp only [Act.put, List.setIfInBounds_toArray, List.set_cons_zero, List.set_cons_succ])
        first
        | (refine Fx.WM.skip 9 (by rfl) (by kernel_rfl) (by kernel_rfl) (by kernel_rfl) (by rfl) (fun g f w h => h) ?_; simp only [Act.put, List.setIfInBounds_toArray, List.set_cons_zero, List.set_cons_succ])
        | (refine Fx.WM.val_ 9 ?_ (by rfl) (by kernel_rfl) (by kernel_rfl) (by kernel_rfl) (by rfl) ?_ (fun g f w h => h) ?_
           rotate_left
           · intro g f w' hx hD hk
             obtain hkp := id hD
             have yb := K0_7.out.below hkp.bel l0_7
             have y0_0 := yb.cell 0
             have y0_1 := yb.cell 1
             have y0_2 := yb.cell 2
             have y0_3 := yb.cell 3
             have y0_4 := yb.cell 4
             have y0_5 := yb.cell 5
             have y0_6 := yb.cell 6
             have y0_7 := yb.cell 7
             have y0_8 := yb.cell 8
             have y0_9 := yb.cell 9
             clear yb
             clear hx hk hD hkp
             go_simp
             try rfl
           simp only [Act.put, List.setIfInBounds_toArray, List.set_cons_zero, List.set_cons_succ])
        refine Fx.WM.choose 10 (by rfl) (by kernel_rfl) (by rfl) ?_ ?_
        · skip
          refine Fx.Chooses.call ?_ ?_ (by rfl) ?_ ?_
          rotate_left 2
          · intro w'
            go_simp
            refine ⟨?_, ?_⟩ <;> rfl
          · intro f w' hD hk
            exact (pTurns_ok m t day X Y L 0 ql HA.out HTA.out HQL.out HMT.out w' (R1_7.out.lay hD.bel) htl).mono fun e w'' ⟨A', c', he, hb, hr⟩ => ⟨((A', c'), (none, 0)), he, hD.choose PfR.stb hb 10 _ fun _ => hr⟩
        intro x
        simp only [Act.put, List.setIfInBounds_toArray, List.set_cons_zero, List.set_cons_succ]
        first
        | (refine Fx.WM.skip 11 (by rfl) (by kernel_rfl) (by kernel_rfl) (by kernel_rfl) (by rfl) (fun g f w h => h) ?_; simp only [Act.put, List.setIfInBounds_toArray, List.set_cons_zero, List.set_cons_succ])
        | (refine Fx.WM.val_ 11 ?_ (by rfl) (by kernel_rfl) (by kernel_rfl) (by kernel_rfl) (by rfl) ?_ (fun g f w h => h) ?_
           rotate_left
           · intro g f w' hx hD hk
             obtain hkp := id hD
             clear hx hk hD hkp
             go_simp
             try rfl
           simp only [Act.put, List.setIfInBounds_toArray, List.set_cons_zero, List.set_cons_succ])
        first
        | (refine Fx.WM.skip 12 (by rfl) (by kernel_rfl) (by kernel_rfl) (by kernel_rfl) (by rfl) (fun g f w h => h) ?_; simp only [Act.put, List.setIfInBounds_toArray, List.set_cons_zero, List.set_cons_succ])
        | (refine Fx.WM.val_ 12 ?_ (by rfl) (by kernel_rfl) (by kernel_rfl) (by kernel_rfl) (by rfl) ?_ (fun g f w h => h) ?_
           rotate_left
           · intro g f w' hx hD hk
             obtain hkp := id hD
             clear hx hk hD hkp
             go_simp
             try rfl
           simp only [Act.put, List.setIfInBounds_toArray, List.set_cons_zero, List.set_cons_succ])
        first
        | (refine Fx.WM.skip 13 (by rfl) (by kernel_rfl) (by kernel_rfl) (by kernel_rfl) (by rfl) (fun g f w h => h) ?_; simp only [Act.put, List.setIfInBounds_toArray, List.set_cons_zero, List.set_cons_succ])
        | (refine Fx.WM.val_ 13 ?_ (by rfl) (by kernel_rfl) (by kernel_rfl) (by kernel_rfl) (by rfl) ?_ (fun g f w h => h) ?_
           rotate_left
           · intro g f w' hx hD hk
             obtain hkp := id hD
             clear hx hk hD hkp
             go_simp
             try rfl
           simp only [Act.put, List.setIfInBounds_toArray, List.set_cons_zero, List.set_cons_succ])
        first
        | (refine Fx.WM.skip 14 (by rfl) (by kernel_rfl) (by kernel_rfl) (by kernel_rfl) (by rfl) (fun g f w h => h) ?_; simp only [Act.put, List.setIfInBounds_toArray, List.set_cons_zero, List.set_cons_succ])
        | (refine Fx.WM.val_ 14 ?_ (by rfl) (by kernel_rfl) (by kernel_rfl) (by kernel_rfl) (by rfl) ?_ (fun g f w h => h) ?_
           rotate_left
           · intro g f w' hx hD hk
             obtain hkp := id hD
             clear hx hk hD hkp
             go_simp
             try rfl
           simp only [Act.put, List.setIfInBounds_toArray, List.set_cons_zero, List.set_cons_succ])
        first
        | (refine Fx.WM.skip 15 (by rfl) (by kernel_rfl) (by kernel_rfl) (by kernel_rfl) (by rfl) (fun g f w h => h) ?_; simp only [Act.put, List.setIfInBounds_toArray, List.set_cons_zero, List.set_cons_succ])
        | (refine Fx.WM.val_ 15 ?_ (by rfl) (by kernel_rfl) (by kernel_rfl) (by kernel_rfl) (by rfl) ?_ (fun g f w h => h) ?_
           rotate_left
           · intro g f w' hx hD hk
             obtain hkp := id hD
             clear hx hk hD hkp
             go_simp
             try rfl
           simp only [Act.put, List.setIfInBounds_toArray, List.set_cons_zero, List.set_cons_succ])
        refine Fx.WM.nil (by kernel_rfl) ?_
        intro wz hkp
        have hb := hkp.bel
        have hLr := hkp.has 10 x (by rfl) rfl
        clear hkp
        obtain ⟨w8, hnm⟩ : ∃ z : World, z = wz := ⟨_, rfl⟩
        subst hnm
        have HB8 := Lib.hid (show Below w.heap.size w w8 from step_below hb (by repeat' (first | exact Below.refl _ _ | exact HB7.out | refine below_drewN ?_ _ | refine Below.drew ?_ | refine Below.alloc ?_ (by first | omega | (simp; done) | (simp; omega) | (simp [World.setCell]; omega)) _ | refine Below.setCell ?_ (by first | omega | (simp; done) | (simp; omega)) _ | assumption)))
        have K0_8 := Lib.hid (step_blk hb (show Blk _ (w.heap.size) 62 #[.int .i64 (m.ls), .int .i64 (m.ms), .int .i64 (m.lo), .int .i64 (m.hi), .int .i64 (m.sp), .slice m.A1 m.n1 m.c1, .slice m.A2 m.n2 m.c2, .slice (some ⟨xb, xo, none⟩) n c, .int .i64 (day), .int .i64 (pos)] by repeat' (first | exact K0_7.out | exact K1_7.out | exact Blk.at_ _ (by first | rfl | (simp; done) | (simp; omega)) _ _ | refine Blk.drewN ?_ _ | refine Blk.drew ?_ | refine Blk.alloc ?_ _ | refine Blk.far ?_ (by first | omega | (simp; done) | (simp; omega)) _ | assumption)))
        have K1_8 := Lib.hid (step_blk hb (show Blk _ (w4.heap.size) 67 #[.slice (some ⟨yb, yo, none⟩) n ct, .slice Xp n cp] by repeat' (first | exact K0_7.out | exact K1_7.out | exact Blk.at_ _ (by first | rfl | (simp; done) | (simp; omega)) _ _ | refine Blk.drewN ?_ _ | refine Blk.drew ?_ | refine Blk.alloc ?_ _ | refine Blk.far ?_ (by first | omega | (simp; done) | (simp; omega)) _ | assumption)))
        have C0_8 := Lib.hid (step_cell hb (show World.cell? _ ⟨tk, to_ + k, none⟩ = some (.int .i64 (g)) by first | exact C0_7.out | go_simp) (by have := htk; first | omega | (simp; omega)))
        have C1_8 := Lib.hid (step_cell hb (show World.cell? _ ⟨xb, xo + k * 6, none⟩ = some (.string t.name) by first | exact C1_7.out | go_simp) (by have := hxb; first | omega | (simp; omega)))
        have C2_8 := Lib.hid (step_cell hb (show World.cell? _ ⟨xb, xo + k * 6 + 1, none⟩ = some (.int .i64 (t.az)) by first | exact C2_7.out | go_simp) (by have := hxb; first | omega | (simp; omega)))
        have C3_8 := Lib.hid (step_cell hb (show World.cell? _ ⟨xb, xo + k * 6 + 2, none⟩ = some (.int .i64 (t.ht)) by first | exact C3_7.out | go_simp) (by have := hxb; first | omega | (simp; omega)))
        have C4_8 := Lib.hid (step_cell hb (show World.cell? _ ⟨xb, xo + k * 6 + 3, none⟩ = some (.int .i64 (t.fr)) by first | exact C4_7.out | go_simp) (by have := hxb; first | omega | (simp; omega)))
        have C5_8 := Lib.hid (step_cell hb (show World.cell? _ ⟨xb, xo + k * 6 + 4, none⟩ = some (.int .i64 (t.to)) by first | exact C5_7.out | go_simp) (by have := hxb; first | omega | (simp; omega)))
        have C6_8 := Lib.hid (step_cell hb (show World.cell? _ ⟨xb, xo + k * 6 + 5, none⟩ = some (.int .i64 (t.dw)) by first | exact C6_7.out | go_simp) (by have := hxb; first | omega | (simp; omega)))
        have C7_8 := Lib.hid (step_cell hb (show World.cell? _ ⟨yb, yo + k, none⟩ = some (.int .i64 (K)) by first | exact C7_7.out | go_simp) (by have := hyb; first | omega | (simp; omega)))
        have hL8 := Lib.hid (show Below w7.heap.size w7 _ from reads_mid hb (by repeat' (first | exact Below.refl _ _ | refine below_drewN ?_ _ | refine Below.drew ?_ | refine Below.alloc ?_ (by first | omega | (simp; done) | (simp; omega) | (simp [World.setCell]; omega)) _ | refine Below.setCell ?_ (by first | omega | (simp; done) | (simp; omega)) _)))
        have R0_8 := Lib.hid (reads_lay hb hL8.out R0_7.out)
        have R1_8 := Lib.hid (mnt_lay hb hL8.out R1_7.out)
        have R2_8 := Lib.hid (reads_lay hb hL8.out R2_7.out)
        have R3_8 := Lib.hid (reads_lay hb hL8.out R3_7.out)
        clear hL8 R0_7 R1_7 R2_7 R3_7
        have HA8 := Lib.hid (step_below hb HA7.out)
        clear HA7
        have hz8 := hb.size
        try simp only [World.size_alloc, World.drewN, World.drew] at hz8
        clear hb K0_7 K1_7 z0_0_7 z0_1_7 z0_2_7 z0_3_7 z0_4_7 z0_5_7 z0_6_7 z0_7_7 z0_8_7 z0_9_7 l0_7 z1_0_7 z1_1_7 l1_7
        have l0_8 : w.heap.size < w8.heap.size := K0_8.out.lt
        have z0_0_8 : w8.cell? ⟨w.heap.size, 0, none⟩ = some (.int .i64 (m.ls)) := K0_8.out.cell 0
        have z0_1_8 : w8.cell? ⟨w.heap.size, 1, none⟩ = some (.int .i64 (m.ms)) := K0_8.out.cell 1
        have z0_2_8 : w8.cell? ⟨w.heap.size, 2, none⟩ = some (.int .i64 (m.lo)) := K0_8.out.cell 2
        have z0_3_8 : w8.cell? ⟨w.heap.size, 3, none⟩ = some (.int .i64 (m.hi)) := K0_8.out.cell 3
        have z0_4_8 : w8.cell? ⟨w.heap.size, 4, none⟩ = some (.int .i64 (m.sp)) := K0_8.out.cell 4
        have z0_5_8 : w8.cell? ⟨w.heap.size, 5, none⟩ = some (.slice m.A1 m.n1 m.c1) := K0_8.out.cell 5
        have z0_6_8 : w8.cell? ⟨w.heap.size, 6, none⟩ = some (.slice m.A2 m.n2 m.c2) := K0_8.out.cell 6
        have z0_7_8 : w8.cell? ⟨w.heap.size, 7, none⟩ = some (.slice (some ⟨xb, xo, none⟩) n c) := K0_8.out.cell 7
        have z0_8_8 : w8.cell? ⟨w.heap.size, 8, none⟩ = some (.int .i64 (day)) := K0_8.out.cell 8
        have z0_9_8 : w8.cell? ⟨w.heap.size, 9, none⟩ = some (.int .i64 (pos)) := K0_8.out.cell 9
        have l1_8 : w4.heap.size < w8.heap.size := K1_8.out.lt
        have z1_0_8 : w8.cell? ⟨w4.heap.size, 0, none⟩ = some (.slice (some ⟨yb, yo, none⟩) n ct) := K1_8.out.cell 0
        have z1_1_8 : w8.cell? ⟨w4.heap.size, 1, none⟩ = some (.slice Xp n cp) := K1_8.out.cell 1
        have R4_8 := Lib.hid hLr
        clear hLr
        go_wp2
        apply share (Fact := fun (_ : Nat) (z : Pick2) (wz : World) => ∃ bx, z.1.1 = some ⟨bx, 0, none⟩ ∧ w8.heap.size ≤ bx ∧ Below w8.heap.size w8 wz ∧ Blk wz bx 60 #[.int .i64 X, .int .i64 Y])
        · intro key
          refine Fx.regionM (fun W g f w' => KpS (PfR 0 [] 98) 60 (.int .i64 (X)) (.int .i64 (Y)) 14 15 W g f w') (fun i (x : Pick2) => if i = 14 then .pointer x.1.1 else undef) (by kernel_rfl) ?_ ?_
          · intro f hf0
            exact KpS.start
          first
          | (refine Fx.WM.skip 0 (by rfl) (by kernel_rfl) (by kernel_rfl) (by kernel_rfl) (by rfl) (fun g f w h => h.same (by decide)) ?_; simp only [Act.put, List.setIfInBounds_toArray, List.set_cons_zero, List.set_cons_succ])
          | (refine Fx.WM.val_ 0 ?_ (by rfl) (by kernel_rfl) (by kernel_rfl) (by kernel_rfl) (by rfl) ?_ (fun g f w h => h.same (by decide)) ?_
             rotate_left
             · intro g f w' hx hD hk
               obtain hkp := id hD
               have yb := K0_8.out.below hkp.bel l0_8
               have y0_0 := yb.cell 0
               have y0_1 := yb.cell 1
               have y0_2 := yb.cell 2
               have y0_3 := yb.cell 3
               have y0_4 := yb.cell 4
               have y0_5 := yb.cell 5
               have y0_6 := yb.cell 6
               have y0_7 := yb.cell 7
               have y0_8 := yb.cell 8
               have y0_9 := yb.cell 9
               clear yb
               clear hx hk hD hkp
               go_simp
               try rfl
             simp only [Act.put, List.setIfInBounds_toArray, List.set_cons_zero, List.set_cons_succ])
          first
          | (refine Fx.WM.skip 1 (by rfl) (by kernel_rfl) (by kernel_rfl) (by kernel_rfl) (by rfl) (fun g f w h => h.same (by decide)) ?_; simp only [Act.put, List.setIfInBounds_toArray, List.set_cons_zero, List.set_cons_succ])
          | (refine Fx.WM.val_ 1 ?_ (by rfl) (by kernel_rfl) (by kernel_rfl) (by kernel_rfl) (by rfl) ?_ (fun g f w h => h.same (by decide)) ?_
             rotate_left
             · intro g f w' hx hD hk
               obtain hkp := id hD
               have yb := K0_8.out.below hkp.bel l0_8
               have y0_0 := yb.cell 0
               have y0_1 := yb.cell 1
               have y0_2 := yb.cell 2
               have y0_3 := yb.cell 3
               have y0_4 := yb.cell 4
               have y0_5 := yb.cell 5
               have y0_6 := yb.cell 6
               have y0_7 := yb.cell 7
               have y0_8 := yb.cell 8
               have y0_9 := yb.cell 9
               clear yb
               clear hx hk hD hkp
               go_simp
               try rfl
             simp only [Act.put, List.setIfInBounds_toArray, List.set_cons_zero, List.set_cons_succ])
          first
          | (refine Fx.WM.skip 2 (by rfl) (by kernel_rfl) (by kernel_rfl) (by kernel_rfl) (by rfl) (fun g f w h => h.same (by decide)) ?_; simp only [Act.put, List.setIfInBounds_toArray, List.set_cons_zero, List.set_cons_succ])
          | (refine Fx.WM.val_ 2 ?_ (by rfl) (by kernel_rfl) (by kernel_rfl) (by kernel_rfl) (by rfl) ?_ (fun g f w h => h.same (by decide)) ?_
             rotate_left
             · intro g f w' hx hD hk
               obtain hkp := id hD
               have yb := K0_8.out.below hkp.bel l0_8
               have y0_0 := yb.cell 0
               have y0_1 := yb.cell 1
               have y0_2 := yb.cell 2
               have y0_3 := yb.cell 3
               have y0_4 := yb.cell 4
               have y0_5 := yb.cell 5
               have y0_6 := yb.cell 6
               have y0_7 := yb.cell 7
               have y0_8 := yb.cell 8
               have y0_9 := yb.cell 9
               clear yb
               clear hx hk hD hkp
               go_simp
               try rfl
             simp only [Act.put, List.setIfInBounds_toArray, List.set_cons_zero, List.set_cons_succ])
          first
          | (refine Fx.WM.skip 3 (by rfl) (by kernel_rfl) (by kernel_rfl) (by kernel_rfl) (by rfl) (fun g f w h => h.same (by decide)) ?_; simp only [Act.put, List.setIfInBounds_toArray, List.set_cons_zero, List.set_cons_succ])
          | (refine Fx.WM.val_ 3 ?_ (by rfl) (by kernel_rfl) (by kernel_rfl) (by kernel_rfl) (by rfl) ?_ (fun g f w h => h.same (by decide)) ?_
             rotate_left
             · intro g f w' hx hD hk
               obtain hkp := id hD
               have yb := K0_8.out.below hkp.bel l0_8
               have y0_0 := yb.cell 0
               have y0_1 := yb.cell 1
               have y0_2 := yb.cell 2
               have y0_3 := yb.cell 3
               have y0_4 := yb.cell 4
               have y0_5 := yb.cell 5
               have y0_6 := yb.cell 6
               have y0_7 := yb.cell 7
               have y0_8 := yb.cell 8
               have y0_9 := yb.cell 9
               clear yb
               clear hx hk hD hkp
               go_simp
               try rfl
             simp only [Act.put, List.setIfInBounds_toArray, List.set_cons_zero, List.set_cons_succ])
          first
          | (refine Fx.WM.skip 4 (by rfl) (by kernel_rfl) (by kernel_rfl) (by kernel_rfl) (by rfl) (fun g f w h => h.same (by decide)) ?_; simp only [Act.put, List.setIfInBounds_toArray, List.set_cons_zero, List.set_cons_succ])
          | (refine Fx.WM.val_ 4 ?_ (by rfl) (by kernel_rfl) (by kernel_rfl) (by kernel_rfl) (by rfl) ?_ (fun g f w h => h.same (by decide)) ?_
             rotate_left
             · intro g f w' hx hD hk
               obtain hkp := id hD
               have yb := K0_8.out.below hkp.bel l0_8
               have y0_0 := yb.cell 0
               have y0_1 := yb.cell 1
               have y0_2 := yb.cell 2
               have y0_3 := yb.cell 3
               have y0_4 := yb.cell 4
               have y0_5 := yb.cell 5
               have y0_6 := yb.cell 6
               have y0_7 := yb.cell 7
               have y0_8 := yb.cell 8
               have y0_9 := yb.cell 9
               clear yb
               clear hx hk hD hkp
               go_simp
               try rfl
             simp only [Act.put, List.setIfInBounds_toArray, List.set_cons_zero, List.set_cons_succ])
          first
          | (refine Fx.WM.skip 5 (by rfl) (by kernel_rfl) (by kernel_rfl) (by kernel_rfl) (by rfl) (fun g f w h => h.same (by decide)) ?_; simp only [Act.put, List.setIfInBounds_toArray, List.set_cons_zero, List.set_cons_succ])
          | (refine Fx.WM.val_ 5 ?_ (by rfl) (by kernel_rfl) (by kernel_rfl) (by kernel_rfl) (by rfl) ?_ (fun g f w h => h.same (by decide)) ?_
             rotate_left
             · intro g f w' hx hD hk
               obtain hkp := id hD
               have yb := K0_8.out.below hkp.bel l0_8
               have y0_0 := yb.cell 0
               have y0_1 := yb.cell 1
               have y0_2 := yb.cell 2
               have y0_3 := yb.cell 3
               have y0_4 := yb.cell 4
               have y0_5 := yb.cell 5
               have y0_6 := yb.cell 6
               have y0_7 := yb.cell 7
               have y0_8 := yb.cell 8
               have y0_9 := yb.cell 9
               clear yb
               clear hx hk hD hkp
               go_simp
               try rfl
             simp only [Act.put, List.setIfInBounds_toArray, List.set_cons_zero, List.set_cons_succ])
          first
          | (refine Fx.WM.skip 6 (by rfl) (by kernel_rfl) (by kernel_rfl) (by kernel_rfl) (by rfl) (fun g f w h => h.same (by decide)) ?_; simp only [Act.put, List.setIfInBounds_toArray, List.set_cons_zero, List.set_cons_succ])
          | (refine Fx.WM.val_ 6 ?_ (by rfl) (by kernel_rfl) (by kernel_rfl) (by kernel_rfl) (by rfl) ?_ (fun g f w h => h.same (by decide)) ?_
             rotate_left
             · intro g f w' hx hD hk
               obtain hkp := id hD
               have yb := K0_8.out.below hkp.bel l0_8
               have y0_0 := yb.cell 0
               have y0_1 := yb.cell 1
               have y0_2 := yb.cell 2
               have y0_3 := yb.cell 3
               have y0_4 := yb.cell 4
               have y0_5 := yb.cell 5
               have y0_6 := yb.cell 6
               have y0_7 := yb.cell 7
               have y0_8 := yb.cell 8
               have y0_9 := yb.cell 9
               clear yb
               have yc0 := (hkp.bel.cell (p := ⟨tk, to_ + k, none⟩) (by have := htk; show tk < _; omega)).trans C0_8.out
               have yc1 := (hkp.bel.cell (p := ⟨xb, xo + k * 6, none⟩) (by have := hxb; show xb < _; omega)).trans C1_8.out
               have yc2 := (hkp.bel.cell (p := ⟨xb, xo + k * 6 + 1, none⟩) (by have := hxb; show xb < _; omega)).trans C2_8.out
               have yc3 := (hkp.bel.cell (p := ⟨xb, xo + k * 6 + 2, none⟩) (by have := hxb; show xb < _; omega)).trans C3_8.out
               have yc4 := (hkp.bel.cell (p := ⟨xb, xo + k * 6 + 3, none⟩) (by have := hxb; show xb < _; omega)).trans C4_8.out
               have yc5 := (hkp.bel.cell (p := ⟨xb, xo + k * 6 + 4, none⟩) (by have := hxb; show xb < _; omega)).trans C5_8.out
               have yc6 := (hkp.bel.cell (p := ⟨xb, xo + k * 6 + 5, none⟩) (by have := hxb; show xb < _; omega)).trans C6_8.out
               have yc7 := (hkp.bel.cell (p := ⟨yb, yo + k, none⟩) (by have := hyb; show yb < _; omega)).trans C7_8.out
               clear hx hk hD hkp
               go_simp
               try rfl
             simp only [Act.put, List.setIfInBounds_toArray, List.set_cons_zero, List.set_cons_succ])
          first
          | (refine Fx.WM.skip 7 (by rfl) (by kernel_rfl) (by kernel_rfl) (by kernel_rfl) (by rfl) (fun g f w h => h.same (by decide)) ?_; simp only [Act.put, List.setIfInBounds_toArray, List.set_cons_zero, List.set_cons_succ])
          | (refine Fx.WM.val_ 7 ?_ (by rfl) (by kernel_rfl) (by kernel_rfl) (by kernel_rfl) (by rfl) ?_ (fun g f w h => h.same (by decide)) ?_
             rotate_left
             · intro g f w' hx hD hk
               obtain hkp := id hD
               have yb := K0_8.out.below hkp.bel l0_8
               have y0_0 := yb.cell 0
               have y0_1 := yb.cell 1
               have y0_2 := yb.cell 2
               have y0_3 := yb.cell 3
               have y0_4 := yb.cell 4
               have y0_5 := yb.cell 5
               have y0_6 := yb.cell 6
               have y0_7 := yb.cell 7
               have y0_8 := yb.cell 8
               have y0_9 := yb.cell 9
               clear yb
               clear hx hk hD hkp
               go_simp
               try rfl
             simp only [Act.put, List.setIfInBounds_toArray, List.set_cons_zero, List.set_cons_succ])
          first
          | (refine Fx.WM.skip 8 (by rfl) (by kernel_rfl) (by kernel_rfl) (by kernel_rfl) (by rfl) (fun g f w h => h.same (by decide)) ?_; simp only [Act.put, List.setIfInBounds_toArray, List.set_cons_zero, List.set_cons_succ])
          | (refine Fx.WM.val_ 8 ?_ (by rfl) (by kernel_rfl) (by kernel_rfl) (by kernel_rfl) (by rfl) ?_ (fun g f w h => h.same (by decide)) ?_
             rotate_left
             · intro g f w' hx hD hk
               obtain hkp := id hD
               have yb := K0_8.out.below hkp.bel l0_8
               have y0_0 := yb.cell 0
               have y0_1 := yb.cell 1
               have y0_2 := yb.cell 2
               have y0_3 := yb.cell 3
               have y0_4 := yb.cell 4
               have y0_5 := yb.cell 5
               have y0_6 := yb.cell 6
               have y0_7 := yb.cell 7
               have y0_8 := yb.cell 8
               have y0_9 := yb.cell 9
               clear yb
               clear hx hk hD hkp
               go_simp
               try rfl
             simp only [Act.put, List.setIfInBounds_toArray, List.set_cons_zero, List.set_cons_succ])
          first
          | (refine Fx.WM.skip 9 (by rfl) (by kernel_rfl) (by kernel_rfl) (by kernel_rfl) (by rfl) (fun g f w h => h.same (by decide)) ?_; simp only [Act.put, List.setIfInBounds_toArray, List.set_cons_zero, List.set_cons_succ])
          | (refine Fx.WM.val_ 9 ?_ (by rfl) (by kernel_rfl) (by kernel_rfl) (by kernel_rfl) (by rfl) ?_ (fun g f w h => h.same (by decide)) ?_
             rotate_left
             · intro g f w' hx hD hk
               obtain hkp := id hD
               have yb := K0_8.out.below hkp.bel l0_8
               have y0_0 := yb.cell 0
               have y0_1 := yb.cell 1
               have y0_2 := yb.cell 2
               have y0_3 := yb.cell 3
               have y0_4 := yb.cell 4
               have y0_5 := yb.cell 5
               have y0_6 := yb.cell 6
               have y0_7 := yb.cell 7
               have y0_8 := yb.cell 8
               have y0_9 := yb.cell 9
               clear yb
               clear hx hk hD hkp
               go_simp
               try rfl
             simp only [Act.put, List.setIfInBounds_toArray, List.set_cons_zero, List.set_cons_succ])
          refine Fx.WM.call 10 (.tuple #[.agg #[.int .i64 (X), .int .i64 (Y)], .int .i64 (0)]) ?_ ?_ (by rfl) (by kernel_rfl) (by kernel_rfl) (by kernel_rfl) (by rfl) ?_ ?_ ?_
          rotate_left 2
          · intro w'
            go_simp
            refine ⟨?_, ?_⟩ <;> rfl
          · intro g f w' hx hD hk
            exact (pApparent_ok m t day X Y HA.out HMT.out w' (R1_8.out.lay hD.bel) htl).mono fun e w'' ⟨he, hw⟩ => ⟨he, hD.call PfR.stb (by decide) hw⟩
          simp only [Act.put, List.setIfInBounds_toArray, List.set_cons_zero, List.set_cons_succ]
          first
          | (refine Fx.WM.skip 11 (by rfl) (by kernel_rfl) (by kernel_rfl) (by kernel_rfl) (by rfl) (fun g f w h => h.same (by decide)) ?_; simp only [Act.put, List.setIfInBounds_toArray, List.set_cons_zero, List.set_cons_succ])
          | (refine Fx.WM.val_ 11 ?_ (by rfl) (by kernel_rfl) (by kernel_rfl) (by kernel_rfl) (by rfl) ?_ (fun g f w h => h.same (by decide)) ?_
             rotate_left
             · intro g f w' hx hD hk
               obtain hkp := id hD
               clear hx hk hD hkp
               go_simp
               try rfl
             simp only [Act.put, List.setIfInBounds_toArray, List.set_cons_zero, List.set_cons_succ])
          first
          | (refine Fx.WM.skip 12 (by rfl) (by kernel_rfl) (by kernel_rfl) (by kernel_rfl) (by rfl) (fun g f w h => h.same (by decide)) ?_; simp only [Act.put, List.setIfInBounds_toArray, List.set_cons_zero, List.set_cons_succ])
          | (refine Fx.WM.val_ 12 ?_ (by rfl) (by kernel_rfl) (by kernel_rfl) (by kernel_rfl) (by rfl) ?_ (fun g f w h => h.same (by decide)) ?_
             rotate_left
             · intro g f w' hx hD hk
               obtain hkp := id hD
               clear hx hk hD hkp
               go_simp
               try rfl
             simp only [Act.put, List.setIfInBounds_toArray, List.set_cons_zero, List.set_cons_succ])
          first
          | (refine Fx.WM.skip 13 (by rfl) (by kernel_rfl) (by kernel_rfl) (by kernel_rfl) (by rfl) (fun g f w h => h.same (by decide)) ?_; simp only [Act.put, List.setIfInBounds_toArray, List.set_cons_zero, List.set_cons_succ])
          | (refine Fx.WM.val_ 13 ?_ (by rfl) (by kernel_rfl) (by kernel_rfl) (by kernel_rfl) (by rfl) ?_ (fun g f w h => h.same (by decide)) ?_
             rotate_left
             · intro g f w' hx hD hk
               obtain hkp := id hD
               clear hx hk hD hkp
               go_simp
               try rfl
             simp only [Act.put, List.setIfInBounds_toArray, List.set_cons_zero, List.set_cons_succ])
          refine Fx.WM.choose 14 (by rfl) (by kernel_rfl) (by rfl) ?_ ?_
          · skip
            refine Fx.Chooses.make (by rfl) ?_
            intro f w' hD hk
            refine ⟨((some ⟨w'.heap.size, 0, none⟩, 0), (none, 0)), w'.alloc (.cells #[.int .i64 (0), .int .i64 (0)] 60), ?_, ?_⟩
            · clear hk hD
              go_simp
              try rfl
            · exact hD.make PfR.stb (hk.2.1 15 (by kernel_rfl)) (by decide)
          intro z
          simp only [Act.put, List.setIfInBounds_toArray, List.set_cons_zero, List.set_cons_succ]
          refine Fx.WM.eff 15 undef (by rfl) (by kernel_rfl) (by kernel_rfl) (by kernel_rfl) (by rfl) ?_ ?_
          · intro g f w' hx hD hk
            obtain ⟨bx, e0, e1, r0, r1, r2, r3, r4, r5⟩ := KpS.cells hD (hx 14 _ (by rfl))
            refine Fx.gives_skip (w' := ((w'.setCell ⟨bx, 0, none⟩ (.int .i64 (X))).setCell ⟨bx, 1, none⟩ (.int .i64 (Y)))) ?_ ?_
            · clear hx hk hD
              go_simp
              try rfl
            · exact KpS.store hD (hx 14 _ (by rfl)) r0
          simp only [Act.put, List.setIfInBounds_toArray, List.set_cons_zero, List.set_cons_succ]
          first
          | (refine Fx.WM.skip 16 (by rfl) (by kernel_rfl) (by kernel_rfl) (by kernel_rfl) (by rfl) (fun g f w h => h.same (by decide)) ?_; simp only [Act.put, List.setIfInBounds_toArray, List.set_cons_zero, List.set_cons_succ])
          | (refine Fx.WM.val_ 16 ?_ (by rfl) (by kernel_rfl) (by kernel_rfl) (by kernel_rfl) (by rfl) ?_ (fun g f w h => h.same (by decide)) ?_
             rotate_left
             · intro g f w' hx hD hk
               obtain hkp := id hD
               clear hx hk hD hkp
               go_simp
               try rfl
             simp only [Act.put, List.setIfInBounds_toArray, List.set_cons_zero, List.set_cons_succ])
          refine Fx.WM.nil (by kernel_rfl) ?_
          intro wz hkp
          obtain ⟨bx, h1, h2, h3⟩ := KpS.end_ hkp (x := z) (by rfl) (by rfl)
          obtain ⟨dd, -⟩ : ∃ d : Nat, d = d := ⟨0, rfl⟩
          exact key dd z wz ⟨bx, h1, h2, hkp.bel, h3⟩
        rintro - ⟨⟨z1_, z2_⟩, z3_⟩ w9 ⟨bx, hz, hbx, hb, hblk⟩
        simp only at hz
        subst hz
        have HB9 := Lib.hid (show Below w.heap.size w w9 from step_below hb (by repeat' (first | exact Below.refl _ _ | exact HB8.out | refine below_drewN ?_ _ | refine Below.drew ?_ | refine Below.alloc ?_ (by first | omega | (simp; done) | (simp; omega) | (simp [World.setCell]; omega)) _ | refine Below.setCell ?_ (by first | omega | (simp; done) | (simp; omega)) _ | assumption)))
        have K0_9 := Lib.hid (step_blk hb (show Blk _ (w.heap.size) 62 #[.int .i64 (m.ls), .int .i64 (m.ms), .int .i64 (m.lo), .int .i64 (m.hi), .int .i64 (m.sp), .slice m.A1 m.n1 m.c1, .slice m.A2 m.n2 m.c2, .slice (some ⟨xb, xo, none⟩) n c, .int .i64 (day), .int .i64 (pos)] by repeat' (first | exact K0_8.out | exact K1_8.out | exact Blk.at_ _ (by first | rfl | (simp; done) | (simp; omega)) _ _ | refine Blk.drewN ?_ _ | refine Blk.drew ?_ | refine Blk.alloc ?_ _ | refine Blk.far ?_ (by first | omega | (simp; done) | (simp; omega)) _ | assumption)))
        have K1_9 := Lib.hid (step_blk hb (show Blk _ (w4.heap.size) 67 #[.slice (some ⟨yb, yo, none⟩) n ct, .slice Xp n cp] by repeat' (first | exact K0_8.out | exact K1_8.out | exact Blk.at_ _ (by first | rfl | (simp; done) | (simp; omega)) _ _ | refine Blk.drewN ?_ _ | refine Blk.drew ?_ | refine Blk.alloc ?_ _ | refine Blk.far ?_ (by first | omega | (simp; done) | (simp; omega)) _ | assumption)))
        have C0_9 := Lib.hid (step_cell hb (show World.cell? _ ⟨tk, to_ + k, none⟩ = some (.int .i64 (g)) by first | exact C0_8.out | go_simp) (by have := htk; first | omega | (simp; omega)))
        have C1_9 := Lib.hid (step_cell hb (show World.cell? _ ⟨xb, xo + k * 6, none⟩ = some (.string t.name) by first | exact C1_8.out | go_simp) (by have := hxb; first | omega | (simp; omega)))
        have C2_9 := Lib.hid (step_cell hb (show World.cell? _ ⟨xb, xo + k * 6 + 1, none⟩ = some (.int .i64 (t.az)) by first | exact C2_8.out | go_simp) (by have := hxb; first | omega | (simp; omega)))
        have C3_9 := Lib.hid (step_cell hb (show World.cell? _ ⟨xb, xo + k * 6 + 2, none⟩ = some (.int .i64 (t.ht)) by first | exact C3_8.out | go_simp) (by have := hxb; first | omega | (simp; omega)))
        have C4_9 := Lib.hid (step_cell hb (show World.cell? _ ⟨xb, xo + k * 6 + 3, none⟩ = some (.int .i64 (t.fr)) by first | exact C4_8.out | go_simp) (by have := hxb; first | omega | (simp; omega)))
        have C5_9 := Lib.hid (step_cell hb (show World.cell? _ ⟨xb, xo + k * 6 + 4, none⟩ = some (.int .i64 (t.to)) by first | exact C5_8.out | go_simp) (by have := hxb; first | omega | (simp; omega)))
        have C6_9 := Lib.hid (step_cell hb (show World.cell? _ ⟨xb, xo + k * 6 + 5, none⟩ = some (.int .i64 (t.dw)) by first | exact C6_8.out | go_simp) (by have := hxb; first | omega | (simp; omega)))
        have C7_9 := Lib.hid (step_cell hb (show World.cell? _ ⟨yb, yo + k, none⟩ = some (.int .i64 (K)) by first | exact C7_8.out | go_simp) (by have := hyb; first | omega | (simp; omega)))
        have hL9 := Lib.hid (show Below w8.heap.size w8 _ from reads_mid hb (by repeat' (first | exact Below.refl _ _ | refine below_drewN ?_ _ | refine Below.drew ?_ | refine Below.alloc ?_ (by first | omega | (simp; done) | (simp; omega) | (simp [World.setCell]; omega)) _ | refine Below.setCell ?_ (by first | omega | (simp; done) | (simp; omega)) _)))
        have R0_9 := Lib.hid (reads_lay hb hL9.out R0_8.out)
        have R1_9 := Lib.hid (mnt_lay hb hL9.out R1_8.out)
        have R2_9 := Lib.hid (reads_lay hb hL9.out R2_8.out)
        have R3_9 := Lib.hid (reads_lay hb hL9.out R3_8.out)
        have R4_9 := Lib.hid (reads_lay hb hL9.out R4_8.out)
        clear hL9 R0_8 R1_8 R2_8 R3_8 R4_8
        have HA9 := Lib.hid (step_below hb HA8.out)
        clear HA8
        have hz9 := hb.size
        try simp only [World.size_alloc, World.drewN, World.drew] at hz9
        clear hb K0_8 K1_8 z0_0_8 z0_1_8 z0_2_8 z0_3_8 z0_4_8 z0_5_8 z0_6_8 z0_7_8 z0_8_8 z0_9_8 l0_8 z1_0_8 z1_1_8 l1_8
        have l0_9 : w.heap.size < w9.heap.size := K0_9.out.lt
        have z0_0_9 : w9.cell? ⟨w.heap.size, 0, none⟩ = some (.int .i64 (m.ls)) := K0_9.out.cell 0
        have z0_1_9 : w9.cell? ⟨w.heap.size, 1, none⟩ = some (.int .i64 (m.ms)) := K0_9.out.cell 1
        have z0_2_9 : w9.cell? ⟨w.heap.size, 2, none⟩ = some (.int .i64 (m.lo)) := K0_9.out.cell 2
        have z0_3_9 : w9.cell? ⟨w.heap.size, 3, none⟩ = some (.int .i64 (m.hi)) := K0_9.out.cell 3
        have z0_4_9 : w9.cell? ⟨w.heap.size, 4, none⟩ = some (.int .i64 (m.sp)) := K0_9.out.cell 4
        have z0_5_9 : w9.cell? ⟨w.heap.size, 5, none⟩ = some (.slice m.A1 m.n1 m.c1) := K0_9.out.cell 5
        have z0_6_9 : w9.cell? ⟨w.heap.size, 6, none⟩ = some (.slice m.A2 m.n2 m.c2) := K0_9.out.cell 6
        have z0_7_9 : w9.cell? ⟨w.heap.size, 7, none⟩ = some (.slice (some ⟨xb, xo, none⟩) n c) := K0_9.out.cell 7
        have z0_8_9 : w9.cell? ⟨w.heap.size, 8, none⟩ = some (.int .i64 (day)) := K0_9.out.cell 8
        have z0_9_9 : w9.cell? ⟨w.heap.size, 9, none⟩ = some (.int .i64 (pos)) := K0_9.out.cell 9
        have l1_9 : w4.heap.size < w9.heap.size := K1_9.out.lt
        have z1_0_9 : w9.cell? ⟨w4.heap.size, 0, none⟩ = some (.slice (some ⟨yb, yo, none⟩) n ct) := K1_9.out.cell 0
        have z1_1_9 : w9.cell? ⟨w4.heap.size, 1, none⟩ = some (.slice Xp n cp) := K1_9.out.cell 1
        have K2_9 := Lib.hid (show Blk w9 (bx) 60 #[.int .i64 (X), .int .i64 (Y)] from hblk)
        clear hblk
        have l2_9 : bx < w9.heap.size := K2_9.out.lt
        have z2_0_9 : w9.cell? ⟨bx, 0, none⟩ = some (.int .i64 (X)) := K2_9.out.cell 0
        have z2_1_9 : w9.cell? ⟨bx, 1, none⟩ = some (.int .i64 (Y)) := K2_9.out.cell 1
        have v6 := C7_9.out
        have ylo : decide (Y < m.lo) = false := decide_eq_false (by omega)
        have yhi : decide (m.hi < Y) = false := decide_eq_false (by omega)
        go_wp2_with fail
        refine (has_is x.1.1 ql x.1.2 _ L K true HHAS.out _ R4_9.out (by omega)).mono ?_
        rintro e w' ⟨rfl, rfl⟩
        go_wp2_with fail
        refine Fx.regionW (fun W f w' => Below W.heap.size W w') (by kernel_rfl) (by kernel_rfl) ?_ ?_
        · intro f hf0
          exact below_drewN (Below.refl _ _) 1
        repeat (first
          | (refine Fx.skip_ (by rfl) (fun f w h => h) ?_; simp only [Act.put, List.setIfInBounds_toArray, List.set_cons_zero, List.set_cons_succ])
          | (refine Fx.val_ ?_ (by rfl) ?_ (fun f w h => h) ?_
             rotate_left
             · intro f w' hD hk
               have hb := hD
               have kb0 := step_blk hb (show Blk _ (w.heap.size) 62 #[.int .i64 (m.ls), .int .i64 (m.ms), .int .i64 (m.lo), .int .i64 (m.hi), .int .i64 (m.sp), .slice m.A1 m.n1 m.c1, .slice m.A2 m.n2 m.c2, .slice (some ⟨xb, xo, none⟩) n c, .int .i64 (day), .int .i64 (pos)] by repeat' (first | exact K0_9.out | exact K1_9.out | exact K2_9.out | exact Blk.at_ _ (by first | rfl | (simp; done) | (simp; omega)) _ _ | refine Blk.drewN ?_ _ | refine Blk.drew ?_ | refine Blk.alloc ?_ _ | refine Blk.far ?_ (by first | omega | (simp; done) | (simp; omega)) _ | assumption))
               have y0_0 : w'.cell? ⟨w.heap.size, 0, none⟩ = some (.int .i64 (m.ls)) := kb0.cell 0
               have y0_1 : w'.cell? ⟨w.heap.size, 1, none⟩ = some (.int .i64 (m.ms)) := kb0.cell 1
               have y0_2 : w'.cell? ⟨w.heap.size, 2, none⟩ = some (.int .i64 (m.lo)) := kb0.cell 2
               have y0_3 : w'.cell? ⟨w.heap.size, 3, none⟩ = some (.int .i64 (m.hi)) := kb0.cell 3
               have y0_4 : w'.cell? ⟨w.heap.size, 4, none⟩ = some (.int .i64 (m.sp)) := kb0.cell 4
               have y0_5 : w'.cell? ⟨w.heap.size, 5, none⟩ = some (.slice m.A1 m.n1 m.c1) := kb0.cell 5
               have y0_6 : w'.cell? ⟨w.heap.size, 6, none⟩ = some (.slice m.A2 m.n2 m.c2) := kb0.cell 6
               have y0_7 : w'.cell? ⟨w.heap.size, 7, none⟩ = some (.slice (some ⟨xb, xo, none⟩) n c) := kb0.cell 7
               have y0_8 : w'.cell? ⟨w.heap.size, 8, none⟩ = some (.int .i64 (day)) := kb0.cell 8
               have y0_9 : w'.cell? ⟨w.heap.size, 9, none⟩ = some (.int .i64 (pos)) := kb0.cell 9
               have kb1 := step_blk hb (show Blk _ (w4.heap.size) 67 #[.slice (some ⟨yb, yo, none⟩) n ct, .slice Xp n cp] by repeat' (first | exact K0_9.out | exact K1_9.out | exact K2_9.out | exact Blk.at_ _ (by first | rfl | (simp; done) | (simp; omega)) _ _ | refine Blk.drewN ?_ _ | refine Blk.drew ?_ | refine Blk.alloc ?_ _ | refine Blk.far ?_ (by first | omega | (simp; done) | (simp; omega)) _ | assumption))
               have y1_0 : w'.cell? ⟨w4.heap.size, 0, none⟩ = some (.slice (some ⟨yb, yo, none⟩) n ct) := kb1.cell 0
               have y1_1 : w'.cell? ⟨w4.heap.size, 1, none⟩ = some (.slice Xp n cp) := kb1.cell 1
               have kb2 := step_blk hb (show Blk _ (bx) 60 #[.int .i64 (X), .int .i64 (Y)] by repeat' (first | exact K0_9.out | exact K1_9.out | exact K2_9.out | exact Blk.at_ _ (by first | rfl | (simp; done) | (simp; omega)) _ _ | refine Blk.drewN ?_ _ | refine Blk.drew ?_ | refine Blk.alloc ?_ _ | refine Blk.far ?_ (by first | omega | (simp; done) | (simp; omega)) _ | assumption))
               have y2_0 : w'.cell? ⟨bx, 0, none⟩ = some (.int .i64 (X)) := kb2.cell 0
               have y2_1 : w'.cell? ⟨bx, 1, none⟩ = some (.int .i64 (Y)) := kb2.cell 1
               have yc0 : w'.cell? ⟨tk, to_ + k, none⟩ = some (.int .i64 (g)) := step_cell hb (show World.cell? _ ⟨tk, to_ + k, none⟩ = some (.int .i64 (g)) by first | exact C0_9.out | go_simp) (by have := htk; first | omega | (simp; omega))
               have yc1 : w'.cell? ⟨xb, xo + k * 6, none⟩ = some (.string t.name) := step_cell hb (show World.cell? _ ⟨xb, xo + k * 6, none⟩ = some (.string t.name) by first | exact C1_9.out | go_simp) (by have := hxb; first | omega | (simp; omega))
               have yc2 : w'.cell? ⟨xb, xo + k * 6 + 1, none⟩ = some (.int .i64 (t.az)) := step_cell hb (show World.cell? _ ⟨xb, xo + k * 6 + 1, none⟩ = some (.int .i64 (t.az)) by first | exact C2_9.out | go_simp) (by have := hxb; first | omega | (simp; omega))
               have yc3 : w'.cell? ⟨xb, xo + k * 6 + 2, none⟩ = some (.int .i64 (t.ht)) := step_cell hb (show World.cell? _ ⟨xb, xo + k * 6 + 2, none⟩ = some (.int .i64 (t.ht)) by first | exact C3_9.out | go_simp) (by have := hxb; first | omega | (simp; omega))
               have yc4 : w'.cell? ⟨xb, xo + k * 6 + 3, none⟩ = some (.int .i64 (t.fr)) := step_cell hb (show World.cell? _ ⟨xb, xo + k * 6 + 3, none⟩ = some (.int .i64 (t.fr)) by first | exact C4_9.out | go_simp) (by have := hxb; first | omega | (simp; omega))
               have yc5 : w'.cell? ⟨xb, xo + k * 6 + 4, none⟩ = some (.int .i64 (t.to)) := step_cell hb (show World.cell? _ ⟨xb, xo + k * 6 + 4, none⟩ = some (.int .i64 (t.to)) by first | exact C5_9.out | go_simp) (by have := hxb; first | omega | (simp; omega))
               have yc6 : w'.cell? ⟨xb, xo + k * 6 + 5, none⟩ = some (.int .i64 (t.dw)) := step_cell hb (show World.cell? _ ⟨xb, xo + k * 6 + 5, none⟩ = some (.int .i64 (t.dw)) by first | exact C6_9.out | go_simp) (by have := hxb; first | omega | (simp; omega))
               have yc7 : w'.cell? ⟨yb, yo + k, none⟩ = some (.int .i64 (K)) := step_cell hb (show World.cell? _ ⟨yb, yo + k, none⟩ = some (.int .i64 (K)) by first | exact C7_9.out | go_simp) (by have := hyb; first | omega | (simp; omega))
               clear kb0 kb1 kb2
               clear hk hD hb
               go_simp
               try rfl
             simp only [Act.put, List.setIfInBounds_toArray, List.set_cons_zero, List.set_cons_succ]))
        refine Fx.nil_ ?_
        intro f w10 hall hb
        try clear hall
        have HB910 := Lib.hid hb
        have HB10 := Lib.hid (show Below w.heap.size w w10 from step_below hb (by repeat' (first | exact Below.refl _ _ | exact HB9.out | refine below_drewN ?_ _ | refine Below.drew ?_ | refine Below.alloc ?_ (by first | omega | (simp; done) | (simp; omega) | (simp [World.setCell]; omega)) _ | refine Below.setCell ?_ (by first | omega | (simp; done) | (simp; omega)) _ | assumption)))
        have K0_10 := Lib.hid (step_blk hb (show Blk _ (w.heap.size) 62 #[.int .i64 (m.ls), .int .i64 (m.ms), .int .i64 (m.lo), .int .i64 (m.hi), .int .i64 (m.sp), .slice m.A1 m.n1 m.c1, .slice m.A2 m.n2 m.c2, .slice (some ⟨xb, xo, none⟩) n c, .int .i64 (day), .int .i64 (pos)] by repeat' (first | exact K0_9.out | exact K1_9.out | exact K2_9.out | exact Blk.at_ _ (by first | rfl | (simp; done) | (simp; omega)) _ _ | refine Blk.drewN ?_ _ | refine Blk.drew ?_ | refine Blk.alloc ?_ _ | refine Blk.far ?_ (by first | omega | (simp; done) | (simp; omega)) _ | assumption)))
        have K1_10 := Lib.hid (step_blk hb (show Blk _ (w4.heap.size) 67 #[.slice (some ⟨yb, yo, none⟩) n ct, .slice Xp n cp] by repeat' (first | exact K0_9.out | exact K1_9.out | exact K2_9.out | exact Blk.at_ _ (by first | rfl | (simp; done) | (simp; omega)) _ _ | refine Blk.drewN ?_ _ | refine Blk.drew ?_ | refine Blk.alloc ?_ _ | refine Blk.far ?_ (by first | omega | (simp; done) | (simp; omega)) _ | assumption)))
        have K2_10 := Lib.hid (step_blk hb (show Blk _ (bx) 60 #[.int .i64 (X), .int .i64 (Y)] by repeat' (first | exact K0_9.out | exact K1_9.out | exact K2_9.out | exact Blk.at_ _ (by first | rfl | (simp; done) | (simp; omega)) _ _ | refine Blk.drewN ?_ _ | refine Blk.drew ?_ | refine Blk.alloc ?_ _ | refine Blk.far ?_ (by first | omega | (simp; done) | (simp; omega)) _ | assumption)))
        have C0_10 := Lib.hid (step_cell hb (show World.cell? _ ⟨tk, to_ + k, none⟩ = some (.int .i64 (g)) by first | exact C0_9.out | go_simp) (by have := htk; first | omega | (simp; omega)))
        have C1_10 := Lib.hid (step_cell hb (show World.cell? _ ⟨xb, xo + k * 6, none⟩ = some (.string t.name) by first | exact C1_9.out | go_simp) (by have := hxb; first | omega | (simp; omega)))
        have C2_10 := Lib.hid (step_cell hb (show World.cell? _ ⟨xb, xo + k * 6 + 1, none⟩ = some (.int .i64 (t.az)) by first | exact C2_9.out | go_simp) (by have := hxb; first | omega | (simp; omega)))
        have C3_10 := Lib.hid (step_cell hb (show World.cell? _ ⟨xb, xo + k * 6 + 2, none⟩ = some (.int .i64 (t.ht)) by first | exact C3_9.out | go_simp) (by have := hxb; first | omega | (simp; omega)))
        have C4_10 := Lib.hid (step_cell hb (show World.cell? _ ⟨xb, xo + k * 6 + 3, none⟩ = some (.int .i64 (t.fr)) by first | exact C4_9.out | go_simp) (by have := hxb; first | omega | (simp; omega)))
        have C5_10 := Lib.hid (step_cell hb (show World.cell? _ ⟨xb, xo + k * 6 + 4, none⟩ = some (.int .i64 (t.to)) by first | exact C5_9.out | go_simp) (by have := hxb; first | omega | (simp; omega)))
        have C6_10 := Lib.hid (step_cell hb (show World.cell? _ ⟨xb, xo + k * 6 + 5, none⟩ = some (.int .i64 (t.dw)) by first | exact C6_9.out | go_simp) (by have := hxb; first | omega | (simp; omega)))
        have C7_10 := Lib.hid (step_cell hb (show World.cell? _ ⟨yb, yo + k, none⟩ = some (.int .i64 (K)) by first | exact C7_9.out | go_simp) (by have := hyb; first | omega | (simp; omega)))
        have hL10 := Lib.hid (show Below w9.heap.size w9 _ from reads_mid hb (by repeat' (first | exact Below.refl _ _ | refine below_drewN ?_ _ | refine Below.drew ?_ | refine Below.alloc ?_ (by first | omega | (simp; done) | (simp; omega) | (simp [World.setCell]; omega)) _ | refine Below.setCell ?_ (by first | omega | (simp; done) | (simp; omega)) _)))
        have R0_10 := Lib.hid (reads_lay hb hL10.out R0_9.out)
        have R1_10 := Lib.hid (mnt_lay hb hL10.out R1_9.out)
        have R2_10 := Lib.hid (reads_lay hb hL10.out R2_9.out)
        have R3_10 := Lib.hid (reads_lay hb hL10.out R3_9.out)
        have R4_10 := Lib.hid (reads_lay hb hL10.out R4_9.out)
        clear hL10 R0_9 R1_9 R2_9 R3_9 R4_9
        have HA10 := Lib.hid (step_below hb HA9.out)
        clear HA9
        have hz10 := hb.size
        try simp only [World.size_alloc, World.drewN, World.drew] at hz10
        clear hb K0_9 K1_9 K2_9 z0_0_9 z0_1_9 z0_2_9 z0_3_9 z0_4_9 z0_5_9 z0_6_9 z0_7_9 z0_8_9 z0_9_9 l0_9 z1_0_9 z1_1_9 l1_9 z2_0_9 z2_1_9 l2_9
        have l0_10 : w.heap.size < w10.heap.size := K0_10.out.lt
        have z0_0_10 : w10.cell? ⟨w.heap.size, 0, none⟩ = some (.int .i64 (m.ls)) := K0_10.out.cell 0
        have z0_1_10 : w10.cell? ⟨w.heap.size, 1, none⟩ = some (.int .i64 (m.ms)) := K0_10.out.cell 1
        have z0_2_10 : w10.cell? ⟨w.heap.size, 2, none⟩ = some (.int .i64 (m.lo)) := K0_10.out.cell 2
        have z0_3_10 : w10.cell? ⟨w.heap.size, 3, none⟩ = some (.int .i64 (m.hi)) := K0_10.out.cell 3
        have z0_4_10 : w10.cell? ⟨w.heap.size, 4, none⟩ = some (.int .i64 (m.sp)) := K0_10.out.cell 4
        have z0_5_10 : w10.cell? ⟨w.heap.size, 5, none⟩ = some (.slice m.A1 m.n1 m.c1) := K0_10.out.cell 5
        have z0_6_10 : w10.cell? ⟨w.heap.size, 6, none⟩ = some (.slice m.A2 m.n2 m.c2) := K0_10.out.cell 6
        have z0_7_10 : w10.cell? ⟨w.heap.size, 7, none⟩ = some (.slice (some ⟨xb, xo, none⟩) n c) := K0_10.out.cell 7
        have z0_8_10 : w10.cell? ⟨w.heap.size, 8, none⟩ = some (.int .i64 (day)) := K0_10.out.cell 8
        have z0_9_10 : w10.cell? ⟨w.heap.size, 9, none⟩ = some (.int .i64 (pos)) := K0_10.out.cell 9
        have l1_10 : w4.heap.size < w10.heap.size := K1_10.out.lt
        have z1_0_10 : w10.cell? ⟨w4.heap.size, 0, none⟩ = some (.slice (some ⟨yb, yo, none⟩) n ct) := K1_10.out.cell 0
        have z1_1_10 : w10.cell? ⟨w4.heap.size, 1, none⟩ = some (.slice Xp n cp) := K1_10.out.cell 1
        have l2_10 : bx < w10.heap.size := K2_10.out.lt
        have z2_0_10 : w10.cell? ⟨bx, 0, none⟩ = some (.int .i64 (X)) := K2_10.out.cell 0
        have z2_1_10 : w10.cell? ⟨bx, 1, none⟩ = some (.int .i64 (Y)) := K2_10.out.cell 1
        rw [← HTO.out]
        have vls : decide (v < m.ls) = false := decide_eq_false (by omega)
        have vms : decide (m.ms < v) = false := decide_eq_false (by omega)
        go_wp2_with fail
        refine (Waypt_ok f1 v u (decide (648000 < u)) HSM.out HU_.out rfl _).mono ?_
        rintro e w11 ⟨rfl, hb⟩
        have HB11 := Lib.hid (show Below w.heap.size w w11 from step_below hb (by repeat' (first | exact Below.refl _ _ | exact HB10.out | refine below_drewN ?_ _ | refine Below.drew ?_ | refine Below.alloc ?_ (by first | omega | (simp; done) | (simp; omega) | (simp [World.setCell]; omega)) _ | refine Below.setCell ?_ (by first | omega | (simp; done) | (simp; omega)) _ | assumption)))
        have K0_11 := Lib.hid (step_blk hb (show Blk _ (w.heap.size) 62 #[.int .i64 (m.ls), .int .i64 (m.ms), .int .i64 (m.lo), .int .i64 (m.hi), .int .i64 (m.sp), .slice m.A1 m.n1 m.c1, .slice m.A2 m.n2 m.c2, .slice (some ⟨xb, xo, none⟩) n c, .int .i64 (day), .int .i64 (pos)] by repeat' (first | exact K0_10.out | exact K1_10.out | exact K2_10.out | exact Blk.at_ _ (by first | rfl | (simp; done) | (simp; omega)) _ _ | refine Blk.drewN ?_ _ | refine Blk.drew ?_ | refine Blk.alloc ?_ _ | refine Blk.far ?_ (by first | omega | (simp; done) | (simp; omega)) _ | assumption)))
        have K1_11 := Lib.hid (step_blk hb (show Blk _ (w4.heap.size) 67 #[.slice (some ⟨yb, yo, none⟩) n ct, .slice Xp n cp] by repeat' (first | exact K0_10.out | exact K1_10.out | exact K2_10.out | exact Blk.at_ _ (by first | rfl | (simp; done) | (simp; omega)) _ _ | refine Blk.drewN ?_ _ | refine Blk.drew ?_ | refine Blk.alloc ?_ _ | refine Blk.far ?_ (by first | omega | (simp; done) | (simp; omega)) _ | assumption)))
        have K2_11 := Lib.hid (step_blk hb (show Blk _ (bx) 60 #[.int .i64 (X), .int .i64 (Y)] by repeat' (first | exact K0_10.out | exact K1_10.out | exact K2_10.out | exact Blk.at_ _ (by first | rfl | (simp; done) | (simp; omega)) _ _ | refine Blk.drewN ?_ _ | refine Blk.drew ?_ | refine Blk.alloc ?_ _ | refine Blk.far ?_ (by first | omega | (simp; done) | (simp; omega)) _ | assumption)))
        have C0_11 := Lib.hid (step_cell hb (show World.cell? _ ⟨tk, to_ + k, none⟩ = some (.int .i64 (g)) by first | exact C0_10.out | go_simp) (by have := htk; first | omega | (simp; omega)))
        have C1_11 := Lib.hid (step_cell hb (show World.cell? _ ⟨xb, xo + k * 6, none⟩ = some (.string t.name) by first | exact C1_10.out | go_simp) (by have := hxb; first | omega | (simp; omega)))
        have C2_11 := Lib.hid (step_cell hb (show World.cell? _ ⟨xb, xo + k * 6 + 1, none⟩ = some (.int .i64 (t.az)) by first | exact C2_10.out | go_simp) (by have := hxb; first | omega | (simp; omega)))
        have C3_11 := Lib.hid (step_cell hb (show World.cell? _ ⟨xb, xo + k * 6 + 2, none⟩ = some (.int .i64 (t.ht)) by first | exact C3_10.out | go_simp) (by have := hxb; first | omega | (simp; omega)))
        have C4_11 := Lib.hid (step_cell hb (show World.cell? _ ⟨xb, xo + k * 6 + 3, none⟩ = some (.int .i64 (t.fr)) by first | exact C4_10.out | go_simp) (by have := hxb; first | omega | (simp; omega)))
        have C5_11 := Lib.hid (step_cell hb (show World.cell? _ ⟨xb, xo + k * 6 + 4, none⟩ = some (.int .i64 (t.to)) by first | exact C5_10.out | go_simp) (by have := hxb; first | omega | (simp; omega)))
        have C6_11 := Lib.hid (step_cell hb (show World.cell? _ ⟨xb, xo + k * 6 + 5, none⟩ = some (.int .i64 (t.dw)) by first | exact C6_10.out | go_simp) (by have := hxb; first | omega | (simp; omega)))
        have C7_11 := Lib.hid (step_cell hb (show World.cell? _ ⟨yb, yo + k, none⟩ = some (.int .i64 (K)) by first | exact C7_10.out | go_simp) (by have := hyb; first | omega | (simp; omega)))
        have hL11 := Lib.hid (show Below w10.heap.size w10 _ from reads_mid hb (by repeat' (first | exact Below.refl _ _ | refine below_drewN ?_ _ | refine Below.drew ?_ | refine Below.alloc ?_ (by first | omega | (simp; done) | (simp; omega) | (simp [World.setCell]; omega)) _ | refine Below.setCell ?_ (by first | omega | (simp; done) | (simp; omega)) _)))
        have R0_11 := Lib.hid (reads_lay hb hL11.out R0_10.out)
        have R1_11 := Lib.hid (mnt_lay hb hL11.out R1_10.out)
        have R2_11 := Lib.hid (reads_lay hb hL11.out R2_10.out)
        have R3_11 := Lib.hid (reads_lay hb hL11.out R3_10.out)
        have R4_11 := Lib.hid (reads_lay hb hL11.out R4_10.out)
        clear hL11 R0_10 R1_10 R2_10 R3_10 R4_10
        have HA11 := Lib.hid (step_below hb HA10.out)
        clear HA10
        have hz11 := hb.size
        try simp only [World.size_alloc, World.drewN, World.drew] at hz11
        clear hb K0_10 K1_10 K2_10 z0_0_10 z0_1_10 z0_2_10 z0_3_10 z0_4_10 z0_5_10 z0_6_10 z0_7_10 z0_8_10 z0_9_10 l0_10 z1_0_10 z1_1_10 l1_10 z2_0_10 z2_1_10 l2_10
        have l0_11 : w.heap.size < w11.heap.size := K0_11.out.lt
        have z0_0_11 : w11.cell? ⟨w.heap.size, 0, none⟩ = some (.int .i64 (m.ls)) := K0_11.out.cell 0
        have z0_1_11 : w11.cell? ⟨w.heap.size, 1, none⟩ = some (.int .i64 (m.ms)) := K0_11.out.cell 1
        have z0_2_11 : w11.cell? ⟨w.heap.size, 2, none⟩ = some (.int .i64 (m.lo)) := K0_11.out.cell 2
        have z0_3_11 : w11.cell? ⟨w.heap.size, 3, none⟩ = some (.int .i64 (m.hi)) := K0_11.out.cell 3
        have z0_4_11 : w11.cell? ⟨w.heap.size, 4, none⟩ = some (.int .i64 (m.sp)) := K0_11.out.cell 4
        have z0_5_11 : w11.cell? ⟨w.heap.size, 5, none⟩ = some (.slice m.A1 m.n1 m.c1) := K0_11.out.cell 5
        have z0_6_11 : w11.cell? ⟨w.heap.size, 6, none⟩ = some (.slice m.A2 m.n2 m.c2) := K0_11.out.cell 6
        have z0_7_11 : w11.cell? ⟨w.heap.size, 7, none⟩ = some (.slice (some ⟨xb, xo, none⟩) n c) := K0_11.out.cell 7
        have z0_8_11 : w11.cell? ⟨w.heap.size, 8, none⟩ = some (.int .i64 (day)) := K0_11.out.cell 8
        have z0_9_11 : w11.cell? ⟨w.heap.size, 9, none⟩ = some (.int .i64 (pos)) := K0_11.out.cell 9
        have l1_11 : w4.heap.size < w11.heap.size := K1_11.out.lt
        have z1_0_11 : w11.cell? ⟨w4.heap.size, 0, none⟩ = some (.slice (some ⟨yb, yo, none⟩) n ct) := K1_11.out.cell 0
        have z1_1_11 : w11.cell? ⟨w4.heap.size, 1, none⟩ = some (.slice Xp n cp) := K1_11.out.cell 1
        have l2_11 : bx < w11.heap.size := K2_11.out.lt
        have z2_0_11 : w11.cell? ⟨bx, 0, none⟩ = some (.int .i64 (X)) := K2_11.out.cell 0
        have z2_1_11 : w11.cell? ⟨bx, 1, none⟩ = some (.int .i64 (Y)) := K2_11.out.cell 1
        go_wp2
        refine Fx.regionW (fun W f w' => Below W.heap.size W w') (by kernel_rfl) (by kernel_rfl) ?_ ?_
        · intro f hf0
          exact below_drewN (Below.refl _ _) 1
        repeat (first
          | (refine Fx.skip_ (by rfl) (fun f w h => h) ?_; simp only [Act.put, List.setIfInBounds_toArray, List.set_cons_zero, List.set_cons_succ])
          | (refine Fx.val_ ?_ (by rfl) ?_ (fun f w h => h) ?_
             rotate_left
             · intro f w' hD hk
               have hb := hD
               have kb0 := step_blk hb (show Blk _ (w.heap.size) 62 #[.int .i64 (m.ls), .int .i64 (m.ms), .int .i64 (m.lo), .int .i64 (m.hi), .int .i64 (m.sp), .slice m.A1 m.n1 m.c1, .slice m.A2 m.n2 m.c2, .slice (some ⟨xb, xo, none⟩) n c, .int .i64 (day), .int .i64 (pos)] by repeat' (first | exact K0_11.out | exact K1_11.out | exact K2_11.out | exact Blk.at_ _ (by first | rfl | (simp; done) | (simp; omega)) _ _ | refine Blk.drewN ?_ _ | refine Blk.drew ?_ | refine Blk.alloc ?_ _ | refine Blk.far ?_ (by first | omega | (simp; done) | (simp; omega)) _ | assumption))
               have y0_0 : w'.cell? ⟨w.heap.size, 0, none⟩ = some (.int .i64 (m.ls)) := kb0.cell 0
               have y0_1 : w'.cell? ⟨w.heap.size, 1, none⟩ = some (.int .i64 (m.ms)) := kb0.cell 1
               have y0_2 : w'.cell? ⟨w.heap.size, 2, none⟩ = some (.int .i64 (m.lo)) := kb0.cell 2
               have y0_3 : w'.cell? ⟨w.heap.size, 3, none⟩ = some (.int .i64 (m.hi)) := kb0.cell 3
               have y0_4 : w'.cell? ⟨w.heap.size, 4, none⟩ = some (.int .i64 (m.sp)) := kb0.cell 4
               have y0_5 : w'.cell? ⟨w.heap.size, 5, none⟩ = some (.slice m.A1 m.n1 m.c1) := kb0.cell 5
               have y0_6 : w'.cell? ⟨w.heap.size, 6, none⟩ = some (.slice m.A2 m.n2 m.c2) := kb0.cell 6
               have y0_7 : w'.cell? ⟨w.heap.size, 7, none⟩ = some (.slice (some ⟨xb, xo, none⟩) n c) := kb0.cell 7
               have y0_8 : w'.cell? ⟨w.heap.size, 8, none⟩ = some (.int .i64 (day)) := kb0.cell 8
               have y0_9 : w'.cell? ⟨w.heap.size, 9, none⟩ = some (.int .i64 (pos)) := kb0.cell 9
               have kb1 := step_blk hb (show Blk _ (w4.heap.size) 67 #[.slice (some ⟨yb, yo, none⟩) n ct, .slice Xp n cp] by repeat' (first | exact K0_11.out | exact K1_11.out | exact K2_11.out | exact Blk.at_ _ (by first | rfl | (simp; done) | (simp; omega)) _ _ | refine Blk.drewN ?_ _ | refine Blk.drew ?_ | refine Blk.alloc ?_ _ | refine Blk.far ?_ (by first | omega | (simp; done) | (simp; omega)) _ | assumption))
               have y1_0 : w'.cell? ⟨w4.heap.size, 0, none⟩ = some (.slice (some ⟨yb, yo, none⟩) n ct) := kb1.cell 0
               have y1_1 : w'.cell? ⟨w4.heap.size, 1, none⟩ = some (.slice Xp n cp) := kb1.cell 1
               have kb2 := step_blk hb (show Blk _ (bx) 60 #[.int .i64 (X), .int .i64 (Y)] by repeat' (first | exact K0_11.out | exact K1_11.out | exact K2_11.out | exact Blk.at_ _ (by first | rfl | (simp; done) | (simp; omega)) _ _ | refine Blk.drewN ?_ _ | refine Blk.drew ?_ | refine Blk.alloc ?_ _ | refine Blk.far ?_ (by first | omega | (simp; done) | (simp; omega)) _ | assumption))
               have y2_0 : w'.cell? ⟨bx, 0, none⟩ = some (.int .i64 (X)) := kb2.cell 0
               have y2_1 : w'.cell? ⟨bx, 1, none⟩ = some (.int .i64 (Y)) := kb2.cell 1
               have yc0 : w'.cell? ⟨tk, to_ + k, none⟩ = some (.int .i64 (g)) := step_cell hb (show World.cell? _ ⟨tk, to_ + k, none⟩ = some (.int .i64 (g)) by first | exact C0_11.out | go_simp) (by have := htk; first | omega | (simp; omega))
               have yc1 : w'.cell? ⟨xb, xo + k * 6, none⟩ = some (.string t.name) := step_cell hb (show World.cell? _ ⟨xb, xo + k * 6, none⟩ = some (.string t.name) by first | exact C1_11.out | go_simp) (by have := hxb; first | omega | (simp; omega))
               have yc2 : w'.cell? ⟨xb, xo + k * 6 + 1, none⟩ = some (.int .i64 (t.az)) := step_cell hb (show World.cell? _ ⟨xb, xo + k * 6 + 1, none⟩ = some (.int .i64 (t.az)) by first | exact C2_11.out | go_simp) (by have := hxb; first | omega | (simp; omega))
               have yc3 : w'.cell? ⟨xb, xo + k * 6 + 2, none⟩ = some (.int .i64 (t.ht)) := step_cell hb (show World.cell? _ ⟨xb, xo + k * 6 + 2, none⟩ = some (.int .i64 (t.ht)) by first | exact C3_11.out | go_simp) (by have := hxb; first | omega | (simp; omega))
               have yc4 : w'.cell? ⟨xb, xo + k * 6 + 3, none⟩ = some (.int .i64 (t.fr)) := step_cell hb (show World.cell? _ ⟨xb, xo + k * 6 + 3, none⟩ = some (.int .i64 (t.fr)) by first | exact C4_11.out | go_simp) (by have := hxb; first | omega | (simp; omega))
               have yc5 : w'.cell? ⟨xb, xo + k * 6 + 4, none⟩ = some (.int .i64 (t.to)) := step_cell hb (show World.cell? _ ⟨xb, xo + k * 6 + 4, none⟩ = some (.int .i64 (t.to)) by first | exact C5_11.out | go_simp) (by have := hxb; first | omega | (simp; omega))
               have yc6 : w'.cell? ⟨xb, xo + k * 6 + 5, none⟩ = some (.int .i64 (t.dw)) := step_cell hb (show World.cell? _ ⟨xb, xo + k * 6 + 5, none⟩ = some (.int .i64 (t.dw)) by first | exact C6_11.out | go_simp) (by have := hxb; first | omega | (simp; omega))
               have yc7 : w'.cell? ⟨yb, yo + k, none⟩ = some (.int .i64 (K)) := step_cell hb (show World.cell? _ ⟨yb, yo + k, none⟩ = some (.int .i64 (K)) by first | exact C7_11.out | go_simp) (by have := hyb; first | omega | (simp; omega))
               clear kb0 kb1 kb2
               clear hk hD hb
               go_simp
               try rfl
             simp only [Act.put, List.setIfInBounds_toArray, List.set_cons_zero, List.set_cons_succ]))
        refine Fx.call_ (.int .i64 (cq)) ?_ ?_ (by rfl) ?_ ?_ ?_
        rotate_left 2
        · intro w'
          go_simp
          refine ⟨?_, ?_⟩ <;> rfl
        · intro f w' hD hk
          exact (ceilr_is u m.sp cq HCQ.out _ (by omega) (by omega) sp1 (by omega)).mono fun e w'' ⟨he, hw⟩ => ⟨he, hw ▸ hD⟩
        simp only [Act.put, List.setIfInBounds_toArray, List.set_cons_zero, List.set_cons_succ]
        repeat (first
          | (refine Fx.skip_ (by rfl) (fun f w h => h) ?_; simp only [Act.put, List.setIfInBounds_toArray, List.set_cons_zero, List.set_cons_succ])
          | (refine Fx.val_ ?_ (by rfl) ?_ (fun f w h => h) ?_
             rotate_left
             · intro f w' hD hk
               have hb := hD
               have kb0 := step_blk hb (show Blk _ (w.heap.size) 62 #[.int .i64 (m.ls), .int .i64 (m.ms), .int .i64 (m.lo), .int .i64 (m.hi), .int .i64 (m.sp), .slice m.A1 m.n1 m.c1, .slice m.A2 m.n2 m.c2, .slice (some ⟨xb, xo, none⟩) n c, .int .i64 (day), .int .i64 (pos)] by repeat' (first | exact K0_11.out | exact K1_11.out | exact K2_11.out | exact Blk.at_ _ (by first | rfl | (simp; done) | (simp; omega)) _ _ | refine Blk.drewN ?_ _ | refine Blk.drew ?_ | refine Blk.alloc ?_ _ | refine Blk.far ?_ (by first | omega | (simp; done) | (simp; omega)) _ | assumption))
               have y0_0 : w'.cell? ⟨w.heap.size, 0, none⟩ = some (.int .i64 (m.ls)) := kb0.cell 0
               have y0_1 : w'.cell? ⟨w.heap.size, 1, none⟩ = some (.int .i64 (m.ms)) := kb0.cell 1
               have y0_2 : w'.cell? ⟨w.heap.size, 2, none⟩ = some (.int .i64 (m.lo)) := kb0.cell 2
               have y0_3 : w'.cell? ⟨w.heap.size, 3, none⟩ = some (.int .i64 (m.hi)) := kb0.cell 3
               have y0_4 : w'.cell? ⟨w.heap.size, 4, none⟩ = some (.int .i64 (m.sp)) := kb0.cell 4
               have y0_5 : w'.cell? ⟨w.heap.size, 5, none⟩ = some (.slice m.A1 m.n1 m.c1) := kb0.cell 5
               have y0_6 : w'.cell? ⟨w.heap.size, 6, none⟩ = some (.slice m.A2 m.n2 m.c2) := kb0.cell 6
               have y0_7 : w'.cell? ⟨w.heap.size, 7, none⟩ = some (.slice (some ⟨xb, xo, none⟩) n c) := kb0.cell 7
               have y0_8 : w'.cell? ⟨w.heap.size, 8, none⟩ = some (.int .i64 (day)) := kb0.cell 8
               have y0_9 : w'.cell? ⟨w.heap.size, 9, none⟩ = some (.int .i64 (pos)) := kb0.cell 9
               have kb1 := step_blk hb (show Blk _ (w4.heap.size) 67 #[.slice (some ⟨yb, yo, none⟩) n ct, .slice Xp n cp] by repeat' (first | exact K0_11.out | exact K1_11.out | exact K2_11.out | exact Blk.at_ _ (by first | rfl | (simp; done) | (simp; omega)) _ _ | refine Blk.drewN ?_ _ | refine Blk.drew ?_ | refine Blk.alloc ?_ _ | refine Blk.far ?_ (by first | omega | (simp; done) | (simp; omega)) _ | assumption))
               have y1_0 : w'.cell? ⟨w4.heap.size, 0, none⟩ = some (.slice (some ⟨yb, yo, none⟩) n ct) := kb1.cell 0
               have y1_1 : w'.cell? ⟨w4.heap.size, 1, none⟩ = some (.slice Xp n cp) := kb1.cell 1
               have kb2 := step_blk hb (show Blk _ (bx) 60 #[.int .i64 (X), .int .i64 (Y)] by repeat' (first | exact K0_11.out | exact K1_11.out | exact K2_11.out | exact Blk.at_ _ (by first | rfl | (simp; done) | (simp; omega)) _ _ | refine Blk.drewN ?_ _ | refine Blk.drew ?_ | refine Blk.alloc ?_ _ | refine Blk.far ?_ (by first | omega | (simp; done) | (simp; omega)) _ | assumption))
               have y2_0 : w'.cell? ⟨bx, 0, none⟩ = some (.int .i64 (X)) := kb2.cell 0
               have y2_1 : w'.cell? ⟨bx, 1, none⟩ = some (.int .i64 (Y)) := kb2.cell 1
               have yc0 : w'.cell? ⟨tk, to_ + k, none⟩ = some (.int .i64 (g)) := step_cell hb (show World.cell? _ ⟨tk, to_ + k, none⟩ = some (.int .i64 (g)) by first | exact C0_11.out | go_simp) (by have := htk; first | omega | (simp; omega))
               have yc1 : w'.cell? ⟨xb, xo + k * 6, none⟩ = some (.string t.name) := step_cell hb (show World.cell? _ ⟨xb, xo + k * 6, none⟩ = some (.string t.name) by first | exact C1_11.out | go_simp) (by have := hxb; first | omega | (simp; omega))
               have yc2 : w'.cell? ⟨xb, xo + k * 6 + 1, none⟩ = some (.int .i64 (t.az)) := step_cell hb (show World.cell? _ ⟨xb, xo + k * 6 + 1, none⟩ = some (.int .i64 (t.az)) by first | exact C2_11.out | go_simp) (by have := hxb; first | omega | (simp; omega))
               have yc3 : w'.cell? ⟨xb, xo + k * 6 + 2, none⟩ = some (.int .i64 (t.ht)) := step_cell hb (show World.cell? _ ⟨xb, xo + k * 6 + 2, none⟩ = some (.int .i64 (t.ht)) by first | exact C3_11.out | go_simp) (by have := hxb; first | omega | (simp; omega))
               have yc4 : w'.cell? ⟨xb, xo + k * 6 + 3, none⟩ = some (.int .i64 (t.fr)) := step_cell hb (show World.cell? _ ⟨xb, xo + k * 6 + 3, none⟩ = some (.int .i64 (t.fr)) by first | exact C4_11.out | go_simp) (by have := hxb; first | omega | (simp; omega))
               have yc5 : w'.cell? ⟨xb, xo + k * 6 + 4, none⟩ = some (.int .i64 (t.to)) := step_cell hb (show World.cell? _ ⟨xb, xo + k * 6 + 4, none⟩ = some (.int .i64 (t.to)) by first | exact C5_11.out | go_simp) (by have := hxb; first | omega | (simp; omega))
               have yc6 : w'.cell? ⟨xb, xo + k * 6 + 5, none⟩ = some (.int .i64 (t.dw)) := step_cell hb (show World.cell? _ ⟨xb, xo + k * 6 + 5, none⟩ = some (.int .i64 (t.dw)) by first | exact C6_11.out | go_simp) (by have := hxb; first | omega | (simp; omega))
               have yc7 : w'.cell? ⟨yb, yo + k, none⟩ = some (.int .i64 (K)) := step_cell hb (show World.cell? _ ⟨yb, yo + k, none⟩ = some (.int .i64 (K)) by first | exact C7_11.out | go_simp) (by have := hyb; first | omega | (simp; omega))
               clear kb0 kb1 kb2
               clear hk hD hb
               go_simp
               try rfl
             simp only [Act.put, List.setIfInBounds_toArray, List.set_cons_zero, List.set_cons_succ]))
        refine Fx.nil_ ?_
        intro f w12 hall hb
        try clear hall
        have HB1112 := Lib.hid hb
        have HB12 := Lib.hid (show Below w.heap.size w w12 from step_below hb (by repeat' (first | exact Below.refl _ _ | exact HB11.out | refine below_drewN ?_ _ | refine Below.drew ?_ | refine Below.alloc ?_ (by first | omega | (simp; done) | (simp; omega) | (simp [World.setCell]; omega)) _ | refine Below.setCell ?_ (by first | omega | (simp; done) | (simp; omega)) _ | assumption)))
        have K0_12 := Lib.hid (step_blk hb (show Blk _ (w.heap.size) 62 #[.int .i64 (m.ls), .int .i64 (m.ms), .int .i64 (m.lo), .int .i64 (m.hi), .int .i64 (m.sp), .slice m.A1 m.n1 m.c1, .slice m.A2 m.n2 m.c2, .slice (some ⟨xb, xo, none⟩) n c, .int .i64 (day), .int .i64 (pos)] by repeat' (first | exact K0_11.out | exact K1_11.out | exact K2_11.out | exact Blk.at_ _ (by first | rfl | (simp; done) | (simp; omega)) _ _ | refine Blk.drewN ?_ _ | refine Blk.drew ?_ | refine Blk.alloc ?_ _ | refine Blk.far ?_ (by first | omega | (simp; done) | (simp; omega)) _ | assumption)))
        have K1_12 := Lib.hid (step_blk hb (show Blk _ (w4.heap.size) 67 #[.slice (some ⟨yb, yo, none⟩) n ct, .slice Xp n cp] by repeat' (first | exact K0_11.out | exact K1_11.out | exact K2_11.out | exact Blk.at_ _ (by first | rfl | (simp; done) | (simp; omega)) _ _ | refine Blk.drewN ?_ _ | refine Blk.drew ?_ | refine Blk.alloc ?_ _ | refine Blk.far ?_ (by first | omega | (simp; done) | (simp; omega)) _ | assumption)))
        have K2_12 := Lib.hid (step_blk hb (show Blk _ (bx) 60 #[.int .i64 (X), .int .i64 (Y)] by repeat' (first | exact K0_11.out | exact K1_11.out | exact K2_11.out | exact Blk.at_ _ (by first | rfl | (simp; done) | (simp; omega)) _ _ | refine Blk.drewN ?_ _ | refine Blk.drew ?_ | refine Blk.alloc ?_ _ | refine Blk.far ?_ (by first | omega | (simp; done) | (simp; omega)) _ | assumption)))
        have C0_12 := Lib.hid (step_cell hb (show World.cell? _ ⟨tk, to_ + k, none⟩ = some (.int .i64 (g)) by first | exact C0_11.out | go_simp) (by have := htk; first | omega | (simp; omega)))
        have C1_12 := Lib.hid (step_cell hb (show World.cell? _ ⟨xb, xo + k * 6, none⟩ = some (.string t.name) by first | exact C1_11.out | go_simp) (by have := hxb; first | omega | (simp; omega)))
        have C2_12 := Lib.hid (step_cell hb (show World.cell? _ ⟨xb, xo + k * 6 + 1, none⟩ = some (.int .i64 (t.az)) by first | exact C2_11.out | go_simp) (by have := hxb; first | omega | (simp; omega)))
        have C3_12 := Lib.hid (step_cell hb (show World.cell? _ ⟨xb, xo + k * 6 + 2, none⟩ = some (.int .i64 (t.ht)) by first | exact C3_11.out | go_simp) (by have := hxb; first | omega | (simp; omega)))
        have C4_12 := Lib.hid (step_cell hb (show World.cell? _ ⟨xb, xo + k * 6 + 3, none⟩ = some (.int .i64 (t.fr)) by first | exact C4_11.out | go_simp) (by have := hxb; first | omega | (simp; omega)))
        have C5_12 := Lib.hid (step_cell hb (show World.cell? _ ⟨xb, xo + k * 6 + 4, none⟩ = some (.int .i64 (t.to)) by first | exact C5_11.out | go_simp) (by have := hxb; first | omega | (simp; omega)))
        have C6_12 := Lib.hid (step_cell hb (show World.cell? _ ⟨xb, xo + k * 6 + 5, none⟩ = some (.int .i64 (t.dw)) by first | exact C6_11.out | go_simp) (by have := hxb; first | omega | (simp; omega)))
        have C7_12 := Lib.hid (step_cell hb (show World.cell? _ ⟨yb, yo + k, none⟩ = some (.int .i64 (K)) by first | exact C7_11.out | go_simp) (by have := hyb; first | omega | (simp; omega)))
        have hL12 := Lib.hid (show Below w11.heap.size w11 _ from reads_mid hb (by repeat' (first | exact Below.refl _ _ | refine below_drewN ?_ _ | refine Below.drew ?_ | refine Below.alloc ?_ (by first | omega | (simp; done) | (simp; omega) | (simp [World.setCell]; omega)) _ | refine Below.setCell ?_ (by first | omega | (simp; done) | (simp; omega)) _)))
        have R0_12 := Lib.hid (reads_lay hb hL12.out R0_11.out)
        have R1_12 := Lib.hid (mnt_lay hb hL12.out R1_11.out)
        have R2_12 := Lib.hid (reads_lay hb hL12.out R2_11.out)
        have R3_12 := Lib.hid (reads_lay hb hL12.out R3_11.out)
        have R4_12 := Lib.hid (reads_lay hb hL12.out R4_11.out)
        clear hL12 R0_11 R1_11 R2_11 R3_11 R4_11
        have HA12 := Lib.hid (step_below hb HA11.out)
        clear HA11
        have hz12 := hb.size
        try simp only [World.size_alloc, World.drewN, World.drew] at hz12
        clear hb K0_11 K1_11 K2_11 z0_0_11 z0_1_11 z0_2_11 z0_3_11 z0_4_11 z0_5_11 z0_6_11 z0_7_11 z0_8_11 z0_9_11 l0_11 z1_0_11 z1_1_11 l1_11 z2_0_11 z2_1_11 l2_11
        have l0_12 : w.heap.size < w12.heap.size := K0_12.out.lt
        have z0_0_12 : w12.cell? ⟨w.heap.size, 0, none⟩ = some (.int .i64 (m.ls)) := K0_12.out.cell 0
        have z0_1_12 : w12.cell? ⟨w.heap.size, 1, none⟩ = some (.int .i64 (m.ms)) := K0_12.out.cell 1
        have z0_2_12 : w12.cell? ⟨w.heap.size, 2, none⟩ = some (.int .i64 (m.lo)) := K0_12.out.cell 2
        have z0_3_12 : w12.cell? ⟨w.heap.size, 3, none⟩ = some (.int .i64 (m.hi)) := K0_12.out.cell 3
        have z0_4_12 : w12.cell? ⟨w.heap.size, 4, none⟩ = some (.int .i64 (m.sp)) := K0_12.out.cell 4
        have z0_5_12 : w12.cell? ⟨w.heap.size, 5, none⟩ = some (.slice m.A1 m.n1 m.c1) := K0_12.out.cell 5
        have z0_6_12 : w12.cell? ⟨w.heap.size, 6, none⟩ = some (.slice m.A2 m.n2 m.c2) := K0_12.out.cell 6
        have z0_7_12 : w12.cell? ⟨w.heap.size, 7, none⟩ = some (.slice (some ⟨xb, xo, none⟩) n c) := K0_12.out.cell 7
        have z0_8_12 : w12.cell? ⟨w.heap.size, 8, none⟩ = some (.int .i64 (day)) := K0_12.out.cell 8
        have z0_9_12 : w12.cell? ⟨w.heap.size, 9, none⟩ = some (.int .i64 (pos)) := K0_12.out.cell 9
        have l1_12 : w4.heap.size < w12.heap.size := K1_12.out.lt
        have z1_0_12 : w12.cell? ⟨w4.heap.size, 0, none⟩ = some (.slice (some ⟨yb, yo, none⟩) n ct) := K1_12.out.cell 0
        have z1_1_12 : w12.cell? ⟨w4.heap.size, 1, none⟩ = some (.slice Xp n cp) := K1_12.out.cell 1
        have l2_12 : bx < w12.heap.size := K2_12.out.lt
        have z2_0_12 : w12.cell? ⟨bx, 0, none⟩ = some (.int .i64 (X)) := K2_12.out.cell 0
        have z2_1_12 : w12.cell? ⟨bx, 1, none⟩ = some (.int .i64 (Y)) := K2_12.out.cell 1
        go_wp2
        refine Fx.regionW (fun W f w' => Below W.heap.size W w') (by kernel_rfl) (by kernel_rfl) ?_ ?_
        · intro f hf0
          exact below_drewN (Below.refl _ _) 1
        repeat (first
          | (refine Fx.skip_ (by rfl) (fun f w h => h) ?_; simp only [Act.put, List.setIfInBounds_toArray, List.set_cons_zero, List.set_cons_succ])
          | (refine Fx.val_ ?_ (by rfl) ?_ (fun f w h => h) ?_
             rotate_left
             · intro f w' hD hk
               have hb := hD
               have kb0 := step_blk hb (show Blk _ (w.heap.size) 62 #[.int .i64 (m.ls), .int .i64 (m.ms), .int .i64 (m.lo), .int .i64 (m.hi), .int .i64 (m.sp), .slice m.A1 m.n1 m.c1, .slice m.A2 m.n2 m.c2, .slice (some ⟨xb, xo, none⟩) n c, .int .i64 (day), .int .i64 (pos)] by repeat' (first | exact K0_12.out | exact K1_12.out | exact K2_12.out | exact Blk.at_ _ (by first | rfl | (simp; done) | (simp; omega)) _ _ | refine Blk.drewN ?_ _ | refine Blk.drew ?_ | refine Blk.alloc ?_ _ | refine Blk.far ?_ (by first | omega | (simp; done) | (simp; omega)) _ | assumption))
               have y0_0 : w'.cell? ⟨w.heap.size, 0, none⟩ = some (.int .i64 (m.ls)) := kb0.cell 0
               have y0_1 : w'.cell? ⟨w.heap.size, 1, none⟩ = some (.int .i64 (m.ms)) := kb0.cell 1
               have y0_2 : w'.cell? ⟨w.heap.size, 2, none⟩ = some (.int .i64 (m.lo)) := kb0.cell 2
               have y0_3 : w'.cell? ⟨w.heap.size, 3, none⟩ = some (.int .i64 (m.hi)) := kb0.cell 3
               have y0_4 : w'.cell? ⟨w.heap.size, 4, none⟩ = some (.int .i64 (m.sp)) := kb0.cell 4
               have y0_5 : w'.cell? ⟨w.heap.size, 5, none⟩ = some (.slice m.A1 m.n1 m.c1) := kb0.cell 5
               have y0_6 : w'.cell? ⟨w.heap.size, 6, none⟩ = some (.slice m.A2 m.n2 m.c2) := kb0.cell 6
               have y0_7 : w'.cell? ⟨w.heap.size, 7, none⟩ = some (.slice (some ⟨xb, xo, none⟩) n c) := kb0.cell 7
               have y0_8 : w'.cell? ⟨w.heap.size, 8, none⟩ = some (.int .i64 (day)) := kb0.cell 8
               have y0_9 : w'.cell? ⟨w.heap.size, 9, none⟩ = some (.int .i64 (pos)) := kb0.cell 9
               have kb1 := step_blk hb (show Blk _ (w4.heap.size) 67 #[.slice (some ⟨yb, yo, none⟩) n ct, .slice Xp n cp] by repeat' (first | exact K0_12.out | exact K1_12.out | exact K2_12.out | exact Blk.at_ _ (by first | rfl | (simp; done) | (simp; omega)) _ _ | refine Blk.drewN ?_ _ | refine Blk.drew ?_ | refine Blk.alloc ?_ _ | refine Blk.far ?_ (by first | omega | (simp; done) | (simp; omega)) _ | assumption))
               have y1_0 : w'.cell? ⟨w4.heap.size, 0, none⟩ = some (.slice (some ⟨yb, yo, none⟩) n ct) := kb1.cell 0
               have y1_1 : w'.cell? ⟨w4.heap.size, 1, none⟩ = some (.slice Xp n cp) := kb1.cell 1
               have kb2 := step_blk hb (show Blk _ (bx) 60 #[.int .i64 (X), .int .i64 (Y)] by repeat' (first | exact K0_12.out | exact K1_12.out | exact K2_12.out | exact Blk.at_ _ (by first | rfl | (simp; done) | (simp; omega)) _ _ | refine Blk.drewN ?_ _ | refine Blk.drew ?_ | refine Blk.alloc ?_ _ | refine Blk.far ?_ (by first | omega | (simp; done) | (simp; omega)) _ | assumption))
               have y2_0 : w'.cell? ⟨bx, 0, none⟩ = some (.int .i64 (X)) := kb2.cell 0
               have y2_1 : w'.cell? ⟨bx, 1, none⟩ = some (.int .i64 (Y)) := kb2.cell 1
               have yc0 : w'.cell? ⟨tk, to_ + k, none⟩ = some (.int .i64 (g)) := step_cell hb (show World.cell? _ ⟨tk, to_ + k, none⟩ = some (.int .i64 (g)) by first | exact C0_12.out | go_simp) (by have := htk; first | omega | (simp; omega))
               have yc1 : w'.cell? ⟨xb, xo + k * 6, none⟩ = some (.string t.name) := step_cell hb (show World.cell? _ ⟨xb, xo + k * 6, none⟩ = some (.string t.name) by first | exact C1_12.out | go_simp) (by have := hxb; first | omega | (simp; omega))
               have yc2 : w'.cell? ⟨xb, xo + k * 6 + 1, none⟩ = some (.int .i64 (t.az)) := step_cell hb (show World.cell? _ ⟨xb, xo + k * 6 + 1, none⟩ = some (.int .i64 (t.az)) by first | exact C2_12.out | go_simp) (by have := hxb; first | omega | (simp; omega))
               have yc3 : w'.cell? ⟨xb, xo + k * 6 + 2, none⟩ = some (.int .i64 (t.ht)) := step_cell hb (show World.cell? _ ⟨xb, xo + k * 6 + 2, none⟩ = some (.int .i64 (t.ht)) by first | exact C3_12.out | go_simp) (by have := hxb; first | omega | (simp; omega))
               have yc4 : w'.cell? ⟨xb, xo + k * 6 + 3, none⟩ = some (.int .i64 (t.fr)) := step_cell hb (show World.cell? _ ⟨xb, xo + k * 6 + 3, none⟩ = some (.int .i64 (t.fr)) by first | exact C4_12.out | go_simp) (by have := hxb; first | omega | (simp; omega))
               have yc5 : w'.cell? ⟨xb, xo + k * 6 + 4, none⟩ = some (.int .i64 (t.to)) := step_cell hb (show World.cell? _ ⟨xb, xo + k * 6 + 4, none⟩ = some (.int .i64 (t.to)) by first | exact C5_12.out | go_simp) (by have := hxb; first | omega | (simp; omega))
               have yc6 : w'.cell? ⟨xb, xo + k * 6 + 5, none⟩ = some (.int .i64 (t.dw)) := step_cell hb (show World.cell? _ ⟨xb, xo + k * 6 + 5, none⟩ = some (.int .i64 (t.dw)) by first | exact C6_12.out | go_simp) (by have := hxb; first | omega | (simp; omega))
               have yc7 : w'.cell? ⟨yb, yo + k, none⟩ = some (.int .i64 (K)) := step_cell hb (show World.cell? _ ⟨yb, yo + k, none⟩ = some (.int .i64 (K)) by first | exact C7_12.out | go_simp) (by have := hyb; first | omega | (simp; omega))
               have hgf := HGF.out
               clear kb0 kb1 kb2
               clear hk hD hb
               go_simp
               try rfl
             simp only [Act.put, List.setIfInBounds_toArray, List.set_cons_zero, List.set_cons_succ]))
        refine Fx.call_ (.int .i64 (cq)) ?_ ?_ (by rfl) ?_ ?_ ?_
        rotate_left 2
        · intro w'
          go_simp
          refine ⟨?_, ?_⟩ <;> rfl
        · intro f w' hD hk
          exact (ceilr_is u m.sp cq HCQ.out _ (by omega) (by omega) sp1 (by omega)).mono fun e w'' ⟨he, hw⟩ => ⟨he, hw ▸ hD⟩
        simp only [Act.put, List.setIfInBounds_toArray, List.set_cons_zero, List.set_cons_succ]
        repeat (first
          | (refine Fx.skip_ (by rfl) (fun f w h => h) ?_; simp only [Act.put, List.setIfInBounds_toArray, List.set_cons_zero, List.set_cons_succ])
          | (refine Fx.val_ ?_ (by rfl) ?_ (fun f w h => h) ?_
             rotate_left
             · intro f w' hD hk
               have hb := hD
               have kb0 := step_blk hb (show Blk _ (w.heap.size) 62 #[.int .i64 (m.ls), .int .i64 (m.ms), .int .i64 (m.lo), .int .i64 (m.hi), .int .i64 (m.sp), .slice m.A1 m.n1 m.c1, .slice m.A2 m.n2 m.c2, .slice (some ⟨xb, xo, none⟩) n c, .int .i64 (day), .int .i64 (pos)] by repeat' (first | exact K0_12.out | exact K1_12.out | exact K2_12.out | exact Blk.at_ _ (by first | rfl | (simp; done) | (simp; omega)) _ _ | refine Blk.drewN ?_ _ | refine Blk.drew ?_ | refine Blk.alloc ?_ _ | refine Blk.far ?_ (by first | omega | (simp; done) | (simp; omega)) _ | assumption))
               have y0_0 : w'.cell? ⟨w.heap.size, 0, none⟩ = some (.int .i64 (m.ls)) := kb0.cell 0
               have y0_1 : w'.cell? ⟨w.heap.size, 1, none⟩ = some (.int .i64 (m.ms)) := kb0.cell 1
               have y0_2 : w'.cell? ⟨w.heap.size, 2, none⟩ = some (.int .i64 (m.lo)) := kb0.cell 2
               have y0_3 : w'.cell? ⟨w.heap.size, 3, none⟩ = some (.int .i64 (m.hi)) := kb0.cell 3
               have y0_4 : w'.cell? ⟨w.heap.size, 4, none⟩ = some (.int .i64 (m.sp)) := kb0.cell 4
               have y0_5 : w'.cell? ⟨w.heap.size, 5, none⟩ = some (.slice m.A1 m.n1 m.c1) := kb0.cell 5
               have y0_6 : w'.cell? ⟨w.heap.size, 6, none⟩ = some (.slice m.A2 m.n2 m.c2) := kb0.cell 6
               have y0_7 : w'.cell? ⟨w.heap.size, 7, none⟩ = some (.slice (some ⟨xb, xo, none⟩) n c) := kb0.cell 7
               have y0_8 : w'.cell? ⟨w.heap.size, 8, none⟩ = some (.int .i64 (day)) := kb0.cell 8
               have y0_9 : w'.cell? ⟨w.heap.size, 9, none⟩ = some (.int .i64 (pos)) := kb0.cell 9
               have kb1 := step_blk hb (show Blk _ (w4.heap.size) 67 #[.slice (some ⟨yb, yo, none⟩) n ct, .slice Xp n cp] by repeat' (first | exact K0_12.out | exact K1_12.out | exact K2_12.out | exact Blk.at_ _ (by first | rfl | (simp; done) | (simp; omega)) _ _ | refine Blk.drewN ?_ _ | refine Blk.drew ?_ | refine Blk.alloc ?_ _ | refine Blk.far ?_ (by first | omega | (simp; done) | (simp; omega)) _ | assumption))
               have y1_0 : w'.cell? ⟨w4.heap.size, 0, none⟩ = some (.slice (some ⟨yb, yo, none⟩) n ct) := kb1.cell 0
               have y1_1 : w'.cell? ⟨w4.heap.size, 1, none⟩ = some (.slice Xp n cp) := kb1.cell 1
               have kb2 := step_blk hb (show Blk _ (bx) 60 #[.int .i64 (X), .int .i64 (Y)] by repeat' (first | exact K0_12.out | exact K1_12.out | exact K2_12.out | exact Blk.at_ _ (by first | rfl | (simp; done) | (simp; omega)) _ _ | refine Blk.drewN ?_ _ | refine Blk.drew ?_ | refine Blk.alloc ?_ _ | refine Blk.far ?_ (by first | omega | (simp; done) | (simp; omega)) _ | assumption))
               have y2_0 : w'.cell? ⟨bx, 0, none⟩ = some (.int .i64 (X)) := kb2.cell 0
               have y2_1 : w'.cell? ⟨bx, 1, none⟩ = some (.int .i64 (Y)) := kb2.cell 1
               have yc0 : w'.cell? ⟨tk, to_ + k, none⟩ = some (.int .i64 (g)) := step_cell hb (show World.cell? _ ⟨tk, to_ + k, none⟩ = some (.int .i64 (g)) by first | exact C0_12.out | go_simp) (by have := htk; first | omega | (simp; omega))
               have yc1 : w'.cell? ⟨xb, xo + k * 6, none⟩ = some (.string t.name) := step_cell hb (show World.cell? _ ⟨xb, xo + k * 6, none⟩ = some (.string t.name) by first | exact C1_12.out | go_simp) (by have := hxb; first | omega | (simp; omega))
               have yc2 : w'.cell? ⟨xb, xo + k * 6 + 1, none⟩ = some (.int .i64 (t.az)) := step_cell hb (show World.cell? _ ⟨xb, xo + k * 6 + 1, none⟩ = some (.int .i64 (t.az)) by first | exact C2_12.out | go_simp) (by have := hxb; first | omega | (simp; omega))
               have yc3 : w'.cell? ⟨xb, xo + k * 6 + 2, none⟩ = some (.int .i64 (t.ht)) := step_cell hb (show World.cell? _ ⟨xb, xo + k * 6 + 2, none⟩ = some (.int .i64 (t.ht)) by first | exact C3_12.out | go_simp) (by have := hxb; first | omega | (simp; omega))
               have yc4 : w'.cell? ⟨xb, xo + k * 6 + 3, none⟩ = some (.int .i64 (t.fr)) := step_cell hb (show World.cell? _ ⟨xb, xo + k * 6 + 3, none⟩ = some (.int .i64 (t.fr)) by first | exact C4_12.out | go_simp) (by have := hxb; first | omega | (simp; omega))
               have yc5 : w'.cell? ⟨xb, xo + k * 6 + 4, none⟩ = some (.int .i64 (t.to)) := step_cell hb (show World.cell? _ ⟨xb, xo + k * 6 + 4, none⟩ = some (.int .i64 (t.to)) by first | exact C5_12.out | go_simp) (by have := hxb; first | omega | (simp; omega))
               have yc6 : w'.cell? ⟨xb, xo + k * 6 + 5, none⟩ = some (.int .i64 (t.dw)) := step_cell hb (show World.cell? _ ⟨xb, xo + k * 6 + 5, none⟩ = some (.int .i64 (t.dw)) by first | exact C6_12.out | go_simp) (by have := hxb; first | omega | (simp; omega))
               have yc7 : w'.cell? ⟨yb, yo + k, none⟩ = some (.int .i64 (K)) := step_cell hb (show World.cell? _ ⟨yb, yo + k, none⟩ = some (.int .i64 (K)) by first | exact C7_12.out | go_simp) (by have := hyb; first | omega | (simp; omega))
               have hgf := HGF.out
               clear kb0 kb1 kb2
               clear hk hD hb
               go_simp
               try rfl
             simp only [Act.put, List.setIfInBounds_toArray, List.set_cons_zero, List.set_cons_succ]))
        refine Fx.nil_ ?_
        intro f w13 hall hb
        try clear hall
        have HB1213 := Lib.hid hb
        have HB13 := Lib.hid (show Below w.heap.size w w13 from step_below hb (by repeat' (first | exact Below.refl _ _ | exact HB12.out | refine below_drewN ?_ _ | refine Below.drew ?_ | refine Below.alloc ?_ (by first | omega | (simp; done) | (simp; omega) | (simp [World.setCell]; omega)) _ | refine Below.setCell ?_ (by first | omega | (simp; done) | (simp; omega)) _ | assumption)))
        have K0_13 := Lib.hid (step_blk hb (show Blk _ (w.heap.size) 62 #[.int .i64 (m.ls), .int .i64 (m.ms), .int .i64 (m.lo), .int .i64 (m.hi), .int .i64 (m.sp), .slice m.A1 m.n1 m.c1, .slice m.A2 m.n2 m.c2, .slice (some ⟨xb, xo, none⟩) n c, .int .i64 (day), .int .i64 (pos)] by repeat' (first | exact K0_12.out | exact K1_12.out | exact K2_12.out | exact Blk.at_ _ (by first | rfl | (simp; done) | (simp; omega)) _ _ | refine Blk.drewN ?_ _ | refine Blk.drew ?_ | refine Blk.alloc ?_ _ | refine Blk.far ?_ (by first | omega | (simp; done) | (simp; omega)) _ | assumption)))
        have K1_13 := Lib.hid (step_blk hb (show Blk _ (w4.heap.size) 67 #[.slice (some ⟨yb, yo, none⟩) n ct, .slice Xp n cp] by repeat' (first | exact K0_12.out | exact K1_12.out | exact K2_12.out | exact Blk.at_ _ (by first | rfl | (simp; done) | (simp; omega)) _ _ | refine Blk.drewN ?_ _ | refine Blk.drew ?_ | refine Blk.alloc ?_ _ | refine Blk.far ?_ (by first | omega | (simp; done) | (simp; omega)) _ | assumption)))
        have K2_13 := Lib.hid (step_blk hb (show Blk _ (bx) 60 #[.int .i64 (X), .int .i64 (Y)] by repeat' (first | exact K0_12.out | exact K1_12.out | exact K2_12.out | exact Blk.at_ _ (by first | rfl | (simp; done) | (simp; omega)) _ _ | refine Blk.drewN ?_ _ | refine Blk.drew ?_ | refine Blk.alloc ?_ _ | refine Blk.far ?_ (by first | omega | (simp; done) | (simp; omega)) _ | assumption)))
        have C0_13 := Lib.hid (step_cell hb (show World.cell? _ ⟨tk, to_ + k, none⟩ = some (.int .i64 (g)) by first | exact C0_12.out | go_simp) (by have := htk; first | omega | (simp; omega)))
        have C1_13 := Lib.hid (step_cell hb (show World.cell? _ ⟨xb, xo + k * 6, none⟩ = some (.string t.name) by first | exact C1_12.out | go_simp) (by have := hxb; first | omega | (simp; omega)))
        have C2_13 := Lib.hid (step_cell hb (show World.cell? _ ⟨xb, xo + k * 6 + 1, none⟩ = some (.int .i64 (t.az)) by first | exact C2_12.out | go_simp) (by have := hxb; first | omega | (simp; omega)))
        have C3_13 := Lib.hid (step_cell hb (show World.cell? _ ⟨xb, xo + k * 6 + 2, none⟩ = some (.int .i64 (t.ht)) by first | exact C3_12.out | go_simp) (by have := hxb; first | omega | (simp; omega)))
        have C4_13 := Lib.hid (step_cell hb (show World.cell? _ ⟨xb, xo + k * 6 + 3, none⟩ = some (.int .i64 (t.fr)) by first | exact C4_12.out | go_simp) (by have := hxb; first | omega | (simp; omega)))
        have C5_13 := Lib.hid (step_cell hb (show World.cell? _ ⟨xb, xo + k * 6 + 4, none⟩ = some (.int .i64 (t.to)) by first | exact C5_12.out | go_simp) (by have := hxb; first | omega | (simp; omega)))
        have C6_13 := Lib.hid (step_cell hb (show World.cell? _ ⟨xb, xo + k * 6 + 5, none⟩ = some (.int .i64 (t.dw)) by first | exact C6_12.out | go_simp) (by have := hxb; first | omega | (simp; omega)))
        have C7_13 := Lib.hid (step_cell hb (show World.cell? _ ⟨yb, yo + k, none⟩ = some (.int .i64 (K)) by first | exact C7_12.out | go_simp) (by have := hyb; first | omega | (simp; omega)))
        have hL13 := Lib.hid (show Below w12.heap.size w12 _ from reads_mid hb (by repeat' (first | exact Below.refl _ _ | refine below_drewN ?_ _ | refine Below.drew ?_ | refine Below.alloc ?_ (by first | omega | (simp; done) | (simp; omega) | (simp [World.setCell]; omega)) _ | refine Below.setCell ?_ (by first | omega | (simp; done) | (simp; omega)) _)))
        have R0_13 := Lib.hid (reads_lay hb hL13.out R0_12.out)
        have R1_13 := Lib.hid (mnt_lay hb hL13.out R1_12.out)
        have R2_13 := Lib.hid (reads_lay hb hL13.out R2_12.out)
        have R3_13 := Lib.hid (reads_lay hb hL13.out R3_12.out)
        have R4_13 := Lib.hid (reads_lay hb hL13.out R4_12.out)
        clear hL13 R0_12 R1_12 R2_12 R3_12 R4_12
        have HA13 := Lib.hid (step_below hb HA12.out)
        clear HA12
        have hz13 := hb.size
        try simp only [World.size_alloc, World.drewN, World.drew] at hz13
        clear hb K0_12 K1_12 K2_12 z0_0_12 z0_1_12 z0_2_12 z0_3_12 z0_4_12 z0_5_12 z0_6_12 z0_7_12 z0_8_12 z0_9_12 l0_12 z1_0_12 z1_1_12 l1_12 z2_0_12 z2_1_12 l2_12
        have l0_13 : w.heap.size < w13.heap.size := K0_13.out.lt
        have z0_0_13 : w13.cell? ⟨w.heap.size, 0, none⟩ = some (.int .i64 (m.ls)) := K0_13.out.cell 0
        have z0_1_13 : w13.cell? ⟨w.heap.size, 1, none⟩ = some (.int .i64 (m.ms)) := K0_13.out.cell 1
        have z0_2_13 : w13.cell? ⟨w.heap.size, 2, none⟩ = some (.int .i64 (m.lo)) := K0_13.out.cell 2
        have z0_3_13 : w13.cell? ⟨w.heap.size, 3, none⟩ = some (.int .i64 (m.hi)) := K0_13.out.cell 3
        have z0_4_13 : w13.cell? ⟨w.heap.size, 4, none⟩ = some (.int .i64 (m.sp)) := K0_13.out.cell 4
        have z0_5_13 : w13.cell? ⟨w.heap.size, 5, none⟩ = some (.slice m.A1 m.n1 m.c1) := K0_13.out.cell 5
        have z0_6_13 : w13.cell? ⟨w.heap.size, 6, none⟩ = some (.slice m.A2 m.n2 m.c2) := K0_13.out.cell 6
        have z0_7_13 : w13.cell? ⟨w.heap.size, 7, none⟩ = some (.slice (some ⟨xb, xo, none⟩) n c) := K0_13.out.cell 7
        have z0_8_13 : w13.cell? ⟨w.heap.size, 8, none⟩ = some (.int .i64 (day)) := K0_13.out.cell 8
        have z0_9_13 : w13.cell? ⟨w.heap.size, 9, none⟩ = some (.int .i64 (pos)) := K0_13.out.cell 9
        have l1_13 : w4.heap.size < w13.heap.size := K1_13.out.lt
        have z1_0_13 : w13.cell? ⟨w4.heap.size, 0, none⟩ = some (.slice (some ⟨yb, yo, none⟩) n ct) := K1_13.out.cell 0
        have z1_1_13 : w13.cell? ⟨w4.heap.size, 1, none⟩ = some (.slice Xp n cp) := K1_13.out.cell 1
        have l2_13 : bx < w13.heap.size := K2_13.out.lt
        have z2_0_13 : w13.cell? ⟨bx, 0, none⟩ = some (.int .i64 (X)) := K2_13.out.cell 0
        have z2_1_13 : w13.cell? ⟨bx, 1, none⟩ = some (.int .i64 (Y)) := K2_13.out.cell 1
        go_wp2
        refine Fx.regionW (fun W f w' => Below W.heap.size W w') (by kernel_rfl) (by kernel_rfl) ?_ ?_
        · intro f hf0
          exact below_drewN (Below.refl _ _) 1
        repeat (first
          | (refine Fx.skip_ (by rfl) (fun f w h => h) ?_; simp only [Act.put, List.setIfInBounds_toArray, List.set_cons_zero, List.set_cons_succ])
          | (refine Fx.val_ ?_ (by rfl) ?_ (fun f w h => h) ?_
             rotate_left
             · intro f w' hD hk
               have hb := hD
               have kb0 := step_blk hb (show Blk _ (w.heap.size) 62 #[.int .i64 (m.ls), .int .i64 (m.ms), .int .i64 (m.lo), .int .i64 (m.hi), .int .i64 (m.sp), .slice m.A1 m.n1 m.c1, .slice m.A2 m.n2 m.c2, .slice (some ⟨xb, xo, none⟩) n c, .int .i64 (day), .int .i64 (pos)] by repeat' (first | exact K0_13.out | exact K1_13.out | exact K2_13.out | exact Blk.at_ _ (by first | rfl | (simp; done) | (simp; omega)) _ _ | refine Blk.drewN ?_ _ | refine Blk.drew ?_ | refine Blk.alloc ?_ _ | refine Blk.far ?_ (by first | omega | (simp; done) | (simp; omega)) _ | assumption))
               have y0_0 : w'.cell? ⟨w.heap.size, 0, none⟩ = some (.int .i64 (m.ls)) := kb0.cell 0
               have y0_1 : w'.cell? ⟨w.heap.size, 1, none⟩ = some (.int .i64 (m.ms)) := kb0.cell 1
               have y0_2 : w'.cell? ⟨w.heap.size, 2, none⟩ = some (.int .i64 (m.lo)) := kb0.cell 2
               have y0_3 : w'.cell? ⟨w.heap.size, 3, none⟩ = some (.int .i64 (m.hi)) := kb0.cell 3
               have y0_4 : w'.cell? ⟨w.heap.size, 4, none⟩ = some (.int .i64 (m.sp)) := kb0.cell 4
               have y0_5 : w'.cell? ⟨w.heap.size, 5, none⟩ = some (.slice m.A1 m.n1 m.c1) := kb0.cell 5
               have y0_6 : w'.cell? ⟨w.heap.size, 6, none⟩ = some (.slice m.A2 m.n2 m.c2) := kb0.cell 6
               have y0_7 : w'.cell? ⟨w.heap.size, 7, none⟩ = some (.slice (some ⟨xb, xo, none⟩) n c) := kb0.cell 7
               have y0_8 : w'.cell? ⟨w.heap.size, 8, none⟩ = some (.int .i64 (day)) := kb0.cell 8
               have y0_9 : w'.cell? ⟨w.heap.size, 9, none⟩ = some (.int .i64 (pos)) := kb0.cell 9
               have kb1 := step_blk hb (show Blk _ (w4.heap.size) 67 #[.slice (some ⟨yb, yo, none⟩) n ct, .slice Xp n cp] by repeat' (first | exact K0_13.out | exact K1_13.out | exact K2_13.out | exact Blk.at_ _ (by first | rfl | (simp; done) | (simp; omega)) _ _ | refine Blk.drewN ?_ _ | refine Blk.drew ?_ | refine Blk.alloc ?_ _ | refine Blk.far ?_ (by first | omega | (simp; done) | (simp; omega)) _ | assumption))
               have y1_0 : w'.cell? ⟨w4.heap.size, 0, none⟩ = some (.slice (some ⟨yb, yo, none⟩) n ct) := kb1.cell 0
               have y1_1 : w'.cell? ⟨w4.heap.size, 1, none⟩ = some (.slice Xp n cp) := kb1.cell 1
               have kb2 := step_blk hb (show Blk _ (bx) 60 #[.int .i64 (X), .int .i64 (Y)] by repeat' (first | exact K0_13.out | exact K1_13.out | exact K2_13.out | exact Blk.at_ _ (by first | rfl | (simp; done) | (simp; omega)) _ _ | refine Blk.drewN ?_ _ | refine Blk.drew ?_ | refine Blk.alloc ?_ _ | refine Blk.far ?_ (by first | omega | (simp; done) | (simp; omega)) _ | assumption))
               have y2_0 : w'.cell? ⟨bx, 0, none⟩ = some (.int .i64 (X)) := kb2.cell 0
               have y2_1 : w'.cell? ⟨bx, 1, none⟩ = some (.int .i64 (Y)) := kb2.cell 1
               have yc0 : w'.cell? ⟨tk, to_ + k, none⟩ = some (.int .i64 (g)) := step_cell hb (show World.cell? _ ⟨tk, to_ + k, none⟩ = some (.int .i64 (g)) by first | exact C0_13.out | go_simp) (by have := htk; first | omega | (simp; omega))
               have yc1 : w'.cell? ⟨xb, xo + k * 6, none⟩ = some (.string t.name) := step_cell hb (show World.cell? _ ⟨xb, xo + k * 6, none⟩ = some (.string t.name) by first | exact C1_13.out | go_simp) (by have := hxb; first | omega | (simp; omega))
               have yc2 : w'.cell? ⟨xb, xo + k * 6 + 1, none⟩ = some (.int .i64 (t.az)) := step_cell hb (show World.cell? _ ⟨xb, xo + k * 6 + 1, none⟩ = some (.int .i64 (t.az)) by first | exact C2_13.out | go_simp) (by have := hxb; first | omega | (simp; omega))
               have yc3 : w'.cell? ⟨xb, xo + k * 6 + 2, none⟩ = some (.int .i64 (t.ht)) := step_cell hb (show World.cell? _ ⟨xb, xo + k * 6 + 2, none⟩ = some (.int .i64 (t.ht)) by first | exact C3_13.out | go_simp) (by have := hxb; first | omega | (simp; omega))
               have yc4 : w'.cell? ⟨xb, xo + k * 6 + 3, none⟩ = some (.int .i64 (t.fr)) := step_cell hb (show World.cell? _ ⟨xb, xo + k * 6 + 3, none⟩ = some (.int .i64 (t.fr)) by first | exact C4_13.out | go_simp) (by have := hxb; first | omega | (simp; omega))
               have yc5 : w'.cell? ⟨xb, xo + k * 6 + 4, none⟩ = some (.int .i64 (t.to)) := step_cell hb (show World.cell? _ ⟨xb, xo + k * 6 + 4, none⟩ = some (.int .i64 (t.to)) by first | exact C5_13.out | go_simp) (by have := hxb; first | omega | (simp; omega))
               have yc6 : w'.cell? ⟨xb, xo + k * 6 + 5, none⟩ = some (.int .i64 (t.dw)) := step_cell hb (show World.cell? _ ⟨xb, xo + k * 6 + 5, none⟩ = some (.int .i64 (t.dw)) by first | exact C6_13.out | go_simp) (by have := hxb; first | omega | (simp; omega))
               have yc7 : w'.cell? ⟨yb, yo + k, none⟩ = some (.int .i64 (K)) := step_cell hb (show World.cell? _ ⟨yb, yo + k, none⟩ = some (.int .i64 (K)) by first | exact C7_13.out | go_simp) (by have := hyb; first | omega | (simp; omega))
               clear kb0 kb1 kb2
               clear hk hD hb
               go_simp
               try rfl
             simp only [Act.put, List.setIfInBounds_toArray, List.set_cons_zero, List.set_cons_succ]))
        refine Fx.nil_ ?_
        intro f w14 hall hb
        try clear hall
        have HB1314 := Lib.hid hb
        have HB14 := Lib.hid (show Below w.heap.size w w14 from step_below hb (by repeat' (first | exact Below.refl _ _ | exact HB13.out | refine below_drewN ?_ _ | refine Below.drew ?_ | refine Below.alloc ?_ (by first | omega | (simp; done) | (simp; omega) | (simp [World.setCell]; omega)) _ | refine Below.setCell ?_ (by first | omega | (simp; done) | (simp; omega)) _ | assumption)))
        have K0_14 := Lib.hid (step_blk hb (show Blk _ (w.heap.size) 62 #[.int .i64 (m.ls), .int .i64 (m.ms), .int .i64 (m.lo), .int .i64 (m.hi), .int .i64 (m.sp), .slice m.A1 m.n1 m.c1, .slice m.A2 m.n2 m.c2, .slice (some ⟨xb, xo, none⟩) n c, .int .i64 (day), .int .i64 (pos)] by repeat' (first | exact K0_13.out | exact K1_13.out | exact K2_13.out | exact Blk.at_ _ (by first | rfl | (simp; done) | (simp; omega)) _ _ | refine Blk.drewN ?_ _ | refine Blk.drew ?_ | refine Blk.alloc ?_ _ | refine Blk.far ?_ (by first | omega | (simp; done) | (simp; omega)) _ | assumption)))
        have K1_14 := Lib.hid (step_blk hb (show Blk _ (w4.heap.size) 67 #[.slice (some ⟨yb, yo, none⟩) n ct, .slice Xp n cp] by repeat' (first | exact K0_13.out | exact K1_13.out | exact K2_13.out | exact Blk.at_ _ (by first | rfl | (simp; done) | (simp; omega)) _ _ | refine Blk.drewN ?_ _ | refine Blk.drew ?_ | refine Blk.alloc ?_ _ | refine Blk.far ?_ (by first | omega | (simp; done) | (simp; omega)) _ | assumption)))
        have K2_14 := Lib.hid (step_blk hb (show Blk _ (bx) 60 #[.int .i64 (X), .int .i64 (Y)] by repeat' (first | exact K0_13.out | exact K1_13.out | exact K2_13.out | exact Blk.at_ _ (by first | rfl | (simp; done) | (simp; omega)) _ _ | refine Blk.drewN ?_ _ | refine Blk.drew ?_ | refine Blk.alloc ?_ _ | refine Blk.far ?_ (by first | omega | (simp; done) | (simp; omega)) _ | assumption)))
        have C0_14 := Lib.hid (step_cell hb (show World.cell? _ ⟨tk, to_ + k, none⟩ = some (.int .i64 (g)) by first | exact C0_13.out | go_simp) (by have := htk; first | omega | (simp; omega)))
        have C1_14 := Lib.hid (step_cell hb (show World.cell? _ ⟨xb, xo + k * 6, none⟩ = some (.string t.name) by first | exact C1_13.out | go_simp) (by have := hxb; first | omega | (simp; omega)))
        have C2_14 := Lib.hid (step_cell hb (show World.cell? _ ⟨xb, xo + k * 6 + 1, none⟩ = some (.int .i64 (t.az)) by first | exact C2_13.out | go_simp) (by have := hxb; first | omega | (simp; omega)))
        have C3_14 := Lib.hid (step_cell hb (show World.cell? _ ⟨xb, xo + k * 6 + 2, none⟩ = some (.int .i64 (t.ht)) by first | exact C3_13.out | go_simp) (by have := hxb; first | omega | (simp; omega)))
        have C4_14 := Lib.hid (step_cell hb (show World.cell? _ ⟨xb, xo + k * 6 + 3, none⟩ = some (.int .i64 (t.fr)) by first | exact C4_13.out | go_simp) (by have := hxb; first | omega | (simp; omega)))
        have C5_14 := Lib.hid (step_cell hb (show World.cell? _ ⟨xb, xo + k * 6 + 4, none⟩ = some (.int .i64 (t.to)) by first | exact C5_13.out | go_simp) (by have := hxb; first | omega | (simp; omega)))
        have C6_14 := Lib.hid (step_cell hb (show World.cell? _ ⟨xb, xo + k * 6 + 5, none⟩ = some (.int .i64 (t.dw)) by first | exact C6_13.out | go_simp) (by have := hxb; first | omega | (simp; omega)))
        have C7_14 := Lib.hid (step_cell hb (show World.cell? _ ⟨yb, yo + k, none⟩ = some (.int .i64 (K)) by first | exact C7_13.out | go_simp) (by have := hyb; first | omega | (simp; omega)))
        have hL14 := Lib.hid (show Below w13.heap.size w13 _ from reads_mid hb (by repeat' (first | exact Below.refl _ _ | refine below_drewN ?_ _ | refine Below.drew ?_ | refine Below.alloc ?_ (by first | omega | (simp; done) | (simp; omega) | (simp [World.setCell]; omega)) _ | refine Below.setCell ?_ (by first | omega | (simp; done) | (simp; omega)) _)))
        have R0_14 := Lib.hid (reads_lay hb hL14.out R0_13.out)
        have R1_14 := Lib.hid (mnt_lay hb hL14.out R1_13.out)
        have R2_14 := Lib.hid (reads_lay hb hL14.out R2_13.out)
        have R3_14 := Lib.hid (reads_lay hb hL14.out R3_13.out)
        have R4_14 := Lib.hid (reads_lay hb hL14.out R4_13.out)
        clear hL14 R0_13 R1_13 R2_13 R3_13 R4_13
        have HA14 := Lib.hid (step_below hb HA13.out)
        clear HA13
        have hz14 := hb.size
        try simp only [World.size_alloc, World.drewN, World.drew] at hz14
        clear hb K0_13 K1_13 K2_13 z0_0_13 z0_1_13 z0_2_13 z0_3_13 z0_4_13 z0_5_13 z0_6_13 z0_7_13 z0_8_13 z0_9_13 l0_13 z1_0_13 z1_1_13 l1_13 z2_0_13 z2_1_13 l2_13
        have l0_14 : w.heap.size < w14.heap.size := K0_14.out.lt
        have z0_0_14 : w14.cell? ⟨w.heap.size, 0, none⟩ = some (.int .i64 (m.ls)) := K0_14.out.cell 0
        have z0_1_14 : w14.cell? ⟨w.heap.size, 1, none⟩ = some (.int .i64 (m.ms)) := K0_14.out.cell 1
        have z0_2_14 : w14.cell? ⟨w.heap.size, 2, none⟩ = some (.int .i64 (m.lo)) := K0_14.out.cell 2
        have z0_3_14 : w14.cell? ⟨w.heap.size, 3, none⟩ = some (.int .i64 (m.hi)) := K0_14.out.cell 3
        have z0_4_14 : w14.cell? ⟨w.heap.size, 4, none⟩ = some (.int .i64 (m.sp)) := K0_14.out.cell 4
        have z0_5_14 : w14.cell? ⟨w.heap.size, 5, none⟩ = some (.slice m.A1 m.n1 m.c1) := K0_14.out.cell 5
        have z0_6_14 : w14.cell? ⟨w.heap.size, 6, none⟩ = some (.slice m.A2 m.n2 m.c2) := K0_14.out.cell 6
        have z0_7_14 : w14.cell? ⟨w.heap.size, 7, none⟩ = some (.slice (some ⟨xb, xo, none⟩) n c) := K0_14.out.cell 7
        have z0_8_14 : w14.cell? ⟨w.heap.size, 8, none⟩ = some (.int .i64 (day)) := K0_14.out.cell 8
        have z0_9_14 : w14.cell? ⟨w.heap.size, 9, none⟩ = some (.int .i64 (pos)) := K0_14.out.cell 9
        have l1_14 : w4.heap.size < w14.heap.size := K1_14.out.lt
        have z1_0_14 : w14.cell? ⟨w4.heap.size, 0, none⟩ = some (.slice (some ⟨yb, yo, none⟩) n ct) := K1_14.out.cell 0
        have z1_1_14 : w14.cell? ⟨w4.heap.size, 1, none⟩ = some (.slice Xp n cp) := K1_14.out.cell 1
        have l2_14 : bx < w14.heap.size := K2_14.out.lt
        have z2_0_14 : w14.cell? ⟨bx, 0, none⟩ = some (.int .i64 (X)) := K2_14.out.cell 0
        have z2_1_14 : w14.cell? ⟨bx, 1, none⟩ = some (.int .i64 (Y)) := K2_14.out.cell 1
        go_wp2
        go_roundw
        case rel => exact ⟨k + 1, by omega, by rw [HLAST.out], by rw [HNX.out], by go_num, HB67.out.trans (HA14.out.mono HB67.out.size)⟩
        case measure => simp [intOf]; omega

theorem lawTR_any (m : Mnt) (A : Option Addr) (n c : Nat) (l : List Tgt) (day pos mi : Int) (w : World) (hx : TourIn m A n c l day pos w) (_ : I64 mi) :
    Calls Try.prog 10 #[tourV m A n c day pos, .int .i64 mi] w fun e w' => e = .returned (.bool true) ∧ Below w.heap.size w w' := by
  by_cases h0 : shortB m l = false ∨ 5 < n ∨ (tourF m l day pos).2 ≠ 0
  · exact lawTR_no m A n c l day pos mi w hx h0
  · rw [not_or, not_or] at h0
    exact lawTR_yes m A n c l day pos mi w hx (by simpa using h0.1) (by omega) (by simpa using h0.2.2)
end Go.Proofs.Ytdidcpealabaiaa

end
