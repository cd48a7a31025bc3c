import Derived.Test.YtgamepmipoociaaQ25
import Derived.Test.YtgamepmipoociaaQ27
import Derived.Test.YtgamepmipoociaaQ18

section
/- The walk of the statement on targets of pointing. -/
namespace Go.Proofs.Ytgamepmipoociaa
open Go Go.RowKit

theorem mtd_cases {m : Mnt} {t : Tgt} {day E : Int} (hE : mtdErr m t day = E) (h0 : E ≠ 0) : (mntErr m = E) ∨ (mntErr m = 0 ∧ tgtErr t = E) ∨ (mntErr m = 0 ∧ tgtErr t = 0 ∧ E = 2 ∧ withinB day 0 100000 = false) := by
  unfold mtdErr at hE
  by_cases h1 : mntErr m = 0
  · right
    by_cases h2 : tgtErr t = 0
    · right
      by_cases h3 : withinB day 0 100000 = true
      · exact absurd hE.symm (by simp [orE, h1, h2, dayErr, h3, h0])
      · have h3 : withinB day 0 100000 = false := by simpa using h3
        exact ⟨h1, h2, by simpa [orE, h1, h2, dayErr, h3] using hE.symm, h3⟩
    · exact .inl ⟨h1, by simpa [orE, h1, h2] using hE⟩
  · exact .inl (by simpa [orE, h1] using hE)

theorem turnsAt_len (m : Mnt) (X Y : Int) : (turnsAt m X Y).1.length ≤ 43 := by
  unfold turnsAt
  split
  · simp
  · split
    · simp
    · exact turnsTo_len _ _ _ _

set_option maxRecDepth 100000 in
set_option maxHeartbeats 4000000 in
theorem lawPG_any (m : Mnt) (t : Tgt) (day : Int) (w : World) (hm : MntIn m w) (ht : TgtIn t) (_ : -9223372036854775808 ≤ day) (_ : day ≤ 9223372036854775807) :
    Calls Try.prog 5 #[m.val, t.val, .int .i64 day] w fun e w' => e = .returned (.bool true) ∧ Below w.heap.size w w' := by
  have hma := hm.at_
  have hts := ht.s
  unfold Mnt.val Tgt.val
  clear hm ht
  cases hl : lightB m
  · have HL := Lib.hid hl
    clear hl
    go_enter Try.func5, Try.ntmps5
    go_wp2_with fail
    refine (awakept_any _).mono ?_
    rintro e w1 ⟨rfl, hb⟩
    have HB1 := Lib.hid (show Below w.heap.size w w1 from step_below hb (by repeat' (first | exact Below.refl _ _ | exact HB0.out | refine below_drewN ?_ _ | refine Below.drew ?_ | refine Below.alloc ?_ (by first | omega | (simp; done) | (simp; omega) | (simp [World.setCell]; omega)) _ | refine Below.setCell ?_ (by first | omega | (simp; done) | (simp; omega)) _ | assumption)))
    have K0_1 := Lib.hid (step_blk hb (show Blk _ (w.heap.size) 42 #[.int .i64 (m.ls), .int .i64 (m.ms), .int .i64 (m.lo), .int .i64 (m.hi), .int .i64 (m.sp), .slice m.A1 m.n1 m.c1, .slice m.A2 m.n2 m.c2] by repeat' (first | exact Blk.at_ _ (by first | rfl | (simp; done) | (simp; omega)) _ _ | refine Blk.drewN ?_ _ | refine Blk.drew ?_ | refine Blk.alloc ?_ _ | refine Blk.far ?_ (by first | omega | (simp; done) | (simp; omega)) _ | assumption)))
    have K1_1 := Lib.hid (step_blk hb (show Blk _ (w.heap.size + 1) 44 #[.string t.name, .int .i64 (t.az), .int .i64 (t.ht), .int .i64 (t.fr), .int .i64 (t.to), .int .i64 (t.dw)] by repeat' (first | exact Blk.at_ _ (by first | rfl | (simp; done) | (simp; omega)) _ _ | refine Blk.drewN ?_ _ | refine Blk.drew ?_ | refine Blk.alloc ?_ _ | refine Blk.far ?_ (by first | omega | (simp; done) | (simp; omega)) _ | assumption)))
    have hz1 := hb.size
    try simp only [World.size_alloc, World.drewN, World.drew] at hz1
    clear hb
    have l0_1 : w.heap.size < w1.heap.size := K0_1.out.lt
    have z0_0_1 : w1.cell? ⟨w.heap.size, 0, none⟩ = some (.int .i64 (m.ls)) := K0_1.out.cell 0
    have z0_1_1 : w1.cell? ⟨w.heap.size, 1, none⟩ = some (.int .i64 (m.ms)) := K0_1.out.cell 1
    have z0_2_1 : w1.cell? ⟨w.heap.size, 2, none⟩ = some (.int .i64 (m.lo)) := K0_1.out.cell 2
    have z0_3_1 : w1.cell? ⟨w.heap.size, 3, none⟩ = some (.int .i64 (m.hi)) := K0_1.out.cell 3
    have z0_4_1 : w1.cell? ⟨w.heap.size, 4, none⟩ = some (.int .i64 (m.sp)) := K0_1.out.cell 4
    have z0_5_1 : w1.cell? ⟨w.heap.size, 5, none⟩ = some (.slice m.A1 m.n1 m.c1) := K0_1.out.cell 5
    have z0_6_1 : w1.cell? ⟨w.heap.size, 6, none⟩ = some (.slice m.A2 m.n2 m.c2) := K0_1.out.cell 6
    have l1_1 : w.heap.size + 1 < w1.heap.size := K1_1.out.lt
    have z1_0_1 : w1.cell? ⟨w.heap.size + 1, 0, none⟩ = some (.string t.name) := K1_1.out.cell 0
    have z1_1_1 : w1.cell? ⟨w.heap.size + 1, 1, none⟩ = some (.int .i64 (t.az)) := K1_1.out.cell 1
    have z1_2_1 : w1.cell? ⟨w.heap.size + 1, 2, none⟩ = some (.int .i64 (t.ht)) := K1_1.out.cell 2
    have z1_3_1 : w1.cell? ⟨w.heap.size + 1, 3, none⟩ = some (.int .i64 (t.fr)) := K1_1.out.cell 3
    have z1_4_1 : w1.cell? ⟨w.heap.size + 1, 4, none⟩ = some (.int .i64 (t.to)) := K1_1.out.cell 4
    have z1_5_1 : w1.cell? ⟨w.heap.size + 1, 5, none⟩ = some (.int .i64 (t.dw)) := K1_1.out.cell 5
    go_wp2_with fail
    refine (light_is m false HL.out _).mono ?_
    rintro e w2 ⟨rfl, hb⟩
    have HB2 := Lib.hid (show Below w.heap.size w w2 from step_below hb (by repeat' (first | exact Below.refl _ _ | exact HB1.out | refine below_drewN ?_ _ | refine Below.drew ?_ | refine Below.alloc ?_ (by first | omega | (simp; done) | (simp; omega) | (simp [World.setCell]; omega)) _ | refine Below.setCell ?_ (by first | omega | (simp; done) | (simp; omega)) _ | assumption)))
    have K0_2 := Lib.hid (step_blk hb (show Blk _ (w.heap.size) 42 #[.int .i64 (m.ls), .int .i64 (m.ms), .int .i64 (m.lo), .int .i64 (m.hi), .int .i64 (m.sp), .slice m.A1 m.n1 m.c1, .slice m.A2 m.n2 m.c2] by repeat' (first | exact K0_1.out | exact K1_1.out | exact Blk.at_ _ (by first | rfl | (simp; done) | (simp; omega)) _ _ | refine Blk.drewN ?_ _ | refine Blk.drew ?_ | refine Blk.alloc ?_ _ | refine Blk.far ?_ (by first | omega | (simp; done) | (simp; omega)) _ | assumption)))
    have K1_2 := Lib.hid (step_blk hb (show Blk _ (w.heap.size + 1) 44 #[.string t.name, .int .i64 (t.az), .int .i64 (t.ht), .int .i64 (t.fr), .int .i64 (t.to), .int .i64 (t.dw)] by repeat' (first | exact K0_1.out | exact K1_1.out | exact Blk.at_ _ (by first | rfl | (simp; done) | (simp; omega)) _ _ | refine Blk.drewN ?_ _ | refine Blk.drew ?_ | refine Blk.alloc ?_ _ | refine Blk.far ?_ (by first | omega | (simp; done) | (simp; omega)) _ | assumption)))
    have hz2 := hb.size
    try simp only [World.size_alloc, World.drewN, World.drew] at hz2
    clear hb K0_1 K1_1 z0_0_1 z0_1_1 z0_2_1 z0_3_1 z0_4_1 z0_5_1 z0_6_1 l0_1 z1_0_1 z1_1_1 z1_2_1 z1_3_1 z1_4_1 z1_5_1 l1_1
    have l0_2 : w.heap.size < w2.heap.size := K0_2.out.lt
    have z0_0_2 : w2.cell? ⟨w.heap.size, 0, none⟩ = some (.int .i64 (m.ls)) := K0_2.out.cell 0
    have z0_1_2 : w2.cell? ⟨w.heap.size, 1, none⟩ = some (.int .i64 (m.ms)) := K0_2.out.cell 1
    have z0_2_2 : w2.cell? ⟨w.heap.size, 2, none⟩ = some (.int .i64 (m.lo)) := K0_2.out.cell 2
    have z0_3_2 : w2.cell? ⟨w.heap.size, 3, none⟩ = some (.int .i64 (m.hi)) := K0_2.out.cell 3
    have z0_4_2 : w2.cell? ⟨w.heap.size, 4, none⟩ = some (.int .i64 (m.sp)) := K0_2.out.cell 4
    have z0_5_2 : w2.cell? ⟨w.heap.size, 5, none⟩ = some (.slice m.A1 m.n1 m.c1) := K0_2.out.cell 5
    have z0_6_2 : w2.cell? ⟨w.heap.size, 6, none⟩ = some (.slice m.A2 m.n2 m.c2) := K0_2.out.cell 6
    have l1_2 : w.heap.size + 1 < w2.heap.size := K1_2.out.lt
    have z1_0_2 : w2.cell? ⟨w.heap.size + 1, 0, none⟩ = some (.string t.name) := K1_2.out.cell 0
    have z1_1_2 : w2.cell? ⟨w.heap.size + 1, 1, none⟩ = some (.int .i64 (t.az)) := K1_2.out.cell 1
    have z1_2_2 : w2.cell? ⟨w.heap.size + 1, 2, none⟩ = some (.int .i64 (t.ht)) := K1_2.out.cell 2
    have z1_3_2 : w2.cell? ⟨w.heap.size + 1, 3, none⟩ = some (.int .i64 (t.fr)) := K1_2.out.cell 3
    have z1_4_2 : w2.cell? ⟨w.heap.size + 1, 4, none⟩ = some (.int .i64 (t.to)) := K1_2.out.cell 4
    have z1_5_2 : w2.cell? ⟨w.heap.size + 1, 5, none⟩ = some (.int .i64 (t.dw)) := K1_2.out.cell 5
    go_wp2
    go_ret
    exact ⟨rfl, by repeat' (first | exact Below.refl _ _ | exact HB2.out | refine below_drewN ?_ _ | refine Below.drew ?_ | refine Below.alloc ?_ (by first | omega | (simp; done) | (simp; omega) | (simp [World.setCell]; omega)) _ | refine Below.setCell ?_ (by first | omega | (simp; done) | (simp; omega)) _ | assumption)⟩
  have hn1 := rowsB_le (show rowsB m.n1 = true by unfold lightB at hl; simp at hl; exact hl.1)
  have hn2 := rowsB_le (show rowsB m.n2 = true by unfold lightB at hl; simp at hl; exact hl.2)
  have HL := Lib.hid hl
  clear hl
  by_cases h30 : (30 : Int) < (t.name.size : Int)
  · go_enter Try.func5, Try.ntmps5
    go_wp2_with fail
    refine (awakept_any _).mono ?_
    rintro e w1 ⟨rfl, hb⟩
    have HB1 := Lib.hid (show Below w.heap.size w w1 from step_below hb (by repeat' (first | exact Below.refl _ _ | exact HB0.out | refine below_drewN ?_ _ | refine Below.drew ?_ | refine Below.alloc ?_ (by first | omega | (simp; done) | (simp; omega) | (simp [World.setCell]; omega)) _ | refine Below.setCell ?_ (by first | omega | (simp; done) | (simp; omega)) _ | assumption)))
    have K0_1 := Lib.hid (step_blk hb (show Blk _ (w.heap.size) 42 #[.int .i64 (m.ls), .int .i64 (m.ms), .int .i64 (m.lo), .int .i64 (m.hi), .int .i64 (m.sp), .slice m.A1 m.n1 m.c1, .slice m.A2 m.n2 m.c2] by repeat' (first | exact Blk.at_ _ (by first | rfl | (simp; done) | (simp; omega)) _ _ | refine Blk.drewN ?_ _ | refine Blk.drew ?_ | refine Blk.alloc ?_ _ | refine Blk.far ?_ (by first | omega | (simp; done) | (simp; omega)) _ | assumption)))
    have K1_1 := Lib.hid (step_blk hb (show Blk _ (w.heap.size + 1) 44 #[.string t.name, .int .i64 (t.az), .int .i64 (t.ht), .int .i64 (t.fr), .int .i64 (t.to), .int .i64 (t.dw)] by repeat' (first | exact Blk.at_ _ (by first | rfl | (simp; done) | (simp; omega)) _ _ | refine Blk.drewN ?_ _ | refine Blk.drew ?_ | refine Blk.alloc ?_ _ | refine Blk.far ?_ (by first | omega | (simp; done) | (simp; omega)) _ | assumption)))
    have hz1 := hb.size
    try simp only [World.size_alloc, World.drewN, World.drew] at hz1
    clear hb
    have l0_1 : w.heap.size < w1.heap.size := K0_1.out.lt
    have z0_0_1 : w1.cell? ⟨w.heap.size, 0, none⟩ = some (.int .i64 (m.ls)) := K0_1.out.cell 0
    have z0_1_1 : w1.cell? ⟨w.heap.size, 1, none⟩ = some (.int .i64 (m.ms)) := K0_1.out.cell 1
    have z0_2_1 : w1.cell? ⟨w.heap.size, 2, none⟩ = some (.int .i64 (m.lo)) := K0_1.out.cell 2
    have z0_3_1 : w1.cell? ⟨w.heap.size, 3, none⟩ = some (.int .i64 (m.hi)) := K0_1.out.cell 3
    have z0_4_1 : w1.cell? ⟨w.heap.size, 4, none⟩ = some (.int .i64 (m.sp)) := K0_1.out.cell 4
    have z0_5_1 : w1.cell? ⟨w.heap.size, 5, none⟩ = some (.slice m.A1 m.n1 m.c1) := K0_1.out.cell 5
    have z0_6_1 : w1.cell? ⟨w.heap.size, 6, none⟩ = some (.slice m.A2 m.n2 m.c2) := K0_1.out.cell 6
    have l1_1 : w.heap.size + 1 < w1.heap.size := K1_1.out.lt
    have z1_0_1 : w1.cell? ⟨w.heap.size + 1, 0, none⟩ = some (.string t.name) := K1_1.out.cell 0
    have z1_1_1 : w1.cell? ⟨w.heap.size + 1, 1, none⟩ = some (.int .i64 (t.az)) := K1_1.out.cell 1
    have z1_2_1 : w1.cell? ⟨w.heap.size + 1, 2, none⟩ = some (.int .i64 (t.ht)) := K1_1.out.cell 2
    have z1_3_1 : w1.cell? ⟨w.heap.size + 1, 3, none⟩ = some (.int .i64 (t.fr)) := K1_1.out.cell 3
    have z1_4_1 : w1.cell? ⟨w.heap.size + 1, 4, none⟩ = some (.int .i64 (t.to)) := K1_1.out.cell 4
    have z1_5_1 : w1.cell? ⟨w.heap.size + 1, 5, none⟩ = some (.int .i64 (t.dw)) := K1_1.out.cell 5
    go_wp2_with fail
    refine (light_is m true HL.out _).mono ?_
    rintro e w2 ⟨rfl, hb⟩
    have HB2 := Lib.hid (show Below w.heap.size w w2 from step_below hb (by repeat' (first | exact Below.refl _ _ | exact HB1.out | refine below_drewN ?_ _ | refine Below.drew ?_ | refine Below.alloc ?_ (by first | omega | (simp; done) | (simp; omega) | (simp [World.setCell]; omega)) _ | refine Below.setCell ?_ (by first | omega | (simp; done) | (simp; omega)) _ | assumption)))
    have K0_2 := Lib.hid (step_blk hb (show Blk _ (w.heap.size) 42 #[.int .i64 (m.ls), .int .i64 (m.ms), .int .i64 (m.lo), .int .i64 (m.hi), .int .i64 (m.sp), .slice m.A1 m.n1 m.c1, .slice m.A2 m.n2 m.c2] by repeat' (first | exact K0_1.out | exact K1_1.out | exact Blk.at_ _ (by first | rfl | (simp; done) | (simp; omega)) _ _ | refine Blk.drewN ?_ _ | refine Blk.drew ?_ | refine Blk.alloc ?_ _ | refine Blk.far ?_ (by first | omega | (simp; done) | (simp; omega)) _ | assumption)))
    have K1_2 := Lib.hid (step_blk hb (show Blk _ (w.heap.size + 1) 44 #[.string t.name, .int .i64 (t.az), .int .i64 (t.ht), .int .i64 (t.fr), .int .i64 (t.to), .int .i64 (t.dw)] by repeat' (first | exact K0_1.out | exact K1_1.out | exact Blk.at_ _ (by first | rfl | (simp; done) | (simp; omega)) _ _ | refine Blk.drewN ?_ _ | refine Blk.drew ?_ | refine Blk.alloc ?_ _ | refine Blk.far ?_ (by first | omega | (simp; done) | (simp; omega)) _ | assumption)))
    have hz2 := hb.size
    try simp only [World.size_alloc, World.drewN, World.drew] at hz2
    clear hb K0_1 K1_1 z0_0_1 z0_1_1 z0_2_1 z0_3_1 z0_4_1 z0_5_1 z0_6_1 l0_1 z1_0_1 z1_1_1 z1_2_1 z1_3_1 z1_4_1 z1_5_1 l1_1
    have l0_2 : w.heap.size < w2.heap.size := K0_2.out.lt
    have z0_0_2 : w2.cell? ⟨w.heap.size, 0, none⟩ = some (.int .i64 (m.ls)) := K0_2.out.cell 0
    have z0_1_2 : w2.cell? ⟨w.heap.size, 1, none⟩ = some (.int .i64 (m.ms)) := K0_2.out.cell 1
    have z0_2_2 : w2.cell? ⟨w.heap.size, 2, none⟩ = some (.int .i64 (m.lo)) := K0_2.out.cell 2
    have z0_3_2 : w2.cell? ⟨w.heap.size, 3, none⟩ = some (.int .i64 (m.hi)) := K0_2.out.cell 3
    have z0_4_2 : w2.cell? ⟨w.heap.size, 4, none⟩ = some (.int .i64 (m.sp)) := K0_2.out.cell 4
    have z0_5_2 : w2.cell? ⟨w.heap.size, 5, none⟩ = some (.slice m.A1 m.n1 m.c1) := K0_2.out.cell 5
    have z0_6_2 : w2.cell? ⟨w.heap.size, 6, none⟩ = some (.slice m.A2 m.n2 m.c2) := K0_2.out.cell 6
    have l1_2 : w.heap.size + 1 < w2.heap.size := K1_2.out.lt
    have z1_0_2 : w2.cell? ⟨w.heap.size + 1, 0, none⟩ = some (.string t.name) := K1_2.out.cell 0
    have z1_1_2 : w2.cell? ⟨w.heap.size + 1, 1, none⟩ = some (.int .i64 (t.az)) := K1_2.out.cell 1
    have z1_2_2 : w2.cell? ⟨w.heap.size + 1, 2, none⟩ = some (.int .i64 (t.ht)) := K1_2.out.cell 2
    have z1_3_2 : w2.cell? ⟨w.heap.size + 1, 3, none⟩ = some (.int .i64 (t.fr)) := K1_2.out.cell 3
    have z1_4_2 : w2.cell? ⟨w.heap.size + 1, 4, none⟩ = some (.int .i64 (t.to)) := K1_2.out.cell 4
    have z1_5_2 : w2.cell? ⟨w.heap.size + 1, 5, none⟩ = some (.int .i64 (t.dw)) := K1_2.out.cell 5
    go_wp2
    go_ret
    exact ⟨rfl, by repeat' (first | exact Below.refl _ _ | exact HB2.out | refine below_drewN ?_ _ | refine Below.drew ?_ | refine Below.alloc ?_ (by first | omega | (simp; done) | (simp; omega) | (simp [World.setCell]; omega)) _ | refine Below.setCell ?_ (by first | omega | (simp; done) | (simp; omega)) _ | assumption)⟩
  obtain ⟨E, hE⟩ : ∃ E, mtdErr m t day = E := ⟨_, rfl⟩
  obtain ⟨M0, hM0⟩ : ∃ E, mntErr m = E := ⟨_, rfl⟩
  obtain ⟨T0, hT0⟩ : ∃ E, tgtErr t = E := ⟨_, rfl⟩
  have r1 : (M0 != M0) = false := by simp
  have r2 : (T0 != T0) = false := by simp
  have HM0 := Lib.hid hM0
  have HT0 := Lib.hid hT0
  by_cases h0 : E = 0
  rotate_left
  · have hc := mtd_cases hE h0
    rw [hM0, hT0] at hc
    have HC := Lib.hid hc
    have HE := Lib.hid hE
    have HE0 := Lib.hid h0
    have q1 : (E == E) = true := by simp
    have q2 : (E != 0) = true := by simpa using h0
    have q3 : (E == 0) = false := by simpa using h0
    clear hE h0 hM0 hT0 hc
    go_enter Try.func5, Try.ntmps5
    have R0_0 := Lib.hid hma
    clear hma
    go_wp2_with fail
    refine (awakept_any _).mono ?_
    rintro e w1 ⟨rfl, hb⟩
    have HB1 := Lib.hid (show Below w.heap.size w w1 from step_below hb (by repeat' (first | exact Below.refl _ _ | exact HB0.out | refine below_drewN ?_ _ | refine Below.drew ?_ | refine Below.alloc ?_ (by first | omega | (simp; done) | (simp; omega) | (simp [World.setCell]; omega)) _ | refine Below.setCell ?_ (by first | omega | (simp; done) | (simp; omega)) _ | assumption)))
    have K0_1 := Lib.hid (step_blk hb (show Blk _ (w.heap.size) 42 #[.int .i64 (m.ls), .int .i64 (m.ms), .int .i64 (m.lo), .int .i64 (m.hi), .int .i64 (m.sp), .slice m.A1 m.n1 m.c1, .slice m.A2 m.n2 m.c2] by repeat' (first | exact Blk.at_ _ (by first | rfl | (simp; done) | (simp; omega)) _ _ | refine Blk.drewN ?_ _ | refine Blk.drew ?_ | refine Blk.alloc ?_ _ | refine Blk.far ?_ (by first | omega | (simp; done) | (simp; omega)) _ | assumption)))
    have K1_1 := Lib.hid (step_blk hb (show Blk _ (w.heap.size + 1) 44 #[.string t.name, .int .i64 (t.az), .int .i64 (t.ht), .int .i64 (t.fr), .int .i64 (t.to), .int .i64 (t.dw)] by repeat' (first | exact Blk.at_ _ (by first | rfl | (simp; done) | (simp; omega)) _ _ | refine Blk.drewN ?_ _ | refine Blk.drew ?_ | refine Blk.alloc ?_ _ | refine Blk.far ?_ (by first | omega | (simp; done) | (simp; omega)) _ | assumption)))
    have hL1 := Lib.hid (show Below w.heap.size w _ from reads_mid hb (by repeat' (first | exact Below.refl _ _ | refine below_drewN ?_ _ | refine Below.drew ?_ | refine Below.alloc ?_ (by first | omega | (simp; done) | (simp; omega) | (simp [World.setCell]; omega)) _ | refine Below.setCell ?_ (by first | omega | (simp; done) | (simp; omega)) _)))
    have R0_1 := Lib.hid (mnt_lay hb hL1.out R0_0.out)
    clear hL1 R0_0
    have hz1 := hb.size
    try simp only [World.size_alloc, World.drewN, World.drew] at hz1
    clear hb
    have l0_1 : w.heap.size < w1.heap.size := K0_1.out.lt
    have z0_0_1 : w1.cell? ⟨w.heap.size, 0, none⟩ = some (.int .i64 (m.ls)) := K0_1.out.cell 0
    have z0_1_1 : w1.cell? ⟨w.heap.size, 1, none⟩ = some (.int .i64 (m.ms)) := K0_1.out.cell 1
    have z0_2_1 : w1.cell? ⟨w.heap.size, 2, none⟩ = some (.int .i64 (m.lo)) := K0_1.out.cell 2
    have z0_3_1 : w1.cell? ⟨w.heap.size, 3, none⟩ = some (.int .i64 (m.hi)) := K0_1.out.cell 3
    have z0_4_1 : w1.cell? ⟨w.heap.size, 4, none⟩ = some (.int .i64 (m.sp)) := K0_1.out.cell 4
    have z0_5_1 : w1.cell? ⟨w.heap.size, 5, none⟩ = some (.slice m.A1 m.n1 m.c1) := K0_1.out.cell 5
    have z0_6_1 : w1.cell? ⟨w.heap.size, 6, none⟩ = some (.slice m.A2 m.n2 m.c2) := K0_1.out.cell 6
    have l1_1 : w.heap.size + 1 < w1.heap.size := K1_1.out.lt
    have z1_0_1 : w1.cell? ⟨w.heap.size + 1, 0, none⟩ = some (.string t.name) := K1_1.out.cell 0
    have z1_1_1 : w1.cell? ⟨w.heap.size + 1, 1, none⟩ = some (.int .i64 (t.az)) := K1_1.out.cell 1
    have z1_2_1 : w1.cell? ⟨w.heap.size + 1, 2, none⟩ = some (.int .i64 (t.ht)) := K1_1.out.cell 2
    have z1_3_1 : w1.cell? ⟨w.heap.size + 1, 3, none⟩ = some (.int .i64 (t.fr)) := K1_1.out.cell 3
    have z1_4_1 : w1.cell? ⟨w.heap.size + 1, 4, none⟩ = some (.int .i64 (t.to)) := K1_1.out.cell 4
    have z1_5_1 : w1.cell? ⟨w.heap.size + 1, 5, none⟩ = some (.int .i64 (t.dw)) := K1_1.out.cell 5
    go_wp2_with fail
    refine (light_is m true HL.out _).mono ?_
    rintro e w2 ⟨rfl, hb⟩
    have HB2 := Lib.hid (show Below w.heap.size w w2 from step_below hb (by repeat' (first | exact Below.refl _ _ | exact HB1.out | refine below_drewN ?_ _ | refine Below.drew ?_ | refine Below.alloc ?_ (by first | omega | (simp; done) | (simp; omega) | (simp [World.setCell]; omega)) _ | refine Below.setCell ?_ (by first | omega | (simp; done) | (simp; omega)) _ | assumption)))
    have K0_2 := Lib.hid (step_blk hb (show Blk _ (w.heap.size) 42 #[.int .i64 (m.ls), .int .i64 (m.ms), .int .i64 (m.lo), .int .i64 (m.hi), .int .i64 (m.sp), .slice m.A1 m.n1 m.c1, .slice m.A2 m.n2 m.c2] by repeat' (first | exact K0_1.out | exact K1_1.out | exact Blk.at_ _ (by first | rfl | (simp; done) | (simp; omega)) _ _ | refine Blk.drewN ?_ _ | refine Blk.drew ?_ | refine Blk.alloc ?_ _ | refine Blk.far ?_ (by first | omega | (simp; done) | (simp; omega)) _ | assumption)))
    have K1_2 := Lib.hid (step_blk hb (show Blk _ (w.heap.size + 1) 44 #[.string t.name, .int .i64 (t.az), .int .i64 (t.ht), .int .i64 (t.fr), .int .i64 (t.to), .int .i64 (t.dw)] by repeat' (first | exact K0_1.out | exact K1_1.out | exact Blk.at_ _ (by first | rfl | (simp; done) | (simp; omega)) _ _ | refine Blk.drewN ?_ _ | refine Blk.drew ?_ | refine Blk.alloc ?_ _ | refine Blk.far ?_ (by first | omega | (simp; done) | (simp; omega)) _ | assumption)))
    have hL2 := Lib.hid (show Below w1.heap.size w1 _ from reads_mid hb (by repeat' (first | exact Below.refl _ _ | refine below_drewN ?_ _ | refine Below.drew ?_ | refine Below.alloc ?_ (by first | omega | (simp; done) | (simp; omega) | (simp [World.setCell]; omega)) _ | refine Below.setCell ?_ (by first | omega | (simp; done) | (simp; omega)) _)))
    have R0_2 := Lib.hid (mnt_lay hb hL2.out R0_1.out)
    clear hL2 R0_1
    have hz2 := hb.size
    try simp only [World.size_alloc, World.drewN, World.drew] at hz2
    clear hb K0_1 K1_1 z0_0_1 z0_1_1 z0_2_1 z0_3_1 z0_4_1 z0_5_1 z0_6_1 l0_1 z1_0_1 z1_1_1 z1_2_1 z1_3_1 z1_4_1 z1_5_1 l1_1
    have l0_2 : w.heap.size < w2.heap.size := K0_2.out.lt
    have z0_0_2 : w2.cell? ⟨w.heap.size, 0, none⟩ = some (.int .i64 (m.ls)) := K0_2.out.cell 0
    have z0_1_2 : w2.cell? ⟨w.heap.size, 1, none⟩ = some (.int .i64 (m.ms)) := K0_2.out.cell 1
    have z0_2_2 : w2.cell? ⟨w.heap.size, 2, none⟩ = some (.int .i64 (m.lo)) := K0_2.out.cell 2
    have z0_3_2 : w2.cell? ⟨w.heap.size, 3, none⟩ = some (.int .i64 (m.hi)) := K0_2.out.cell 3
    have z0_4_2 : w2.cell? ⟨w.heap.size, 4, none⟩ = some (.int .i64 (m.sp)) := K0_2.out.cell 4
    have z0_5_2 : w2.cell? ⟨w.heap.size, 5, none⟩ = some (.slice m.A1 m.n1 m.c1) := K0_2.out.cell 5
    have z0_6_2 : w2.cell? ⟨w.heap.size, 6, none⟩ = some (.slice m.A2 m.n2 m.c2) := K0_2.out.cell 6
    have l1_2 : w.heap.size + 1 < w2.heap.size := K1_2.out.lt
    have z1_0_2 : w2.cell? ⟨w.heap.size + 1, 0, none⟩ = some (.string t.name) := K1_2.out.cell 0
    have z1_1_2 : w2.cell? ⟨w.heap.size + 1, 1, none⟩ = some (.int .i64 (t.az)) := K1_2.out.cell 1
    have z1_2_2 : w2.cell? ⟨w.heap.size + 1, 2, none⟩ = some (.int .i64 (t.ht)) := K1_2.out.cell 2
    have z1_3_2 : w2.cell? ⟨w.heap.size + 1, 3, none⟩ = some (.int .i64 (t.fr)) := K1_2.out.cell 3
    have z1_4_2 : w2.cell? ⟨w.heap.size + 1, 4, none⟩ = some (.int .i64 (t.to)) := K1_2.out.cell 4
    have z1_5_2 : w2.cell? ⟨w.heap.size + 1, 5, none⟩ = some (.int .i64 (t.dw)) := K1_2.out.cell 5
    go_wp2
    apply share (Fact := fun (_ z : Pick2) (wz : World) => ∃ bx, z.1.1 = some ⟨bx, 0, none⟩ ∧ w2.heap.size ≤ bx ∧ Below w2.heap.size w2 wz ∧ Blk wz bx 46 #[.int .i64 (0), .int .i64 (0)])
    · intro key
      refine Fx.regionM (fun W g f w' => KpS (PfT m 0 [] 0 [] 1 99 98) 46 (.int .i64 (0)) (.int .i64 (0)) 8 9 W g f w') (fun i (x : Pick2) => if i = 8 then .pointer x.1.1 else valT m 0 0 1 99 i x) (by kernel_rfl) ?_ ?_
      · intro f hf0
        exact KpS.start
      first
      | (refine Fx.WM.skip 0 (by rfl) (by kernel_rfl) (by kernel_rfl) (by kernel_rfl) (by rfl) (fun g f w h => h.same (by decide)) ?_; simp only [Act.put, List.setIfInBounds_toArray, List.set_cons_zero, List.set_cons_succ])
      | (refine Fx.WM.val_ 0 ?_ (by rfl) (by kernel_rfl) (by kernel_rfl) (by kernel_rfl) (by rfl) ?_ (fun g f w h => h.same (by decide)) ?_
         rotate_left
         · intro g f w' hx hD hk
           obtain hkp := id hD
           have y0_0 := (K0_2.out.below hkp.bel l0_2).cell 0
           have y0_1 := (K0_2.out.below hkp.bel l0_2).cell 1
           have y0_2 := (K0_2.out.below hkp.bel l0_2).cell 2
           have y0_3 := (K0_2.out.below hkp.bel l0_2).cell 3
           have y0_4 := (K0_2.out.below hkp.bel l0_2).cell 4
           have y0_5 := (K0_2.out.below hkp.bel l0_2).cell 5
           have y0_6 := (K0_2.out.below hkp.bel l0_2).cell 6
           clear hx hk hD hkp
           go_simp
           try rfl
         simp only [Act.put, List.setIfInBounds_toArray, List.set_cons_zero, List.set_cons_succ])
      first
      | (refine Fx.WM.skip 2 (by rfl) (by kernel_rfl) (by kernel_rfl) (by kernel_rfl) (by rfl) (fun g f w h => h.same (by decide)) ?_; simp only [Act.put, List.setIfInBounds_toArray, List.set_cons_zero, List.set_cons_succ])
      | (refine Fx.WM.val_ 2 ?_ (by rfl) (by kernel_rfl) (by kernel_rfl) (by kernel_rfl) (by rfl) ?_ (fun g f w h => h.same (by decide)) ?_
         rotate_left
         · intro g f w' hx hD hk
           obtain hkp := id hD
           have y1_0 := (K1_2.out.below hkp.bel l1_2).cell 0
           have y1_1 := (K1_2.out.below hkp.bel l1_2).cell 1
           have y1_2 := (K1_2.out.below hkp.bel l1_2).cell 2
           have y1_3 := (K1_2.out.below hkp.bel l1_2).cell 3
           have y1_4 := (K1_2.out.below hkp.bel l1_2).cell 4
           have y1_5 := (K1_2.out.below hkp.bel l1_2).cell 5
           clear hx hk hD hkp
           go_simp
           try rfl
         simp only [Act.put, List.setIfInBounds_toArray, List.set_cons_zero, List.set_cons_succ])
      first
      | (refine Fx.WM.skip 3 (by rfl) (by kernel_rfl) (by kernel_rfl) (by kernel_rfl) (by rfl) (fun g f w h => h.same (by decide)) ?_; simp only [Act.put, List.setIfInBounds_toArray, List.set_cons_zero, List.set_cons_succ])
      | (refine Fx.WM.val_ 3 ?_ (by rfl) (by kernel_rfl) (by kernel_rfl) (by kernel_rfl) (by rfl) ?_ (fun g f w h => h.same (by decide)) ?_
         rotate_left
         · intro g f w' hx hD hk
           obtain hkp := id hD
           clear hx hk hD hkp
           go_simp
           try rfl
         simp only [Act.put, List.setIfInBounds_toArray, List.set_cons_zero, List.set_cons_succ])
      refine Fx.WM.choose2 1 8 (by rfl) (by rfl) (by kernel_rfl) (by rfl) (by rfl) ?_ ?_ ?_ ?_
      · skip
        refine Fx.Chooses.call ?_ ?_ (by rfl) ?_ ?_
        rotate_left 2
        · intro w'
          go_simp
          refine ⟨?_, ?_⟩ <;> rfl
        · intro f w' hD hk
          exact (mount_any m w' (R0_2.out.lay hD.bel) (by omega) (by omega)).mono fun e w'' ⟨A', c', B', d', he, hb, hm⟩ => ⟨((A', c'), (B', d')), he, hD.choose PfT.stb hb 1 _ (by decide) (by decide) ⟨fun _ => hm, fun e => absurd e (by decide), fun e => absurd e (by decide)⟩⟩
      · skip
        refine Fx.Chooses.make (by rfl) ?_
        intro f w' hD hk
        refine ⟨((some ⟨w'.heap.size, 0, none⟩, 0), (none, 0)), w'.alloc (.cells #[.int .i64 (0), .int .i64 (0)] 46), ?_, ?_⟩
        · clear hk hD
          go_simp
          try rfl
        · exact hD.make PfT.stb (hk.2.1 9 (by kernel_rfl)) (by decide)
      · intro x
        simp only [Act.put, List.setIfInBounds_toArray, List.set_cons_zero, List.set_cons_succ]
        refine Fx.WM.call 4 (.tuple #[.agg #[.int .i64 (0), .int .i64 (0)], .int .i64 (E)]) ?_ ?_ (by rfl) (by kernel_rfl) (by kernel_rfl) (by kernel_rfl) (by rfl) ?_ ?_ ?_
        rotate_left 2
        · intro w'
          go_simp
          refine ⟨?_, ?_⟩ <;> rfl
        · intro g f w' hx hD hk
          exact (pApparent_bad (m.to x.1.1 x.1.2 x.2.1 x.2.2) t day E HE.out HE0.out w' ((hD.has (hk.2.1 9 (by kernel_rfl)) 1 x (hx 1 _ (by rfl)) (by decide)).1 rfl) hts).mono fun e w'' ⟨he, hw⟩ => ⟨he, hD.call PfT.stb (by decide) hw⟩
        simp only [Act.put, List.setIfInBounds_toArray, List.set_cons_zero, List.set_cons_succ]
        first
        | (refine Fx.WM.skip 5 (by rfl) (by kernel_rfl) (by kernel_rfl) (by kernel_rfl) (by rfl) (fun g f w h => h.same (by decide)) ?_; simp only [Act.put, List.setIfInBounds_toArray, List.set_cons_zero, List.set_cons_succ])
        | (refine Fx.WM.val_ 5 ?_ (by rfl) (by kernel_rfl) (by kernel_rfl) (by kernel_rfl) (by rfl) ?_ (fun g f w h => h.same (by decide)) ?_
           rotate_left
           · intro g f w' hx hD hk
             obtain hkp := id hD
             clear hx hk hD hkp
             go_simp
             try rfl
           simp only [Act.put, List.setIfInBounds_toArray, List.set_cons_zero, List.set_cons_succ])
        first
        | (refine Fx.WM.skip 6 (by rfl) (by kernel_rfl) (by kernel_rfl) (by kernel_rfl) (by rfl) (fun g f w h => h.same (by decide)) ?_; simp only [Act.put, List.setIfInBounds_toArray, List.set_cons_zero, List.set_cons_succ])
        | (refine Fx.WM.val_ 6 ?_ (by rfl) (by kernel_rfl) (by kernel_rfl) (by kernel_rfl) (by rfl) ?_ (fun g f w h => h.same (by decide)) ?_
           rotate_left
           · intro g f w' hx hD hk
             obtain hkp := id hD
             clear hx hk hD hkp
             go_simp
             try rfl
           simp only [Act.put, List.setIfInBounds_toArray, List.set_cons_zero, List.set_cons_succ])
        first
        | (refine Fx.WM.skip 7 (by rfl) (by kernel_rfl) (by kernel_rfl) (by kernel_rfl) (by rfl) (fun g f w h => h.same (by decide)) ?_; simp only [Act.put, List.setIfInBounds_toArray, List.set_cons_zero, List.set_cons_succ])
        | (refine Fx.WM.val_ 7 ?_ (by rfl) (by kernel_rfl) (by kernel_rfl) (by kernel_rfl) (by rfl) ?_ (fun g f w h => h.same (by decide)) ?_
           rotate_left
           · intro g f w' hx hD hk
             obtain hkp := id hD
             clear hx hk hD hkp
             go_simp
             try rfl
           simp only [Act.put, List.setIfInBounds_toArray, List.set_cons_zero, List.set_cons_succ])
        refine Fx.WM.choose 8 (by rfl) (by kernel_rfl) (by rfl) ?_ ?_
        · skip
          refine Fx.Chooses.make (by rfl) ?_
          intro f w' hD hk
          refine ⟨((some ⟨w'.heap.size, 0, none⟩, 0), (none, 0)), w'.alloc (.cells #[.int .i64 (0), .int .i64 (0)] 46), ?_, ?_⟩
          · clear hk hD
            go_simp
            try rfl
          · exact hD.make PfT.stb (hk.2.1 9 (by kernel_rfl)) (by decide)
        intro z
        simp only [Act.put, List.setIfInBounds_toArray, List.set_cons_zero, List.set_cons_succ]
        refine Fx.WM.eff 9 undef (by rfl) (by kernel_rfl) (by kernel_rfl) (by kernel_rfl) (by rfl) ?_ ?_
        · intro g f w' hx hD hk
          obtain ⟨bx, e0, e1, r0, r1, r2, r3, r4, r5⟩ := KpS.cells hD (hx 8 _ (by rfl))
          refine Fx.gives_skip (w' := ((w'.setCell ⟨bx, 0, none⟩ (.int .i64 (0))).setCell ⟨bx, 1, none⟩ (.int .i64 (0)))) ?_ ?_
          · clear hx hk hD
            go_simp
            try rfl
          · exact KpS.store hD (hx 8 _ (by rfl)) r0
        simp only [Act.put, List.setIfInBounds_toArray, List.set_cons_zero, List.set_cons_succ]
        first
        | (refine Fx.WM.skip 10 (by rfl) (by kernel_rfl) (by kernel_rfl) (by kernel_rfl) (by rfl) (fun g f w h => h.same (by decide)) ?_; simp only [Act.put, List.setIfInBounds_toArray, List.set_cons_zero, List.set_cons_succ])
        | (refine Fx.WM.val_ 10 ?_ (by rfl) (by kernel_rfl) (by kernel_rfl) (by kernel_rfl) (by rfl) ?_ (fun g f w h => h.same (by decide)) ?_
           rotate_left
           · intro g f w' hx hD hk
             obtain hkp := id hD
             clear hx hk hD hkp
             go_simp
             try rfl
           simp only [Act.put, List.setIfInBounds_toArray, List.set_cons_zero, List.set_cons_succ])
        refine Fx.WM.nil (by kernel_rfl) ?_
        intro wz hkp
        obtain ⟨bx, h1, h2, h3⟩ := KpS.end_ hkp (x := z) (by rfl) (by rfl)
        exact key x z wz ⟨bx, h1, h2, hkp.bel, h3⟩
      · intro z
        simp only [Act.put, List.setIfInBounds_toArray, List.set_cons_zero, List.set_cons_succ]
        refine Fx.WM.choose 1 (by rfl) (by kernel_rfl) (by rfl) ?_ ?_
        · skip
          refine Fx.Chooses.call ?_ ?_ (by rfl) ?_ ?_
          rotate_left 2
          · intro w'
            go_simp
            refine ⟨?_, ?_⟩ <;> rfl
          · intro f w' hD hk
            exact (mount_any m w' (R0_2.out.lay hD.bel) (by omega) (by omega)).mono fun e w'' ⟨A', c', B', d', he, hb, hm⟩ => ⟨((A', c'), (B', d')), he, hD.choose PfT.stb hb 1 _ (by decide) (by decide) ⟨fun _ => hm, fun e => absurd e (by decide), fun e => absurd e (by decide)⟩⟩
        intro x
        simp only [Act.put, List.setIfInBounds_toArray, List.set_cons_zero, List.set_cons_succ]
        refine Fx.WM.call 4 (.tuple #[.agg #[.int .i64 (0), .int .i64 (0)], .int .i64 (E)]) ?_ ?_ (by rfl) (by kernel_rfl) (by kernel_rfl) (by kernel_rfl) (by rfl) ?_ ?_ ?_
        rotate_left 2
        · intro w'
          go_simp
          refine ⟨?_, ?_⟩ <;> rfl
        · intro g f w' hx hD hk
          exact (pApparent_bad (m.to x.1.1 x.1.2 x.2.1 x.2.2) t day E HE.out HE0.out w' ((hD.has (hk.2.1 9 (by kernel_rfl)) 1 x (hx 1 _ (by rfl)) (by decide)).1 rfl) hts).mono fun e w'' ⟨he, hw⟩ => ⟨he, hD.call PfT.stb (by decide) hw⟩
        simp only [Act.put, List.setIfInBounds_toArray, List.set_cons_zero, List.set_cons_succ]
        first
        | (refine Fx.WM.skip 5 (by rfl) (by kernel_rfl) (by kernel_rfl) (by kernel_rfl) (by rfl) (fun g f w h => h.same (by decide)) ?_; simp only [Act.put, List.setIfInBounds_toArray, List.set_cons_zero, List.set_cons_succ])
        | (refine Fx.WM.val_ 5 ?_ (by rfl) (by kernel_rfl) (by kernel_rfl) (by kernel_rfl) (by rfl) ?_ (fun g f w h => h.same (by decide)) ?_
           rotate_left
           · intro g f w' hx hD hk
             obtain hkp := id hD
             clear hx hk hD hkp
             go_simp
             try rfl
           simp only [Act.put, List.setIfInBounds_toArray, List.set_cons_zero, List.set_cons_succ])
        first
        | (refine Fx.WM.skip 6 (by rfl) (by kernel_rfl) (by kernel_rfl) (by kernel_rfl) (by rfl) (fun g f w h => h.same (by decide)) ?_; simp only [Act.put, List.setIfInBounds_toArray, List.set_cons_zero, List.set_cons_succ])
        | (refine Fx.WM.val_ 6 ?_ (by rfl) (by kernel_rfl) (by kernel_rfl) (by kernel_rfl) (by rfl) ?_ (fun g f w h => h.same (by decide)) ?_
           rotate_left
           · intro g f w' hx hD hk
             obtain hkp := id hD
             clear hx hk hD hkp
             go_simp
             try rfl
           simp only [Act.put, List.setIfInBounds_toArray, List.set_cons_zero, List.set_cons_succ])
        first
        | (refine Fx.WM.skip 7 (by rfl) (by kernel_rfl) (by kernel_rfl) (by kernel_rfl) (by rfl) (fun g f w h => h.same (by decide)) ?_; simp only [Act.put, List.setIfInBounds_toArray, List.set_cons_zero, List.set_cons_succ])
        | (refine Fx.WM.val_ 7 ?_ (by rfl) (by kernel_rfl) (by kernel_rfl) (by kernel_rfl) (by rfl) ?_ (fun g f w h => h.same (by decide)) ?_
           rotate_left
           · intro g f w' hx hD hk
             obtain hkp := id hD
             clear hx hk hD hkp
             go_simp
             try rfl
           simp only [Act.put, List.setIfInBounds_toArray, List.set_cons_zero, List.set_cons_succ])
        refine Fx.WM.eff 9 undef (by rfl) (by kernel_rfl) (by kernel_rfl) (by kernel_rfl) (by rfl) ?_ ?_
        · intro g f w' hx hD hk
          obtain ⟨bx, e0, e1, r0, r1, r2, r3, r4, r5⟩ := KpS.cells hD (hx 8 _ (by rfl))
          refine Fx.gives_skip (w' := ((w'.setCell ⟨bx, 0, none⟩ (.int .i64 (0))).setCell ⟨bx, 1, none⟩ (.int .i64 (0)))) ?_ ?_
          · clear hx hk hD
            go_simp
            try rfl
          · exact KpS.store hD (hx 8 _ (by rfl)) r0
        simp only [Act.put, List.setIfInBounds_toArray, List.set_cons_zero, List.set_cons_succ]
        first
        | (refine Fx.WM.skip 10 (by rfl) (by kernel_rfl) (by kernel_rfl) (by kernel_rfl) (by rfl) (fun g f w h => h.same (by decide)) ?_; simp only [Act.put, List.setIfInBounds_toArray, List.set_cons_zero, List.set_cons_succ])
        | (refine Fx.WM.val_ 10 ?_ (by rfl) (by kernel_rfl) (by kernel_rfl) (by kernel_rfl) (by rfl) ?_ (fun g f w h => h.same (by decide)) ?_
           rotate_left
           · intro g f w' hx hD hk
             obtain hkp := id hD
             clear hx hk hD hkp
             go_simp
             try rfl
           simp only [Act.put, List.setIfInBounds_toArray, List.set_cons_zero, List.set_cons_succ])
        refine Fx.WM.nil (by kernel_rfl) ?_
        intro wz hkp
        obtain ⟨bx, h1, h2, h3⟩ := KpS.end_ hkp (x := z) (by rfl) (by rfl)
        exact key x z wz ⟨bx, h1, h2, hkp.bel, h3⟩
    rintro x ⟨⟨z1, z2⟩, z3⟩ w3 ⟨bx, hz, hbx, hb, hblk⟩
    simp only at hz
    subst hz
    have HB3 := Lib.hid (show Below w.heap.size w w3 from step_below hb (by repeat' (first | exact Below.refl _ _ | exact HB2.out | refine below_drewN ?_ _ | refine Below.drew ?_ | refine Below.alloc ?_ (by first | omega | (simp; done) | (simp; omega) | (simp [World.setCell]; omega)) _ | refine Below.setCell ?_ (by first | omega | (simp; done) | (simp; omega)) _ | assumption)))
    have K0_3 := Lib.hid (step_blk hb (show Blk _ (w.heap.size) 42 #[.int .i64 (m.ls), .int .i64 (m.ms), .int .i64 (m.lo), .int .i64 (m.hi), .int .i64 (m.sp), .slice m.A1 m.n1 m.c1, .slice m.A2 m.n2 m.c2] by repeat' (first | exact K0_2.out | exact K1_2.out | exact Blk.at_ _ (by first | rfl | (simp; done) | (simp; omega)) _ _ | refine Blk.drewN ?_ _ | refine Blk.drew ?_ | refine Blk.alloc ?_ _ | refine Blk.far ?_ (by first | omega | (simp; done) | (simp; omega)) _ | assumption)))
    have K1_3 := Lib.hid (step_blk hb (show Blk _ (w.heap.size + 1) 44 #[.string t.name, .int .i64 (t.az), .int .i64 (t.ht), .int .i64 (t.fr), .int .i64 (t.to), .int .i64 (t.dw)] by repeat' (first | exact K0_2.out | exact K1_2.out | exact Blk.at_ _ (by first | rfl | (simp; done) | (simp; omega)) _ _ | refine Blk.drewN ?_ _ | refine Blk.drew ?_ | refine Blk.alloc ?_ _ | refine Blk.far ?_ (by first | omega | (simp; done) | (simp; omega)) _ | assumption)))
    have hL3 := Lib.hid (show Below w2.heap.size w2 _ from reads_mid hb (by repeat' (first | exact Below.refl _ _ | refine below_drewN ?_ _ | refine Below.drew ?_ | refine Below.alloc ?_ (by first | omega | (simp; done) | (simp; omega) | (simp [World.setCell]; omega)) _ | refine Below.setCell ?_ (by first | omega | (simp; done) | (simp; omega)) _)))
    have R0_3 := Lib.hid (mnt_lay hb hL3.out R0_2.out)
    clear hL3 R0_2
    have hz3 := hb.size
    try simp only [World.size_alloc, World.drewN, World.drew] at hz3
    clear hb K0_2 K1_2 z0_0_2 z0_1_2 z0_2_2 z0_3_2 z0_4_2 z0_5_2 z0_6_2 l0_2 z1_0_2 z1_1_2 z1_2_2 z1_3_2 z1_4_2 z1_5_2 l1_2
    have l0_3 : w.heap.size < w3.heap.size := K0_3.out.lt
    have z0_0_3 : w3.cell? ⟨w.heap.size, 0, none⟩ = some (.int .i64 (m.ls)) := K0_3.out.cell 0
    have z0_1_3 : w3.cell? ⟨w.heap.size, 1, none⟩ = some (.int .i64 (m.ms)) := K0_3.out.cell 1
    have z0_2_3 : w3.cell? ⟨w.heap.size, 2, none⟩ = some (.int .i64 (m.lo)) := K0_3.out.cell 2
    have z0_3_3 : w3.cell? ⟨w.heap.size, 3, none⟩ = some (.int .i64 (m.hi)) := K0_3.out.cell 3
    have z0_4_3 : w3.cell? ⟨w.heap.size, 4, none⟩ = some (.int .i64 (m.sp)) := K0_3.out.cell 4
    have z0_5_3 : w3.cell? ⟨w.heap.size, 5, none⟩ = some (.slice m.A1 m.n1 m.c1) := K0_3.out.cell 5
    have z0_6_3 : w3.cell? ⟨w.heap.size, 6, none⟩ = some (.slice m.A2 m.n2 m.c2) := K0_3.out.cell 6
    have l1_3 : w.heap.size + 1 < w3.heap.size := K1_3.out.lt
    have z1_0_3 : w3.cell? ⟨w.heap.size + 1, 0, none⟩ = some (.string t.name) := K1_3.out.cell 0
    have z1_1_3 : w3.cell? ⟨w.heap.size + 1, 1, none⟩ = some (.int .i64 (t.az)) := K1_3.out.cell 1
    have z1_2_3 : w3.cell? ⟨w.heap.size + 1, 2, none⟩ = some (.int .i64 (t.ht)) := K1_3.out.cell 2
    have z1_3_3 : w3.cell? ⟨w.heap.size + 1, 3, none⟩ = some (.int .i64 (t.fr)) := K1_3.out.cell 3
    have z1_4_3 : w3.cell? ⟨w.heap.size + 1, 4, none⟩ = some (.int .i64 (t.to)) := K1_3.out.cell 4
    have z1_5_3 : w3.cell? ⟨w.heap.size + 1, 5, none⟩ = some (.int .i64 (t.dw)) := K1_3.out.cell 5
    have K2_3 := Lib.hid (show Blk w3 (bx) 46 #[.int .i64 (0), .int .i64 (0)] from hblk)
    clear hblk
    have l2_3 : bx < w3.heap.size := K2_3.out.lt
    have z2_0_3 : w3.cell? ⟨bx, 0, none⟩ = some (.int .i64 (0)) := K2_3.out.cell 0
    have z2_1_3 : w3.cell? ⟨bx, 1, none⟩ = some (.int .i64 (0)) := K2_3.out.cell 1
    go_wp2
    refine Fx.regionM (fun W g f w' => Kp (PfT m 0 [] 0 [] 1 99 98) W g w') (valT m 0 0 1 99) (by kernel_rfl) ?_ ?_
    · intro f hf0
      exact Kp.start
    first
    | (refine Fx.WM.skip 0 (by rfl) (by kernel_rfl) (by kernel_rfl) (by kernel_rfl) (by rfl) (fun g f w h => h) ?_; simp only [Act.put, List.setIfInBounds_toArray, List.set_cons_zero, List.set_cons_succ])
    | (refine Fx.WM.val_ 0 ?_ (by rfl) (by kernel_rfl) (by kernel_rfl) (by kernel_rfl) (by rfl) ?_ (fun g f w h => h) ?_
       rotate_left
       · intro g f w' hx hD hk
         obtain hkp := id hD
         have y0_0 := (K0_3.out.below hkp.bel l0_3).cell 0
         have y0_1 := (K0_3.out.below hkp.bel l0_3).cell 1
         have y0_2 := (K0_3.out.below hkp.bel l0_3).cell 2
         have y0_3 := (K0_3.out.below hkp.bel l0_3).cell 3
         have y0_4 := (K0_3.out.below hkp.bel l0_3).cell 4
         have y0_5 := (K0_3.out.below hkp.bel l0_3).cell 5
         have y0_6 := (K0_3.out.below hkp.bel l0_3).cell 6
         clear hx hk hD hkp
         go_simp
         try rfl
       simp only [Act.put, List.setIfInBounds_toArray, List.set_cons_zero, List.set_cons_succ])
    first
    | (refine Fx.WM.skip 2 (by rfl) (by kernel_rfl) (by kernel_rfl) (by kernel_rfl) (by rfl) (fun g f w h => h) ?_; simp only [Act.put, List.setIfInBounds_toArray, List.set_cons_zero, List.set_cons_succ])
    | (refine Fx.WM.val_ 2 ?_ (by rfl) (by kernel_rfl) (by kernel_rfl) (by kernel_rfl) (by rfl) ?_ (fun g f w h => h) ?_
       rotate_left
       · intro g f w' hx hD hk
         obtain hkp := id hD
         have y1_0 := (K1_3.out.below hkp.bel l1_3).cell 0
         have y1_1 := (K1_3.out.below hkp.bel l1_3).cell 1
         have y1_2 := (K1_3.out.below hkp.bel l1_3).cell 2
         have y1_3 := (K1_3.out.below hkp.bel l1_3).cell 3
         have y1_4 := (K1_3.out.below hkp.bel l1_3).cell 4
         have y1_5 := (K1_3.out.below hkp.bel l1_3).cell 5
         clear hx hk hD hkp
         go_simp
         try rfl
       simp only [Act.put, List.setIfInBounds_toArray, List.set_cons_zero, List.set_cons_succ])
    first
    | (refine Fx.WM.skip 3 (by rfl) (by kernel_rfl) (by kernel_rfl) (by kernel_rfl) (by rfl) (fun g f w h => h) ?_; simp only [Act.put, List.setIfInBounds_toArray, List.set_cons_zero, List.set_cons_succ])
    | (refine Fx.WM.val_ 3 ?_ (by rfl) (by kernel_rfl) (by kernel_rfl) (by kernel_rfl) (by rfl) ?_ (fun g f w h => h) ?_
       rotate_left
       · intro g f w' hx hD hk
         obtain hkp := id hD
         clear hx hk hD hkp
         go_simp
         try rfl
       simp only [Act.put, List.setIfInBounds_toArray, List.set_cons_zero, List.set_cons_succ])
    refine Fx.WM.choose 1 (by rfl) (by kernel_rfl) (by rfl) ?_ ?_
    · skip
      refine Fx.Chooses.call ?_ ?_ (by rfl) ?_ ?_
      rotate_left 2
      · intro w'
        go_simp
        refine ⟨?_, ?_⟩ <;> rfl
      · intro f w' hD hk
        exact (mount_any m w' (R0_3.out.lay hD.bel) (by omega) (by omega)).mono fun e w'' ⟨A', c', B', d', he, hb, hm⟩ => ⟨((A', c'), (B', d')), he, hD.choose PfT.stb hb 1 _ ⟨fun _ => hm, fun e => absurd e (by decide), fun e => absurd e (by decide)⟩⟩
    intro x
    simp only [Act.put, List.setIfInBounds_toArray, List.set_cons_zero, List.set_cons_succ]
    refine Fx.WM.call 4 (.tuple #[.slice none 0 0, .int .i64 E]) ?_ ?_ (by rfl) (by kernel_rfl) (by kernel_rfl) (by kernel_rfl) (by rfl) ?_ ?_ ?_
    rotate_left 2
    · intro w'
      go_simp
      refine ⟨?_, ?_⟩ <;> rfl
    · intro g f w' hx hD hk
      exact (pTurns_bad (m.to x.1.1 x.1.2 x.2.1 x.2.2) t day E HE.out HE0.out w' ((hD.has 1 x (hx 1 _ (by rfl))).1 rfl) hts).mono fun e w'' ⟨he, hw⟩ => ⟨he, hD.call PfT.stb hw⟩
    simp only [Act.put, List.setIfInBounds_toArray, List.set_cons_zero, List.set_cons_succ]
    first
    | (refine Fx.WM.skip 5 (by rfl) (by kernel_rfl) (by kernel_rfl) (by kernel_rfl) (by rfl) (fun g f w h => h) ?_; simp only [Act.put, List.setIfInBounds_toArray, List.set_cons_zero, List.set_cons_succ])
    | (refine Fx.WM.val_ 5 ?_ (by rfl) (by kernel_rfl) (by kernel_rfl) (by kernel_rfl) (by rfl) ?_ (fun g f w h => h) ?_
       rotate_left
       · intro g f w' hx hD hk
         obtain hkp := id hD
         clear hx hk hD hkp
         go_simp
         try rfl
       simp only [Act.put, List.setIfInBounds_toArray, List.set_cons_zero, List.set_cons_succ])
    first
    | (refine Fx.WM.skip 6 (by rfl) (by kernel_rfl) (by kernel_rfl) (by kernel_rfl) (by rfl) (fun g f w h => h) ?_; simp only [Act.put, List.setIfInBounds_toArray, List.set_cons_zero, List.set_cons_succ])
    | (refine Fx.WM.val_ 6 ?_ (by rfl) (by kernel_rfl) (by kernel_rfl) (by kernel_rfl) (by rfl) ?_ (fun g f w h => h) ?_
       rotate_left
       · intro g f w' hx hD hk
         obtain hkp := id hD
         clear hx hk hD hkp
         go_simp
         try rfl
       simp only [Act.put, List.setIfInBounds_toArray, List.set_cons_zero, List.set_cons_succ])
    first
    | (refine Fx.WM.skip 7 (by rfl) (by kernel_rfl) (by kernel_rfl) (by kernel_rfl) (by rfl) (fun g f w h => h) ?_; simp only [Act.put, List.setIfInBounds_toArray, List.set_cons_zero, List.set_cons_succ])
    | (refine Fx.WM.val_ 7 ?_ (by rfl) (by kernel_rfl) (by kernel_rfl) (by kernel_rfl) (by rfl) ?_ (fun g f w h => h) ?_
       rotate_left
       · intro g f w' hx hD hk
         obtain hkp := id hD
         clear hx hk hD hkp
         go_simp
         try rfl
       simp only [Act.put, List.setIfInBounds_toArray, List.set_cons_zero, List.set_cons_succ])
    first
    | (refine Fx.WM.skip 8 (by rfl) (by kernel_rfl) (by kernel_rfl) (by kernel_rfl) (by rfl) (fun g f w h => h) ?_; simp only [Act.put, List.setIfInBounds_toArray, List.set_cons_zero, List.set_cons_succ])
    | (refine Fx.WM.val_ 8 ?_ (by rfl) (by kernel_rfl) (by kernel_rfl) (by kernel_rfl) (by rfl) ?_ (fun g f w h => h) ?_
       rotate_left
       · intro g f w' hx hD hk
         obtain hkp := id hD
         clear hx hk hD hkp
         go_simp
         try rfl
       simp only [Act.put, List.setIfInBounds_toArray, List.set_cons_zero, List.set_cons_succ])
    first
    | (refine Fx.WM.skip 9 (by rfl) (by kernel_rfl) (by kernel_rfl) (by kernel_rfl) (by rfl) (fun g f w h => h) ?_; simp only [Act.put, List.setIfInBounds_toArray, List.set_cons_zero, List.set_cons_succ])
    | (refine Fx.WM.val_ 9 ?_ (by rfl) (by kernel_rfl) (by kernel_rfl) (by kernel_rfl) (by rfl) ?_ (fun g f w h => h) ?_
       rotate_left
       · intro g f w' hx hD hk
         obtain hkp := id hD
         clear hx hk hD hkp
         go_simp
         try rfl
       simp only [Act.put, List.setIfInBounds_toArray, List.set_cons_zero, List.set_cons_succ])
    refine Fx.WM.nil (by kernel_rfl) ?_
    intro wz hkp
    have hb := hkp.bel
    clear hkp
    obtain ⟨w4, hnm⟩ : ∃ z : World, z = wz := ⟨_, rfl⟩
    subst hnm
    have HB4 := Lib.hid (show Below w.heap.size w w4 from step_below hb (by repeat' (first | exact Below.refl _ _ | exact HB3.out | refine below_drewN ?_ _ | refine Below.drew ?_ | refine Below.alloc ?_ (by first | omega | (simp; done) | (simp; omega) | (simp [World.setCell]; omega)) _ | refine Below.setCell ?_ (by first | omega | (simp; done) | (simp; omega)) _ | assumption)))
    have K0_4 := Lib.hid (step_blk hb (show Blk _ (w.heap.size) 42 #[.int .i64 (m.ls), .int .i64 (m.ms), .int .i64 (m.lo), .int .i64 (m.hi), .int .i64 (m.sp), .slice m.A1 m.n1 m.c1, .slice m.A2 m.n2 m.c2] by repeat' (first | exact K0_3.out | exact K1_3.out | exact K2_3.out | exact Blk.at_ _ (by first | rfl | (simp; done) | (simp; omega)) _ _ | refine Blk.drewN ?_ _ | refine Blk.drew ?_ | refine Blk.alloc ?_ _ | refine Blk.far ?_ (by first | omega | (simp; done) | (simp; omega)) _ | assumption)))
    have K1_4 := Lib.hid (step_blk hb (show Blk _ (w.heap.size + 1) 44 #[.string t.name, .int .i64 (t.az), .int .i64 (t.ht), .int .i64 (t.fr), .int .i64 (t.to), .int .i64 (t.dw)] by repeat' (first | exact K0_3.out | exact K1_3.out | exact K2_3.out | exact Blk.at_ _ (by first | rfl | (simp; done) | (simp; omega)) _ _ | refine Blk.drewN ?_ _ | refine Blk.drew ?_ | refine Blk.alloc ?_ _ | refine Blk.far ?_ (by first | omega | (simp; done) | (simp; omega)) _ | assumption)))
    have K2_4 := Lib.hid (step_blk hb (show Blk _ (bx) 46 #[.int .i64 (0), .int .i64 (0)] by repeat' (first | exact K0_3.out | exact K1_3.out | exact K2_3.out | exact Blk.at_ _ (by first | rfl | (simp; done) | (simp; omega)) _ _ | refine Blk.drewN ?_ _ | refine Blk.drew ?_ | refine Blk.alloc ?_ _ | refine Blk.far ?_ (by first | omega | (simp; done) | (simp; omega)) _ | assumption)))
    have hL4 := Lib.hid (show Below w3.heap.size w3 _ from reads_mid hb (by repeat' (first | exact Below.refl _ _ | refine below_drewN ?_ _ | refine Below.drew ?_ | refine Below.alloc ?_ (by first | omega | (simp; done) | (simp; omega) | (simp [World.setCell]; omega)) _ | refine Below.setCell ?_ (by first | omega | (simp; done) | (simp; omega)) _)))
    have R0_4 := Lib.hid (mnt_lay hb hL4.out R0_3.out)
    clear hL4 R0_3
    have hz4 := hb.size
    try simp only [World.size_alloc, World.drewN, World.drew] at hz4
    clear hb K0_3 K1_3 K2_3 z0_0_3 z0_1_3 z0_2_3 z0_3_3 z0_4_3 z0_5_3 z0_6_3 l0_3 z1_0_3 z1_1_3 z1_2_3 z1_3_3 z1_4_3 z1_5_3 l1_3 z2_0_3 z2_1_3 l2_3
    have l0_4 : w.heap.size < w4.heap.size := K0_4.out.lt
    have z0_0_4 : w4.cell? ⟨w.heap.size, 0, none⟩ = some (.int .i64 (m.ls)) := K0_4.out.cell 0
    have z0_1_4 : w4.cell? ⟨w.heap.size, 1, none⟩ = some (.int .i64 (m.ms)) := K0_4.out.cell 1
    have z0_2_4 : w4.cell? ⟨w.heap.size, 2, none⟩ = some (.int .i64 (m.lo)) := K0_4.out.cell 2
    have z0_3_4 : w4.cell? ⟨w.heap.size, 3, none⟩ = some (.int .i64 (m.hi)) := K0_4.out.cell 3
    have z0_4_4 : w4.cell? ⟨w.heap.size, 4, none⟩ = some (.int .i64 (m.sp)) := K0_4.out.cell 4
    have z0_5_4 : w4.cell? ⟨w.heap.size, 5, none⟩ = some (.slice m.A1 m.n1 m.c1) := K0_4.out.cell 5
    have z0_6_4 : w4.cell? ⟨w.heap.size, 6, none⟩ = some (.slice m.A2 m.n2 m.c2) := K0_4.out.cell 6
    have l1_4 : w.heap.size + 1 < w4.heap.size := K1_4.out.lt
    have z1_0_4 : w4.cell? ⟨w.heap.size + 1, 0, none⟩ = some (.string t.name) := K1_4.out.cell 0
    have z1_1_4 : w4.cell? ⟨w.heap.size + 1, 1, none⟩ = some (.int .i64 (t.az)) := K1_4.out.cell 1
    have z1_2_4 : w4.cell? ⟨w.heap.size + 1, 2, none⟩ = some (.int .i64 (t.ht)) := K1_4.out.cell 2
    have z1_3_4 : w4.cell? ⟨w.heap.size + 1, 3, none⟩ = some (.int .i64 (t.fr)) := K1_4.out.cell 3
    have z1_4_4 : w4.cell? ⟨w.heap.size + 1, 4, none⟩ = some (.int .i64 (t.to)) := K1_4.out.cell 4
    have z1_5_4 : w4.cell? ⟨w.heap.size + 1, 5, none⟩ = some (.int .i64 (t.dw)) := K1_4.out.cell 5
    have l2_4 : bx < w4.heap.size := K2_4.out.lt
    have z2_0_4 : w4.cell? ⟨bx, 0, none⟩ = some (.int .i64 (0)) := K2_4.out.cell 0
    have z2_1_4 : w4.cell? ⟨bx, 1, none⟩ = some (.int .i64 (0)) := K2_4.out.cell 1
    go_wp2_with fail
    refine (rmount_is m M0 HM0.out _ R0_4.out).mono ?_
    rintro e w5 ⟨rfl, hb⟩
    have HB5 := Lib.hid (show Below w.heap.size w w5 from step_below hb (by repeat' (first | exact Below.refl _ _ | exact HB4.out | refine below_drewN ?_ _ | refine Below.drew ?_ | refine Below.alloc ?_ (by first | omega | (simp; done) | (simp; omega) | (simp [World.setCell]; omega)) _ | refine Below.setCell ?_ (by first | omega | (simp; done) | (simp; omega)) _ | assumption)))
    have K0_5 := Lib.hid (step_blk hb (show Blk _ (w.heap.size) 42 #[.int .i64 (m.ls), .int .i64 (m.ms), .int .i64 (m.lo), .int .i64 (m.hi), .int .i64 (m.sp), .slice m.A1 m.n1 m.c1, .slice m.A2 m.n2 m.c2] by repeat' (first | exact K0_4.out | exact K1_4.out | exact K2_4.out | exact Blk.at_ _ (by first | rfl | (simp; done) | (simp; omega)) _ _ | refine Blk.drewN ?_ _ | refine Blk.drew ?_ | refine Blk.alloc ?_ _ | refine Blk.far ?_ (by first | omega | (simp; done) | (simp; omega)) _ | assumption)))
    have K1_5 := Lib.hid (step_blk hb (show Blk _ (w.heap.size + 1) 44 #[.string t.name, .int .i64 (t.az), .int .i64 (t.ht), .int .i64 (t.fr), .int .i64 (t.to), .int .i64 (t.dw)] by repeat' (first | exact K0_4.out | exact K1_4.out | exact K2_4.out | exact Blk.at_ _ (by first | rfl | (simp; done) | (simp; omega)) _ _ | refine Blk.drewN ?_ _ | refine Blk.drew ?_ | refine Blk.alloc ?_ _ | refine Blk.far ?_ (by first | omega | (simp; done) | (simp; omega)) _ | assumption)))
    have K2_5 := Lib.hid (step_blk hb (show Blk _ (bx) 46 #[.int .i64 (0), .int .i64 (0)] by repeat' (first | exact K0_4.out | exact K1_4.out | exact K2_4.out | exact Blk.at_ _ (by first | rfl | (simp; done) | (simp; omega)) _ _ | refine Blk.drewN ?_ _ | refine Blk.drew ?_ | refine Blk.alloc ?_ _ | refine Blk.far ?_ (by first | omega | (simp; done) | (simp; omega)) _ | assumption)))
    have hL5 := Lib.hid (show Below w4.heap.size w4 _ from reads_mid hb (by repeat' (first | exact Below.refl _ _ | refine below_drewN ?_ _ | refine Below.drew ?_ | refine Below.alloc ?_ (by first | omega | (simp; done) | (simp; omega) | (simp [World.setCell]; omega)) _ | refine Below.setCell ?_ (by first | omega | (simp; done) | (simp; omega)) _)))
    have R0_5 := Lib.hid (mnt_lay hb hL5.out R0_4.out)
    clear hL5 R0_4
    have hz5 := hb.size
    try simp only [World.size_alloc, World.drewN, World.drew] at hz5
    clear hb K0_4 K1_4 K2_4 z0_0_4 z0_1_4 z0_2_4 z0_3_4 z0_4_4 z0_5_4 z0_6_4 l0_4 z1_0_4 z1_1_4 z1_2_4 z1_3_4 z1_4_4 z1_5_4 l1_4 z2_0_4 z2_1_4 l2_4
    have l0_5 : w.heap.size < w5.heap.size := K0_5.out.lt
    have z0_0_5 : w5.cell? ⟨w.heap.size, 0, none⟩ = some (.int .i64 (m.ls)) := K0_5.out.cell 0
    have z0_1_5 : w5.cell? ⟨w.heap.size, 1, none⟩ = some (.int .i64 (m.ms)) := K0_5.out.cell 1
    have z0_2_5 : w5.cell? ⟨w.heap.size, 2, none⟩ = some (.int .i64 (m.lo)) := K0_5.out.cell 2
    have z0_3_5 : w5.cell? ⟨w.heap.size, 3, none⟩ = some (.int .i64 (m.hi)) := K0_5.out.cell 3
    have z0_4_5 : w5.cell? ⟨w.heap.size, 4, none⟩ = some (.int .i64 (m.sp)) := K0_5.out.cell 4
    have z0_5_5 : w5.cell? ⟨w.heap.size, 5, none⟩ = some (.slice m.A1 m.n1 m.c1) := K0_5.out.cell 5
    have z0_6_5 : w5.cell? ⟨w.heap.size, 6, none⟩ = some (.slice m.A2 m.n2 m.c2) := K0_5.out.cell 6
    have l1_5 : w.heap.size + 1 < w5.heap.size := K1_5.out.lt
    have z1_0_5 : w5.cell? ⟨w.heap.size + 1, 0, none⟩ = some (.string t.name) := K1_5.out.cell 0
    have z1_1_5 : w5.cell? ⟨w.heap.size + 1, 1, none⟩ = some (.int .i64 (t.az)) := K1_5.out.cell 1
    have z1_2_5 : w5.cell? ⟨w.heap.size + 1, 2, none⟩ = some (.int .i64 (t.ht)) := K1_5.out.cell 2
    have z1_3_5 : w5.cell? ⟨w.heap.size + 1, 3, none⟩ = some (.int .i64 (t.fr)) := K1_5.out.cell 3
    have z1_4_5 : w5.cell? ⟨w.heap.size + 1, 4, none⟩ = some (.int .i64 (t.to)) := K1_5.out.cell 4
    have z1_5_5 : w5.cell? ⟨w.heap.size + 1, 5, none⟩ = some (.int .i64 (t.dw)) := K1_5.out.cell 5
    have l2_5 : bx < w5.heap.size := K2_5.out.lt
    have z2_0_5 : w5.cell? ⟨bx, 0, none⟩ = some (.int .i64 (0)) := K2_5.out.cell 0
    have z2_1_5 : w5.cell? ⟨bx, 1, none⟩ = some (.int .i64 (0)) := K2_5.out.cell 1
    go_wp2
    refine Fx.regionM (fun W g f w' => Kp (PfT m 0 [] 0 [] 1 99 98) W g w') (valT m 0 0 1 99) (by kernel_rfl) ?_ ?_
    · intro f hf0
      exact Kp.start
    first
    | (refine Fx.WM.skip 0 (by rfl) (by kernel_rfl) (by kernel_rfl) (by kernel_rfl) (by rfl) (fun g f w h => h) ?_; simp only [Act.put, List.setIfInBounds_toArray, List.set_cons_zero, List.set_cons_succ])
    | (refine Fx.WM.val_ 0 ?_ (by rfl) (by kernel_rfl) (by kernel_rfl) (by kernel_rfl) (by rfl) ?_ (fun g f w h => h) ?_
       rotate_left
       · intro g f w' hx hD hk
         obtain hkp := id hD
         have y0_0 := (K0_5.out.below hkp.bel l0_5).cell 0
         have y0_1 := (K0_5.out.below hkp.bel l0_5).cell 1
         have y0_2 := (K0_5.out.below hkp.bel l0_5).cell 2
         have y0_3 := (K0_5.out.below hkp.bel l0_5).cell 3
         have y0_4 := (K0_5.out.below hkp.bel l0_5).cell 4
         have y0_5 := (K0_5.out.below hkp.bel l0_5).cell 5
         have y0_6 := (K0_5.out.below hkp.bel l0_5).cell 6
         clear hx hk hD hkp
         go_simp
         try rfl
       simp only [Act.put, List.setIfInBounds_toArray, List.set_cons_zero, List.set_cons_succ])
    first
    | (refine Fx.WM.skip 3 (by rfl) (by kernel_rfl) (by kernel_rfl) (by kernel_rfl) (by rfl) (fun g f w h => h) ?_; simp only [Act.put, List.setIfInBounds_toArray, List.set_cons_zero, List.set_cons_succ])
    | (refine Fx.WM.val_ 3 ?_ (by rfl) (by kernel_rfl) (by kernel_rfl) (by kernel_rfl) (by rfl) ?_ (fun g f w h => h) ?_
       rotate_left
       · intro g f w' hx hD hk
         obtain hkp := id hD
         clear hx hk hD hkp
         go_simp
         try rfl
       simp only [Act.put, List.setIfInBounds_toArray, List.set_cons_zero, List.set_cons_succ])
    refine Fx.WM.choose 1 (by rfl) (by kernel_rfl) (by rfl) ?_ ?_
    · skip
      refine Fx.Chooses.call ?_ ?_ (by rfl) ?_ ?_
      rotate_left 2
      · intro w'
        go_simp
        refine ⟨?_, ?_⟩ <;> rfl
      · intro f w' hD hk
        exact (mount_any m w' (R0_5.out.lay hD.bel) (by omega) (by omega)).mono fun e w'' ⟨A', c', B', d', he, hb, hm⟩ => ⟨((A', c'), (B', d')), he, hD.choose PfT.stb hb 1 _ ⟨fun _ => hm, fun e => absurd e (by decide), fun e => absurd e (by decide)⟩⟩
    intro x
    simp only [Act.put, List.setIfInBounds_toArray, List.set_cons_zero, List.set_cons_succ]
    refine Fx.WM.call 2 (.int .i64 (M0)) ?_ ?_ (by rfl) (by kernel_rfl) (by kernel_rfl) (by kernel_rfl) (by rfl) ?_ ?_ ?_
    rotate_left 2
    · intro w'
      go_simp
      refine ⟨?_, ?_⟩ <;> rfl
    · intro g f w' hx hD hk
      exact (pmount_is (m.to x.1.1 x.1.2 x.2.1 x.2.2) M0 HM0.out w' ((hD.has 1 x (hx 1 _ (by rfl))).1 rfl)).mono fun e w'' ⟨he, hw⟩ => ⟨he, hD.call PfT.stb hw⟩
    simp only [Act.put, List.setIfInBounds_toArray, List.set_cons_zero, List.set_cons_succ]
    first
    | (refine Fx.WM.skip 4 (by rfl) (by kernel_rfl) (by kernel_rfl) (by kernel_rfl) (by rfl) (fun g f w h => h) ?_; simp only [Act.put, List.setIfInBounds_toArray, List.set_cons_zero, List.set_cons_succ])
    | (refine Fx.WM.val_ 4 ?_ (by rfl) (by kernel_rfl) (by kernel_rfl) (by kernel_rfl) (by rfl) ?_ (fun g f w h => h) ?_
       rotate_left
       · intro g f w' hx hD hk
         obtain hkp := id hD
         clear hx hk hD hkp
         go_simp
         try rfl
       simp only [Act.put, List.setIfInBounds_toArray, List.set_cons_zero, List.set_cons_succ])
    first
    | (refine Fx.WM.skip 5 (by rfl) (by kernel_rfl) (by kernel_rfl) (by kernel_rfl) (by rfl) (fun g f w h => h) ?_; simp only [Act.put, List.setIfInBounds_toArray, List.set_cons_zero, List.set_cons_succ])
    | (refine Fx.WM.val_ 5 ?_ (by rfl) (by kernel_rfl) (by kernel_rfl) (by kernel_rfl) (by rfl) ?_ (fun g f w h => h) ?_
       rotate_left
       · intro g f w' hx hD hk
         obtain hkp := id hD
         clear hx hk hD hkp
         go_simp
         try rfl
       simp only [Act.put, List.setIfInBounds_toArray, List.set_cons_zero, List.set_cons_succ])
    first
    | (refine Fx.WM.skip 6 (by rfl) (by kernel_rfl) (by kernel_rfl) (by kernel_rfl) (by rfl) (fun g f w h => h) ?_; simp only [Act.put, List.setIfInBounds_toArray, List.set_cons_zero, List.set_cons_succ])
    | (refine Fx.WM.val_ 6 ?_ (by rfl) (by kernel_rfl) (by kernel_rfl) (by kernel_rfl) (by rfl) ?_ (fun g f w h => h) ?_
       rotate_left
       · intro g f w' hx hD hk
         obtain hkp := id hD
         have y1_0 := (K1_5.out.below hkp.bel l1_5).cell 0
         have y1_1 := (K1_5.out.below hkp.bel l1_5).cell 1
         have y1_2 := (K1_5.out.below hkp.bel l1_5).cell 2
         have y1_3 := (K1_5.out.below hkp.bel l1_5).cell 3
         have y1_4 := (K1_5.out.below hkp.bel l1_5).cell 4
         have y1_5 := (K1_5.out.below hkp.bel l1_5).cell 5
         clear hx hk hD hkp
         go_simp
         try rfl
       simp only [Act.put, List.setIfInBounds_toArray, List.set_cons_zero, List.set_cons_succ])
    refine Fx.WM.call 7 (.int .i64 (T0)) ?_ ?_ (by rfl) (by kernel_rfl) (by kernel_rfl) (by kernel_rfl) (by rfl) ?_ ?_ ?_
    rotate_left 2
    · intro w'
      go_simp
      refine ⟨?_, ?_⟩ <;> rfl
    · intro g f w' hx hD hk
      exact (ptarget_is t T0 HT0.out w' hts).mono fun e w'' ⟨he, hw⟩ => ⟨he, hD.call PfT.stb hw⟩
    simp only [Act.put, List.setIfInBounds_toArray, List.set_cons_zero, List.set_cons_succ]
    first
    | (refine Fx.WM.skip 8 (by rfl) (by kernel_rfl) (by kernel_rfl) (by kernel_rfl) (by rfl) (fun g f w h => h) ?_; simp only [Act.put, List.setIfInBounds_toArray, List.set_cons_zero, List.set_cons_succ])
    | (refine Fx.WM.val_ 8 ?_ (by rfl) (by kernel_rfl) (by kernel_rfl) (by kernel_rfl) (by rfl) ?_ (fun g f w h => h) ?_
       rotate_left
       · intro g f w' hx hD hk
         obtain hkp := id hD
         have y1_0 := (K1_5.out.below hkp.bel l1_5).cell 0
         have y1_1 := (K1_5.out.below hkp.bel l1_5).cell 1
         have y1_2 := (K1_5.out.below hkp.bel l1_5).cell 2
         have y1_3 := (K1_5.out.below hkp.bel l1_5).cell 3
         have y1_4 := (K1_5.out.below hkp.bel l1_5).cell 4
         have y1_5 := (K1_5.out.below hkp.bel l1_5).cell 5
         clear hx hk hD hkp
         go_simp
         try rfl
       simp only [Act.put, List.setIfInBounds_toArray, List.set_cons_zero, List.set_cons_succ])
    refine Fx.WM.call 9 (.int .i64 (T0)) ?_ ?_ (by rfl) (by kernel_rfl) (by kernel_rfl) (by kernel_rfl) (by rfl) ?_ ?_ ?_
    rotate_left 2
    · intro w'
      go_simp
      refine ⟨?_, ?_⟩ <;> rfl
    · intro g f w' hx hD hk
      exact (rtarget_is t T0 HT0.out w' hts).mono fun e w'' ⟨he, hw⟩ => ⟨he, hD.call PfT.stb hw⟩
    simp only [Act.put, List.setIfInBounds_toArray, List.set_cons_zero, List.set_cons_succ]
    first
    | (refine Fx.WM.skip 10 (by rfl) (by kernel_rfl) (by kernel_rfl) (by kernel_rfl) (by rfl) (fun g f w h => h) ?_; simp only [Act.put, List.setIfInBounds_toArray, List.set_cons_zero, List.set_cons_succ])
    | (refine Fx.WM.val_ 10 ?_ (by rfl) (by kernel_rfl) (by kernel_rfl) (by kernel_rfl) (by rfl) ?_ (fun g f w h => h) ?_
       rotate_left
       · intro g f w' hx hD hk
         obtain hkp := id hD
         clear hx hk hD hkp
         go_simp
         try rfl
       simp only [Act.put, List.setIfInBounds_toArray, List.set_cons_zero, List.set_cons_succ])
    first
    | (refine Fx.WM.skip 11 (by rfl) (by kernel_rfl) (by kernel_rfl) (by kernel_rfl) (by rfl) (fun g f w h => h) ?_; simp only [Act.put, List.setIfInBounds_toArray, List.set_cons_zero, List.set_cons_succ])
    | (refine Fx.WM.val_ 11 ?_ (by rfl) (by kernel_rfl) (by kernel_rfl) (by kernel_rfl) (by rfl) ?_ (fun g f w h => h) ?_
       rotate_left
       · intro g f w' hx hD hk
         obtain hkp := id hD
         clear hx hk hD hkp
         go_simp
         try rfl
       simp only [Act.put, List.setIfInBounds_toArray, List.set_cons_zero, List.set_cons_succ])
    refine Fx.WM.nil (by kernel_rfl) ?_
    intro wz hkp
    have hb := hkp.bel
    clear hkp
    obtain ⟨w6, hnm⟩ : ∃ z : World, z = wz := ⟨_, rfl⟩
    subst hnm
    have HB6 := Lib.hid (show Below w.heap.size w w6 from step_below hb (by repeat' (first | exact Below.refl _ _ | exact HB5.out | refine below_drewN ?_ _ | refine Below.drew ?_ | refine Below.alloc ?_ (by first | omega | (simp; done) | (simp; omega) | (simp [World.setCell]; omega)) _ | refine Below.setCell ?_ (by first | omega | (simp; done) | (simp; omega)) _ | assumption)))
    have K0_6 := Lib.hid (step_blk hb (show Blk _ (w.heap.size) 42 #[.int .i64 (m.ls), .int .i64 (m.ms), .int .i64 (m.lo), .int .i64 (m.hi), .int .i64 (m.sp), .slice m.A1 m.n1 m.c1, .slice m.A2 m.n2 m.c2] by repeat' (first | exact K0_5.out | exact K1_5.out | exact K2_5.out | exact Blk.at_ _ (by first | rfl | (simp; done) | (simp; omega)) _ _ | refine Blk.drewN ?_ _ | refine Blk.drew ?_ | refine Blk.alloc ?_ _ | refine Blk.far ?_ (by first | omega | (simp; done) | (simp; omega)) _ | assumption)))
    have K1_6 := Lib.hid (step_blk hb (show Blk _ (w.heap.size + 1) 44 #[.string t.name, .int .i64 (t.az), .int .i64 (t.ht), .int .i64 (t.fr), .int .i64 (t.to), .int .i64 (t.dw)] by repeat' (first | exact K0_5.out | exact K1_5.out | exact K2_5.out | exact Blk.at_ _ (by first | rfl | (simp; done) | (simp; omega)) _ _ | refine Blk.drewN ?_ _ | refine Blk.drew ?_ | refine Blk.alloc ?_ _ | refine Blk.far ?_ (by first | omega | (simp; done) | (simp; omega)) _ | assumption)))
    have K2_6 := Lib.hid (step_blk hb (show Blk _ (bx) 46 #[.int .i64 (0), .int .i64 (0)] by repeat' (first | exact K0_5.out | exact K1_5.out | exact K2_5.out | exact Blk.at_ _ (by first | rfl | (simp; done) | (simp; omega)) _ _ | refine Blk.drewN ?_ _ | refine Blk.drew ?_ | refine Blk.alloc ?_ _ | refine Blk.far ?_ (by first | omega | (simp; done) | (simp; omega)) _ | assumption)))
    have hL6 := Lib.hid (show Below w5.heap.size w5 _ from reads_mid hb (by repeat' (first | exact Below.refl _ _ | refine below_drewN ?_ _ | refine Below.drew ?_ | refine Below.alloc ?_ (by first | omega | (simp; done) | (simp; omega) | (simp [World.setCell]; omega)) _ | refine Below.setCell ?_ (by first | omega | (simp; done) | (simp; omega)) _)))
    have R0_6 := Lib.hid (mnt_lay hb hL6.out R0_5.out)
    clear hL6 R0_5
    have hz6 := hb.size
    try simp only [World.size_alloc, World.drewN, World.drew] at hz6
    clear hb K0_5 K1_5 K2_5 z0_0_5 z0_1_5 z0_2_5 z0_3_5 z0_4_5 z0_5_5 z0_6_5 l0_5 z1_0_5 z1_1_5 z1_2_5 z1_3_5 z1_4_5 z1_5_5 l1_5 z2_0_5 z2_1_5 l2_5
    have l0_6 : w.heap.size < w6.heap.size := K0_6.out.lt
    have z0_0_6 : w6.cell? ⟨w.heap.size, 0, none⟩ = some (.int .i64 (m.ls)) := K0_6.out.cell 0
    have z0_1_6 : w6.cell? ⟨w.heap.size, 1, none⟩ = some (.int .i64 (m.ms)) := K0_6.out.cell 1
    have z0_2_6 : w6.cell? ⟨w.heap.size, 2, none⟩ = some (.int .i64 (m.lo)) := K0_6.out.cell 2
    have z0_3_6 : w6.cell? ⟨w.heap.size, 3, none⟩ = some (.int .i64 (m.hi)) := K0_6.out.cell 3
    have z0_4_6 : w6.cell? ⟨w.heap.size, 4, none⟩ = some (.int .i64 (m.sp)) := K0_6.out.cell 4
    have z0_5_6 : w6.cell? ⟨w.heap.size, 5, none⟩ = some (.slice m.A1 m.n1 m.c1) := K0_6.out.cell 5
    have z0_6_6 : w6.cell? ⟨w.heap.size, 6, none⟩ = some (.slice m.A2 m.n2 m.c2) := K0_6.out.cell 6
    have l1_6 : w.heap.size + 1 < w6.heap.size := K1_6.out.lt
    have z1_0_6 : w6.cell? ⟨w.heap.size + 1, 0, none⟩ = some (.string t.name) := K1_6.out.cell 0
    have z1_1_6 : w6.cell? ⟨w.heap.size + 1, 1, none⟩ = some (.int .i64 (t.az)) := K1_6.out.cell 1
    have z1_2_6 : w6.cell? ⟨w.heap.size + 1, 2, none⟩ = some (.int .i64 (t.ht)) := K1_6.out.cell 2
    have z1_3_6 : w6.cell? ⟨w.heap.size + 1, 3, none⟩ = some (.int .i64 (t.fr)) := K1_6.out.cell 3
    have z1_4_6 : w6.cell? ⟨w.heap.size + 1, 4, none⟩ = some (.int .i64 (t.to)) := K1_6.out.cell 4
    have z1_5_6 : w6.cell? ⟨w.heap.size + 1, 5, none⟩ = some (.int .i64 (t.dw)) := K1_6.out.cell 5
    have l2_6 : bx < w6.heap.size := K2_6.out.lt
    have z2_0_6 : w6.cell? ⟨bx, 0, none⟩ = some (.int .i64 (0)) := K2_6.out.cell 0
    have z2_1_6 : w6.cell? ⟨bx, 1, none⟩ = some (.int .i64 (0)) := K2_6.out.cell 1
    rcases HC.out with h | ⟨h1, h2⟩ | ⟨h1, h2, h3, h4⟩
    · subst h
      go_wp2
      go_ret
      exact ⟨rfl, by repeat' (first | exact Below.refl _ _ | exact HB6.out | refine below_drewN ?_ _ | refine Below.drew ?_ | refine Below.alloc ?_ (by first | omega | (simp; done) | (simp; omega) | (simp [World.setCell]; omega)) _ | refine Below.setCell ?_ (by first | omega | (simp; done) | (simp; omega)) _ | assumption)⟩
    · subst h1 h2
      go_wp2_with fail
      go_wp2_with fail
      refine (rtarget_is t T0 HT0.out _ hts).mono ?_
      rintro e w7 ⟨rfl, hb⟩
      have HB7 := Lib.hid (show Below w.heap.size w w7 from step_below hb (by repeat' (first | exact Below.refl _ _ | exact HB6.out | refine below_drewN ?_ _ | refine Below.drew ?_ | refine Below.alloc ?_ (by first | omega | (simp; done) | (simp; omega) | (simp [World.setCell]; omega)) _ | refine Below.setCell ?_ (by first | omega | (simp; done) | (simp; omega)) _ | assumption)))
      have K0_7 := Lib.hid (step_blk hb (show Blk _ (w.heap.size) 42 #[.int .i64 (m.ls), .int .i64 (m.ms), .int .i64 (m.lo), .int .i64 (m.hi), .int .i64 (m.sp), .slice m.A1 m.n1 m.c1, .slice m.A2 m.n2 m.c2] by repeat' (first | exact K0_6.out | exact K1_6.out | exact K2_6.out | exact Blk.at_ _ (by first | rfl | (simp; done) | (simp; omega)) _ _ | refine Blk.drewN ?_ _ | refine Blk.drew ?_ | refine Blk.alloc ?_ _ | refine Blk.far ?_ (by first | omega | (simp; done) | (simp; omega)) _ | assumption)))
      have K1_7 := Lib.hid (step_blk hb (show Blk _ (w.heap.size + 1) 44 #[.string t.name, .int .i64 (t.az), .int .i64 (t.ht), .int .i64 (t.fr), .int .i64 (t.to), .int .i64 (t.dw)] by repeat' (first | exact K0_6.out | exact K1_6.out | exact K2_6.out | exact Blk.at_ _ (by first | rfl | (simp; done) | (simp; omega)) _ _ | refine Blk.drewN ?_ _ | refine Blk.drew ?_ | refine Blk.alloc ?_ _ | refine Blk.far ?_ (by first | omega | (simp; done) | (simp; omega)) _ | assumption)))
      have K2_7 := Lib.hid (step_blk hb (show Blk _ (bx) 46 #[.int .i64 (0), .int .i64 (0)] by repeat' (first | exact K0_6.out | exact K1_6.out | exact K2_6.out | exact Blk.at_ _ (by first | rfl | (simp; done) | (simp; omega)) _ _ | refine Blk.drewN ?_ _ | refine Blk.drew ?_ | refine Blk.alloc ?_ _ | refine Blk.far ?_ (by first | omega | (simp; done) | (simp; omega)) _ | assumption)))
      have hL7 := Lib.hid (show Below w6.heap.size w6 _ from reads_mid hb (by repeat' (first | exact Below.refl _ _ | refine below_drewN ?_ _ | refine Below.drew ?_ | refine Below.alloc ?_ (by first | omega | (simp; done) | (simp; omega) | (simp [World.setCell]; omega)) _ | refine Below.setCell ?_ (by first | omega | (simp; done) | (simp; omega)) _)))
      have R0_7 := Lib.hid (mnt_lay hb hL7.out R0_6.out)
      clear hL7 R0_6
      have hz7 := hb.size
      try simp only [World.size_alloc, World.drewN, World.drew] at hz7
      clear hb K0_6 K1_6 K2_6 z0_0_6 z0_1_6 z0_2_6 z0_3_6 z0_4_6 z0_5_6 z0_6_6 l0_6 z1_0_6 z1_1_6 z1_2_6 z1_3_6 z1_4_6 z1_5_6 l1_6 z2_0_6 z2_1_6 l2_6
      have l0_7 : w.heap.size < w7.heap.size := K0_7.out.lt
      have z0_0_7 : w7.cell? ⟨w.heap.size, 0, none⟩ = some (.int .i64 (m.ls)) := K0_7.out.cell 0
      have z0_1_7 : w7.cell? ⟨w.heap.size, 1, none⟩ = some (.int .i64 (m.ms)) := K0_7.out.cell 1
      have z0_2_7 : w7.cell? ⟨w.heap.size, 2, none⟩ = some (.int .i64 (m.lo)) := K0_7.out.cell 2
      have z0_3_7 : w7.cell? ⟨w.heap.size, 3, none⟩ = some (.int .i64 (m.hi)) := K0_7.out.cell 3
      have z0_4_7 : w7.cell? ⟨w.heap.size, 4, none⟩ = some (.int .i64 (m.sp)) := K0_7.out.cell 4
      have z0_5_7 : w7.cell? ⟨w.heap.size, 5, none⟩ = some (.slice m.A1 m.n1 m.c1) := K0_7.out.cell 5
      have z0_6_7 : w7.cell? ⟨w.heap.size, 6, none⟩ = some (.slice m.A2 m.n2 m.c2) := K0_7.out.cell 6
      have l1_7 : w.heap.size + 1 < w7.heap.size := K1_7.out.lt
      have z1_0_7 : w7.cell? ⟨w.heap.size + 1, 0, none⟩ = some (.string t.name) := K1_7.out.cell 0
      have z1_1_7 : w7.cell? ⟨w.heap.size + 1, 1, none⟩ = some (.int .i64 (t.az)) := K1_7.out.cell 1
      have z1_2_7 : w7.cell? ⟨w.heap.size + 1, 2, none⟩ = some (.int .i64 (t.ht)) := K1_7.out.cell 2
      have z1_3_7 : w7.cell? ⟨w.heap.size + 1, 3, none⟩ = some (.int .i64 (t.fr)) := K1_7.out.cell 3
      have z1_4_7 : w7.cell? ⟨w.heap.size + 1, 4, none⟩ = some (.int .i64 (t.to)) := K1_7.out.cell 4
      have z1_5_7 : w7.cell? ⟨w.heap.size + 1, 5, none⟩ = some (.int .i64 (t.dw)) := K1_7.out.cell 5
      have l2_7 : bx < w7.heap.size := K2_7.out.lt
      have z2_0_7 : w7.cell? ⟨bx, 0, none⟩ = some (.int .i64 (0)) := K2_7.out.cell 0
      have z2_1_7 : w7.cell? ⟨bx, 1, none⟩ = some (.int .i64 (0)) := K2_7.out.cell 1
      go_wp2
      go_ret
      exact ⟨rfl, by repeat' (first | exact Below.refl _ _ | exact HB7.out | refine below_drewN ?_ _ | refine Below.drew ?_ | refine Below.alloc ?_ (by first | omega | (simp; done) | (simp; omega) | (simp [World.setCell]; omega)) _ | refine Below.setCell ?_ (by first | omega | (simp; done) | (simp; omega)) _ | assumption)⟩
    · subst h1 h2 h3
      go_wp2_with fail
      go_wp2_with fail
      refine (rtarget_is t 0 HT0.out _ hts).mono ?_
      rintro e w7 ⟨rfl, hb⟩
      have HB7 := Lib.hid (show Below w.heap.size w w7 from step_below hb (by repeat' (first | exact Below.refl _ _ | exact HB6.out | refine below_drewN ?_ _ | refine Below.drew ?_ | refine Below.alloc ?_ (by first | omega | (simp; done) | (simp; omega) | (simp [World.setCell]; omega)) _ | refine Below.setCell ?_ (by first | omega | (simp; done) | (simp; omega)) _ | assumption)))
      have K0_7 := Lib.hid (step_blk hb (show Blk _ (w.heap.size) 42 #[.int .i64 (m.ls), .int .i64 (m.ms), .int .i64 (m.lo), .int .i64 (m.hi), .int .i64 (m.sp), .slice m.A1 m.n1 m.c1, .slice m.A2 m.n2 m.c2] by repeat' (first | exact K0_6.out | exact K1_6.out | exact K2_6.out | exact Blk.at_ _ (by first | rfl | (simp; done) | (simp; omega)) _ _ | refine Blk.drewN ?_ _ | refine Blk.drew ?_ | refine Blk.alloc ?_ _ | refine Blk.far ?_ (by first | omega | (simp; done) | (simp; omega)) _ | assumption)))
      have K1_7 := Lib.hid (step_blk hb (show Blk _ (w.heap.size + 1) 44 #[.string t.name, .int .i64 (t.az), .int .i64 (t.ht), .int .i64 (t.fr), .int .i64 (t.to), .int .i64 (t.dw)] by repeat' (first | exact K0_6.out | exact K1_6.out | exact K2_6.out | exact Blk.at_ _ (by first | rfl | (simp; done) | (simp; omega)) _ _ | refine Blk.drewN ?_ _ | refine Blk.drew ?_ | refine Blk.alloc ?_ _ | refine Blk.far ?_ (by first | omega | (simp; done) | (simp; omega)) _ | assumption)))
      have K2_7 := Lib.hid (step_blk hb (show Blk _ (bx) 46 #[.int .i64 (0), .int .i64 (0)] by repeat' (first | exact K0_6.out | exact K1_6.out | exact K2_6.out | exact Blk.at_ _ (by first | rfl | (simp; done) | (simp; omega)) _ _ | refine Blk.drewN ?_ _ | refine Blk.drew ?_ | refine Blk.alloc ?_ _ | refine Blk.far ?_ (by first | omega | (simp; done) | (simp; omega)) _ | assumption)))
      have hL7 := Lib.hid (show Below w6.heap.size w6 _ from reads_mid hb (by repeat' (first | exact Below.refl _ _ | refine below_drewN ?_ _ | refine Below.drew ?_ | refine Below.alloc ?_ (by first | omega | (simp; done) | (simp; omega) | (simp [World.setCell]; omega)) _ | refine Below.setCell ?_ (by first | omega | (simp; done) | (simp; omega)) _)))
      have R0_7 := Lib.hid (mnt_lay hb hL7.out R0_6.out)
      clear hL7 R0_6
      have hz7 := hb.size
      try simp only [World.size_alloc, World.drewN, World.drew] at hz7
      clear hb K0_6 K1_6 K2_6 z0_0_6 z0_1_6 z0_2_6 z0_3_6 z0_4_6 z0_5_6 z0_6_6 l0_6 z1_0_6 z1_1_6 z1_2_6 z1_3_6 z1_4_6 z1_5_6 l1_6 z2_0_6 z2_1_6 l2_6
      have l0_7 : w.heap.size < w7.heap.size := K0_7.out.lt
      have z0_0_7 : w7.cell? ⟨w.heap.size, 0, none⟩ = some (.int .i64 (m.ls)) := K0_7.out.cell 0
      have z0_1_7 : w7.cell? ⟨w.heap.size, 1, none⟩ = some (.int .i64 (m.ms)) := K0_7.out.cell 1
      have z0_2_7 : w7.cell? ⟨w.heap.size, 2, none⟩ = some (.int .i64 (m.lo)) := K0_7.out.cell 2
      have z0_3_7 : w7.cell? ⟨w.heap.size, 3, none⟩ = some (.int .i64 (m.hi)) := K0_7.out.cell 3
      have z0_4_7 : w7.cell? ⟨w.heap.size, 4, none⟩ = some (.int .i64 (m.sp)) := K0_7.out.cell 4
      have z0_5_7 : w7.cell? ⟨w.heap.size, 5, none⟩ = some (.slice m.A1 m.n1 m.c1) := K0_7.out.cell 5
      have z0_6_7 : w7.cell? ⟨w.heap.size, 6, none⟩ = some (.slice m.A2 m.n2 m.c2) := K0_7.out.cell 6
      have l1_7 : w.heap.size + 1 < w7.heap.size := K1_7.out.lt
      have z1_0_7 : w7.cell? ⟨w.heap.size + 1, 0, none⟩ = some (.string t.name) := K1_7.out.cell 0
      have z1_1_7 : w7.cell? ⟨w.heap.size + 1, 1, none⟩ = some (.int .i64 (t.az)) := K1_7.out.cell 1
      have z1_2_7 : w7.cell? ⟨w.heap.size + 1, 2, none⟩ = some (.int .i64 (t.ht)) := K1_7.out.cell 2
      have z1_3_7 : w7.cell? ⟨w.heap.size + 1, 3, none⟩ = some (.int .i64 (t.fr)) := K1_7.out.cell 3
      have z1_4_7 : w7.cell? ⟨w.heap.size + 1, 4, none⟩ = some (.int .i64 (t.to)) := K1_7.out.cell 4
      have z1_5_7 : w7.cell? ⟨w.heap.size + 1, 5, none⟩ = some (.int .i64 (t.dw)) := K1_7.out.cell 5
      have l2_7 : bx < w7.heap.size := K2_7.out.lt
      have z2_0_7 : w7.cell? ⟨bx, 0, none⟩ = some (.int .i64 (0)) := K2_7.out.cell 0
      have z2_1_7 : w7.cell? ⟨bx, 1, none⟩ = some (.int .i64 (0)) := K2_7.out.cell 1
      go_wp2_with fail
      refine (isday_is day false h4 _).mono ?_
      rintro e w' ⟨rfl, rfl⟩
      go_wp2
      go_ret
      exact ⟨rfl, by repeat' (first | exact Below.refl _ _ | exact HB7.out | refine below_drewN ?_ _ | refine Below.drew ?_ | refine Below.alloc ?_ (by first | omega | (simp; done) | (simp; omega) | (simp [World.setCell]; omega)) _ | refine Below.setCell ?_ (by first | omega | (simp; done) | (simp; omega)) _ | assumption)⟩
  subst h0
  obtain ⟨e1, e2, e3⟩ := mtd_zero hE
  obtain rfl : M0 = 0 := hM0.symm.trans e1
  obtain rfl : T0 = 0 := hT0.symm.trans e2
  obtain ⟨X, Y, hA⟩ : ∃ X Y, appF m t day = (X, Y) := ⟨_, _, rfl⟩
  obtain ⟨L, F, hT⟩ : ∃ L F, turnsAt m X Y = (L, F) := ⟨_, _, rfl⟩
  obtain ⟨q, hq⟩ : ∃ q, L.length = q := ⟨_, rfl⟩
  have hq43 : q ≤ 43 := by rw [← hq, ← show (turnsAt m X Y).1 = L by rw [hT]]; exact turnsAt_len m X Y
  have hday : withinB day 0 100000 = true := (withinB_iff _ _ _).2 (day_right e3)
  have HE := Lib.hid hE
  have HA := Lib.hid hA
  have HT := Lib.hid hT
  have HQ := Lib.hid hq
  have HD := Lib.hid e3
  have HDY := Lib.hid hday
  have q1 : (F == F) = true := by simp
  have q2 : decide ((X, Y) = (X, Y)) = true := by simp
  clear hE hA hT hq e1 e2 e3 hM0 hT0 hday
  go_enter Try.func5, Try.ntmps5
  have R0_0 := Lib.hid hma
  clear hma
  go_wp2_with fail
  refine (awakept_any _).mono ?_
  rintro e w1 ⟨rfl, hb⟩
  have HB1 := Lib.hid (show Below w.heap.size w w1 from step_below hb (by repeat' (first | exact Below.refl _ _ | exact HB0.out | refine below_drewN ?_ _ | refine Below.drew ?_ | refine Below.alloc ?_ (by first | omega | (simp; done) | (simp; omega) | (simp [World.setCell]; omega)) _ | refine Below.setCell ?_ (by first | omega | (simp; done) | (simp; omega)) _ | assumption)))
  have K0_1 := Lib.hid (step_blk hb (show Blk _ (w.heap.size) 42 #[.int .i64 (m.ls), .int .i64 (m.ms), .int .i64 (m.lo), .int .i64 (m.hi), .int .i64 (m.sp), .slice m.A1 m.n1 m.c1, .slice m.A2 m.n2 m.c2] by repeat' (first | exact Blk.at_ _ (by first | rfl | (simp; done) | (simp; omega)) _ _ | refine Blk.drewN ?_ _ | refine Blk.drew ?_ | refine Blk.alloc ?_ _ | refine Blk.far ?_ (by first | omega | (simp; done) | (simp; omega)) _ | assumption)))
  have K1_1 := Lib.hid (step_blk hb (show Blk _ (w.heap.size + 1) 44 #[.string t.name, .int .i64 (t.az), .int .i64 (t.ht), .int .i64 (t.fr), .int .i64 (t.to), .int .i64 (t.dw)] by repeat' (first | exact Blk.at_ _ (by first | rfl | (simp; done) | (simp; omega)) _ _ | refine Blk.drewN ?_ _ | refine Blk.drew ?_ | refine Blk.alloc ?_ _ | refine Blk.far ?_ (by first | omega | (simp; done) | (simp; omega)) _ | assumption)))
  have hL1 := Lib.hid (show Below w.heap.size w _ from reads_mid hb (by repeat' (first | exact Below.refl _ _ | refine below_drewN ?_ _ | refine Below.drew ?_ | refine Below.alloc ?_ (by first | omega | (simp; done) | (simp; omega) | (simp [World.setCell]; omega)) _ | refine Below.setCell ?_ (by first | omega | (simp; done) | (simp; omega)) _)))
  have R0_1 := Lib.hid (mnt_lay hb hL1.out R0_0.out)
  clear hL1 R0_0
  have hz1 := hb.size
  try simp only [World.size_alloc, World.drewN, World.drew] at hz1
  clear hb
  have l0_1 : w.heap.size < w1.heap.size := K0_1.out.lt
  have z0_0_1 : w1.cell? ⟨w.heap.size, 0, none⟩ = some (.int .i64 (m.ls)) := K0_1.out.cell 0
  have z0_1_1 : w1.cell? ⟨w.heap.size, 1, none⟩ = some (.int .i64 (m.ms)) := K0_1.out.cell 1
  have z0_2_1 : w1.cell? ⟨w.heap.size, 2, none⟩ = some (.int .i64 (m.lo)) := K0_1.out.cell 2
  have z0_3_1 : w1.cell? ⟨w.heap.size, 3, none⟩ = some (.int .i64 (m.hi)) := K0_1.out.cell 3
  have z0_4_1 : w1.cell? ⟨w.heap.size, 4, none⟩ = some (.int .i64 (m.sp)) := K0_1.out.cell 4
  have z0_5_1 : w1.cell? ⟨w.heap.size, 5, none⟩ = some (.slice m.A1 m.n1 m.c1) := K0_1.out.cell 5
  have z0_6_1 : w1.cell? ⟨w.heap.size, 6, none⟩ = some (.slice m.A2 m.n2 m.c2) := K0_1.out.cell 6
  have l1_1 : w.heap.size + 1 < w1.heap.size := K1_1.out.lt
  have z1_0_1 : w1.cell? ⟨w.heap.size + 1, 0, none⟩ = some (.string t.name) := K1_1.out.cell 0
  have z1_1_1 : w1.cell? ⟨w.heap.size + 1, 1, none⟩ = some (.int .i64 (t.az)) := K1_1.out.cell 1
  have z1_2_1 : w1.cell? ⟨w.heap.size + 1, 2, none⟩ = some (.int .i64 (t.ht)) := K1_1.out.cell 2
  have z1_3_1 : w1.cell? ⟨w.heap.size + 1, 3, none⟩ = some (.int .i64 (t.fr)) := K1_1.out.cell 3
  have z1_4_1 : w1.cell? ⟨w.heap.size + 1, 4, none⟩ = some (.int .i64 (t.to)) := K1_1.out.cell 4
  have z1_5_1 : w1.cell? ⟨w.heap.size + 1, 5, none⟩ = some (.int .i64 (t.dw)) := K1_1.out.cell 5
  go_wp2_with fail
  refine (light_is m true HL.out _).mono ?_
  rintro e w2 ⟨rfl, hb⟩
  have HB2 := Lib.hid (show Below w.heap.size w w2 from step_below hb (by repeat' (first | exact Below.refl _ _ | exact HB1.out | refine below_drewN ?_ _ | refine Below.drew ?_ | refine Below.alloc ?_ (by first | omega | (simp; done) | (simp; omega) | (simp [World.setCell]; omega)) _ | refine Below.setCell ?_ (by first | omega | (simp; done) | (simp; omega)) _ | assumption)))
  have K0_2 := Lib.hid (step_blk hb (show Blk _ (w.heap.size) 42 #[.int .i64 (m.ls), .int .i64 (m.ms), .int .i64 (m.lo), .int .i64 (m.hi), .int .i64 (m.sp), .slice m.A1 m.n1 m.c1, .slice m.A2 m.n2 m.c2] by repeat' (first | exact K0_1.out | exact K1_1.out | exact Blk.at_ _ (by first | rfl | (simp; done) | (simp; omega)) _ _ | refine Blk.drewN ?_ _ | refine Blk.drew ?_ | refine Blk.alloc ?_ _ | refine Blk.far ?_ (by first | omega | (simp; done) | (simp; omega)) _ | assumption)))
  have K1_2 := Lib.hid (step_blk hb (show Blk _ (w.heap.size + 1) 44 #[.string t.name, .int .i64 (t.az), .int .i64 (t.ht), .int .i64 (t.fr), .int .i64 (t.to), .int .i64 (t.dw)] by repeat' (first | exact K0_1.out | exact K1_1.out | exact Blk.at_ _ (by first | rfl | (simp; done) | (simp; omega)) _ _ | refine Blk.drewN ?_ _ | refine Blk.drew ?_ | refine Blk.alloc ?_ _ | refine Blk.far ?_ (by first | omega | (simp; done) | (simp; omega)) _ | assumption)))
  have hL2 := Lib.hid (show Below w1.heap.size w1 _ from reads_mid hb (by repeat' (first | exact Below.refl _ _ | refine below_drewN ?_ _ | refine Below.drew ?_ | refine Below.alloc ?_ (by first | omega | (simp; done) | (simp; omega) | (simp [World.setCell]; omega)) _ | refine Below.setCell ?_ (by first | omega | (simp; done) | (simp; omega)) _)))
  have R0_2 := Lib.hid (mnt_lay hb hL2.out R0_1.out)
  clear hL2 R0_1
  have hz2 := hb.size
  try simp only [World.size_alloc, World.drewN, World.drew] at hz2
  clear hb K0_1 K1_1 z0_0_1 z0_1_1 z0_2_1 z0_3_1 z0_4_1 z0_5_1 z0_6_1 l0_1 z1_0_1 z1_1_1 z1_2_1 z1_3_1 z1_4_1 z1_5_1 l1_1
  have l0_2 : w.heap.size < w2.heap.size := K0_2.out.lt
  have z0_0_2 : w2.cell? ⟨w.heap.size, 0, none⟩ = some (.int .i64 (m.ls)) := K0_2.out.cell 0
  have z0_1_2 : w2.cell? ⟨w.heap.size, 1, none⟩ = some (.int .i64 (m.ms)) := K0_2.out.cell 1
  have z0_2_2 : w2.cell? ⟨w.heap.size, 2, none⟩ = some (.int .i64 (m.lo)) := K0_2.out.cell 2
  have z0_3_2 : w2.cell? ⟨w.heap.size, 3, none⟩ = some (.int .i64 (m.hi)) := K0_2.out.cell 3
  have z0_4_2 : w2.cell? ⟨w.heap.size, 4, none⟩ = some (.int .i64 (m.sp)) := K0_2.out.cell 4
  have z0_5_2 : w2.cell? ⟨w.heap.size, 5, none⟩ = some (.slice m.A1 m.n1 m.c1) := K0_2.out.cell 5
  have z0_6_2 : w2.cell? ⟨w.heap.size, 6, none⟩ = some (.slice m.A2 m.n2 m.c2) := K0_2.out.cell 6
  have l1_2 : w.heap.size + 1 < w2.heap.size := K1_2.out.lt
  have z1_0_2 : w2.cell? ⟨w.heap.size + 1, 0, none⟩ = some (.string t.name) := K1_2.out.cell 0
  have z1_1_2 : w2.cell? ⟨w.heap.size + 1, 1, none⟩ = some (.int .i64 (t.az)) := K1_2.out.cell 1
  have z1_2_2 : w2.cell? ⟨w.heap.size + 1, 2, none⟩ = some (.int .i64 (t.ht)) := K1_2.out.cell 2
  have z1_3_2 : w2.cell? ⟨w.heap.size + 1, 3, none⟩ = some (.int .i64 (t.fr)) := K1_2.out.cell 3
  have z1_4_2 : w2.cell? ⟨w.heap.size + 1, 4, none⟩ = some (.int .i64 (t.to)) := K1_2.out.cell 4
  have z1_5_2 : w2.cell? ⟨w.heap.size + 1, 5, none⟩ = some (.int .i64 (t.dw)) := K1_2.out.cell 5
  go_wp2
  apply share (Fact := fun (_ z : Pick2) (wz : World) => ∃ bx, z.1.1 = some ⟨bx, 0, none⟩ ∧ w2.heap.size ≤ bx ∧ Below w2.heap.size w2 wz ∧ Blk wz bx 46 #[.int .i64 (X), .int .i64 (Y)])
  · intro key
    refine Fx.regionM (fun W g f w' => KpS (PfT m 0 [] 0 [] 1 99 98) 46 (.int .i64 (X)) (.int .i64 (Y)) 8 9 W g f w') (fun i (x : Pick2) => if i = 8 then .pointer x.1.1 else valT m 0 0 1 99 i x) (by kernel_rfl) ?_ ?_
    · intro f hf0
      exact KpS.start
    first
    | (refine Fx.WM.skip 0 (by rfl) (by kernel_rfl) (by kernel_rfl) (by kernel_rfl) (by rfl) (fun g f w h => h.same (by decide)) ?_; simp only [Act.put, List.setIfInBounds_toArray, List.set_cons_zero, List.set_cons_succ])
    | (refine Fx.WM.val_ 0 ?_ (by rfl) (by kernel_rfl) (by kernel_rfl) (by kernel_rfl) (by rfl) ?_ (fun g f w h => h.same (by decide)) ?_
       rotate_left
       · intro g f w' hx hD hk
         obtain hkp := id hD
         have y0_0 := (K0_2.out.below hkp.bel l0_2).cell 0
         have y0_1 := (K0_2.out.below hkp.bel l0_2).cell 1
         have y0_2 := (K0_2.out.below hkp.bel l0_2).cell 2
         have y0_3 := (K0_2.out.below hkp.bel l0_2).cell 3
         have y0_4 := (K0_2.out.below hkp.bel l0_2).cell 4
         have y0_5 := (K0_2.out.below hkp.bel l0_2).cell 5
         have y0_6 := (K0_2.out.below hkp.bel l0_2).cell 6
         clear hx hk hD hkp
         go_simp
         try rfl
       simp only [Act.put, List.setIfInBounds_toArray, List.set_cons_zero, List.set_cons_succ])
    first
    | (refine Fx.WM.skip 2 (by rfl) (by kernel_rfl) (by kernel_rfl) (by kernel_rfl) (by rfl) (fun g f w h => h.same (by decide)) ?_; simp only [Act.put, List.setIfInBounds_toArray, List.set_cons_zero, List.set_cons_succ])
    | (refine Fx.WM.val_ 2 ?_ (by rfl) (by kernel_rfl) (by kernel_rfl) (by kernel_rfl) (by rfl) ?_ (fun g f w h => h.same (by decide)) ?_
       rotate_left
       · intro g f w' hx hD hk
         obtain hkp := id hD
         have y1_0 := (K1_2.out.below hkp.bel l1_2).cell 0
         have y1_1 := (K1_2.out.below hkp.bel l1_2).cell 1
         have y1_2 := (K1_2.out.below hkp.bel l1_2).cell 2
         have y1_3 := (K1_2.out.below hkp.bel l1_2).cell 3
         have y1_4 := (K1_2.out.below hkp.bel l1_2).cell 4
         have y1_5 := (K1_2.out.below hkp.bel l1_2).cell 5
         clear hx hk hD hkp
         go_simp
         try rfl
       simp only [Act.put, List.setIfInBounds_toArray, List.set_cons_zero, List.set_cons_succ])
    first
    | (refine Fx.WM.skip 3 (by rfl) (by kernel_rfl) (by kernel_rfl) (by kernel_rfl) (by rfl) (fun g f w h => h.same (by decide)) ?_; simp only [Act.put, List.setIfInBounds_toArray, List.set_cons_zero, List.set_cons_succ])
    | (refine Fx.WM.val_ 3 ?_ (by rfl) (by kernel_rfl) (by kernel_rfl) (by kernel_rfl) (by rfl) ?_ (fun g f w h => h.same (by decide)) ?_
       rotate_left
       · intro g f w' hx hD hk
         obtain hkp := id hD
         clear hx hk hD hkp
         go_simp
         try rfl
       simp only [Act.put, List.setIfInBounds_toArray, List.set_cons_zero, List.set_cons_succ])
    refine Fx.WM.choose2 1 8 (by rfl) (by rfl) (by kernel_rfl) (by rfl) (by rfl) ?_ ?_ ?_ ?_
    · skip
      refine Fx.Chooses.call ?_ ?_ (by rfl) ?_ ?_
      rotate_left 2
      · intro w'
        go_simp
        refine ⟨?_, ?_⟩ <;> rfl
      · intro f w' hD hk
        exact (mount_any m w' (R0_2.out.lay hD.bel) (by omega) (by omega)).mono fun e w'' ⟨A', c', B', d', he, hb, hm⟩ => ⟨((A', c'), (B', d')), he, hD.choose PfT.stb hb 1 _ (by decide) (by decide) ⟨fun _ => hm, fun e => absurd e (by decide), fun e => absurd e (by decide)⟩⟩
    · skip
      refine Fx.Chooses.make (by rfl) ?_
      intro f w' hD hk
      refine ⟨((some ⟨w'.heap.size, 0, none⟩, 0), (none, 0)), w'.alloc (.cells #[.int .i64 (0), .int .i64 (0)] 46), ?_, ?_⟩
      · clear hk hD
        go_simp
        try rfl
      · exact hD.make PfT.stb (hk.2.1 9 (by kernel_rfl)) (by decide)
    · intro x
      simp only [Act.put, List.setIfInBounds_toArray, List.set_cons_zero, List.set_cons_succ]
      refine Fx.WM.call 4 (.tuple #[.agg #[.int .i64 (X), .int .i64 (Y)], .int .i64 (0)]) ?_ ?_ (by rfl) (by kernel_rfl) (by kernel_rfl) (by kernel_rfl) (by rfl) ?_ ?_ ?_
      rotate_left 2
      · intro w'
        go_simp
        refine ⟨?_, ?_⟩ <;> rfl
      · intro g f w' hx hD hk
        exact (pApparent_ok (m.to x.1.1 x.1.2 x.2.1 x.2.2) t day X Y HA.out HE.out w' ((hD.has (hk.2.1 9 (by kernel_rfl)) 1 x (hx 1 _ (by rfl)) (by decide)).1 rfl) hts).mono fun e w'' ⟨he, hw⟩ => ⟨he, hD.call PfT.stb (by decide) hw⟩
      simp only [Act.put, List.setIfInBounds_toArray, List.set_cons_zero, List.set_cons_succ]
      first
      | (refine Fx.WM.skip 5 (by rfl) (by kernel_rfl) (by kernel_rfl) (by kernel_rfl) (by rfl) (fun g f w h => h.same (by decide)) ?_; simp only [Act.put, List.setIfInBounds_toArray, List.set_cons_zero, List.set_cons_succ])
      | (refine Fx.WM.val_ 5 ?_ (by rfl) (by kernel_rfl) (by kernel_rfl) (by kernel_rfl) (by rfl) ?_ (fun g f w h => h.same (by decide)) ?_
         rotate_left
         · intro g f w' hx hD hk
           obtain hkp := id hD
           clear hx hk hD hkp
           go_simp
           try rfl
         simp only [Act.put, List.setIfInBounds_toArray, List.set_cons_zero, List.set_cons_succ])
      first
      | (refine Fx.WM.skip 6 (by rfl) (by kernel_rfl) (by kernel_rfl) (by kernel_rfl) (by rfl) (fun g f w h => h.same (by decide)) ?_; simp only [Act.put, List.setIfInBounds_toArray, List.set_cons_zero, List.set_cons_succ])
      | (refine Fx.WM.val_ 6 ?_ (by rfl) (by kernel_rfl) (by kernel_rfl) (by kernel_rfl) (by rfl) ?_ (fun g f w h => h.same (by decide)) ?_
         rotate_left
         · intro g f w' hx hD hk
           obtain hkp := id hD
           clear hx hk hD hkp
           go_simp
           try rfl
         simp only [Act.put, List.setIfInBounds_toArray, List.set_cons_zero, List.set_cons_succ])
      first
      | (refine Fx.WM.skip 7 (by rfl) (by kernel_rfl) (by kernel_rfl) (by kernel_rfl) (by rfl) (fun g f w h => h.same (by decide)) ?_; simp only [Act.put, List.setIfInBounds_toArray, List.set_cons_zero, List.set_cons_succ])
      | (refine Fx.WM.val_ 7 ?_ (by rfl) (by kernel_rfl) (by kernel_rfl) (by kernel_rfl) (by rfl) ?_ (fun g f w h => h.same (by decide)) ?_
         rotate_left
         · intro g f w' hx hD hk
           obtain hkp := id hD
           clear hx hk hD hkp
           go_simp
           try rfl
         simp only [Act.put, List.setIfInBounds_toArray, List.set_cons_zero, List.set_cons_succ])
      refine Fx.WM.choose 8 (by rfl) (by kernel_rfl) (by rfl) ?_ ?_
      · skip
        refine Fx.Chooses.make (by rfl) ?_
        intro f w' hD hk
        refine ⟨((some ⟨w'.heap.size, 0, none⟩, 0), (none, 0)), w'.alloc (.cells #[.int .i64 (0), .int .i64 (0)] 46), ?_, ?_⟩
        · clear hk hD
          go_simp
          try rfl
        · exact hD.make PfT.stb (hk.2.1 9 (by kernel_rfl)) (by decide)
      intro z
      simp only [Act.put, List.setIfInBounds_toArray, List.set_cons_zero, List.set_cons_succ]
      refine Fx.WM.eff 9 undef (by rfl) (by kernel_rfl) (by kernel_rfl) (by kernel_rfl) (by rfl) ?_ ?_
      · intro g f w' hx hD hk
        obtain ⟨bx, e0, e1, r0, r1, r2, r3, r4, r5⟩ := KpS.cells hD (hx 8 _ (by rfl))
        refine Fx.gives_skip (w' := ((w'.setCell ⟨bx, 0, none⟩ (.int .i64 (X))).setCell ⟨bx, 1, none⟩ (.int .i64 (Y)))) ?_ ?_
        · clear hx hk hD
          go_simp
          try rfl
        · exact KpS.store hD (hx 8 _ (by rfl)) r0
      simp only [Act.put, List.setIfInBounds_toArray, List.set_cons_zero, List.set_cons_succ]
      first
      | (refine Fx.WM.skip 10 (by rfl) (by kernel_rfl) (by kernel_rfl) (by kernel_rfl) (by rfl) (fun g f w h => h.same (by decide)) ?_; simp only [Act.put, List.setIfInBounds_toArray, List.set_cons_zero, List.set_cons_succ])
      | (refine Fx.WM.val_ 10 ?_ (by rfl) (by kernel_rfl) (by kernel_rfl) (by kernel_rfl) (by rfl) ?_ (fun g f w h => h.same (by decide)) ?_
         rotate_left
         · intro g f w' hx hD hk
           obtain hkp := id hD
           clear hx hk hD hkp
           go_simp
           try rfl
         simp only [Act.put, List.setIfInBounds_toArray, List.set_cons_zero, List.set_cons_succ])
      refine Fx.WM.nil (by kernel_rfl) ?_
      intro wz hkp
      obtain ⟨bx, h1, h2, h3⟩ := KpS.end_ hkp (x := z) (by rfl) (by rfl)
      exact key x z wz ⟨bx, h1, h2, hkp.bel, h3⟩
    · intro z
      simp only [Act.put, List.setIfInBounds_toArray, List.set_cons_zero, List.set_cons_succ]
      refine Fx.WM.choose 1 (by rfl) (by kernel_rfl) (by rfl) ?_ ?_
      · skip
        refine Fx.Chooses.call ?_ ?_ (by rfl) ?_ ?_
        rotate_left 2
        · intro w'
          go_simp
          refine ⟨?_, ?_⟩ <;> rfl
        · intro f w' hD hk
          exact (mount_any m w' (R0_2.out.lay hD.bel) (by omega) (by omega)).mono fun e w'' ⟨A', c', B', d', he, hb, hm⟩ => ⟨((A', c'), (B', d')), he, hD.choose PfT.stb hb 1 _ (by decide) (by decide) ⟨fun _ => hm, fun e => absurd e (by decide), fun e => absurd e (by decide)⟩⟩
      intro x
      simp only [Act.put, List.setIfInBounds_toArray, List.set_cons_zero, List.set_cons_succ]
      refine Fx.WM.call 4 (.tuple #[.agg #[.int .i64 (X), .int .i64 (Y)], .int .i64 (0)]) ?_ ?_ (by rfl) (by kernel_rfl) (by kernel_rfl) (by kernel_rfl) (by rfl) ?_ ?_ ?_
      rotate_left 2
      · intro w'
        go_simp
        refine ⟨?_, ?_⟩ <;> rfl
      · intro g f w' hx hD hk
        exact (pApparent_ok (m.to x.1.1 x.1.2 x.2.1 x.2.2) t day X Y HA.out HE.out w' ((hD.has (hk.2.1 9 (by kernel_rfl)) 1 x (hx 1 _ (by rfl)) (by decide)).1 rfl) hts).mono fun e w'' ⟨he, hw⟩ => ⟨he, hD.call PfT.stb (by decide) hw⟩
      simp only [Act.put, List.setIfInBounds_toArray, List.set_cons_zero, List.set_cons_succ]
      first
      | (refine Fx.WM.skip 5 (by rfl) (by kernel_rfl) (by kernel_rfl) (by kernel_rfl) (by rfl) (fun g f w h => h.same (by decide)) ?_; simp only [Act.put, List.setIfInBounds_toArray, List.set_cons_zero, List.set_cons_succ])
      | (refine Fx.WM.val_ 5 ?_ (by rfl) (by kernel_rfl) (by kernel_rfl) (by kernel_rfl) (by rfl) ?_ (fun g f w h => h.same (by decide)) ?_
         rotate_left
         · intro g f w' hx hD hk
           obtain hkp := id hD
           clear hx hk hD hkp
           go_simp
           try rfl
         simp only [Act.put, List.setIfInBounds_toArray, List.set_cons_zero, List.set_cons_succ])
      first
      | (refine Fx.WM.skip 6 (by rfl) (by kernel_rfl) (by kernel_rfl) (by kernel_rfl) (by rfl) (fun g f w h => h.same (by decide)) ?_; simp only [Act.put, List.setIfInBounds_toArray, List.set_cons_zero, List.set_cons_succ])
      | (refine Fx.WM.val_ 6 ?_ (by rfl) (by kernel_rfl) (by kernel_rfl) (by kernel_rfl) (by rfl) ?_ (fun g f w h => h.same (by decide)) ?_
         rotate_left
         · intro g f w' hx hD hk
           obtain hkp := id hD
           clear hx hk hD hkp
           go_simp
           try rfl
         simp only [Act.put, List.setIfInBounds_toArray, List.set_cons_zero, List.set_cons_succ])
      first
      | (refine Fx.WM.skip 7 (by rfl) (by kernel_rfl) (by kernel_rfl) (by kernel_rfl) (by rfl) (fun g f w h => h.same (by decide)) ?_; simp only [Act.put, List.setIfInBounds_toArray, List.set_cons_zero, List.set_cons_succ])
      | (refine Fx.WM.val_ 7 ?_ (by rfl) (by kernel_rfl) (by kernel_rfl) (by kernel_rfl) (by rfl) ?_ (fun g f w h => h.same (by decide)) ?_
         rotate_left
         · intro g f w' hx hD hk
           obtain hkp := id hD
           clear hx hk hD hkp
           go_simp
           try rfl
         simp only [Act.put, List.setIfInBounds_toArray, List.set_cons_zero, List.set_cons_succ])
      refine Fx.WM.eff 9 undef (by rfl) (by kernel_rfl) (by kernel_rfl) (by kernel_rfl) (by rfl) ?_ ?_
      · intro g f w' hx hD hk
        obtain ⟨bx, e0, e1, r0, r1, r2, r3, r4, r5⟩ := KpS.cells hD (hx 8 _ (by rfl))
        refine Fx.gives_skip (w' := ((w'.setCell ⟨bx, 0, none⟩ (.int .i64 (X))).setCell ⟨bx, 1, none⟩ (.int .i64 (Y)))) ?_ ?_
        · clear hx hk hD
          go_simp
          try rfl
        · exact KpS.store hD (hx 8 _ (by rfl)) r0
      simp only [Act.put, List.setIfInBounds_toArray, List.set_cons_zero, List.set_cons_succ]
      first
      | (refine Fx.WM.skip 10 (by rfl) (by kernel_rfl) (by kernel_rfl) (by kernel_rfl) (by rfl) (fun g f w h => h.same (by decide)) ?_; simp only [Act.put, List.setIfInBounds_toArray, List.set_cons_zero, List.set_cons_succ])
      | (refine Fx.WM.val_ 10 ?_ (by rfl) (by kernel_rfl) (by kernel_rfl) (by kernel_rfl) (by rfl) ?_ (fun g f w h => h.same (by decide)) ?_
         rotate_left
         · intro g f w' hx hD hk
           obtain hkp := id hD
           clear hx hk hD hkp
           go_simp
           try rfl
         simp only [Act.put, List.setIfInBounds_toArray, List.set_cons_zero, List.set_cons_succ])
      refine Fx.WM.nil (by kernel_rfl) ?_
      intro wz hkp
      obtain ⟨bx, h1, h2, h3⟩ := KpS.end_ hkp (x := z) (by rfl) (by rfl)
      exact key x z wz ⟨bx, h1, h2, hkp.bel, h3⟩
  rintro x ⟨⟨z1, z2⟩, z3⟩ w3 ⟨bx, hz, hbx, hb, hblk⟩
  simp only at hz
  subst hz
  have HB3 := Lib.hid (show Below w.heap.size w w3 from step_below hb (by repeat' (first | exact Below.refl _ _ | exact HB2.out | refine below_drewN ?_ _ | refine Below.drew ?_ | refine Below.alloc ?_ (by first | omega | (simp; done) | (simp; omega) | (simp [World.setCell]; omega)) _ | refine Below.setCell ?_ (by first | omega | (simp; done) | (simp; omega)) _ | assumption)))
  have K0_3 := Lib.hid (step_blk hb (show Blk _ (w.heap.size) 42 #[.int .i64 (m.ls), .int .i64 (m.ms), .int .i64 (m.lo), .int .i64 (m.hi), .int .i64 (m.sp), .slice m.A1 m.n1 m.c1, .slice m.A2 m.n2 m.c2] by repeat' (first | exact K0_2.out | exact K1_2.out | exact Blk.at_ _ (by first | rfl | (simp; done) | (simp; omega)) _ _ | refine Blk.drewN ?_ _ | refine Blk.drew ?_ | refine Blk.alloc ?_ _ | refine Blk.far ?_ (by first | omega | (simp; done) | (simp; omega)) _ | assumption)))
  have K1_3 := Lib.hid (step_blk hb (show Blk _ (w.heap.size + 1) 44 #[.string t.name, .int .i64 (t.az), .int .i64 (t.ht), .int .i64 (t.fr), .int .i64 (t.to), .int .i64 (t.dw)] by repeat' (first | exact K0_2.out | exact K1_2.out | exact Blk.at_ _ (by first | rfl | (simp; done) | (simp; omega)) _ _ | refine Blk.drewN ?_ _ | refine Blk.drew ?_ | refine Blk.alloc ?_ _ | refine Blk.far ?_ (by first | omega | (simp; done) | (simp; omega)) _ | assumption)))
  have hL3 := Lib.hid (show Below w2.heap.size w2 _ from reads_mid hb (by repeat' (first | exact Below.refl _ _ | refine below_drewN ?_ _ | refine Below.drew ?_ | refine Below.alloc ?_ (by first | omega | (simp; done) | (simp; omega) | (simp [World.setCell]; omega)) _ | refine Below.setCell ?_ (by first | omega | (simp; done) | (simp; omega)) _)))
  have R0_3 := Lib.hid (mnt_lay hb hL3.out R0_2.out)
  clear hL3 R0_2
  have hz3 := hb.size
  try simp only [World.size_alloc, World.drewN, World.drew] at hz3
  clear hb K0_2 K1_2 z0_0_2 z0_1_2 z0_2_2 z0_3_2 z0_4_2 z0_5_2 z0_6_2 l0_2 z1_0_2 z1_1_2 z1_2_2 z1_3_2 z1_4_2 z1_5_2 l1_2
  have l0_3 : w.heap.size < w3.heap.size := K0_3.out.lt
  have z0_0_3 : w3.cell? ⟨w.heap.size, 0, none⟩ = some (.int .i64 (m.ls)) := K0_3.out.cell 0
  have z0_1_3 : w3.cell? ⟨w.heap.size, 1, none⟩ = some (.int .i64 (m.ms)) := K0_3.out.cell 1
  have z0_2_3 : w3.cell? ⟨w.heap.size, 2, none⟩ = some (.int .i64 (m.lo)) := K0_3.out.cell 2
  have z0_3_3 : w3.cell? ⟨w.heap.size, 3, none⟩ = some (.int .i64 (m.hi)) := K0_3.out.cell 3
  have z0_4_3 : w3.cell? ⟨w.heap.size, 4, none⟩ = some (.int .i64 (m.sp)) := K0_3.out.cell 4
  have z0_5_3 : w3.cell? ⟨w.heap.size, 5, none⟩ = some (.slice m.A1 m.n1 m.c1) := K0_3.out.cell 5
  have z0_6_3 : w3.cell? ⟨w.heap.size, 6, none⟩ = some (.slice m.A2 m.n2 m.c2) := K0_3.out.cell 6
  have l1_3 : w.heap.size + 1 < w3.heap.size := K1_3.out.lt
  have z1_0_3 : w3.cell? ⟨w.heap.size + 1, 0, none⟩ = some (.string t.name) := K1_3.out.cell 0
  have z1_1_3 : w3.cell? ⟨w.heap.size + 1, 1, none⟩ = some (.int .i64 (t.az)) := K1_3.out.cell 1
  have z1_2_3 : w3.cell? ⟨w.heap.size + 1, 2, none⟩ = some (.int .i64 (t.ht)) := K1_3.out.cell 2
  have z1_3_3 : w3.cell? ⟨w.heap.size + 1, 3, none⟩ = some (.int .i64 (t.fr)) := K1_3.out.cell 3
  have z1_4_3 : w3.cell? ⟨w.heap.size + 1, 4, none⟩ = some (.int .i64 (t.to)) := K1_3.out.cell 4
  have z1_5_3 : w3.cell? ⟨w.heap.size + 1, 5, none⟩ = some (.int .i64 (t.dw)) := K1_3.out.cell 5
  have K2_3 := Lib.hid (show Blk w3 (bx) 46 #[.int .i64 (X), .int .i64 (Y)] from hblk)
  clear hblk
  have l2_3 : bx < w3.heap.size := K2_3.out.lt
  have z2_0_3 : w3.cell? ⟨bx, 0, none⟩ = some (.int .i64 (X)) := K2_3.out.cell 0
  have z2_1_3 : w3.cell? ⟨bx, 1, none⟩ = some (.int .i64 (Y)) := K2_3.out.cell 1
  go_wp2
  refine Fx.regionM (fun W g f w' => Kp (PfQ m q L 1 4) W g w') (fun i (x : Pick2) => if i = 4 then .tuple #[.slice x.1.1 q x.1.2, .int .i64 F] else valT m 0 0 1 99 i x) (by kernel_rfl) ?_ ?_
  · intro f hf0
    exact Kp.start
  first
  | (refine Fx.WM.skip 0 (by rfl) (by kernel_rfl) (by kernel_rfl) (by kernel_rfl) (by rfl) (fun g f w h => h) ?_; simp only [Act.put, List.setIfInBounds_toArray, List.set_cons_zero, List.set_cons_succ])
  | (refine Fx.WM.val_ 0 ?_ (by rfl) (by kernel_rfl) (by kernel_rfl) (by kernel_rfl) (by rfl) ?_ (fun g f w h => h) ?_
     rotate_left
     · intro g f w' hx hD hk
       obtain hkp := id hD
       have y0_0 := (K0_3.out.below hkp.bel l0_3).cell 0
       have y0_1 := (K0_3.out.below hkp.bel l0_3).cell 1
       have y0_2 := (K0_3.out.below hkp.bel l0_3).cell 2
       have y0_3 := (K0_3.out.below hkp.bel l0_3).cell 3
       have y0_4 := (K0_3.out.below hkp.bel l0_3).cell 4
       have y0_5 := (K0_3.out.below hkp.bel l0_3).cell 5
       have y0_6 := (K0_3.out.below hkp.bel l0_3).cell 6
       clear hx hk hD hkp
       go_simp
       try rfl
     simp only [Act.put, List.setIfInBounds_toArray, List.set_cons_zero, List.set_cons_succ])
  first
  | (refine Fx.WM.skip 2 (by rfl) (by kernel_rfl) (by kernel_rfl) (by kernel_rfl) (by rfl) (fun g f w h => h) ?_; simp only [Act.put, List.setIfInBounds_toArray, List.set_cons_zero, List.set_cons_succ])
  | (refine Fx.WM.val_ 2 ?_ (by rfl) (by kernel_rfl) (by kernel_rfl) (by kernel_rfl) (by rfl) ?_ (fun g f w h => h) ?_
     rotate_left
     · intro g f w' hx hD hk
       obtain hkp := id hD
       have y1_0 := (K1_3.out.below hkp.bel l1_3).cell 0
       have y1_1 := (K1_3.out.below hkp.bel l1_3).cell 1
       have y1_2 := (K1_3.out.below hkp.bel l1_3).cell 2
       have y1_3 := (K1_3.out.below hkp.bel l1_3).cell 3
       have y1_4 := (K1_3.out.below hkp.bel l1_3).cell 4
       have y1_5 := (K1_3.out.below hkp.bel l1_3).cell 5
       clear hx hk hD hkp
       go_simp
       try rfl
     simp only [Act.put, List.setIfInBounds_toArray, List.set_cons_zero, List.set_cons_succ])
  first
  | (refine Fx.WM.skip 3 (by rfl) (by kernel_rfl) (by kernel_rfl) (by kernel_rfl) (by rfl) (fun g f w h => h) ?_; simp only [Act.put, List.setIfInBounds_toArray, List.set_cons_zero, List.set_cons_succ])
  | (refine Fx.WM.val_ 3 ?_ (by rfl) (by kernel_rfl) (by kernel_rfl) (by kernel_rfl) (by rfl) ?_ (fun g f w h => h) ?_
     rotate_left
     · intro g f w' hx hD hk
       obtain hkp := id hD
       clear hx hk hD hkp
       go_simp
       try rfl
     simp only [Act.put, List.setIfInBounds_toArray, List.set_cons_zero, List.set_cons_succ])
  refine Fx.WM.choose 1 (by rfl) (by kernel_rfl) (by rfl) ?_ ?_
  · skip
    refine Fx.Chooses.call ?_ ?_ (by rfl) ?_ ?_
    rotate_left 2
    · intro w'
      go_simp
      refine ⟨?_, ?_⟩ <;> rfl
    · intro f w' hD hk
      exact (mount_any m w' (R0_3.out.lay hD.bel) (by omega) (by omega)).mono fun e w'' ⟨A', c', B', d', he, hb, hm⟩ => ⟨((A', c'), (B', d')), he, hD.choose PfQ.stb hb 1 _ ⟨fun _ => hm, fun e => absurd e (by decide)⟩⟩
  intro x
  simp only [Act.put, List.setIfInBounds_toArray, List.set_cons_zero, List.set_cons_succ]
  refine Fx.WM.choose 4 (by rfl) (by kernel_rfl) (by rfl) ?_ ?_
  · skip
    refine Fx.Chooses.call ?_ ?_ (by rfl) ?_ ?_
    rotate_left 2
    · intro w'
      go_simp
      refine ⟨?_, ?_⟩ <;> rfl
    · intro f w' hD hk
      exact (pTurns_ok (m.to x.1.1 x.1.2 x.2.1 x.2.2) t day X Y L F q HA.out HT.out HQ.out HE.out w' ((hD.has 1 x (by rfl)).1 rfl) hts).mono fun e w'' ⟨A', c', he, hb, hr⟩ => ⟨((A', c'), (none, 0)), he, hD.choose PfQ.stb hb 4 _ ⟨fun e => absurd e (by decide), fun _ => hr⟩⟩
  intro y
  simp only [Act.put, List.setIfInBounds_toArray, List.set_cons_zero, List.set_cons_succ]
  first
  | (refine Fx.WM.skip 5 (by rfl) (by kernel_rfl) (by kernel_rfl) (by kernel_rfl) (by rfl) (fun g f w h => h) ?_; simp only [Act.put, List.setIfInBounds_toArray, List.set_cons_zero, List.set_cons_succ])
  | (refine Fx.WM.val_ 5 ?_ (by rfl) (by kernel_rfl) (by kernel_rfl) (by kernel_rfl) (by rfl) ?_ (fun g f w h => h) ?_
     rotate_left
     · intro g f w' hx hD hk
       obtain hkp := id hD
       clear hx hk hD hkp
       go_simp
       try rfl
     simp only [Act.put, List.setIfInBounds_toArray, List.set_cons_zero, List.set_cons_succ])
  first
  | (refine Fx.WM.skip 6 (by rfl) (by kernel_rfl) (by kernel_rfl) (by kernel_rfl) (by rfl) (fun g f w h => h) ?_; simp only [Act.put, List.setIfInBounds_toArray, List.set_cons_zero, List.set_cons_succ])
  | (refine Fx.WM.val_ 6 ?_ (by rfl) (by kernel_rfl) (by kernel_rfl) (by kernel_rfl) (by rfl) ?_ (fun g f w h => h) ?_
     rotate_left
     · intro g f w' hx hD hk
       obtain hkp := id hD
       clear hx hk hD hkp
       go_simp
       try rfl
     simp only [Act.put, List.setIfInBounds_toArray, List.set_cons_zero, List.set_cons_succ])
  first
  | (refine Fx.WM.skip 7 (by rfl) (by kernel_rfl) (by kernel_rfl) (by kernel_rfl) (by rfl) (fun g f w h => h) ?_; simp only [Act.put, List.setIfInBounds_toArray, List.set_cons_zero, List.set_cons_succ])
  | (refine Fx.WM.val_ 7 ?_ (by rfl) (by kernel_rfl) (by kernel_rfl) (by kernel_rfl) (by rfl) ?_ (fun g f w h => h) ?_
     rotate_left
     · intro g f w' hx hD hk
       obtain hkp := id hD
       clear hx hk hD hkp
       go_simp
       try rfl
     simp only [Act.put, List.setIfInBounds_toArray, List.set_cons_zero, List.set_cons_succ])
  first
  | (refine Fx.WM.skip 8 (by rfl) (by kernel_rfl) (by kernel_rfl) (by kernel_rfl) (by rfl) (fun g f w h => h) ?_; simp only [Act.put, List.setIfInBounds_toArray, List.set_cons_zero, List.set_cons_succ])
  | (refine Fx.WM.val_ 8 ?_ (by rfl) (by kernel_rfl) (by kernel_rfl) (by kernel_rfl) (by rfl) ?_ (fun g f w h => h) ?_
     rotate_left
     · intro g f w' hx hD hk
       obtain hkp := id hD
       clear hx hk hD hkp
       go_simp
       try rfl
     simp only [Act.put, List.setIfInBounds_toArray, List.set_cons_zero, List.set_cons_succ])
  first
  | (refine Fx.WM.skip 9 (by rfl) (by kernel_rfl) (by kernel_rfl) (by kernel_rfl) (by rfl) (fun g f w h => h) ?_; simp only [Act.put, List.setIfInBounds_toArray, List.set_cons_zero, List.set_cons_succ])
  | (refine Fx.WM.val_ 9 ?_ (by rfl) (by kernel_rfl) (by kernel_rfl) (by kernel_rfl) (by rfl) ?_ (fun g f w h => h) ?_
     rotate_left
     · intro g f w' hx hD hk
       obtain hkp := id hD
       clear hx hk hD hkp
       go_simp
       try rfl
     simp only [Act.put, List.setIfInBounds_toArray, List.set_cons_zero, List.set_cons_succ])
  refine Fx.WM.nil (by kernel_rfl) ?_
  intro wz hkp
  obtain ⟨⟨yA, yc⟩, y2⟩ := y
  have hb := hkp.bel
  have hr := (hkp.has 4 _ (by rfl)).2 rfl
  clear hkp
  simp only at hr
  obtain ⟨w4, hnm⟩ : ∃ z : World, z = wz := ⟨_, rfl⟩
  subst hnm
  have HB4 := Lib.hid (show Below w.heap.size w w4 from step_below hb (by repeat' (first | exact Below.refl _ _ | exact HB3.out | refine below_drewN ?_ _ | refine Below.drew ?_ | refine Below.alloc ?_ (by first | omega | (simp; done) | (simp; omega) | (simp [World.setCell]; omega)) _ | refine Below.setCell ?_ (by first | omega | (simp; done) | (simp; omega)) _ | assumption)))
  have K0_4 := Lib.hid (step_blk hb (show Blk _ (w.heap.size) 42 #[.int .i64 (m.ls), .int .i64 (m.ms), .int .i64 (m.lo), .int .i64 (m.hi), .int .i64 (m.sp), .slice m.A1 m.n1 m.c1, .slice m.A2 m.n2 m.c2] by repeat' (first | exact K0_3.out | exact K1_3.out | exact K2_3.out | exact Blk.at_ _ (by first | rfl | (simp; done) | (simp; omega)) _ _ | refine Blk.drewN ?_ _ | refine Blk.drew ?_ | refine Blk.alloc ?_ _ | refine Blk.far ?_ (by first | omega | (simp; done) | (simp; omega)) _ | assumption)))
  have K1_4 := Lib.hid (step_blk hb (show Blk _ (w.heap.size + 1) 44 #[.string t.name, .int .i64 (t.az), .int .i64 (t.ht), .int .i64 (t.fr), .int .i64 (t.to), .int .i64 (t.dw)] by repeat' (first | exact K0_3.out | exact K1_3.out | exact K2_3.out | exact Blk.at_ _ (by first | rfl | (simp; done) | (simp; omega)) _ _ | refine Blk.drewN ?_ _ | refine Blk.drew ?_ | refine Blk.alloc ?_ _ | refine Blk.far ?_ (by first | omega | (simp; done) | (simp; omega)) _ | assumption)))
  have K2_4 := Lib.hid (step_blk hb (show Blk _ (bx) 46 #[.int .i64 (X), .int .i64 (Y)] by repeat' (first | exact K0_3.out | exact K1_3.out | exact K2_3.out | exact Blk.at_ _ (by first | rfl | (simp; done) | (simp; omega)) _ _ | refine Blk.drewN ?_ _ | refine Blk.drew ?_ | refine Blk.alloc ?_ _ | refine Blk.far ?_ (by first | omega | (simp; done) | (simp; omega)) _ | assumption)))
  have hL4 := Lib.hid (show Below w3.heap.size w3 _ from reads_mid hb (by repeat' (first | exact Below.refl _ _ | refine below_drewN ?_ _ | refine Below.drew ?_ | refine Below.alloc ?_ (by first | omega | (simp; done) | (simp; omega) | (simp [World.setCell]; omega)) _ | refine Below.setCell ?_ (by first | omega | (simp; done) | (simp; omega)) _)))
  have R0_4 := Lib.hid (mnt_lay hb hL4.out R0_3.out)
  clear hL4 R0_3
  have hz4 := hb.size
  try simp only [World.size_alloc, World.drewN, World.drew] at hz4
  clear hb K0_3 K1_3 K2_3 z0_0_3 z0_1_3 z0_2_3 z0_3_3 z0_4_3 z0_5_3 z0_6_3 l0_3 z1_0_3 z1_1_3 z1_2_3 z1_3_3 z1_4_3 z1_5_3 l1_3 z2_0_3 z2_1_3 l2_3
  have l0_4 : w.heap.size < w4.heap.size := K0_4.out.lt
  have z0_0_4 : w4.cell? ⟨w.heap.size, 0, none⟩ = some (.int .i64 (m.ls)) := K0_4.out.cell 0
  have z0_1_4 : w4.cell? ⟨w.heap.size, 1, none⟩ = some (.int .i64 (m.ms)) := K0_4.out.cell 1
  have z0_2_4 : w4.cell? ⟨w.heap.size, 2, none⟩ = some (.int .i64 (m.lo)) := K0_4.out.cell 2
  have z0_3_4 : w4.cell? ⟨w.heap.size, 3, none⟩ = some (.int .i64 (m.hi)) := K0_4.out.cell 3
  have z0_4_4 : w4.cell? ⟨w.heap.size, 4, none⟩ = some (.int .i64 (m.sp)) := K0_4.out.cell 4
  have z0_5_4 : w4.cell? ⟨w.heap.size, 5, none⟩ = some (.slice m.A1 m.n1 m.c1) := K0_4.out.cell 5
  have z0_6_4 : w4.cell? ⟨w.heap.size, 6, none⟩ = some (.slice m.A2 m.n2 m.c2) := K0_4.out.cell 6
  have l1_4 : w.heap.size + 1 < w4.heap.size := K1_4.out.lt
  have z1_0_4 : w4.cell? ⟨w.heap.size + 1, 0, none⟩ = some (.string t.name) := K1_4.out.cell 0
  have z1_1_4 : w4.cell? ⟨w.heap.size + 1, 1, none⟩ = some (.int .i64 (t.az)) := K1_4.out.cell 1
  have z1_2_4 : w4.cell? ⟨w.heap.size + 1, 2, none⟩ = some (.int .i64 (t.ht)) := K1_4.out.cell 2
  have z1_3_4 : w4.cell? ⟨w.heap.size + 1, 3, none⟩ = some (.int .i64 (t.fr)) := K1_4.out.cell 3
  have z1_4_4 : w4.cell? ⟨w.heap.size + 1, 4, none⟩ = some (.int .i64 (t.to)) := K1_4.out.cell 4
  have z1_5_4 : w4.cell? ⟨w.heap.size + 1, 5, none⟩ = some (.int .i64 (t.dw)) := K1_4.out.cell 5
  have l2_4 : bx < w4.heap.size := K2_4.out.lt
  have z2_0_4 : w4.cell? ⟨bx, 0, none⟩ = some (.int .i64 (X)) := K2_4.out.cell 0
  have z2_1_4 : w4.cell? ⟨bx, 1, none⟩ = some (.int .i64 (Y)) := K2_4.out.cell 1
  have R1_4 := Lib.hid hr
  clear hr
  go_wp2_with fail
  refine (rmount_is m 0 HM0.out _ R0_4.out).mono ?_
  rintro e w5 ⟨rfl, hb⟩
  have HB5 := Lib.hid (show Below w.heap.size w w5 from step_below hb (by repeat' (first | exact Below.refl _ _ | exact HB4.out | refine below_drewN ?_ _ | refine Below.drew ?_ | refine Below.alloc ?_ (by first | omega | (simp; done) | (simp; omega) | (simp [World.setCell]; omega)) _ | refine Below.setCell ?_ (by first | omega | (simp; done) | (simp; omega)) _ | assumption)))
  have K0_5 := Lib.hid (step_blk hb (show Blk _ (w.heap.size) 42 #[.int .i64 (m.ls), .int .i64 (m.ms), .int .i64 (m.lo), .int .i64 (m.hi), .int .i64 (m.sp), .slice m.A1 m.n1 m.c1, .slice m.A2 m.n2 m.c2] by repeat' (first | exact K0_4.out | exact K1_4.out | exact K2_4.out | exact Blk.at_ _ (by first | rfl | (simp; done) | (simp; omega)) _ _ | refine Blk.drewN ?_ _ | refine Blk.drew ?_ | refine Blk.alloc ?_ _ | refine Blk.far ?_ (by first | omega | (simp; done) | (simp; omega)) _ | assumption)))
  have K1_5 := Lib.hid (step_blk hb (show Blk _ (w.heap.size + 1) 44 #[.string t.name, .int .i64 (t.az), .int .i64 (t.ht), .int .i64 (t.fr), .int .i64 (t.to), .int .i64 (t.dw)] by repeat' (first | exact K0_4.out | exact K1_4.out | exact K2_4.out | exact Blk.at_ _ (by first | rfl | (simp; done) | (simp; omega)) _ _ | refine Blk.drewN ?_ _ | refine Blk.drew ?_ | refine Blk.alloc ?_ _ | refine Blk.far ?_ (by first | omega | (simp; done) | (simp; omega)) _ | assumption)))
  have K2_5 := Lib.hid (step_blk hb (show Blk _ (bx) 46 #[.int .i64 (X), .int .i64 (Y)] by repeat' (first | exact K0_4.out | exact K1_4.out | exact K2_4.out | exact Blk.at_ _ (by first | rfl | (simp; done) | (simp; omega)) _ _ | refine Blk.drewN ?_ _ | refine Blk.drew ?_ | refine Blk.alloc ?_ _ | refine Blk.far ?_ (by first | omega | (simp; done) | (simp; omega)) _ | assumption)))
  have hL5 := Lib.hid (show Below w4.heap.size w4 _ from reads_mid hb (by repeat' (first | exact Below.refl _ _ | refine below_drewN ?_ _ | refine Below.drew ?_ | refine Below.alloc ?_ (by first | omega | (simp; done) | (simp; omega) | (simp [World.setCell]; omega)) _ | refine Below.setCell ?_ (by first | omega | (simp; done) | (simp; omega)) _)))
  have R0_5 := Lib.hid (mnt_lay hb hL5.out R0_4.out)
  have R1_5 := Lib.hid (reads_lay hb hL5.out R1_4.out)
  clear hL5 R0_4 R1_4
  have hz5 := hb.size
  try simp only [World.size_alloc, World.drewN, World.drew] at hz5
  clear hb K0_4 K1_4 K2_4 z0_0_4 z0_1_4 z0_2_4 z0_3_4 z0_4_4 z0_5_4 z0_6_4 l0_4 z1_0_4 z1_1_4 z1_2_4 z1_3_4 z1_4_4 z1_5_4 l1_4 z2_0_4 z2_1_4 l2_4
  have l0_5 : w.heap.size < w5.heap.size := K0_5.out.lt
  have z0_0_5 : w5.cell? ⟨w.heap.size, 0, none⟩ = some (.int .i64 (m.ls)) := K0_5.out.cell 0
  have z0_1_5 : w5.cell? ⟨w.heap.size, 1, none⟩ = some (.int .i64 (m.ms)) := K0_5.out.cell 1
  have z0_2_5 : w5.cell? ⟨w.heap.size, 2, none⟩ = some (.int .i64 (m.lo)) := K0_5.out.cell 2
  have z0_3_5 : w5.cell? ⟨w.heap.size, 3, none⟩ = some (.int .i64 (m.hi)) := K0_5.out.cell 3
  have z0_4_5 : w5.cell? ⟨w.heap.size, 4, none⟩ = some (.int .i64 (m.sp)) := K0_5.out.cell 4
  have z0_5_5 : w5.cell? ⟨w.heap.size, 5, none⟩ = some (.slice m.A1 m.n1 m.c1) := K0_5.out.cell 5
  have z0_6_5 : w5.cell? ⟨w.heap.size, 6, none⟩ = some (.slice m.A2 m.n2 m.c2) := K0_5.out.cell 6
  have l1_5 : w.heap.size + 1 < w5.heap.size := K1_5.out.lt
  have z1_0_5 : w5.cell? ⟨w.heap.size + 1, 0, none⟩ = some (.string t.name) := K1_5.out.cell 0
  have z1_1_5 : w5.cell? ⟨w.heap.size + 1, 1, none⟩ = some (.int .i64 (t.az)) := K1_5.out.cell 1
  have z1_2_5 : w5.cell? ⟨w.heap.size + 1, 2, none⟩ = some (.int .i64 (t.ht)) := K1_5.out.cell 2
  have z1_3_5 : w5.cell? ⟨w.heap.size + 1, 3, none⟩ = some (.int .i64 (t.fr)) := K1_5.out.cell 3
  have z1_4_5 : w5.cell? ⟨w.heap.size + 1, 4, none⟩ = some (.int .i64 (t.to)) := K1_5.out.cell 4
  have z1_5_5 : w5.cell? ⟨w.heap.size + 1, 5, none⟩ = some (.int .i64 (t.dw)) := K1_5.out.cell 5
  have l2_5 : bx < w5.heap.size := K2_5.out.lt
  have z2_0_5 : w5.cell? ⟨bx, 0, none⟩ = some (.int .i64 (X)) := K2_5.out.cell 0
  have z2_1_5 : w5.cell? ⟨bx, 1, none⟩ = some (.int .i64 (Y)) := K2_5.out.cell 1
  go_wp2
  refine Fx.regionM (fun W g f w' => Kp (PfT m 0 [] 0 [] 1 99 98) W g w') (valT m 0 0 1 99) (by kernel_rfl) ?_ ?_
  · intro f hf0
    exact Kp.start
  first
  | (refine Fx.WM.skip 0 (by rfl) (by kernel_rfl) (by kernel_rfl) (by kernel_rfl) (by rfl) (fun g f w h => h) ?_; simp only [Act.put, List.setIfInBounds_toArray, List.set_cons_zero, List.set_cons_succ])
  | (refine Fx.WM.val_ 0 ?_ (by rfl) (by kernel_rfl) (by kernel_rfl) (by kernel_rfl) (by rfl) ?_ (fun g f w h => h) ?_
     rotate_left
     · intro g f w' hx hD hk
       obtain hkp := id hD
       have y0_0 := (K0_5.out.below hkp.bel l0_5).cell 0
       have y0_1 := (K0_5.out.below hkp.bel l0_5).cell 1
       have y0_2 := (K0_5.out.below hkp.bel l0_5).cell 2
       have y0_3 := (K0_5.out.below hkp.bel l0_5).cell 3
       have y0_4 := (K0_5.out.below hkp.bel l0_5).cell 4
       have y0_5 := (K0_5.out.below hkp.bel l0_5).cell 5
       have y0_6 := (K0_5.out.below hkp.bel l0_5).cell 6
       clear hx hk hD hkp
       go_simp
       try rfl
     simp only [Act.put, List.setIfInBounds_toArray, List.set_cons_zero, List.set_cons_succ])
  first
  | (refine Fx.WM.skip 3 (by rfl) (by kernel_rfl) (by kernel_rfl) (by kernel_rfl) (by rfl) (fun g f w h => h) ?_; simp only [Act.put, List.setIfInBounds_toArray, List.set_cons_zero, List.set_cons_succ])
  | (refine Fx.WM.val_ 3 ?_ (by rfl) (by kernel_rfl) (by kernel_rfl) (by kernel_rfl) (by rfl) ?_ (fun g f w h => h) ?_
     rotate_left
     · intro g f w' hx hD hk
       obtain hkp := id hD
       clear hx hk hD hkp
       go_simp
       try rfl
     simp only [Act.put, List.setIfInBounds_toArray, List.set_cons_zero, List.set_cons_succ])
  refine Fx.WM.choose 1 (by rfl) (by kernel_rfl) (by rfl) ?_ ?_
  · skip
    refine Fx.Chooses.call ?_ ?_ (by rfl) ?_ ?_
    rotate_left 2
    · intro w'
      go_simp
      refine ⟨?_, ?_⟩ <;> rfl
    · intro f w' hD hk
      exact (mount_any m w' (R0_5.out.lay hD.bel) (by omega) (by omega)).mono fun e w'' ⟨A', c', B', d', he, hb, hm⟩ => ⟨((A', c'), (B', d')), he, hD.choose PfT.stb hb 1 _ ⟨fun _ => hm, fun e => absurd e (by decide), fun e => absurd e (by decide)⟩⟩
  intro x
  simp only [Act.put, List.setIfInBounds_toArray, List.set_cons_zero, List.set_cons_succ]
  refine Fx.WM.call 2 (.int .i64 (0)) ?_ ?_ (by rfl) (by kernel_rfl) (by kernel_rfl) (by kernel_rfl) (by rfl) ?_ ?_ ?_
  rotate_left 2
  · intro w'
    go_simp
    refine ⟨?_, ?_⟩ <;> rfl
  · intro g f w' hx hD hk
    exact (pmount_is (m.to x.1.1 x.1.2 x.2.1 x.2.2) 0 HM0.out w' ((hD.has 1 x (hx 1 _ (by rfl))).1 rfl)).mono fun e w'' ⟨he, hw⟩ => ⟨he, hD.call PfT.stb hw⟩
  simp only [Act.put, List.setIfInBounds_toArray, List.set_cons_zero, List.set_cons_succ]
  first
  | (refine Fx.WM.skip 4 (by rfl) (by kernel_rfl) (by kernel_rfl) (by kernel_rfl) (by rfl) (fun g f w h => h) ?_; simp only [Act.put, List.setIfInBounds_toArray, List.set_cons_zero, List.set_cons_succ])
  | (refine Fx.WM.val_ 4 ?_ (by rfl) (by kernel_rfl) (by kernel_rfl) (by kernel_rfl) (by rfl) ?_ (fun g f w h => h) ?_
     rotate_left
     · intro g f w' hx hD hk
       obtain hkp := id hD
       clear hx hk hD hkp
       go_simp
       try rfl
     simp only [Act.put, List.setIfInBounds_toArray, List.set_cons_zero, List.set_cons_succ])
  first
  | (refine Fx.WM.skip 5 (by rfl) (by kernel_rfl) (by kernel_rfl) (by kernel_rfl) (by rfl) (fun g f w h => h) ?_; simp only [Act.put, List.setIfInBounds_toArray, List.set_cons_zero, List.set_cons_succ])
  | (refine Fx.WM.val_ 5 ?_ (by rfl) (by kernel_rfl) (by kernel_rfl) (by kernel_rfl) (by rfl) ?_ (fun g f w h => h) ?_
     rotate_left
     · intro g f w' hx hD hk
       obtain hkp := id hD
       clear hx hk hD hkp
       go_simp
       try rfl
     simp only [Act.put, List.setIfInBounds_toArray, List.set_cons_zero, List.set_cons_succ])
  first
  | (refine Fx.WM.skip 6 (by rfl) (by kernel_rfl) (by kernel_rfl) (by kernel_rfl) (by rfl) (fun g f w h => h) ?_; simp only [Act.put, List.setIfInBounds_toArray, List.set_cons_zero, List.set_cons_succ])
  | (refine Fx.WM.val_ 6 ?_ (by rfl) (by kernel_rfl) (by kernel_rfl) (by kernel_rfl) (by rfl) ?_ (fun g f w h => h) ?_
     rotate_left
     · intro g f w' hx hD hk
       obtain hkp := id hD
       have y1_0 := (K1_5.out.below hkp.bel l1_5).cell 0
       have y1_1 := (K1_5.out.below hkp.bel l1_5).cell 1
       have y1_2 := (K1_5.out.below hkp.bel l1_5).cell 2
       have y1_3 := (K1_5.out.below hkp.bel l1_5).cell 3
       have y1_4 := (K1_5.out.below hkp.bel l1_5).cell 4
       have y1_5 := (K1_5.out.below hkp.bel l1_5).cell 5
       clear hx hk hD hkp
       go_simp
       try rfl
     simp only [Act.put, List.setIfInBounds_toArray, List.set_cons_zero, List.set_cons_succ])
  refine Fx.WM.call 7 (.int .i64 (0)) ?_ ?_ (by rfl) (by kernel_rfl) (by kernel_rfl) (by kernel_rfl) (by rfl) ?_ ?_ ?_
  rotate_left 2
  · intro w'
    go_simp
    refine ⟨?_, ?_⟩ <;> rfl
  · intro g f w' hx hD hk
    exact (ptarget_is t 0 HT0.out w' hts).mono fun e w'' ⟨he, hw⟩ => ⟨he, hD.call PfT.stb hw⟩
  simp only [Act.put, List.setIfInBounds_toArray, List.set_cons_zero, List.set_cons_succ]
  first
  | (refine Fx.WM.skip 8 (by rfl) (by kernel_rfl) (by kernel_rfl) (by kernel_rfl) (by rfl) (fun g f w h => h) ?_; simp only [Act.put, List.setIfInBounds_toArray, List.set_cons_zero, List.set_cons_succ])
  | (refine Fx.WM.val_ 8 ?_ (by rfl) (by kernel_rfl) (by kernel_rfl) (by kernel_rfl) (by rfl) ?_ (fun g f w h => h) ?_
     rotate_left
     · intro g f w' hx hD hk
       obtain hkp := id hD
       have y1_0 := (K1_5.out.below hkp.bel l1_5).cell 0
       have y1_1 := (K1_5.out.below hkp.bel l1_5).cell 1
       have y1_2 := (K1_5.out.below hkp.bel l1_5).cell 2
       have y1_3 := (K1_5.out.below hkp.bel l1_5).cell 3
       have y1_4 := (K1_5.out.below hkp.bel l1_5).cell 4
       have y1_5 := (K1_5.out.below hkp.bel l1_5).cell 5
       clear hx hk hD hkp
       go_simp
       try rfl
     simp only [Act.put, List.setIfInBounds_toArray, List.set_cons_zero, List.set_cons_succ])
  refine Fx.WM.call 9 (.int .i64 (0)) ?_ ?_ (by rfl) (by kernel_rfl) (by kernel_rfl) (by kernel_rfl) (by rfl) ?_ ?_ ?_
  rotate_left 2
  · intro w'
    go_simp
    refine ⟨?_, ?_⟩ <;> rfl
  · intro g f w' hx hD hk
    exact (rtarget_is t 0 HT0.out w' hts).mono fun e w'' ⟨he, hw⟩ => ⟨he, hD.call PfT.stb hw⟩
  simp only [Act.put, List.setIfInBounds_toArray, List.set_cons_zero, List.set_cons_succ]
  first
  | (refine Fx.WM.skip 10 (by rfl) (by kernel_rfl) (by kernel_rfl) (by kernel_rfl) (by rfl) (fun g f w h => h) ?_; simp only [Act.put, List.setIfInBounds_toArray, List.set_cons_zero, List.set_cons_succ])
  | (refine Fx.WM.val_ 10 ?_ (by rfl) (by kernel_rfl) (by kernel_rfl) (by kernel_rfl) (by rfl) ?_ (fun g f w h => h) ?_
     rotate_left
     · intro g f w' hx hD hk
       obtain hkp := id hD
       clear hx hk hD hkp
       go_simp
       try rfl
     simp only [Act.put, List.setIfInBounds_toArray, List.set_cons_zero, List.set_cons_succ])
  first
  | (refine Fx.WM.skip 11 (by rfl) (by kernel_rfl) (by kernel_rfl) (by kernel_rfl) (by rfl) (fun g f w h => h) ?_; simp only [Act.put, List.setIfInBounds_toArray, List.set_cons_zero, List.set_cons_succ])
  | (refine Fx.WM.val_ 11 ?_ (by rfl) (by kernel_rfl) (by kernel_rfl) (by kernel_rfl) (by rfl) ?_ (fun g f w h => h) ?_
     rotate_left
     · intro g f w' hx hD hk
       obtain hkp := id hD
       clear hx hk hD hkp
       go_simp
       try rfl
     simp only [Act.put, List.setIfInBounds_toArray, List.set_cons_zero, List.set_cons_succ])
  refine Fx.WM.nil (by kernel_rfl) ?_
  intro wz hkp
  have hb := hkp.bel
  clear hkp
  obtain ⟨w6, hnm⟩ : ∃ z : World, z = wz := ⟨_, rfl⟩
  subst hnm
  have HB6 := Lib.hid (show Below w.heap.size w w6 from step_below hb (by repeat' (first | exact Below.refl _ _ | exact HB5.out | refine below_drewN ?_ _ | refine Below.drew ?_ | refine Below.alloc ?_ (by first | omega | (simp; done) | (simp; omega) | (simp [World.setCell]; omega)) _ | refine Below.setCell ?_ (by first | omega | (simp; done) | (simp; omega)) _ | assumption)))
  have K0_6 := Lib.hid (step_blk hb (show Blk _ (w.heap.size) 42 #[.int .i64 (m.ls), .int .i64 (m.ms), .int .i64 (m.lo), .int .i64 (m.hi), .int .i64 (m.sp), .slice m.A1 m.n1 m.c1, .slice m.A2 m.n2 m.c2] by repeat' (first | exact K0_5.out | exact K1_5.out | exact K2_5.out | exact Blk.at_ _ (by first | rfl | (simp; done) | (simp; omega)) _ _ | refine Blk.drewN ?_ _ | refine Blk.drew ?_ | refine Blk.alloc ?_ _ | refine Blk.far ?_ (by first | omega | (simp; done) | (simp; omega)) _ | assumption)))
  have K1_6 := Lib.hid (step_blk hb (show Blk _ (w.heap.size + 1) 44 #[.string t.name, .int .i64 (t.az), .int .i64 (t.ht), .int .i64 (t.fr), .int .i64 (t.to), .int .i64 (t.dw)] by repeat' (first | exact K0_5.out | exact K1_5.out | exact K2_5.out | exact Blk.at_ _ (by first | rfl | (simp; done) | (simp; omega)) _ _ | refine Blk.drewN ?_ _ | refine Blk.drew ?_ | refine Blk.alloc ?_ _ | refine Blk.far ?_ (by first | omega | (simp; done) | (simp; omega)) _ | assumption)))
  have K2_6 := Lib.hid (step_blk hb (show Blk _ (bx) 46 #[.int .i64 (X), .int .i64 (Y)] by repeat' (first | exact K0_5.out | exact K1_5.out | exact K2_5.out | exact Blk.at_ _ (by first | rfl | (simp; done) | (simp; omega)) _ _ | refine Blk.drewN ?_ _ | refine Blk.drew ?_ | refine Blk.alloc ?_ _ | refine Blk.far ?_ (by first | omega | (simp; done) | (simp; omega)) _ | assumption)))
  have hL6 := Lib.hid (show Below w5.heap.size w5 _ from reads_mid hb (by repeat' (first | exact Below.refl _ _ | refine below_drewN ?_ _ | refine Below.drew ?_ | refine Below.alloc ?_ (by first | omega | (simp; done) | (simp; omega) | (simp [World.setCell]; omega)) _ | refine Below.setCell ?_ (by first | omega | (simp; done) | (simp; omega)) _)))
  have R0_6 := Lib.hid (mnt_lay hb hL6.out R0_5.out)
  have R1_6 := Lib.hid (reads_lay hb hL6.out R1_5.out)
  clear hL6 R0_5 R1_5
  have hz6 := hb.size
  try simp only [World.size_alloc, World.drewN, World.drew] at hz6
  clear hb K0_5 K1_5 K2_5 z0_0_5 z0_1_5 z0_2_5 z0_3_5 z0_4_5 z0_5_5 z0_6_5 l0_5 z1_0_5 z1_1_5 z1_2_5 z1_3_5 z1_4_5 z1_5_5 l1_5 z2_0_5 z2_1_5 l2_5
  have l0_6 : w.heap.size < w6.heap.size := K0_6.out.lt
  have z0_0_6 : w6.cell? ⟨w.heap.size, 0, none⟩ = some (.int .i64 (m.ls)) := K0_6.out.cell 0
  have z0_1_6 : w6.cell? ⟨w.heap.size, 1, none⟩ = some (.int .i64 (m.ms)) := K0_6.out.cell 1
  have z0_2_6 : w6.cell? ⟨w.heap.size, 2, none⟩ = some (.int .i64 (m.lo)) := K0_6.out.cell 2
  have z0_3_6 : w6.cell? ⟨w.heap.size, 3, none⟩ = some (.int .i64 (m.hi)) := K0_6.out.cell 3
  have z0_4_6 : w6.cell? ⟨w.heap.size, 4, none⟩ = some (.int .i64 (m.sp)) := K0_6.out.cell 4
  have z0_5_6 : w6.cell? ⟨w.heap.size, 5, none⟩ = some (.slice m.A1 m.n1 m.c1) := K0_6.out.cell 5
  have z0_6_6 : w6.cell? ⟨w.heap.size, 6, none⟩ = some (.slice m.A2 m.n2 m.c2) := K0_6.out.cell 6
  have l1_6 : w.heap.size + 1 < w6.heap.size := K1_6.out.lt
  have z1_0_6 : w6.cell? ⟨w.heap.size + 1, 0, none⟩ = some (.string t.name) := K1_6.out.cell 0
  have z1_1_6 : w6.cell? ⟨w.heap.size + 1, 1, none⟩ = some (.int .i64 (t.az)) := K1_6.out.cell 1
  have z1_2_6 : w6.cell? ⟨w.heap.size + 1, 2, none⟩ = some (.int .i64 (t.ht)) := K1_6.out.cell 2
  have z1_3_6 : w6.cell? ⟨w.heap.size + 1, 3, none⟩ = some (.int .i64 (t.fr)) := K1_6.out.cell 3
  have z1_4_6 : w6.cell? ⟨w.heap.size + 1, 4, none⟩ = some (.int .i64 (t.to)) := K1_6.out.cell 4
  have z1_5_6 : w6.cell? ⟨w.heap.size + 1, 5, none⟩ = some (.int .i64 (t.dw)) := K1_6.out.cell 5
  have l2_6 : bx < w6.heap.size := K2_6.out.lt
  have z2_0_6 : w6.cell? ⟨bx, 0, none⟩ = some (.int .i64 (X)) := K2_6.out.cell 0
  have z2_1_6 : w6.cell? ⟨bx, 1, none⟩ = some (.int .i64 (Y)) := K2_6.out.cell 1
  go_wp2_with fail
  refine (rtarget_is t 0 HT0.out _ hts).mono ?_
  rintro e w7 ⟨rfl, hb⟩
  have HB7 := Lib.hid (show Below w.heap.size w w7 from step_below hb (by repeat' (first | exact Below.refl _ _ | exact HB6.out | refine below_drewN ?_ _ | refine Below.drew ?_ | refine Below.alloc ?_ (by first | omega | (simp; done) | (simp; omega) | (simp [World.setCell]; omega)) _ | refine Below.setCell ?_ (by first | omega | (simp; done) | (simp; omega)) _ | assumption)))
  have K0_7 := Lib.hid (step_blk hb (show Blk _ (w.heap.size) 42 #[.int .i64 (m.ls), .int .i64 (m.ms), .int .i64 (m.lo), .int .i64 (m.hi), .int .i64 (m.sp), .slice m.A1 m.n1 m.c1, .slice m.A2 m.n2 m.c2] by repeat' (first | exact K0_6.out | exact K1_6.out | exact K2_6.out | exact Blk.at_ _ (by first | rfl | (simp; done) | (simp; omega)) _ _ | refine Blk.drewN ?_ _ | refine Blk.drew ?_ | refine Blk.alloc ?_ _ | refine Blk.far ?_ (by first | omega | (simp; done) | (simp; omega)) _ | assumption)))
  have K1_7 := Lib.hid (step_blk hb (show Blk _ (w.heap.size + 1) 44 #[.string t.name, .int .i64 (t.az), .int .i64 (t.ht), .int .i64 (t.fr), .int .i64 (t.to), .int .i64 (t.dw)] by repeat' (first | exact K0_6.out | exact K1_6.out | exact K2_6.out | exact Blk.at_ _ (by first | rfl | (simp; done) | (simp; omega)) _ _ | refine Blk.drewN ?_ _ | refine Blk.drew ?_ | refine Blk.alloc ?_ _ | refine Blk.far ?_ (by first | omega | (simp; done) | (simp; omega)) _ | assumption)))
  have K2_7 := Lib.hid (step_blk hb (show Blk _ (bx) 46 #[.int .i64 (X), .int .i64 (Y)] by repeat' (first | exact K0_6.out | exact K1_6.out | exact K2_6.out | exact Blk.at_ _ (by first | rfl | (simp; done) | (simp; omega)) _ _ | refine Blk.drewN ?_ _ | refine Blk.drew ?_ | refine Blk.alloc ?_ _ | refine Blk.far ?_ (by first | omega | (simp; done) | (simp; omega)) _ | assumption)))
  have hL7 := Lib.hid (show Below w6.heap.size w6 _ from reads_mid hb (by repeat' (first | exact Below.refl _ _ | refine below_drewN ?_ _ | refine Below.drew ?_ | refine Below.alloc ?_ (by first | omega | (simp; done) | (simp; omega) | (simp [World.setCell]; omega)) _ | refine Below.setCell ?_ (by first | omega | (simp; done) | (simp; omega)) _)))
  have R0_7 := Lib.hid (mnt_lay hb hL7.out R0_6.out)
  have R1_7 := Lib.hid (reads_lay hb hL7.out R1_6.out)
  clear hL7 R0_6 R1_6
  have hz7 := hb.size
  try simp only [World.size_alloc, World.drewN, World.drew] at hz7
  clear hb K0_6 K1_6 K2_6 z0_0_6 z0_1_6 z0_2_6 z0_3_6 z0_4_6 z0_5_6 z0_6_6 l0_6 z1_0_6 z1_1_6 z1_2_6 z1_3_6 z1_4_6 z1_5_6 l1_6 z2_0_6 z2_1_6 l2_6
  have l0_7 : w.heap.size < w7.heap.size := K0_7.out.lt
  have z0_0_7 : w7.cell? ⟨w.heap.size, 0, none⟩ = some (.int .i64 (m.ls)) := K0_7.out.cell 0
  have z0_1_7 : w7.cell? ⟨w.heap.size, 1, none⟩ = some (.int .i64 (m.ms)) := K0_7.out.cell 1
  have z0_2_7 : w7.cell? ⟨w.heap.size, 2, none⟩ = some (.int .i64 (m.lo)) := K0_7.out.cell 2
  have z0_3_7 : w7.cell? ⟨w.heap.size, 3, none⟩ = some (.int .i64 (m.hi)) := K0_7.out.cell 3
  have z0_4_7 : w7.cell? ⟨w.heap.size, 4, none⟩ = some (.int .i64 (m.sp)) := K0_7.out.cell 4
  have z0_5_7 : w7.cell? ⟨w.heap.size, 5, none⟩ = some (.slice m.A1 m.n1 m.c1) := K0_7.out.cell 5
  have z0_6_7 : w7.cell? ⟨w.heap.size, 6, none⟩ = some (.slice m.A2 m.n2 m.c2) := K0_7.out.cell 6
  have l1_7 : w.heap.size + 1 < w7.heap.size := K1_7.out.lt
  have z1_0_7 : w7.cell? ⟨w.heap.size + 1, 0, none⟩ = some (.string t.name) := K1_7.out.cell 0
  have z1_1_7 : w7.cell? ⟨w.heap.size + 1, 1, none⟩ = some (.int .i64 (t.az)) := K1_7.out.cell 1
  have z1_2_7 : w7.cell? ⟨w.heap.size + 1, 2, none⟩ = some (.int .i64 (t.ht)) := K1_7.out.cell 2
  have z1_3_7 : w7.cell? ⟨w.heap.size + 1, 3, none⟩ = some (.int .i64 (t.fr)) := K1_7.out.cell 3
  have z1_4_7 : w7.cell? ⟨w.heap.size + 1, 4, none⟩ = some (.int .i64 (t.to)) := K1_7.out.cell 4
  have z1_5_7 : w7.cell? ⟨w.heap.size + 1, 5, none⟩ = some (.int .i64 (t.dw)) := K1_7.out.cell 5
  have l2_7 : bx < w7.heap.size := K2_7.out.lt
  have z2_0_7 : w7.cell? ⟨bx, 0, none⟩ = some (.int .i64 (X)) := K2_7.out.cell 0
  have z2_1_7 : w7.cell? ⟨bx, 1, none⟩ = some (.int .i64 (Y)) := K2_7.out.cell 1
  go_wp2_with fail
  refine (isday_is day true HDY.out _).mono ?_
  rintro e w' ⟨rfl, rfl⟩
  go_wp2_with fail
  refine (rturns_is m t day X Y L F q HA.out HT.out HQ.out _ R0_7.out HM0.out HT0.out HD.out).mono ?_
  rintro e w8 ⟨B, cB, rfl, hb, hr⟩
  have HB8 := Lib.hid (show Below w.heap.size w w8 from step_below hb (by repeat' (first | exact Below.refl _ _ | exact HB7.out | refine below_drewN ?_ _ | refine Below.drew ?_ | refine Below.alloc ?_ (by first | omega | (simp; done) | (simp; omega) | (simp [World.setCell]; omega)) _ | refine Below.setCell ?_ (by first | omega | (simp; done) | (simp; omega)) _ | assumption)))
  have K0_8 := Lib.hid (step_blk hb (show Blk _ (w.heap.size) 42 #[.int .i64 (m.ls), .int .i64 (m.ms), .int .i64 (m.lo), .int .i64 (m.hi), .int .i64 (m.sp), .slice m.A1 m.n1 m.c1, .slice m.A2 m.n2 m.c2] by repeat' (first | exact K0_7.out | exact K1_7.out | exact K2_7.out | exact Blk.at_ _ (by first | rfl | (simp; done) | (simp; omega)) _ _ | refine Blk.drewN ?_ _ | refine Blk.drew ?_ | refine Blk.alloc ?_ _ | refine Blk.far ?_ (by first | omega | (simp; done) | (simp; omega)) _ | assumption)))
  have K1_8 := Lib.hid (step_blk hb (show Blk _ (w.heap.size + 1) 44 #[.string t.name, .int .i64 (t.az), .int .i64 (t.ht), .int .i64 (t.fr), .int .i64 (t.to), .int .i64 (t.dw)] by repeat' (first | exact K0_7.out | exact K1_7.out | exact K2_7.out | exact Blk.at_ _ (by first | rfl | (simp; done) | (simp; omega)) _ _ | refine Blk.drewN ?_ _ | refine Blk.drew ?_ | refine Blk.alloc ?_ _ | refine Blk.far ?_ (by first | omega | (simp; done) | (simp; omega)) _ | assumption)))
  have K2_8 := Lib.hid (step_blk hb (show Blk _ (bx) 46 #[.int .i64 (X), .int .i64 (Y)] by repeat' (first | exact K0_7.out | exact K1_7.out | exact K2_7.out | exact Blk.at_ _ (by first | rfl | (simp; done) | (simp; omega)) _ _ | refine Blk.drewN ?_ _ | refine Blk.drew ?_ | refine Blk.alloc ?_ _ | refine Blk.far ?_ (by first | omega | (simp; done) | (simp; omega)) _ | assumption)))
  have hL8 := Lib.hid (show Below w7.heap.size w7 _ from reads_mid hb (by repeat' (first | exact Below.refl _ _ | refine below_drewN ?_ _ | refine Below.drew ?_ | refine Below.alloc ?_ (by first | omega | (simp; done) | (simp; omega) | (simp [World.setCell]; omega)) _ | refine Below.setCell ?_ (by first | omega | (simp; done) | (simp; omega)) _)))
  have R0_8 := Lib.hid (mnt_lay hb hL8.out R0_7.out)
  have R1_8 := Lib.hid (reads_lay hb hL8.out R1_7.out)
  clear hL8 R0_7 R1_7
  have hz8 := hb.size
  try simp only [World.size_alloc, World.drewN, World.drew] at hz8
  clear hb K0_7 K1_7 K2_7 z0_0_7 z0_1_7 z0_2_7 z0_3_7 z0_4_7 z0_5_7 z0_6_7 l0_7 z1_0_7 z1_1_7 z1_2_7 z1_3_7 z1_4_7 z1_5_7 l1_7 z2_0_7 z2_1_7 l2_7
  have l0_8 : w.heap.size < w8.heap.size := K0_8.out.lt
  have z0_0_8 : w8.cell? ⟨w.heap.size, 0, none⟩ = some (.int .i64 (m.ls)) := K0_8.out.cell 0
  have z0_1_8 : w8.cell? ⟨w.heap.size, 1, none⟩ = some (.int .i64 (m.ms)) := K0_8.out.cell 1
  have z0_2_8 : w8.cell? ⟨w.heap.size, 2, none⟩ = some (.int .i64 (m.lo)) := K0_8.out.cell 2
  have z0_3_8 : w8.cell? ⟨w.heap.size, 3, none⟩ = some (.int .i64 (m.hi)) := K0_8.out.cell 3
  have z0_4_8 : w8.cell? ⟨w.heap.size, 4, none⟩ = some (.int .i64 (m.sp)) := K0_8.out.cell 4
  have z0_5_8 : w8.cell? ⟨w.heap.size, 5, none⟩ = some (.slice m.A1 m.n1 m.c1) := K0_8.out.cell 5
  have z0_6_8 : w8.cell? ⟨w.heap.size, 6, none⟩ = some (.slice m.A2 m.n2 m.c2) := K0_8.out.cell 6
  have l1_8 : w.heap.size + 1 < w8.heap.size := K1_8.out.lt
  have z1_0_8 : w8.cell? ⟨w.heap.size + 1, 0, none⟩ = some (.string t.name) := K1_8.out.cell 0
  have z1_1_8 : w8.cell? ⟨w.heap.size + 1, 1, none⟩ = some (.int .i64 (t.az)) := K1_8.out.cell 1
  have z1_2_8 : w8.cell? ⟨w.heap.size + 1, 2, none⟩ = some (.int .i64 (t.ht)) := K1_8.out.cell 2
  have z1_3_8 : w8.cell? ⟨w.heap.size + 1, 3, none⟩ = some (.int .i64 (t.fr)) := K1_8.out.cell 3
  have z1_4_8 : w8.cell? ⟨w.heap.size + 1, 4, none⟩ = some (.int .i64 (t.to)) := K1_8.out.cell 4
  have z1_5_8 : w8.cell? ⟨w.heap.size + 1, 5, none⟩ = some (.int .i64 (t.dw)) := K1_8.out.cell 5
  have l2_8 : bx < w8.heap.size := K2_8.out.lt
  have z2_0_8 : w8.cell? ⟨bx, 0, none⟩ = some (.int .i64 (X)) := K2_8.out.cell 0
  have z2_1_8 : w8.cell? ⟨bx, 1, none⟩ = some (.int .i64 (Y)) := K2_8.out.cell 1
  have R2_8 := Lib.hid hr
  clear hr
  go_wp2
  refine Fx.regionM (fun W g f w' => Kp (PfT m 0 [] 0 [] 1 99 98) W g w') (valT m 0 0 1 99) (by kernel_rfl) ?_ ?_
  · intro f hf0
    exact Kp.start
  first
  | (refine Fx.WM.skip 0 (by rfl) (by kernel_rfl) (by kernel_rfl) (by kernel_rfl) (by rfl) (fun g f w h => h) ?_; simp only [Act.put, List.setIfInBounds_toArray, List.set_cons_zero, List.set_cons_succ])
  | (refine Fx.WM.val_ 0 ?_ (by rfl) (by kernel_rfl) (by kernel_rfl) (by kernel_rfl) (by rfl) ?_ (fun g f w h => h) ?_
     rotate_left
     · intro g f w' hx hD hk
       obtain hkp := id hD
       clear hx hk hD hkp
       go_simp
       try rfl
     simp only [Act.put, List.setIfInBounds_toArray, List.set_cons_zero, List.set_cons_succ])
  first
  | (refine Fx.WM.skip 1 (by rfl) (by kernel_rfl) (by kernel_rfl) (by kernel_rfl) (by rfl) (fun g f w h => h) ?_; simp only [Act.put, List.setIfInBounds_toArray, List.set_cons_zero, List.set_cons_succ])
  | (refine Fx.WM.val_ 1 ?_ (by rfl) (by kernel_rfl) (by kernel_rfl) (by kernel_rfl) (by rfl) ?_ (fun g f w h => h) ?_
     rotate_left
     · intro g f w' hx hD hk
       obtain hkp := id hD
       clear hx hk hD hkp
       go_simp
       try rfl
     simp only [Act.put, List.setIfInBounds_toArray, List.set_cons_zero, List.set_cons_succ])
  first
  | (refine Fx.WM.skip 2 (by rfl) (by kernel_rfl) (by kernel_rfl) (by kernel_rfl) (by rfl) (fun g f w h => h) ?_; simp only [Act.put, List.setIfInBounds_toArray, List.set_cons_zero, List.set_cons_succ])
  | (refine Fx.WM.val_ 2 ?_ (by rfl) (by kernel_rfl) (by kernel_rfl) (by kernel_rfl) (by rfl) ?_ (fun g f w h => h) ?_
     rotate_left
     · intro g f w' hx hD hk
       obtain hkp := id hD
       clear hx hk hD hkp
       go_simp
       try rfl
     simp only [Act.put, List.setIfInBounds_toArray, List.set_cons_zero, List.set_cons_succ])
  first
  | (refine Fx.WM.skip 3 (by rfl) (by kernel_rfl) (by kernel_rfl) (by kernel_rfl) (by rfl) (fun g f w h => h) ?_; simp only [Act.put, List.setIfInBounds_toArray, List.set_cons_zero, List.set_cons_succ])
  | (refine Fx.WM.val_ 3 ?_ (by rfl) (by kernel_rfl) (by kernel_rfl) (by kernel_rfl) (by rfl) ?_ (fun g f w h => h) ?_
     rotate_left
     · intro g f w' hx hD hk
       obtain hkp := id hD
       have y2_0 := (K2_8.out.below hkp.bel l2_8).cell 0
       have y2_1 := (K2_8.out.below hkp.bel l2_8).cell 1
       clear hx hk hD hkp
       go_simp
       try rfl
     simp only [Act.put, List.setIfInBounds_toArray, List.set_cons_zero, List.set_cons_succ])
  first
  | (refine Fx.WM.skip 4 (by rfl) (by kernel_rfl) (by kernel_rfl) (by kernel_rfl) (by rfl) (fun g f w h => h) ?_; simp only [Act.put, List.setIfInBounds_toArray, List.set_cons_zero, List.set_cons_succ])
  | (refine Fx.WM.val_ 4 ?_ (by rfl) (by kernel_rfl) (by kernel_rfl) (by kernel_rfl) (by rfl) ?_ (fun g f w h => h) ?_
     rotate_left
     · intro g f w' hx hD hk
       obtain hkp := id hD
       have y0_0 := (K0_8.out.below hkp.bel l0_8).cell 0
       have y0_1 := (K0_8.out.below hkp.bel l0_8).cell 1
       have y0_2 := (K0_8.out.below hkp.bel l0_8).cell 2
       have y0_3 := (K0_8.out.below hkp.bel l0_8).cell 3
       have y0_4 := (K0_8.out.below hkp.bel l0_8).cell 4
       have y0_5 := (K0_8.out.below hkp.bel l0_8).cell 5
       have y0_6 := (K0_8.out.below hkp.bel l0_8).cell 6
       clear hx hk hD hkp
       go_simp
       try rfl
     simp only [Act.put, List.setIfInBounds_toArray, List.set_cons_zero, List.set_cons_succ])
  first
  | (refine Fx.WM.skip 5 (by rfl) (by kernel_rfl) (by kernel_rfl) (by kernel_rfl) (by rfl) (fun g f w h => h) ?_; simp only [Act.put, List.setIfInBounds_toArray, List.set_cons_zero, List.set_cons_succ])
  | (refine Fx.WM.val_ 5 ?_ (by rfl) (by kernel_rfl) (by kernel_rfl) (by kernel_rfl) (by rfl) ?_ (fun g f w h => h) ?_
     rotate_left
     · intro g f w' hx hD hk
       obtain hkp := id hD
       have y1_0 := (K1_8.out.below hkp.bel l1_8).cell 0
       have y1_1 := (K1_8.out.below hkp.bel l1_8).cell 1
       have y1_2 := (K1_8.out.below hkp.bel l1_8).cell 2
       have y1_3 := (K1_8.out.below hkp.bel l1_8).cell 3
       have y1_4 := (K1_8.out.below hkp.bel l1_8).cell 4
       have y1_5 := (K1_8.out.below hkp.bel l1_8).cell 5
       clear hx hk hD hkp
       go_simp
       try rfl
     simp only [Act.put, List.setIfInBounds_toArray, List.set_cons_zero, List.set_cons_succ])
  first
  | (refine Fx.WM.skip 6 (by rfl) (by kernel_rfl) (by kernel_rfl) (by kernel_rfl) (by rfl) (fun g f w h => h) ?_; simp only [Act.put, List.setIfInBounds_toArray, List.set_cons_zero, List.set_cons_succ])
  | (refine Fx.WM.val_ 6 ?_ (by rfl) (by kernel_rfl) (by kernel_rfl) (by kernel_rfl) (by rfl) ?_ (fun g f w h => h) ?_
     rotate_left
     · intro g f w' hx hD hk
       obtain hkp := id hD
       clear hx hk hD hkp
       go_simp
       try rfl
     simp only [Act.put, List.setIfInBounds_toArray, List.set_cons_zero, List.set_cons_succ])
  refine Fx.WM.call 7 (.agg #[.int .i64 X, .int .i64 Y]) ?_ ?_ (by rfl) (by kernel_rfl) (by kernel_rfl) (by kernel_rfl) (by rfl) ?_ ?_ ?_
  rotate_left 2
  · intro w'
    go_simp
    refine ⟨?_, ?_⟩ <;> rfl
  · intro g f w' hx hD hk
    exact (rapparent_is m t day X Y HA.out w' (R0_8.out.lay hD.bel) HM0.out HT0.out HD.out).mono fun e w'' ⟨he, hw⟩ => ⟨he, hD.call PfT.stb hw⟩
  simp only [Act.put, List.setIfInBounds_toArray, List.set_cons_zero, List.set_cons_succ]
  first
  | (refine Fx.WM.skip 8 (by rfl) (by kernel_rfl) (by kernel_rfl) (by kernel_rfl) (by rfl) (fun g f w h => h) ?_; simp only [Act.put, List.setIfInBounds_toArray, List.set_cons_zero, List.set_cons_succ])
  | (refine Fx.WM.val_ 8 ?_ (by rfl) (by kernel_rfl) (by kernel_rfl) (by kernel_rfl) (by rfl) ?_ (fun g f w h => h) ?_
     rotate_left
     · intro g f w' hx hD hk
       obtain hkp := id hD
       clear hx hk hD hkp
       go_simp
       try rfl
     simp only [Act.put, List.setIfInBounds_toArray, List.set_cons_zero, List.set_cons_succ])
  first
  | (refine Fx.WM.skip 9 (by rfl) (by kernel_rfl) (by kernel_rfl) (by kernel_rfl) (by rfl) (fun g f w h => h) ?_; simp only [Act.put, List.setIfInBounds_toArray, List.set_cons_zero, List.set_cons_succ])
  | (refine Fx.WM.val_ 9 ?_ (by rfl) (by kernel_rfl) (by kernel_rfl) (by kernel_rfl) (by rfl) ?_ (fun g f w h => h) ?_
     rotate_left
     · intro g f w' hx hD hk
       obtain hkp := id hD
       clear hx hk hD hkp
       go_simp
       try rfl
     simp only [Act.put, List.setIfInBounds_toArray, List.set_cons_zero, List.set_cons_succ])
  first
  | (refine Fx.WM.skip 10 (by rfl) (by kernel_rfl) (by kernel_rfl) (by kernel_rfl) (by rfl) (fun g f w h => h) ?_; simp only [Act.put, List.setIfInBounds_toArray, List.set_cons_zero, List.set_cons_succ])
  | (refine Fx.WM.val_ 10 ?_ (by rfl) (by kernel_rfl) (by kernel_rfl) (by kernel_rfl) (by rfl) ?_ (fun g f w h => h) ?_
     rotate_left
     · intro g f w' hx hD hk
       obtain hkp := id hD
       clear hx hk hD hkp
       go_simp
       try rfl
     simp only [Act.put, List.setIfInBounds_toArray, List.set_cons_zero, List.set_cons_succ])
  first
  | (refine Fx.WM.skip 11 (by rfl) (by kernel_rfl) (by kernel_rfl) (by kernel_rfl) (by rfl) (fun g f w h => h) ?_; simp only [Act.put, List.setIfInBounds_toArray, List.set_cons_zero, List.set_cons_succ])
  | (refine Fx.WM.val_ 11 ?_ (by rfl) (by kernel_rfl) (by kernel_rfl) (by kernel_rfl) (by rfl) ?_ (fun g f w h => h) ?_
     rotate_left
     · intro g f w' hx hD hk
       obtain hkp := id hD
       clear hx hk hD hkp
       go_simp
       try rfl
     simp only [Act.put, List.setIfInBounds_toArray, List.set_cons_zero, List.set_cons_succ])
  first
  | (refine Fx.WM.skip 12 (by rfl) (by kernel_rfl) (by kernel_rfl) (by kernel_rfl) (by rfl) (fun g f w h => h) ?_; simp only [Act.put, List.setIfInBounds_toArray, List.set_cons_zero, List.set_cons_succ])
  | (refine Fx.WM.val_ 12 ?_ (by rfl) (by kernel_rfl) (by kernel_rfl) (by kernel_rfl) (by rfl) ?_ (fun g f w h => h) ?_
     rotate_left
     · intro g f w' hx hD hk
       obtain hkp := id hD
       clear hx hk hD hkp
       go_simp
       try rfl
     simp only [Act.put, List.setIfInBounds_toArray, List.set_cons_zero, List.set_cons_succ])
  first
  | (refine Fx.WM.skip 13 (by rfl) (by kernel_rfl) (by kernel_rfl) (by kernel_rfl) (by rfl) (fun g f w h => h) ?_; simp only [Act.put, List.setIfInBounds_toArray, List.set_cons_zero, List.set_cons_succ])
  | (refine Fx.WM.val_ 13 ?_ (by rfl) (by kernel_rfl) (by kernel_rfl) (by kernel_rfl) (by rfl) ?_ (fun g f w h => h) ?_
     rotate_left
     · intro g f w' hx hD hk
       obtain hkp := id hD
       clear hx hk hD hkp
       go_simp
       try rfl
     simp only [Act.put, List.setIfInBounds_toArray, List.set_cons_zero, List.set_cons_succ])
  first
  | (refine Fx.WM.skip 14 (by rfl) (by kernel_rfl) (by kernel_rfl) (by kernel_rfl) (by rfl) (fun g f w h => h) ?_; simp only [Act.put, List.setIfInBounds_toArray, List.set_cons_zero, List.set_cons_succ])
  | (refine Fx.WM.val_ 14 ?_ (by rfl) (by kernel_rfl) (by kernel_rfl) (by kernel_rfl) (by rfl) ?_ (fun g f w h => h) ?_
     rotate_left
     · intro g f w' hx hD hk
       obtain hkp := id hD
       clear hx hk hD hkp
       go_simp
       try rfl
     simp only [Act.put, List.setIfInBounds_toArray, List.set_cons_zero, List.set_cons_succ])
  first
  | (refine Fx.WM.skip 15 (by rfl) (by kernel_rfl) (by kernel_rfl) (by kernel_rfl) (by rfl) (fun g f w h => h) ?_; simp only [Act.put, List.setIfInBounds_toArray, List.set_cons_zero, List.set_cons_succ])
  | (refine Fx.WM.val_ 15 ?_ (by rfl) (by kernel_rfl) (by kernel_rfl) (by kernel_rfl) (by rfl) ?_ (fun g f w h => h) ?_
     rotate_left
     · intro g f w' hx hD hk
       obtain hkp := id hD
       clear hx hk hD hkp
       go_simp
       try rfl
     simp only [Act.put, List.setIfInBounds_toArray, List.set_cons_zero, List.set_cons_succ])
  first
  | (refine Fx.WM.skip 16 (by rfl) (by kernel_rfl) (by kernel_rfl) (by kernel_rfl) (by rfl) (fun g f w h => h) ?_; simp only [Act.put, List.setIfInBounds_toArray, List.set_cons_zero, List.set_cons_succ])
  | (refine Fx.WM.val_ 16 ?_ (by rfl) (by kernel_rfl) (by kernel_rfl) (by kernel_rfl) (by rfl) ?_ (fun g f w h => h) ?_
     rotate_left
     · intro g f w' hx hD hk
       obtain hkp := id hD
       clear hx hk hD hkp
       go_simp
       try rfl
     simp only [Act.put, List.setIfInBounds_toArray, List.set_cons_zero, List.set_cons_succ])
  first
  | (refine Fx.WM.skip 17 (by rfl) (by kernel_rfl) (by kernel_rfl) (by kernel_rfl) (by rfl) (fun g f w h => h) ?_; simp only [Act.put, List.setIfInBounds_toArray, List.set_cons_zero, List.set_cons_succ])
  | (refine Fx.WM.val_ 17 ?_ (by rfl) (by kernel_rfl) (by kernel_rfl) (by kernel_rfl) (by rfl) ?_ (fun g f w h => h) ?_
     rotate_left
     · intro g f w' hx hD hk
       obtain hkp := id hD
       clear hx hk hD hkp
       go_simp
       try rfl
     simp only [Act.put, List.setIfInBounds_toArray, List.set_cons_zero, List.set_cons_succ])
  refine Fx.WM.call 18 (.bool true) ?_ ?_ (by rfl) (by kernel_rfl) (by kernel_rfl) (by kernel_rfl) (by rfl) ?_ ?_ ?_
  rotate_left 2
  · intro w'
    go_simp
    refine ⟨?_, ?_⟩ <;> rfl
  · intro g f w' hx hD hk
    exact (low (ints_eqd yA B yc cB q q L L true (by simp) w' _ _ ((R1_8.out.below hD.bel).more hD.bel.size) ((R2_8.out.below hD.bel).more hD.bel.size) (by omega) (by omega))).mono fun e w'' ⟨he, hw⟩ => ⟨he, hD.call PfT.stb hw⟩
  simp only [Act.put, List.setIfInBounds_toArray, List.set_cons_zero, List.set_cons_succ]
  first
  | (refine Fx.WM.skip 19 (by rfl) (by kernel_rfl) (by kernel_rfl) (by kernel_rfl) (by rfl) (fun g f w h => h) ?_; simp only [Act.put, List.setIfInBounds_toArray, List.set_cons_zero, List.set_cons_succ])
  | (refine Fx.WM.val_ 19 ?_ (by rfl) (by kernel_rfl) (by kernel_rfl) (by kernel_rfl) (by rfl) ?_ (fun g f w h => h) ?_
     rotate_left
     · intro g f w' hx hD hk
       obtain hkp := id hD
       clear hx hk hD hkp
       go_simp
       try rfl
     simp only [Act.put, List.setIfInBounds_toArray, List.set_cons_zero, List.set_cons_succ])
  first
  | (refine Fx.WM.skip 20 (by rfl) (by kernel_rfl) (by kernel_rfl) (by kernel_rfl) (by rfl) (fun g f w h => h) ?_; simp only [Act.put, List.setIfInBounds_toArray, List.set_cons_zero, List.set_cons_succ])
  | (refine Fx.WM.val_ 20 ?_ (by rfl) (by kernel_rfl) (by kernel_rfl) (by kernel_rfl) (by rfl) ?_ (fun g f w h => h) ?_
     rotate_left
     · intro g f w' hx hD hk
       obtain hkp := id hD
       clear hx hk hD hkp
       go_simp
       try rfl
     simp only [Act.put, List.setIfInBounds_toArray, List.set_cons_zero, List.set_cons_succ])
  refine Fx.WM.nil (by kernel_rfl) ?_
  intro wz hkp
  have hb := HB8.out.trans (hkp.bel.mono HB8.out.size)
  clear hkp
  go_wp2
  go_ret
  exact ⟨rfl, hb⟩
end Go.Proofs.Ytgamepmipoociaa

end
