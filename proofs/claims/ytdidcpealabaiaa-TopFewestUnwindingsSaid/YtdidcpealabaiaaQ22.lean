import Derived.Test.YtdidcpealabaiaaQ15
import Derived.Test.YtdidcpealabaiaaQ16
import Derived.Test.YtdidcpealabaiaaQ21
import Derived.Test.YtdidcpealabaiaaQ4

section
/- The walk of the statement on the fewest unwindings. -/
namespace Go.Proofs.Ytdidcpealabaiaa
open Go Go.RowKit

theorem floorr_is (a b q : Int) (hq : a / b = q) (w : World) (h1 : -4000000000000000000 ≤ a) (h2 : a ≤ 4000000000000000000) (h3 : 1 ≤ b) (h4 : b ≤ 9223372036854775807) :
    Calls Try.prog 36 #[.int .i64 a, .int .i64 b] w fun e w' => e = .returned (.int .i64 q) ∧ w = w' := by
  subst hq; exact floorref_any a b w h1 h2 h3 h4
/-- What is known of a copy of numbers. -/
def PfN (n : Nat) (ks : List Int) (ki : Nat) (i : Nat) (x : Pick2) (w : World) : Prop := i = ki → Reads w w.heap.size 1 x.1.1 n (ks.map (.int .i64)) ∧ (n ≤ x.1.2 ∧ x.1.2 ≤ 9223372036854775807)
theorem PfN.stb {n : Nat} {ks : List Int} {ki : Nat} : Stb (PfN n ks ki) := fun _ _ _ _ hb h e => ⟨((h e).1.below hb).more hb.size, (h e).2⟩

set_option maxRecDepth 100000 in
set_option maxHeartbeats 4000000 in
theorem lawTU_no (m : Mnt) (A : Option Addr) (n c : Nat) (l : List Tgt) (day pos : Int) (At : Option Addr) (nt ct : Nat) (ks : List Int) (w : World) (hx : TourIn m A n c l day pos w) (hntc : nt ≤ ct ∧ ct ≤ 9223372036854775807) (hrk : Reads w w.heap.size 1 At nt (ks.map (.int .i64)))
    (h0 : shortB m l = false ∨ 5 < n ∨ 8 < nt) :
    Calls Try.prog 9 #[tourV m A n c day pos, .slice At nt ct] w fun e w' => e = .returned (.bool true) ∧ Below w.heap.size w w' := by
  have hma := hx.mnt.at_
  have hrd := hx.rd
  have hlen := hx.len
  have hnc := hx.hn.1
  have hcc := hx.hn.2
  unfold tourV
  clear hx
  cases hl : shortB m l
  · have HL := Lib.hid hl
    clear hl h0
    go_enter Try.func9, Try.ntmps9
    have R0_0 := Lib.hid hrd
    clear hrd
    go_wp2_with fail
    refine (aimed_any _).mono ?_
    rintro e w1 ⟨rfl, hb⟩
    have HB1 := Lib.hid (show Below w.heap.size w w1 from step_below hb (by repeat' (first | exact Below.refl _ _ | exact HB0.out | refine below_drewN ?_ _ | refine Below.drew ?_ | refine Below.alloc ?_ (by first | omega | (simp; done) | (simp; omega) | (simp [World.setCell]; omega)) _ | refine Below.setCell ?_ (by first | omega | (simp; done) | (simp; omega)) _ | assumption)))
    have K0_1 := Lib.hid (step_blk hb (show Blk _ (w.heap.size) 62 #[.int .i64 (m.ls), .int .i64 (m.ms), .int .i64 (m.lo), .int .i64 (m.hi), .int .i64 (m.sp), .slice m.A1 m.n1 m.c1, .slice m.A2 m.n2 m.c2, .slice A n c, .int .i64 (day), .int .i64 (pos)] by repeat' (first | exact Blk.at_ _ (by first | rfl | (simp; done) | (simp; omega)) _ _ | refine Blk.drewN ?_ _ | refine Blk.drew ?_ | refine Blk.alloc ?_ _ | refine Blk.far ?_ (by first | omega | (simp; done) | (simp; omega)) _ | assumption)))
    have hL1 := Lib.hid (show Below w.heap.size w _ from reads_mid hb (by repeat' (first | exact Below.refl _ _ | refine below_drewN ?_ _ | refine Below.drew ?_ | refine Below.alloc ?_ (by first | omega | (simp; done) | (simp; omega) | (simp [World.setCell]; omega)) _ | refine Below.setCell ?_ (by first | omega | (simp; done) | (simp; omega)) _)))
    have R0_1 := Lib.hid (reads_lay hb hL1.out R0_0.out)
    clear hL1 R0_0
    have hz1 := hb.size
    try simp only [World.size_alloc, World.drewN, World.drew] at hz1
    clear hb
    have l0_1 : w.heap.size < w1.heap.size := K0_1.out.lt
    have z0_0_1 : w1.cell? ⟨w.heap.size, 0, none⟩ = some (.int .i64 (m.ls)) := K0_1.out.cell 0
    have z0_1_1 : w1.cell? ⟨w.heap.size, 1, none⟩ = some (.int .i64 (m.ms)) := K0_1.out.cell 1
    have z0_2_1 : w1.cell? ⟨w.heap.size, 2, none⟩ = some (.int .i64 (m.lo)) := K0_1.out.cell 2
    have z0_3_1 : w1.cell? ⟨w.heap.size, 3, none⟩ = some (.int .i64 (m.hi)) := K0_1.out.cell 3
    have z0_4_1 : w1.cell? ⟨w.heap.size, 4, none⟩ = some (.int .i64 (m.sp)) := K0_1.out.cell 4
    have z0_5_1 : w1.cell? ⟨w.heap.size, 5, none⟩ = some (.slice m.A1 m.n1 m.c1) := K0_1.out.cell 5
    have z0_6_1 : w1.cell? ⟨w.heap.size, 6, none⟩ = some (.slice m.A2 m.n2 m.c2) := K0_1.out.cell 6
    have z0_7_1 : w1.cell? ⟨w.heap.size, 7, none⟩ = some (.slice A n c) := K0_1.out.cell 7
    have z0_8_1 : w1.cell? ⟨w.heap.size, 8, none⟩ = some (.int .i64 (day)) := K0_1.out.cell 8
    have z0_9_1 : w1.cell? ⟨w.heap.size, 9, none⟩ = some (.int .i64 (pos)) := K0_1.out.cell 9
    go_wp2_with fail
    refine (shortp_is m A n c _ l day pos false HL.out _ R0_1.out (Nat.le_refl _) (by omega)).mono ?_
    rintro e w2 ⟨rfl, hb⟩
    have HB2 := Lib.hid (show Below w.heap.size w w2 from step_below hb (by repeat' (first | exact Below.refl _ _ | exact HB1.out | refine below_drewN ?_ _ | refine Below.drew ?_ | refine Below.alloc ?_ (by first | omega | (simp; done) | (simp; omega) | (simp [World.setCell]; omega)) _ | refine Below.setCell ?_ (by first | omega | (simp; done) | (simp; omega)) _ | assumption)))
    have K0_2 := Lib.hid (step_blk hb (show Blk _ (w.heap.size) 62 #[.int .i64 (m.ls), .int .i64 (m.ms), .int .i64 (m.lo), .int .i64 (m.hi), .int .i64 (m.sp), .slice m.A1 m.n1 m.c1, .slice m.A2 m.n2 m.c2, .slice A n c, .int .i64 (day), .int .i64 (pos)] by repeat' (first | exact K0_1.out | exact Blk.at_ _ (by first | rfl | (simp; done) | (simp; omega)) _ _ | refine Blk.drewN ?_ _ | refine Blk.drew ?_ | refine Blk.alloc ?_ _ | refine Blk.far ?_ (by first | omega | (simp; done) | (simp; omega)) _ | assumption)))
    have hL2 := Lib.hid (show Below w1.heap.size w1 _ from reads_mid hb (by repeat' (first | exact Below.refl _ _ | refine below_drewN ?_ _ | refine Below.drew ?_ | refine Below.alloc ?_ (by first | omega | (simp; done) | (simp; omega) | (simp [World.setCell]; omega)) _ | refine Below.setCell ?_ (by first | omega | (simp; done) | (simp; omega)) _)))
    have R0_2 := Lib.hid (reads_lay hb hL2.out R0_1.out)
    clear hL2 R0_1
    have hz2 := hb.size
    try simp only [World.size_alloc, World.drewN, World.drew] at hz2
    clear hb K0_1 z0_0_1 z0_1_1 z0_2_1 z0_3_1 z0_4_1 z0_5_1 z0_6_1 z0_7_1 z0_8_1 z0_9_1 l0_1
    have l0_2 : w.heap.size < w2.heap.size := K0_2.out.lt
    have z0_0_2 : w2.cell? ⟨w.heap.size, 0, none⟩ = some (.int .i64 (m.ls)) := K0_2.out.cell 0
    have z0_1_2 : w2.cell? ⟨w.heap.size, 1, none⟩ = some (.int .i64 (m.ms)) := K0_2.out.cell 1
    have z0_2_2 : w2.cell? ⟨w.heap.size, 2, none⟩ = some (.int .i64 (m.lo)) := K0_2.out.cell 2
    have z0_3_2 : w2.cell? ⟨w.heap.size, 3, none⟩ = some (.int .i64 (m.hi)) := K0_2.out.cell 3
    have z0_4_2 : w2.cell? ⟨w.heap.size, 4, none⟩ = some (.int .i64 (m.sp)) := K0_2.out.cell 4
    have z0_5_2 : w2.cell? ⟨w.heap.size, 5, none⟩ = some (.slice m.A1 m.n1 m.c1) := K0_2.out.cell 5
    have z0_6_2 : w2.cell? ⟨w.heap.size, 6, none⟩ = some (.slice m.A2 m.n2 m.c2) := K0_2.out.cell 6
    have z0_7_2 : w2.cell? ⟨w.heap.size, 7, none⟩ = some (.slice A n c) := K0_2.out.cell 7
    have z0_8_2 : w2.cell? ⟨w.heap.size, 8, none⟩ = some (.int .i64 (day)) := K0_2.out.cell 8
    have z0_9_2 : w2.cell? ⟨w.heap.size, 9, none⟩ = some (.int .i64 (pos)) := K0_2.out.cell 9
    go_wp2
    go_ret
    exact ⟨rfl, by repeat' (first | exact Below.refl _ _ | exact HB2.out | refine below_drewN ?_ _ | refine Below.drew ?_ | refine Below.alloc ?_ (by first | omega | (simp; done) | (simp; omega) | (simp [World.setCell]; omega)) _ | refine Below.setCell ?_ (by first | omega | (simp; done) | (simp; omega)) _ | assumption)⟩
  have HL := Lib.hid hl
  by_cases h5 : (5 : Int) < (n : Int)
  · clear hl h0
    go_enter Try.func9, Try.ntmps9
    have R0_0 := Lib.hid hrd
    clear hrd
    go_wp2_with fail
    refine (aimed_any _).mono ?_
    rintro e w1 ⟨rfl, hb⟩
    have HB1 := Lib.hid (show Below w.heap.size w w1 from step_below hb (by repeat' (first | exact Below.refl _ _ | exact HB0.out | refine below_drewN ?_ _ | refine Below.drew ?_ | refine Below.alloc ?_ (by first | omega | (simp; done) | (simp; omega) | (simp [World.setCell]; omega)) _ | refine Below.setCell ?_ (by first | omega | (simp; done) | (simp; omega)) _ | assumption)))
    have K0_1 := Lib.hid (step_blk hb (show Blk _ (w.heap.size) 62 #[.int .i64 (m.ls), .int .i64 (m.ms), .int .i64 (m.lo), .int .i64 (m.hi), .int .i64 (m.sp), .slice m.A1 m.n1 m.c1, .slice m.A2 m.n2 m.c2, .slice A n c, .int .i64 (day), .int .i64 (pos)] by repeat' (first | exact Blk.at_ _ (by first | rfl | (simp; done) | (simp; omega)) _ _ | refine Blk.drewN ?_ _ | refine Blk.drew ?_ | refine Blk.alloc ?_ _ | refine Blk.far ?_ (by first | omega | (simp; done) | (simp; omega)) _ | assumption)))
    have hL1 := Lib.hid (show Below w.heap.size w _ from reads_mid hb (by repeat' (first | exact Below.refl _ _ | refine below_drewN ?_ _ | refine Below.drew ?_ | refine Below.alloc ?_ (by first | omega | (simp; done) | (simp; omega) | (simp [World.setCell]; omega)) _ | refine Below.setCell ?_ (by first | omega | (simp; done) | (simp; omega)) _)))
    have R0_1 := Lib.hid (reads_lay hb hL1.out R0_0.out)
    clear hL1 R0_0
    have hz1 := hb.size
    try simp only [World.size_alloc, World.drewN, World.drew] at hz1
    clear hb
    have l0_1 : w.heap.size < w1.heap.size := K0_1.out.lt
    have z0_0_1 : w1.cell? ⟨w.heap.size, 0, none⟩ = some (.int .i64 (m.ls)) := K0_1.out.cell 0
    have z0_1_1 : w1.cell? ⟨w.heap.size, 1, none⟩ = some (.int .i64 (m.ms)) := K0_1.out.cell 1
    have z0_2_1 : w1.cell? ⟨w.heap.size, 2, none⟩ = some (.int .i64 (m.lo)) := K0_1.out.cell 2
    have z0_3_1 : w1.cell? ⟨w.heap.size, 3, none⟩ = some (.int .i64 (m.hi)) := K0_1.out.cell 3
    have z0_4_1 : w1.cell? ⟨w.heap.size, 4, none⟩ = some (.int .i64 (m.sp)) := K0_1.out.cell 4
    have z0_5_1 : w1.cell? ⟨w.heap.size, 5, none⟩ = some (.slice m.A1 m.n1 m.c1) := K0_1.out.cell 5
    have z0_6_1 : w1.cell? ⟨w.heap.size, 6, none⟩ = some (.slice m.A2 m.n2 m.c2) := K0_1.out.cell 6
    have z0_7_1 : w1.cell? ⟨w.heap.size, 7, none⟩ = some (.slice A n c) := K0_1.out.cell 7
    have z0_8_1 : w1.cell? ⟨w.heap.size, 8, none⟩ = some (.int .i64 (day)) := K0_1.out.cell 8
    have z0_9_1 : w1.cell? ⟨w.heap.size, 9, none⟩ = some (.int .i64 (pos)) := K0_1.out.cell 9
    go_wp2_with fail
    refine (shortp_is m A n c _ l day pos true HL.out _ R0_1.out (Nat.le_refl _) (by omega)).mono ?_
    rintro e w2 ⟨rfl, hb⟩
    have HB2 := Lib.hid (show Below w.heap.size w w2 from step_below hb (by repeat' (first | exact Below.refl _ _ | exact HB1.out | refine below_drewN ?_ _ | refine Below.drew ?_ | refine Below.alloc ?_ (by first | omega | (simp; done) | (simp; omega) | (simp [World.setCell]; omega)) _ | refine Below.setCell ?_ (by first | omega | (simp; done) | (simp; omega)) _ | assumption)))
    have K0_2 := Lib.hid (step_blk hb (show Blk _ (w.heap.size) 62 #[.int .i64 (m.ls), .int .i64 (m.ms), .int .i64 (m.lo), .int .i64 (m.hi), .int .i64 (m.sp), .slice m.A1 m.n1 m.c1, .slice m.A2 m.n2 m.c2, .slice A n c, .int .i64 (day), .int .i64 (pos)] by repeat' (first | exact K0_1.out | exact Blk.at_ _ (by first | rfl | (simp; done) | (simp; omega)) _ _ | refine Blk.drewN ?_ _ | refine Blk.drew ?_ | refine Blk.alloc ?_ _ | refine Blk.far ?_ (by first | omega | (simp; done) | (simp; omega)) _ | assumption)))
    have hL2 := Lib.hid (show Below w1.heap.size w1 _ from reads_mid hb (by repeat' (first | exact Below.refl _ _ | refine below_drewN ?_ _ | refine Below.drew ?_ | refine Below.alloc ?_ (by first | omega | (simp; done) | (simp; omega) | (simp [World.setCell]; omega)) _ | refine Below.setCell ?_ (by first | omega | (simp; done) | (simp; omega)) _)))
    have R0_2 := Lib.hid (reads_lay hb hL2.out R0_1.out)
    clear hL2 R0_1
    have hz2 := hb.size
    try simp only [World.size_alloc, World.drewN, World.drew] at hz2
    clear hb K0_1 z0_0_1 z0_1_1 z0_2_1 z0_3_1 z0_4_1 z0_5_1 z0_6_1 z0_7_1 z0_8_1 z0_9_1 l0_1
    have l0_2 : w.heap.size < w2.heap.size := K0_2.out.lt
    have z0_0_2 : w2.cell? ⟨w.heap.size, 0, none⟩ = some (.int .i64 (m.ls)) := K0_2.out.cell 0
    have z0_1_2 : w2.cell? ⟨w.heap.size, 1, none⟩ = some (.int .i64 (m.ms)) := K0_2.out.cell 1
    have z0_2_2 : w2.cell? ⟨w.heap.size, 2, none⟩ = some (.int .i64 (m.lo)) := K0_2.out.cell 2
    have z0_3_2 : w2.cell? ⟨w.heap.size, 3, none⟩ = some (.int .i64 (m.hi)) := K0_2.out.cell 3
    have z0_4_2 : w2.cell? ⟨w.heap.size, 4, none⟩ = some (.int .i64 (m.sp)) := K0_2.out.cell 4
    have z0_5_2 : w2.cell? ⟨w.heap.size, 5, none⟩ = some (.slice m.A1 m.n1 m.c1) := K0_2.out.cell 5
    have z0_6_2 : w2.cell? ⟨w.heap.size, 6, none⟩ = some (.slice m.A2 m.n2 m.c2) := K0_2.out.cell 6
    have z0_7_2 : w2.cell? ⟨w.heap.size, 7, none⟩ = some (.slice A n c) := K0_2.out.cell 7
    have z0_8_2 : w2.cell? ⟨w.heap.size, 8, none⟩ = some (.int .i64 (day)) := K0_2.out.cell 8
    have z0_9_2 : w2.cell? ⟨w.heap.size, 9, none⟩ = some (.int .i64 (pos)) := K0_2.out.cell 9
    go_wp2
    go_ret
    exact ⟨rfl, by repeat' (first | exact Below.refl _ _ | exact HB2.out | refine below_drewN ?_ _ | refine Below.drew ?_ | refine Below.alloc ?_ (by first | omega | (simp; done) | (simp; omega) | (simp [World.setCell]; omega)) _ | refine Below.setCell ?_ (by first | omega | (simp; done) | (simp; omega)) _ | assumption)⟩
  have h8 : (8 : Int) < (nt : Int) := by
    rcases h0 with h | h | h
    · rw [hl] at h; cases h
    · exact absurd (by omega) h5
    · omega
  clear hl h0
  go_enter Try.func9, Try.ntmps9
  have R0_0 := Lib.hid hrd
  clear hrd
  go_wp2_with fail
  refine (aimed_any _).mono ?_
  rintro e w1 ⟨rfl, hb⟩
  have HB1 := Lib.hid (show Below w.heap.size w w1 from step_below hb (by repeat' (first | exact Below.refl _ _ | exact HB0.out | refine below_drewN ?_ _ | refine Below.drew ?_ | refine Below.alloc ?_ (by first | omega | (simp; done) | (simp; omega) | (simp [World.setCell]; omega)) _ | refine Below.setCell ?_ (by first | omega | (simp; done) | (simp; omega)) _ | assumption)))
  have K0_1 := Lib.hid (step_blk hb (show Blk _ (w.heap.size) 62 #[.int .i64 (m.ls), .int .i64 (m.ms), .int .i64 (m.lo), .int .i64 (m.hi), .int .i64 (m.sp), .slice m.A1 m.n1 m.c1, .slice m.A2 m.n2 m.c2, .slice A n c, .int .i64 (day), .int .i64 (pos)] by repeat' (first | exact Blk.at_ _ (by first | rfl | (simp; done) | (simp; omega)) _ _ | refine Blk.drewN ?_ _ | refine Blk.drew ?_ | refine Blk.alloc ?_ _ | refine Blk.far ?_ (by first | omega | (simp; done) | (simp; omega)) _ | assumption)))
  have hL1 := Lib.hid (show Below w.heap.size w _ from reads_mid hb (by repeat' (first | exact Below.refl _ _ | refine below_drewN ?_ _ | refine Below.drew ?_ | refine Below.alloc ?_ (by first | omega | (simp; done) | (simp; omega) | (simp [World.setCell]; omega)) _ | refine Below.setCell ?_ (by first | omega | (simp; done) | (simp; omega)) _)))
  have R0_1 := Lib.hid (reads_lay hb hL1.out R0_0.out)
  clear hL1 R0_0
  have hz1 := hb.size
  try simp only [World.size_alloc, World.drewN, World.drew] at hz1
  clear hb
  have l0_1 : w.heap.size < w1.heap.size := K0_1.out.lt
  have z0_0_1 : w1.cell? ⟨w.heap.size, 0, none⟩ = some (.int .i64 (m.ls)) := K0_1.out.cell 0
  have z0_1_1 : w1.cell? ⟨w.heap.size, 1, none⟩ = some (.int .i64 (m.ms)) := K0_1.out.cell 1
  have z0_2_1 : w1.cell? ⟨w.heap.size, 2, none⟩ = some (.int .i64 (m.lo)) := K0_1.out.cell 2
  have z0_3_1 : w1.cell? ⟨w.heap.size, 3, none⟩ = some (.int .i64 (m.hi)) := K0_1.out.cell 3
  have z0_4_1 : w1.cell? ⟨w.heap.size, 4, none⟩ = some (.int .i64 (m.sp)) := K0_1.out.cell 4
  have z0_5_1 : w1.cell? ⟨w.heap.size, 5, none⟩ = some (.slice m.A1 m.n1 m.c1) := K0_1.out.cell 5
  have z0_6_1 : w1.cell? ⟨w.heap.size, 6, none⟩ = some (.slice m.A2 m.n2 m.c2) := K0_1.out.cell 6
  have z0_7_1 : w1.cell? ⟨w.heap.size, 7, none⟩ = some (.slice A n c) := K0_1.out.cell 7
  have z0_8_1 : w1.cell? ⟨w.heap.size, 8, none⟩ = some (.int .i64 (day)) := K0_1.out.cell 8
  have z0_9_1 : w1.cell? ⟨w.heap.size, 9, none⟩ = some (.int .i64 (pos)) := K0_1.out.cell 9
  go_wp2_with fail
  refine (shortp_is m A n c _ l day pos true HL.out _ R0_1.out (Nat.le_refl _) (by omega)).mono ?_
  rintro e w2 ⟨rfl, hb⟩
  have HB2 := Lib.hid (show Below w.heap.size w w2 from step_below hb (by repeat' (first | exact Below.refl _ _ | exact HB1.out | refine below_drewN ?_ _ | refine Below.drew ?_ | refine Below.alloc ?_ (by first | omega | (simp; done) | (simp; omega) | (simp [World.setCell]; omega)) _ | refine Below.setCell ?_ (by first | omega | (simp; done) | (simp; omega)) _ | assumption)))
  have K0_2 := Lib.hid (step_blk hb (show Blk _ (w.heap.size) 62 #[.int .i64 (m.ls), .int .i64 (m.ms), .int .i64 (m.lo), .int .i64 (m.hi), .int .i64 (m.sp), .slice m.A1 m.n1 m.c1, .slice m.A2 m.n2 m.c2, .slice A n c, .int .i64 (day), .int .i64 (pos)] by repeat' (first | exact K0_1.out | exact Blk.at_ _ (by first | rfl | (simp; done) | (simp; omega)) _ _ | refine Blk.drewN ?_ _ | refine Blk.drew ?_ | refine Blk.alloc ?_ _ | refine Blk.far ?_ (by first | omega | (simp; done) | (simp; omega)) _ | assumption)))
  have hL2 := Lib.hid (show Below w1.heap.size w1 _ from reads_mid hb (by repeat' (first | exact Below.refl _ _ | refine below_drewN ?_ _ | refine Below.drew ?_ | refine Below.alloc ?_ (by first | omega | (simp; done) | (simp; omega) | (simp [World.setCell]; omega)) _ | refine Below.setCell ?_ (by first | omega | (simp; done) | (simp; omega)) _)))
  have R0_2 := Lib.hid (reads_lay hb hL2.out R0_1.out)
  clear hL2 R0_1
  have hz2 := hb.size
  try simp only [World.size_alloc, World.drewN, World.drew] at hz2
  clear hb K0_1 z0_0_1 z0_1_1 z0_2_1 z0_3_1 z0_4_1 z0_5_1 z0_6_1 z0_7_1 z0_8_1 z0_9_1 l0_1
  have l0_2 : w.heap.size < w2.heap.size := K0_2.out.lt
  have z0_0_2 : w2.cell? ⟨w.heap.size, 0, none⟩ = some (.int .i64 (m.ls)) := K0_2.out.cell 0
  have z0_1_2 : w2.cell? ⟨w.heap.size, 1, none⟩ = some (.int .i64 (m.ms)) := K0_2.out.cell 1
  have z0_2_2 : w2.cell? ⟨w.heap.size, 2, none⟩ = some (.int .i64 (m.lo)) := K0_2.out.cell 2
  have z0_3_2 : w2.cell? ⟨w.heap.size, 3, none⟩ = some (.int .i64 (m.hi)) := K0_2.out.cell 3
  have z0_4_2 : w2.cell? ⟨w.heap.size, 4, none⟩ = some (.int .i64 (m.sp)) := K0_2.out.cell 4
  have z0_5_2 : w2.cell? ⟨w.heap.size, 5, none⟩ = some (.slice m.A1 m.n1 m.c1) := K0_2.out.cell 5
  have z0_6_2 : w2.cell? ⟨w.heap.size, 6, none⟩ = some (.slice m.A2 m.n2 m.c2) := K0_2.out.cell 6
  have z0_7_2 : w2.cell? ⟨w.heap.size, 7, none⟩ = some (.slice A n c) := K0_2.out.cell 7
  have z0_8_2 : w2.cell? ⟨w.heap.size, 8, none⟩ = some (.int .i64 (day)) := K0_2.out.cell 8
  have z0_9_2 : w2.cell? ⟨w.heap.size, 9, none⟩ = some (.int .i64 (pos)) := K0_2.out.cell 9
  go_wp2
  go_ret
  exact ⟨rfl, by repeat' (first | exact Below.refl _ _ | exact HB2.out | refine below_drewN ?_ _ | refine Below.drew ?_ | refine Below.alloc ?_ (by first | omega | (simp; done) | (simp; omega) | (simp [World.setCell]; omega)) _ | refine Below.setCell ?_ (by first | omega | (simp; done) | (simp; omega)) _ | assumption)⟩

set_option maxRecDepth 100000 in
set_option maxHeartbeats 4000000 in
theorem lawTU_yes (m : Mnt) (A : Option Addr) (n c : Nat) (l : List Tgt) (day pos : Int) (At : Option Addr) (nt ct : Nat) (ks : List Int) (w : World) (hx : TourIn m A n c l day pos w) (hntc : nt ≤ ct ∧ ct ≤ 9223372036854775807) (hrk : Reads w w.heap.size 1 At nt (ks.map (.int .i64)))
    (hl : shortB m l = true) (h5 : n ≤ 5) (h8 : nt ≤ 8) :
    Calls Try.prog 9 #[tourV m A n c day pos, .slice At nt ct] w fun e w' => e = .returned (.bool true) ∧ Below w.heap.size w w' := by
  have hma := hx.mnt.at_
  have hrd := hx.rd
  have hfit := hx.fit
  have hlen := hx.len
  have hnc := hx.hn.1
  have hcc := hx.hn.2
  unfold tourV
  clear hx
  obtain ⟨-, hn1, hn2, hn23⟩ := short_parts hl
  have hln : l.length = n := hrd.tlen
  have HL := Lib.hid hl
  have HF := Lib.hid hfit
  have HN := Lib.hid hln
  have d5 : ¬ (5 : Int) < (n : Int) := by omega
  have d8 : ¬ (8 : Int) < (nt : Int) := by omega
  clear hl hfit hln
  go_enter Try.func9, Try.ntmps9
  have R0_0 := Lib.hid hrd
  clear hrd
  have R1_0 := Lib.hid hma
  clear hma
  have R2_0 := Lib.hid hrk
  clear hrk
  go_wp2_with fail
  refine (aimed_any _).mono ?_
  rintro e w1 ⟨rfl, hb⟩
  have HB1 := Lib.hid (show Below w.heap.size w w1 from step_below hb (by repeat' (first | exact Below.refl _ _ | exact HB0.out | refine below_drewN ?_ _ | refine Below.drew ?_ | refine Below.alloc ?_ (by first | omega | (simp; done) | (simp; omega) | (simp [World.setCell]; omega)) _ | refine Below.setCell ?_ (by first | omega | (simp; done) | (simp; omega)) _ | assumption)))
  have K0_1 := Lib.hid (step_blk hb (show Blk _ (w.heap.size) 62 #[.int .i64 (m.ls), .int .i64 (m.ms), .int .i64 (m.lo), .int .i64 (m.hi), .int .i64 (m.sp), .slice m.A1 m.n1 m.c1, .slice m.A2 m.n2 m.c2, .slice A n c, .int .i64 (day), .int .i64 (pos)] by repeat' (first | exact Blk.at_ _ (by first | rfl | (simp; done) | (simp; omega)) _ _ | refine Blk.drewN ?_ _ | refine Blk.drew ?_ | refine Blk.alloc ?_ _ | refine Blk.far ?_ (by first | omega | (simp; done) | (simp; omega)) _ | assumption)))
  have hL1 := Lib.hid (show Below w.heap.size w _ from reads_mid hb (by repeat' (first | exact Below.refl _ _ | refine below_drewN ?_ _ | refine Below.drew ?_ | refine Below.alloc ?_ (by first | omega | (simp; done) | (simp; omega) | (simp [World.setCell]; omega)) _ | refine Below.setCell ?_ (by first | omega | (simp; done) | (simp; omega)) _)))
  have R0_1 := Lib.hid (reads_lay hb hL1.out R0_0.out)
  have R1_1 := Lib.hid (mnt_lay hb hL1.out R1_0.out)
  have R2_1 := Lib.hid (reads_lay hb hL1.out R2_0.out)
  clear hL1 R0_0 R1_0 R2_0
  have hz1 := hb.size
  try simp only [World.size_alloc, World.drewN, World.drew] at hz1
  clear hb
  have l0_1 : w.heap.size < w1.heap.size := K0_1.out.lt
  have z0_0_1 : w1.cell? ⟨w.heap.size, 0, none⟩ = some (.int .i64 (m.ls)) := K0_1.out.cell 0
  have z0_1_1 : w1.cell? ⟨w.heap.size, 1, none⟩ = some (.int .i64 (m.ms)) := K0_1.out.cell 1
  have z0_2_1 : w1.cell? ⟨w.heap.size, 2, none⟩ = some (.int .i64 (m.lo)) := K0_1.out.cell 2
  have z0_3_1 : w1.cell? ⟨w.heap.size, 3, none⟩ = some (.int .i64 (m.hi)) := K0_1.out.cell 3
  have z0_4_1 : w1.cell? ⟨w.heap.size, 4, none⟩ = some (.int .i64 (m.sp)) := K0_1.out.cell 4
  have z0_5_1 : w1.cell? ⟨w.heap.size, 5, none⟩ = some (.slice m.A1 m.n1 m.c1) := K0_1.out.cell 5
  have z0_6_1 : w1.cell? ⟨w.heap.size, 6, none⟩ = some (.slice m.A2 m.n2 m.c2) := K0_1.out.cell 6
  have z0_7_1 : w1.cell? ⟨w.heap.size, 7, none⟩ = some (.slice A n c) := K0_1.out.cell 7
  have z0_8_1 : w1.cell? ⟨w.heap.size, 8, none⟩ = some (.int .i64 (day)) := K0_1.out.cell 8
  have z0_9_1 : w1.cell? ⟨w.heap.size, 9, none⟩ = some (.int .i64 (pos)) := K0_1.out.cell 9
  go_wp2_with fail
  refine (shortp_is m A n c _ l day pos true HL.out _ R0_1.out (Nat.le_refl _) (by omega)).mono ?_
  rintro e w2 ⟨rfl, hb⟩
  have HB2 := Lib.hid (show Below w.heap.size w w2 from step_below hb (by repeat' (first | exact Below.refl _ _ | exact HB1.out | refine below_drewN ?_ _ | refine Below.drew ?_ | refine Below.alloc ?_ (by first | omega | (simp; done) | (simp; omega) | (simp [World.setCell]; omega)) _ | refine Below.setCell ?_ (by first | omega | (simp; done) | (simp; omega)) _ | assumption)))
  have K0_2 := Lib.hid (step_blk hb (show Blk _ (w.heap.size) 62 #[.int .i64 (m.ls), .int .i64 (m.ms), .int .i64 (m.lo), .int .i64 (m.hi), .int .i64 (m.sp), .slice m.A1 m.n1 m.c1, .slice m.A2 m.n2 m.c2, .slice A n c, .int .i64 (day), .int .i64 (pos)] by repeat' (first | exact K0_1.out | exact Blk.at_ _ (by first | rfl | (simp; done) | (simp; omega)) _ _ | refine Blk.drewN ?_ _ | refine Blk.drew ?_ | refine Blk.alloc ?_ _ | refine Blk.far ?_ (by first | omega | (simp; done) | (simp; omega)) _ | assumption)))
  have hL2 := Lib.hid (show Below w1.heap.size w1 _ from reads_mid hb (by repeat' (first | exact Below.refl _ _ | refine below_drewN ?_ _ | refine Below.drew ?_ | refine Below.alloc ?_ (by first | omega | (simp; done) | (simp; omega) | (simp [World.setCell]; omega)) _ | refine Below.setCell ?_ (by first | omega | (simp; done) | (simp; omega)) _)))
  have R0_2 := Lib.hid (reads_lay hb hL2.out R0_1.out)
  have R1_2 := Lib.hid (mnt_lay hb hL2.out R1_1.out)
  have R2_2 := Lib.hid (reads_lay hb hL2.out R2_1.out)
  clear hL2 R0_1 R1_1 R2_1
  have hz2 := hb.size
  try simp only [World.size_alloc, World.drewN, World.drew] at hz2
  clear hb K0_1 z0_0_1 z0_1_1 z0_2_1 z0_3_1 z0_4_1 z0_5_1 z0_6_1 z0_7_1 z0_8_1 z0_9_1 l0_1
  have l0_2 : w.heap.size < w2.heap.size := K0_2.out.lt
  have z0_0_2 : w2.cell? ⟨w.heap.size, 0, none⟩ = some (.int .i64 (m.ls)) := K0_2.out.cell 0
  have z0_1_2 : w2.cell? ⟨w.heap.size, 1, none⟩ = some (.int .i64 (m.ms)) := K0_2.out.cell 1
  have z0_2_2 : w2.cell? ⟨w.heap.size, 2, none⟩ = some (.int .i64 (m.lo)) := K0_2.out.cell 2
  have z0_3_2 : w2.cell? ⟨w.heap.size, 3, none⟩ = some (.int .i64 (m.hi)) := K0_2.out.cell 3
  have z0_4_2 : w2.cell? ⟨w.heap.size, 4, none⟩ = some (.int .i64 (m.sp)) := K0_2.out.cell 4
  have z0_5_2 : w2.cell? ⟨w.heap.size, 5, none⟩ = some (.slice m.A1 m.n1 m.c1) := K0_2.out.cell 5
  have z0_6_2 : w2.cell? ⟨w.heap.size, 6, none⟩ = some (.slice m.A2 m.n2 m.c2) := K0_2.out.cell 6
  have z0_7_2 : w2.cell? ⟨w.heap.size, 7, none⟩ = some (.slice A n c) := K0_2.out.cell 7
  have z0_8_2 : w2.cell? ⟨w.heap.size, 8, none⟩ = some (.int .i64 (day)) := K0_2.out.cell 8
  have z0_9_2 : w2.cell? ⟨w.heap.size, 9, none⟩ = some (.int .i64 (pos)) := K0_2.out.cell 9
  go_wp2
  by_cases hT : (tourF m l day pos).2 = 0
  rotate_left
  · obtain ⟨i, E, hE⟩ : ∃ i E, tourF m l day pos = (i, E) := ⟨_, _, rfl⟩
    rw [hE] at hT
    simp only at hT
    have HE := Lib.hid hE
    have HE0 := Lib.hid hT
    have q3 : (E != 0) = true := by simpa using hT
    clear hE hT
    refine Fx.regionM (fun W g f w' => Kp (PfN nt ks 7) W g w') (fun i (x : Pick2) => .slice x.1.1 nt x.1.2) (by kernel_rfl) ?_ ?_
    · intro f hf0
      exact Kp.start
    first
    | (refine Fx.WM.skip 0 (by rfl) (by kernel_rfl) (by kernel_rfl) (by kernel_rfl) (by rfl) (fun g f w h => h) ?_; simp only [Act.put, List.setIfInBounds_toArray, List.set_cons_zero, List.set_cons_succ])
    | (refine Fx.WM.val_ 0 ?_ (by rfl) (by kernel_rfl) (by kernel_rfl) (by kernel_rfl) (by rfl) ?_ (fun g f w h => h) ?_
       rotate_left
       · intro g f w' hx hD hk
         obtain hkp := id hD
         have y0_0 := (K0_2.out.below hkp.bel l0_2).cell 0
         have y0_1 := (K0_2.out.below hkp.bel l0_2).cell 1
         have y0_2 := (K0_2.out.below hkp.bel l0_2).cell 2
         have y0_3 := (K0_2.out.below hkp.bel l0_2).cell 3
         have y0_4 := (K0_2.out.below hkp.bel l0_2).cell 4
         have y0_5 := (K0_2.out.below hkp.bel l0_2).cell 5
         have y0_6 := (K0_2.out.below hkp.bel l0_2).cell 6
         have y0_7 := (K0_2.out.below hkp.bel l0_2).cell 7
         have y0_8 := (K0_2.out.below hkp.bel l0_2).cell 8
         have y0_9 := (K0_2.out.below hkp.bel l0_2).cell 9
         clear hx hk hD hkp
         go_simp
         try rfl
       simp only [Act.put, List.setIfInBounds_toArray, List.set_cons_zero, List.set_cons_succ])
    first
    | (refine Fx.WM.skip 1 (by rfl) (by kernel_rfl) (by kernel_rfl) (by kernel_rfl) (by rfl) (fun g f w h => h) ?_; simp only [Act.put, List.setIfInBounds_toArray, List.set_cons_zero, List.set_cons_succ])
    | (refine Fx.WM.val_ 1 ?_ (by rfl) (by kernel_rfl) (by kernel_rfl) (by kernel_rfl) (by rfl) ?_ (fun g f w h => h) ?_
       rotate_left
       · intro g f w' hx hD hk
         obtain hkp := id hD
         have y0_0 := (K0_2.out.below hkp.bel l0_2).cell 0
         have y0_1 := (K0_2.out.below hkp.bel l0_2).cell 1
         have y0_2 := (K0_2.out.below hkp.bel l0_2).cell 2
         have y0_3 := (K0_2.out.below hkp.bel l0_2).cell 3
         have y0_4 := (K0_2.out.below hkp.bel l0_2).cell 4
         have y0_5 := (K0_2.out.below hkp.bel l0_2).cell 5
         have y0_6 := (K0_2.out.below hkp.bel l0_2).cell 6
         have y0_7 := (K0_2.out.below hkp.bel l0_2).cell 7
         have y0_8 := (K0_2.out.below hkp.bel l0_2).cell 8
         have y0_9 := (K0_2.out.below hkp.bel l0_2).cell 9
         clear hx hk hD hkp
         go_simp
         try rfl
       simp only [Act.put, List.setIfInBounds_toArray, List.set_cons_zero, List.set_cons_succ])
    first
    | (refine Fx.WM.skip 2 (by rfl) (by kernel_rfl) (by kernel_rfl) (by kernel_rfl) (by rfl) (fun g f w h => h) ?_; simp only [Act.put, List.setIfInBounds_toArray, List.set_cons_zero, List.set_cons_succ])
    | (refine Fx.WM.val_ 2 ?_ (by rfl) (by kernel_rfl) (by kernel_rfl) (by kernel_rfl) (by rfl) ?_ (fun g f w h => h) ?_
       rotate_left
       · intro g f w' hx hD hk
         obtain hkp := id hD
         have y0_0 := (K0_2.out.below hkp.bel l0_2).cell 0
         have y0_1 := (K0_2.out.below hkp.bel l0_2).cell 1
         have y0_2 := (K0_2.out.below hkp.bel l0_2).cell 2
         have y0_3 := (K0_2.out.below hkp.bel l0_2).cell 3
         have y0_4 := (K0_2.out.below hkp.bel l0_2).cell 4
         have y0_5 := (K0_2.out.below hkp.bel l0_2).cell 5
         have y0_6 := (K0_2.out.below hkp.bel l0_2).cell 6
         have y0_7 := (K0_2.out.below hkp.bel l0_2).cell 7
         have y0_8 := (K0_2.out.below hkp.bel l0_2).cell 8
         have y0_9 := (K0_2.out.below hkp.bel l0_2).cell 9
         clear hx hk hD hkp
         go_simp
         try rfl
       simp only [Act.put, List.setIfInBounds_toArray, List.set_cons_zero, List.set_cons_succ])
    first
    | (refine Fx.WM.skip 3 (by rfl) (by kernel_rfl) (by kernel_rfl) (by kernel_rfl) (by rfl) (fun g f w h => h) ?_; simp only [Act.put, List.setIfInBounds_toArray, List.set_cons_zero, List.set_cons_succ])
    | (refine Fx.WM.val_ 3 ?_ (by rfl) (by kernel_rfl) (by kernel_rfl) (by kernel_rfl) (by rfl) ?_ (fun g f w h => h) ?_
       rotate_left
       · intro g f w' hx hD hk
         obtain hkp := id hD
         have y0_0 := (K0_2.out.below hkp.bel l0_2).cell 0
         have y0_1 := (K0_2.out.below hkp.bel l0_2).cell 1
         have y0_2 := (K0_2.out.below hkp.bel l0_2).cell 2
         have y0_3 := (K0_2.out.below hkp.bel l0_2).cell 3
         have y0_4 := (K0_2.out.below hkp.bel l0_2).cell 4
         have y0_5 := (K0_2.out.below hkp.bel l0_2).cell 5
         have y0_6 := (K0_2.out.below hkp.bel l0_2).cell 6
         have y0_7 := (K0_2.out.below hkp.bel l0_2).cell 7
         have y0_8 := (K0_2.out.below hkp.bel l0_2).cell 8
         have y0_9 := (K0_2.out.below hkp.bel l0_2).cell 9
         clear hx hk hD hkp
         go_simp
         try rfl
       simp only [Act.put, List.setIfInBounds_toArray, List.set_cons_zero, List.set_cons_succ])
    first
    | (refine Fx.WM.skip 4 (by rfl) (by kernel_rfl) (by kernel_rfl) (by kernel_rfl) (by rfl) (fun g f w h => h) ?_; simp only [Act.put, List.setIfInBounds_toArray, List.set_cons_zero, List.set_cons_succ])
    | (refine Fx.WM.val_ 4 ?_ (by rfl) (by kernel_rfl) (by kernel_rfl) (by kernel_rfl) (by rfl) ?_ (fun g f w h => h) ?_
       rotate_left
       · intro g f w' hx hD hk
         obtain hkp := id hD
         have y0_0 := (K0_2.out.below hkp.bel l0_2).cell 0
         have y0_1 := (K0_2.out.below hkp.bel l0_2).cell 1
         have y0_2 := (K0_2.out.below hkp.bel l0_2).cell 2
         have y0_3 := (K0_2.out.below hkp.bel l0_2).cell 3
         have y0_4 := (K0_2.out.below hkp.bel l0_2).cell 4
         have y0_5 := (K0_2.out.below hkp.bel l0_2).cell 5
         have y0_6 := (K0_2.out.below hkp.bel l0_2).cell 6
         have y0_7 := (K0_2.out.below hkp.bel l0_2).cell 7
         have y0_8 := (K0_2.out.below hkp.bel l0_2).cell 8
         have y0_9 := (K0_2.out.below hkp.bel l0_2).cell 9
         clear hx hk hD hkp
         go_simp
         try rfl
       simp only [Act.put, List.setIfInBounds_toArray, List.set_cons_zero, List.set_cons_succ])
    first
    | (refine Fx.WM.skip 5 (by rfl) (by kernel_rfl) (by kernel_rfl) (by kernel_rfl) (by rfl) (fun g f w h => h) ?_; simp only [Act.put, List.setIfInBounds_toArray, List.set_cons_zero, List.set_cons_succ])
    | (refine Fx.WM.val_ 5 ?_ (by rfl) (by kernel_rfl) (by kernel_rfl) (by kernel_rfl) (by rfl) ?_ (fun g f w h => h) ?_
       rotate_left
       · intro g f w' hx hD hk
         obtain hkp := id hD
         have y0_0 := (K0_2.out.below hkp.bel l0_2).cell 0
         have y0_1 := (K0_2.out.below hkp.bel l0_2).cell 1
         have y0_2 := (K0_2.out.below hkp.bel l0_2).cell 2
         have y0_3 := (K0_2.out.below hkp.bel l0_2).cell 3
         have y0_4 := (K0_2.out.below hkp.bel l0_2).cell 4
         have y0_5 := (K0_2.out.below hkp.bel l0_2).cell 5
         have y0_6 := (K0_2.out.below hkp.bel l0_2).cell 6
         have y0_7 := (K0_2.out.below hkp.bel l0_2).cell 7
         have y0_8 := (K0_2.out.below hkp.bel l0_2).cell 8
         have y0_9 := (K0_2.out.below hkp.bel l0_2).cell 9
         clear hx hk hD hkp
         go_simp
         try rfl
       simp only [Act.put, List.setIfInBounds_toArray, List.set_cons_zero, List.set_cons_succ])
    first
    | (refine Fx.WM.skip 6 (by rfl) (by kernel_rfl) (by kernel_rfl) (by kernel_rfl) (by rfl) (fun g f w h => h) ?_; simp only [Act.put, List.setIfInBounds_toArray, List.set_cons_zero, List.set_cons_succ])
    | (refine Fx.WM.val_ 6 ?_ (by rfl) (by kernel_rfl) (by kernel_rfl) (by kernel_rfl) (by rfl) ?_ (fun g f w h => h) ?_
       rotate_left
       · intro g f w' hx hD hk
         obtain hkp := id hD
         have y0_0 := (K0_2.out.below hkp.bel l0_2).cell 0
         have y0_1 := (K0_2.out.below hkp.bel l0_2).cell 1
         have y0_2 := (K0_2.out.below hkp.bel l0_2).cell 2
         have y0_3 := (K0_2.out.below hkp.bel l0_2).cell 3
         have y0_4 := (K0_2.out.below hkp.bel l0_2).cell 4
         have y0_5 := (K0_2.out.below hkp.bel l0_2).cell 5
         have y0_6 := (K0_2.out.below hkp.bel l0_2).cell 6
         have y0_7 := (K0_2.out.below hkp.bel l0_2).cell 7
         have y0_8 := (K0_2.out.below hkp.bel l0_2).cell 8
         have y0_9 := (K0_2.out.below hkp.bel l0_2).cell 9
         clear hx hk hD hkp
         go_simp
         try rfl
       simp only [Act.put, List.setIfInBounds_toArray, List.set_cons_zero, List.set_cons_succ])
    refine Fx.WM.choose 7 (by rfl) (by kernel_rfl) (by rfl) ?_ ?_
    · skip
      refine Fx.Chooses.call ?_ ?_ (by rfl) ?_ ?_
      rotate_left 2
      · intro w'
        go_simp
        refine ⟨?_, ?_⟩ <;> rfl
      · intro f w' hD hk
        exact (copyints_any At nt ct w'.heap.size ks w' ((R2_2.out.below hD.bel).more hD.bel.size) (Nat.le_refl _) (by omega)).mono fun e w'' ⟨A', c', he, hb, hr, ho⟩ => ⟨((A', c'), (none, 0)), he, hD.choose PfN.stb hb 7 _ fun _ => ⟨hr, own_cap ho⟩⟩
    intro z
    simp only [Act.put, List.setIfInBounds_toArray, List.set_cons_zero, List.set_cons_succ]
    refine Fx.WM.call 8 (.tuple #[.int .i64 (0), .int .i64 (E)]) ?_ ?_ (by rfl) (by kernel_rfl) (by kernel_rfl) (by kernel_rfl) (by rfl) ?_ ?_ ?_
    rotate_left 2
    · intro w'
      go_simp
      refine ⟨?_, ?_⟩ <;> rfl
    · intro g f w' hx hD hk
      exact (pchoice_bad m day pos l A n c z.1.1 nt z.1.2 i E HE.out HE0.out w' (R1_2.out.lay hD.bel) ((R0_2.out.below hD.bel).more hD.bel.size) ⟨by omega, by omega⟩ HF.out).mono fun e w'' ⟨he, hw⟩ => ⟨he, hD.call PfN.stb hw⟩
    simp only [Act.put, List.setIfInBounds_toArray, List.set_cons_zero, List.set_cons_succ]
    first
    | (refine Fx.WM.skip 9 (by rfl) (by kernel_rfl) (by kernel_rfl) (by kernel_rfl) (by rfl) (fun g f w h => h) ?_; simp only [Act.put, List.setIfInBounds_toArray, List.set_cons_zero, List.set_cons_succ])
    | (refine Fx.WM.val_ 9 ?_ (by rfl) (by kernel_rfl) (by kernel_rfl) (by kernel_rfl) (by rfl) ?_ (fun g f w h => h) ?_
       rotate_left
       · intro g f w' hx hD hk
         obtain hkp := id hD
         clear hx hk hD hkp
         go_simp
         try rfl
       simp only [Act.put, List.setIfInBounds_toArray, List.set_cons_zero, List.set_cons_succ])
    first
    | (refine Fx.WM.skip 10 (by rfl) (by kernel_rfl) (by kernel_rfl) (by kernel_rfl) (by rfl) (fun g f w h => h) ?_; simp only [Act.put, List.setIfInBounds_toArray, List.set_cons_zero, List.set_cons_succ])
    | (refine Fx.WM.val_ 10 ?_ (by rfl) (by kernel_rfl) (by kernel_rfl) (by kernel_rfl) (by rfl) ?_ (fun g f w h => h) ?_
       rotate_left
       · intro g f w' hx hD hk
         obtain hkp := id hD
         clear hx hk hD hkp
         go_simp
         try rfl
       simp only [Act.put, List.setIfInBounds_toArray, List.set_cons_zero, List.set_cons_succ])
    first
    | (refine Fx.WM.skip 11 (by rfl) (by kernel_rfl) (by kernel_rfl) (by kernel_rfl) (by rfl) (fun g f w h => h) ?_; simp only [Act.put, List.setIfInBounds_toArray, List.set_cons_zero, List.set_cons_succ])
    | (refine Fx.WM.val_ 11 ?_ (by rfl) (by kernel_rfl) (by kernel_rfl) (by kernel_rfl) (by rfl) ?_ (fun g f w h => h) ?_
       rotate_left
       · intro g f w' hx hD hk
         obtain hkp := id hD
         clear hx hk hD hkp
         go_simp
         try rfl
       simp only [Act.put, List.setIfInBounds_toArray, List.set_cons_zero, List.set_cons_succ])
    first
    | (refine Fx.WM.skip 12 (by rfl) (by kernel_rfl) (by kernel_rfl) (by kernel_rfl) (by rfl) (fun g f w h => h) ?_; simp only [Act.put, List.setIfInBounds_toArray, List.set_cons_zero, List.set_cons_succ])
    | (refine Fx.WM.val_ 12 ?_ (by rfl) (by kernel_rfl) (by kernel_rfl) (by kernel_rfl) (by rfl) ?_ (fun g f w h => h) ?_
       rotate_left
       · intro g f w' hx hD hk
         obtain hkp := id hD
         clear hx hk hD hkp
         go_simp
         try rfl
       simp only [Act.put, List.setIfInBounds_toArray, List.set_cons_zero, List.set_cons_succ])
    first
    | (refine Fx.WM.skip 13 (by rfl) (by kernel_rfl) (by kernel_rfl) (by kernel_rfl) (by rfl) (fun g f w h => h) ?_; simp only [Act.put, List.setIfInBounds_toArray, List.set_cons_zero, List.set_cons_succ])
    | (refine Fx.WM.val_ 13 ?_ (by rfl) (by kernel_rfl) (by kernel_rfl) (by kernel_rfl) (by rfl) ?_ (fun g f w h => h) ?_
       rotate_left
       · intro g f w' hx hD hk
         obtain hkp := id hD
         clear hx hk hD hkp
         go_simp
         try rfl
       simp only [Act.put, List.setIfInBounds_toArray, List.set_cons_zero, List.set_cons_succ])
    refine Fx.WM.nil (by kernel_rfl) ?_
    intro wz hkp
    have hb := hkp.bel
    clear hkp
    obtain ⟨w3, hnm⟩ : ∃ z : World, z = wz := ⟨_, rfl⟩
    subst hnm
    have HB3 := Lib.hid (show Below w.heap.size w w3 from step_below hb (by repeat' (first | exact Below.refl _ _ | exact HB2.out | refine below_drewN ?_ _ | refine Below.drew ?_ | refine Below.alloc ?_ (by first | omega | (simp; done) | (simp; omega) | (simp [World.setCell]; omega)) _ | refine Below.setCell ?_ (by first | omega | (simp; done) | (simp; omega)) _ | assumption)))
    have K0_3 := Lib.hid (step_blk hb (show Blk _ (w.heap.size) 62 #[.int .i64 (m.ls), .int .i64 (m.ms), .int .i64 (m.lo), .int .i64 (m.hi), .int .i64 (m.sp), .slice m.A1 m.n1 m.c1, .slice m.A2 m.n2 m.c2, .slice A n c, .int .i64 (day), .int .i64 (pos)] by repeat' (first | exact K0_2.out | exact Blk.at_ _ (by first | rfl | (simp; done) | (simp; omega)) _ _ | refine Blk.drewN ?_ _ | refine Blk.drew ?_ | refine Blk.alloc ?_ _ | refine Blk.far ?_ (by first | omega | (simp; done) | (simp; omega)) _ | assumption)))
    have hL3 := Lib.hid (show Below w2.heap.size w2 _ from reads_mid hb (by repeat' (first | exact Below.refl _ _ | refine below_drewN ?_ _ | refine Below.drew ?_ | refine Below.alloc ?_ (by first | omega | (simp; done) | (simp; omega) | (simp [World.setCell]; omega)) _ | refine Below.setCell ?_ (by first | omega | (simp; done) | (simp; omega)) _)))
    have R0_3 := Lib.hid (reads_lay hb hL3.out R0_2.out)
    have R1_3 := Lib.hid (mnt_lay hb hL3.out R1_2.out)
    have R2_3 := Lib.hid (reads_lay hb hL3.out R2_2.out)
    clear hL3 R0_2 R1_2 R2_2
    have hz3 := hb.size
    try simp only [World.size_alloc, World.drewN, World.drew] at hz3
    clear hb K0_2 z0_0_2 z0_1_2 z0_2_2 z0_3_2 z0_4_2 z0_5_2 z0_6_2 z0_7_2 z0_8_2 z0_9_2 l0_2
    have l0_3 : w.heap.size < w3.heap.size := K0_3.out.lt
    have z0_0_3 : w3.cell? ⟨w.heap.size, 0, none⟩ = some (.int .i64 (m.ls)) := K0_3.out.cell 0
    have z0_1_3 : w3.cell? ⟨w.heap.size, 1, none⟩ = some (.int .i64 (m.ms)) := K0_3.out.cell 1
    have z0_2_3 : w3.cell? ⟨w.heap.size, 2, none⟩ = some (.int .i64 (m.lo)) := K0_3.out.cell 2
    have z0_3_3 : w3.cell? ⟨w.heap.size, 3, none⟩ = some (.int .i64 (m.hi)) := K0_3.out.cell 3
    have z0_4_3 : w3.cell? ⟨w.heap.size, 4, none⟩ = some (.int .i64 (m.sp)) := K0_3.out.cell 4
    have z0_5_3 : w3.cell? ⟨w.heap.size, 5, none⟩ = some (.slice m.A1 m.n1 m.c1) := K0_3.out.cell 5
    have z0_6_3 : w3.cell? ⟨w.heap.size, 6, none⟩ = some (.slice m.A2 m.n2 m.c2) := K0_3.out.cell 6
    have z0_7_3 : w3.cell? ⟨w.heap.size, 7, none⟩ = some (.slice A n c) := K0_3.out.cell 7
    have z0_8_3 : w3.cell? ⟨w.heap.size, 8, none⟩ = some (.int .i64 (day)) := K0_3.out.cell 8
    have z0_9_3 : w3.cell? ⟨w.heap.size, 9, none⟩ = some (.int .i64 (pos)) := K0_3.out.cell 9
    go_wp2
    go_ret
    exact ⟨rfl, by repeat' (first | exact Below.refl _ _ | exact HB3.out | refine below_drewN ?_ _ | refine Below.drew ?_ | refine Below.alloc ?_ (by first | omega | (simp; done) | (simp; omega) | (simp [World.setCell]; omega)) _ | refine Below.setCell ?_ (by first | omega | (simp; done) | (simp; omega)) _ | assumption)⟩
  obtain ⟨C, E, hC⟩ : ∃ C E, choiceF m l day pos ks = (C, E) := ⟨_, _, rfl⟩
  obtain ⟨V, hV⟩ : ∃ V, leastC m day pos l = V := ⟨_, rfl⟩
  have hle : E = 0 → V ≤ C ∧ 0 ≤ V ∧ C ≤ 2000000000000 := fun h0 => by
    subst h0
    obtain ⟨r1, -, r3, r5, -⟩ := tour_right hT
    have hne := tour_pos hT
    unfold choiceF at hC
    by_cases hp : pathErr m day l ks ≠ 0
    · rw [if_pos hp] at hC
      exact absurd (Prod.mk.inj hC).2 hp
    · rw [if_neg hp] at hC
      have hp := Decidable.not_not.1 hp
      have h1 := leastC_le (pos := pos) hne hp
      have h2 := dpB_in r1 r3 hne l.length (Nat.le_refl _) _ (leastC_mem hne)
      obtain ⟨hkl, hpo⟩ := pathErr_ok hp
      have hrng := path_range hpo
      obtain ⟨⟨q1, q2, q3, q4⟩, -⟩ := mnt_right r1
      have hPR : ∀ z ∈ pathL m day l ks, PosR z := fun z hz => by have := hrng z hz; unfold PosR; omega
      have h3 := costL_bound (pathL m day l ks) pos (by unfold PosR; omega) hPR
      rw [pathL_len hkl] at h3
      rw [(Prod.mk.inj hC).1] at h1 h3
      rw [hV] at h1 h2
      omega
  have HC := Lib.hid hC
  have HV := Lib.hid hV
  have HZ0 := Lib.hid hT
  have HLE := Lib.hid hle
  clear hC hV hT hle
  refine Fx.regionM (fun W g f w' => Kp (PfN nt ks 7) W g w') (fun i (x : Pick2) => .slice x.1.1 nt x.1.2) (by kernel_rfl) ?_ ?_
  · intro f hf0
    exact Kp.start
  first
  | (refine Fx.WM.skip 0 (by rfl) (by kernel_rfl) (by kernel_rfl) (by kernel_rfl) (by rfl) (fun g f w h => h) ?_; simp only [Act.put, List.setIfInBounds_toArray, List.set_cons_zero, List.set_cons_succ])
  | (refine Fx.WM.val_ 0 ?_ (by rfl) (by kernel_rfl) (by kernel_rfl) (by kernel_rfl) (by rfl) ?_ (fun g f w h => h) ?_
     rotate_left
     · intro g f w' hx hD hk
       obtain hkp := id hD
       have y0_0 := (K0_2.out.below hkp.bel l0_2).cell 0
       have y0_1 := (K0_2.out.below hkp.bel l0_2).cell 1
       have y0_2 := (K0_2.out.below hkp.bel l0_2).cell 2
       have y0_3 := (K0_2.out.below hkp.bel l0_2).cell 3
       have y0_4 := (K0_2.out.below hkp.bel l0_2).cell 4
       have y0_5 := (K0_2.out.below hkp.bel l0_2).cell 5
       have y0_6 := (K0_2.out.below hkp.bel l0_2).cell 6
       have y0_7 := (K0_2.out.below hkp.bel l0_2).cell 7
       have y0_8 := (K0_2.out.below hkp.bel l0_2).cell 8
       have y0_9 := (K0_2.out.below hkp.bel l0_2).cell 9
       clear hx hk hD hkp
       go_simp
       try rfl
     simp only [Act.put, List.setIfInBounds_toArray, List.set_cons_zero, List.set_cons_succ])
  first
  | (refine Fx.WM.skip 1 (by rfl) (by kernel_rfl) (by kernel_rfl) (by kernel_rfl) (by rfl) (fun g f w h => h) ?_; simp only [Act.put, List.setIfInBounds_toArray, List.set_cons_zero, List.set_cons_succ])
  | (refine Fx.WM.val_ 1 ?_ (by rfl) (by kernel_rfl) (by kernel_rfl) (by kernel_rfl) (by rfl) ?_ (fun g f w h => h) ?_
     rotate_left
     · intro g f w' hx hD hk
       obtain hkp := id hD
       have y0_0 := (K0_2.out.below hkp.bel l0_2).cell 0
       have y0_1 := (K0_2.out.below hkp.bel l0_2).cell 1
       have y0_2 := (K0_2.out.below hkp.bel l0_2).cell 2
       have y0_3 := (K0_2.out.below hkp.bel l0_2).cell 3
       have y0_4 := (K0_2.out.below hkp.bel l0_2).cell 4
       have y0_5 := (K0_2.out.below hkp.bel l0_2).cell 5
       have y0_6 := (K0_2.out.below hkp.bel l0_2).cell 6
       have y0_7 := (K0_2.out.below hkp.bel l0_2).cell 7
       have y0_8 := (K0_2.out.below hkp.bel l0_2).cell 8
       have y0_9 := (K0_2.out.below hkp.bel l0_2).cell 9
       clear hx hk hD hkp
       go_simp
       try rfl
     simp only [Act.put, List.setIfInBounds_toArray, List.set_cons_zero, List.set_cons_succ])
  first
  | (refine Fx.WM.skip 2 (by rfl) (by kernel_rfl) (by kernel_rfl) (by kernel_rfl) (by rfl) (fun g f w h => h) ?_; simp only [Act.put, List.setIfInBounds_toArray, List.set_cons_zero, List.set_cons_succ])
  | (refine Fx.WM.val_ 2 ?_ (by rfl) (by kernel_rfl) (by kernel_rfl) (by kernel_rfl) (by rfl) ?_ (fun g f w h => h) ?_
     rotate_left
     · intro g f w' hx hD hk
       obtain hkp := id hD
       have y0_0 := (K0_2.out.below hkp.bel l0_2).cell 0
       have y0_1 := (K0_2.out.below hkp.bel l0_2).cell 1
       have y0_2 := (K0_2.out.below hkp.bel l0_2).cell 2
       have y0_3 := (K0_2.out.below hkp.bel l0_2).cell 3
       have y0_4 := (K0_2.out.below hkp.bel l0_2).cell 4
       have y0_5 := (K0_2.out.below hkp.bel l0_2).cell 5
       have y0_6 := (K0_2.out.below hkp.bel l0_2).cell 6
       have y0_7 := (K0_2.out.below hkp.bel l0_2).cell 7
       have y0_8 := (K0_2.out.below hkp.bel l0_2).cell 8
       have y0_9 := (K0_2.out.below hkp.bel l0_2).cell 9
       clear hx hk hD hkp
       go_simp
       try rfl
     simp only [Act.put, List.setIfInBounds_toArray, List.set_cons_zero, List.set_cons_succ])
  first
  | (refine Fx.WM.skip 3 (by rfl) (by kernel_rfl) (by kernel_rfl) (by kernel_rfl) (by rfl) (fun g f w h => h) ?_; simp only [Act.put, List.setIfInBounds_toArray, List.set_cons_zero, List.set_cons_succ])
  | (refine Fx.WM.val_ 3 ?_ (by rfl) (by kernel_rfl) (by kernel_rfl) (by kernel_rfl) (by rfl) ?_ (fun g f w h => h) ?_
     rotate_left
     · intro g f w' hx hD hk
       obtain hkp := id hD
       have y0_0 := (K0_2.out.below hkp.bel l0_2).cell 0
       have y0_1 := (K0_2.out.below hkp.bel l0_2).cell 1
       have y0_2 := (K0_2.out.below hkp.bel l0_2).cell 2
       have y0_3 := (K0_2.out.below hkp.bel l0_2).cell 3
       have y0_4 := (K0_2.out.below hkp.bel l0_2).cell 4
       have y0_5 := (K0_2.out.below hkp.bel l0_2).cell 5
       have y0_6 := (K0_2.out.below hkp.bel l0_2).cell 6
       have y0_7 := (K0_2.out.below hkp.bel l0_2).cell 7
       have y0_8 := (K0_2.out.below hkp.bel l0_2).cell 8
       have y0_9 := (K0_2.out.below hkp.bel l0_2).cell 9
       clear hx hk hD hkp
       go_simp
       try rfl
     simp only [Act.put, List.setIfInBounds_toArray, List.set_cons_zero, List.set_cons_succ])
  first
  | (refine Fx.WM.skip 4 (by rfl) (by kernel_rfl) (by kernel_rfl) (by kernel_rfl) (by rfl) (fun g f w h => h) ?_; simp only [Act.put, List.setIfInBounds_toArray, List.set_cons_zero, List.set_cons_succ])
  | (refine Fx.WM.val_ 4 ?_ (by rfl) (by kernel_rfl) (by kernel_rfl) (by kernel_rfl) (by rfl) ?_ (fun g f w h => h) ?_
     rotate_left
     · intro g f w' hx hD hk
       obtain hkp := id hD
       have y0_0 := (K0_2.out.below hkp.bel l0_2).cell 0
       have y0_1 := (K0_2.out.below hkp.bel l0_2).cell 1
       have y0_2 := (K0_2.out.below hkp.bel l0_2).cell 2
       have y0_3 := (K0_2.out.below hkp.bel l0_2).cell 3
       have y0_4 := (K0_2.out.below hkp.bel l0_2).cell 4
       have y0_5 := (K0_2.out.below hkp.bel l0_2).cell 5
       have y0_6 := (K0_2.out.below hkp.bel l0_2).cell 6
       have y0_7 := (K0_2.out.below hkp.bel l0_2).cell 7
       have y0_8 := (K0_2.out.below hkp.bel l0_2).cell 8
       have y0_9 := (K0_2.out.below hkp.bel l0_2).cell 9
       clear hx hk hD hkp
       go_simp
       try rfl
     simp only [Act.put, List.setIfInBounds_toArray, List.set_cons_zero, List.set_cons_succ])
  first
  | (refine Fx.WM.skip 5 (by rfl) (by kernel_rfl) (by kernel_rfl) (by kernel_rfl) (by rfl) (fun g f w h => h) ?_; simp only [Act.put, List.setIfInBounds_toArray, List.set_cons_zero, List.set_cons_succ])
  | (refine Fx.WM.val_ 5 ?_ (by rfl) (by kernel_rfl) (by kernel_rfl) (by kernel_rfl) (by rfl) ?_ (fun g f w h => h) ?_
     rotate_left
     · intro g f w' hx hD hk
       obtain hkp := id hD
       have y0_0 := (K0_2.out.below hkp.bel l0_2).cell 0
       have y0_1 := (K0_2.out.below hkp.bel l0_2).cell 1
       have y0_2 := (K0_2.out.below hkp.bel l0_2).cell 2
       have y0_3 := (K0_2.out.below hkp.bel l0_2).cell 3
       have y0_4 := (K0_2.out.below hkp.bel l0_2).cell 4
       have y0_5 := (K0_2.out.below hkp.bel l0_2).cell 5
       have y0_6 := (K0_2.out.below hkp.bel l0_2).cell 6
       have y0_7 := (K0_2.out.below hkp.bel l0_2).cell 7
       have y0_8 := (K0_2.out.below hkp.bel l0_2).cell 8
       have y0_9 := (K0_2.out.below hkp.bel l0_2).cell 9
       clear hx hk hD hkp
       go_simp
       try rfl
     simp only [Act.put, List.setIfInBounds_toArray, List.set_cons_zero, List.set_cons_succ])
  first
  | (refine Fx.WM.skip 6 (by rfl) (by kernel_rfl) (by kernel_rfl) (by kernel_rfl) (by rfl) (fun g f w h => h) ?_; simp only [Act.put, List.setIfInBounds_toArray, List.set_cons_zero, List.set_cons_succ])
  | (refine Fx.WM.val_ 6 ?_ (by rfl) (by kernel_rfl) (by kernel_rfl) (by kernel_rfl) (by rfl) ?_ (fun g f w h => h) ?_
     rotate_left
     · intro g f w' hx hD hk
       obtain hkp := id hD
       have y0_0 := (K0_2.out.below hkp.bel l0_2).cell 0
       have y0_1 := (K0_2.out.below hkp.bel l0_2).cell 1
       have y0_2 := (K0_2.out.below hkp.bel l0_2).cell 2
       have y0_3 := (K0_2.out.below hkp.bel l0_2).cell 3
       have y0_4 := (K0_2.out.below hkp.bel l0_2).cell 4
       have y0_5 := (K0_2.out.below hkp.bel l0_2).cell 5
       have y0_6 := (K0_2.out.below hkp.bel l0_2).cell 6
       have y0_7 := (K0_2.out.below hkp.bel l0_2).cell 7
       have y0_8 := (K0_2.out.below hkp.bel l0_2).cell 8
       have y0_9 := (K0_2.out.below hkp.bel l0_2).cell 9
       clear hx hk hD hkp
       go_simp
       try rfl
     simp only [Act.put, List.setIfInBounds_toArray, List.set_cons_zero, List.set_cons_succ])
  refine Fx.WM.choose 7 (by rfl) (by kernel_rfl) (by rfl) ?_ ?_
  · skip
    refine Fx.Chooses.call ?_ ?_ (by rfl) ?_ ?_
    rotate_left 2
    · intro w'
      go_simp
      refine ⟨?_, ?_⟩ <;> rfl
    · intro f w' hD hk
      exact (copyints_any At nt ct w'.heap.size ks w' ((R2_2.out.below hD.bel).more hD.bel.size) (Nat.le_refl _) (by omega)).mono fun e w'' ⟨A', c', he, hb, hr, ho⟩ => ⟨((A', c'), (none, 0)), he, hD.choose PfN.stb hb 7 _ fun _ => ⟨hr, own_cap ho⟩⟩
  intro z
  simp only [Act.put, List.setIfInBounds_toArray, List.set_cons_zero, List.set_cons_succ]
  refine Fx.WM.call 8 (.tuple #[.int .i64 (C), .int .i64 (E)]) ?_ ?_ (by rfl) (by kernel_rfl) (by kernel_rfl) (by kernel_rfl) (by rfl) ?_ ?_ ?_
  rotate_left 2
  · intro w'
    go_simp
    refine ⟨?_, ?_⟩ <;> rfl
  · intro g f w' hx hD hk
    exact (pchoice_is m day pos l A n c z.1.1 nt z.1.2 ks C E HC.out w' (R1_2.out.lay hD.bel) ((R0_2.out.below hD.bel).more hD.bel.size) ⟨by omega, by omega⟩ HF.out (hD.has 7 z (hx 7 _ (by rfl)) rfl).1 (hD.has 7 z (hx 7 _ (by rfl)) rfl).2 HZ0.out).mono fun e w'' ⟨he, hw⟩ => ⟨he, hD.call PfN.stb hw⟩
  simp only [Act.put, List.setIfInBounds_toArray, List.set_cons_zero, List.set_cons_succ]
  first
  | (refine Fx.WM.skip 9 (by rfl) (by kernel_rfl) (by kernel_rfl) (by kernel_rfl) (by rfl) (fun g f w h => h) ?_; simp only [Act.put, List.setIfInBounds_toArray, List.set_cons_zero, List.set_cons_succ])
  | (refine Fx.WM.val_ 9 ?_ (by rfl) (by kernel_rfl) (by kernel_rfl) (by kernel_rfl) (by rfl) ?_ (fun g f w h => h) ?_
     rotate_left
     · intro g f w' hx hD hk
       obtain hkp := id hD
       clear hx hk hD hkp
       go_simp
       try rfl
     simp only [Act.put, List.setIfInBounds_toArray, List.set_cons_zero, List.set_cons_succ])
  first
  | (refine Fx.WM.skip 10 (by rfl) (by kernel_rfl) (by kernel_rfl) (by kernel_rfl) (by rfl) (fun g f w h => h) ?_; simp only [Act.put, List.setIfInBounds_toArray, List.set_cons_zero, List.set_cons_succ])
  | (refine Fx.WM.val_ 10 ?_ (by rfl) (by kernel_rfl) (by kernel_rfl) (by kernel_rfl) (by rfl) ?_ (fun g f w h => h) ?_
     rotate_left
     · intro g f w' hx hD hk
       obtain hkp := id hD
       clear hx hk hD hkp
       go_simp
       try rfl
     simp only [Act.put, List.setIfInBounds_toArray, List.set_cons_zero, List.set_cons_succ])
  first
  | (refine Fx.WM.skip 11 (by rfl) (by kernel_rfl) (by kernel_rfl) (by kernel_rfl) (by rfl) (fun g f w h => h) ?_; simp only [Act.put, List.setIfInBounds_toArray, List.set_cons_zero, List.set_cons_succ])
  | (refine Fx.WM.val_ 11 ?_ (by rfl) (by kernel_rfl) (by kernel_rfl) (by kernel_rfl) (by rfl) ?_ (fun g f w h => h) ?_
     rotate_left
     · intro g f w' hx hD hk
       obtain hkp := id hD
       clear hx hk hD hkp
       go_simp
       try rfl
     simp only [Act.put, List.setIfInBounds_toArray, List.set_cons_zero, List.set_cons_succ])
  first
  | (refine Fx.WM.skip 12 (by rfl) (by kernel_rfl) (by kernel_rfl) (by kernel_rfl) (by rfl) (fun g f w h => h) ?_; simp only [Act.put, List.setIfInBounds_toArray, List.set_cons_zero, List.set_cons_succ])
  | (refine Fx.WM.val_ 12 ?_ (by rfl) (by kernel_rfl) (by kernel_rfl) (by kernel_rfl) (by rfl) ?_ (fun g f w h => h) ?_
     rotate_left
     · intro g f w' hx hD hk
       obtain hkp := id hD
       clear hx hk hD hkp
       go_simp
       try rfl
     simp only [Act.put, List.setIfInBounds_toArray, List.set_cons_zero, List.set_cons_succ])
  first
  | (refine Fx.WM.skip 13 (by rfl) (by kernel_rfl) (by kernel_rfl) (by kernel_rfl) (by rfl) (fun g f w h => h) ?_; simp only [Act.put, List.setIfInBounds_toArray, List.set_cons_zero, List.set_cons_succ])
  | (refine Fx.WM.val_ 13 ?_ (by rfl) (by kernel_rfl) (by kernel_rfl) (by kernel_rfl) (by rfl) ?_ (fun g f w h => h) ?_
     rotate_left
     · intro g f w' hx hD hk
       obtain hkp := id hD
       clear hx hk hD hkp
       go_simp
       try rfl
     simp only [Act.put, List.setIfInBounds_toArray, List.set_cons_zero, List.set_cons_succ])
  refine Fx.WM.nil (by kernel_rfl) ?_
  intro wz hkp
  have hb := hkp.bel
  clear hkp
  obtain ⟨w3, hnm⟩ : ∃ z : World, z = wz := ⟨_, rfl⟩
  subst hnm
  have HB3 := Lib.hid (show Below w.heap.size w w3 from step_below hb (by repeat' (first | exact Below.refl _ _ | exact HB2.out | refine below_drewN ?_ _ | refine Below.drew ?_ | refine Below.alloc ?_ (by first | omega | (simp; done) | (simp; omega) | (simp [World.setCell]; omega)) _ | refine Below.setCell ?_ (by first | omega | (simp; done) | (simp; omega)) _ | assumption)))
  have K0_3 := Lib.hid (step_blk hb (show Blk _ (w.heap.size) 62 #[.int .i64 (m.ls), .int .i64 (m.ms), .int .i64 (m.lo), .int .i64 (m.hi), .int .i64 (m.sp), .slice m.A1 m.n1 m.c1, .slice m.A2 m.n2 m.c2, .slice A n c, .int .i64 (day), .int .i64 (pos)] by repeat' (first | exact K0_2.out | exact Blk.at_ _ (by first | rfl | (simp; done) | (simp; omega)) _ _ | refine Blk.drewN ?_ _ | refine Blk.drew ?_ | refine Blk.alloc ?_ _ | refine Blk.far ?_ (by first | omega | (simp; done) | (simp; omega)) _ | assumption)))
  have hL3 := Lib.hid (show Below w2.heap.size w2 _ from reads_mid hb (by repeat' (first | exact Below.refl _ _ | refine below_drewN ?_ _ | refine Below.drew ?_ | refine Below.alloc ?_ (by first | omega | (simp; done) | (simp; omega) | (simp [World.setCell]; omega)) _ | refine Below.setCell ?_ (by first | omega | (simp; done) | (simp; omega)) _)))
  have R0_3 := Lib.hid (reads_lay hb hL3.out R0_2.out)
  have R1_3 := Lib.hid (mnt_lay hb hL3.out R1_2.out)
  have R2_3 := Lib.hid (reads_lay hb hL3.out R2_2.out)
  clear hL3 R0_2 R1_2 R2_2
  have hz3 := hb.size
  try simp only [World.size_alloc, World.drewN, World.drew] at hz3
  clear hb K0_2 z0_0_2 z0_1_2 z0_2_2 z0_3_2 z0_4_2 z0_5_2 z0_6_2 z0_7_2 z0_8_2 z0_9_2 l0_2
  have l0_3 : w.heap.size < w3.heap.size := K0_3.out.lt
  have z0_0_3 : w3.cell? ⟨w.heap.size, 0, none⟩ = some (.int .i64 (m.ls)) := K0_3.out.cell 0
  have z0_1_3 : w3.cell? ⟨w.heap.size, 1, none⟩ = some (.int .i64 (m.ms)) := K0_3.out.cell 1
  have z0_2_3 : w3.cell? ⟨w.heap.size, 2, none⟩ = some (.int .i64 (m.lo)) := K0_3.out.cell 2
  have z0_3_3 : w3.cell? ⟨w.heap.size, 3, none⟩ = some (.int .i64 (m.hi)) := K0_3.out.cell 3
  have z0_4_3 : w3.cell? ⟨w.heap.size, 4, none⟩ = some (.int .i64 (m.sp)) := K0_3.out.cell 4
  have z0_5_3 : w3.cell? ⟨w.heap.size, 5, none⟩ = some (.slice m.A1 m.n1 m.c1) := K0_3.out.cell 5
  have z0_6_3 : w3.cell? ⟨w.heap.size, 6, none⟩ = some (.slice m.A2 m.n2 m.c2) := K0_3.out.cell 6
  have z0_7_3 : w3.cell? ⟨w.heap.size, 7, none⟩ = some (.slice A n c) := K0_3.out.cell 7
  have z0_8_3 : w3.cell? ⟨w.heap.size, 8, none⟩ = some (.int .i64 (day)) := K0_3.out.cell 8
  have z0_9_3 : w3.cell? ⟨w.heap.size, 9, none⟩ = some (.int .i64 (pos)) := K0_3.out.cell 9
  by_cases h0 : E = 0
  rotate_left
  · have q3 : (E != 0) = true := by simpa using h0
    clear h0
    go_wp2
    go_ret
    exact ⟨rfl, by repeat' (first | exact Below.refl _ _ | exact HB3.out | refine below_drewN ?_ _ | refine Below.drew ?_ | refine Below.alloc ?_ (by first | omega | (simp; done) | (simp; omega) | (simp [World.setCell]; omega)) _ | refine Below.setCell ?_ (by first | omega | (simp; done) | (simp; omega)) _ | assumption)⟩
  subst h0
  obtain ⟨hVC, hV0, hCb⟩ := HLE.out rfl
  obtain ⟨F1, hF1⟩ : ∃ F1, C / 10000000000 = F1 := ⟨_, rfl⟩
  obtain ⟨F2, hF2⟩ : ∃ F2, V / 10000000000 = F2 := ⟨_, rfl⟩
  have hFF : F2 ≤ F1 := by rw [← hF1, ← hF2]; exact Int.ediv_le_ediv (by omega) hVC
  have HF1 := Lib.hid hF1
  have HF2 := Lib.hid hF2
  have q1 : (V != V) = false := by simp
  have q2 : decide (C < V) = false := decide_eq_false (by omega)
  have q3 : decide (F2 ≤ F1) = true := decide_eq_true hFF
  clear hF1 hF2
  go_wp2_with fail
  refine (pchoosef_like HN.out HV.out m.A1 m.A2 m.c1 m.c2 A c HZ0.out _ (show MntAt (m.to m.A1 m.c1 m.A2 m.c2) _ from R1_3.out) R0_3.out ⟨by omega, by omega⟩ HF.out).mono ?_
  rintro e w4 ⟨⟨⟨At8, ct8⟩, ⟨Xp, cp⟩⟩, rfl, hb, hq⟩
  have HB4 := Lib.hid (show Below w.heap.size w w4 from step_below hb (by repeat' (first | exact Below.refl _ _ | exact HB3.out | refine below_drewN ?_ _ | refine Below.drew ?_ | refine Below.alloc ?_ (by first | omega | (simp; done) | (simp; omega) | (simp [World.setCell]; omega)) _ | refine Below.setCell ?_ (by first | omega | (simp; done) | (simp; omega)) _ | assumption)))
  have K0_4 := Lib.hid (step_blk hb (show Blk _ (w.heap.size) 62 #[.int .i64 (m.ls), .int .i64 (m.ms), .int .i64 (m.lo), .int .i64 (m.hi), .int .i64 (m.sp), .slice m.A1 m.n1 m.c1, .slice m.A2 m.n2 m.c2, .slice A n c, .int .i64 (day), .int .i64 (pos)] by repeat' (first | exact K0_3.out | exact Blk.at_ _ (by first | rfl | (simp; done) | (simp; omega)) _ _ | refine Blk.drewN ?_ _ | refine Blk.drew ?_ | refine Blk.alloc ?_ _ | refine Blk.far ?_ (by first | omega | (simp; done) | (simp; omega)) _ | assumption)))
  have hL4 := Lib.hid (show Below w3.heap.size w3 _ from reads_mid hb (by repeat' (first | exact Below.refl _ _ | refine below_drewN ?_ _ | refine Below.drew ?_ | refine Below.alloc ?_ (by first | omega | (simp; done) | (simp; omega) | (simp [World.setCell]; omega)) _ | refine Below.setCell ?_ (by first | omega | (simp; done) | (simp; omega)) _)))
  have R0_4 := Lib.hid (reads_lay hb hL4.out R0_3.out)
  have R1_4 := Lib.hid (mnt_lay hb hL4.out R1_3.out)
  have R2_4 := Lib.hid (reads_lay hb hL4.out R2_3.out)
  clear hL4 R0_3 R1_3 R2_3
  have hz4 := hb.size
  try simp only [World.size_alloc, World.drewN, World.drew] at hz4
  clear hb K0_3 z0_0_3 z0_1_3 z0_2_3 z0_3_3 z0_4_3 z0_5_3 z0_6_3 z0_7_3 z0_8_3 z0_9_3 l0_3
  have l0_4 : w.heap.size < w4.heap.size := K0_4.out.lt
  have z0_0_4 : w4.cell? ⟨w.heap.size, 0, none⟩ = some (.int .i64 (m.ls)) := K0_4.out.cell 0
  have z0_1_4 : w4.cell? ⟨w.heap.size, 1, none⟩ = some (.int .i64 (m.ms)) := K0_4.out.cell 1
  have z0_2_4 : w4.cell? ⟨w.heap.size, 2, none⟩ = some (.int .i64 (m.lo)) := K0_4.out.cell 2
  have z0_3_4 : w4.cell? ⟨w.heap.size, 3, none⟩ = some (.int .i64 (m.hi)) := K0_4.out.cell 3
  have z0_4_4 : w4.cell? ⟨w.heap.size, 4, none⟩ = some (.int .i64 (m.sp)) := K0_4.out.cell 4
  have z0_5_4 : w4.cell? ⟨w.heap.size, 5, none⟩ = some (.slice m.A1 m.n1 m.c1) := K0_4.out.cell 5
  have z0_6_4 : w4.cell? ⟨w.heap.size, 6, none⟩ = some (.slice m.A2 m.n2 m.c2) := K0_4.out.cell 6
  have z0_7_4 : w4.cell? ⟨w.heap.size, 7, none⟩ = some (.slice A n c) := K0_4.out.cell 7
  have z0_8_4 : w4.cell? ⟨w.heap.size, 8, none⟩ = some (.int .i64 (day)) := K0_4.out.cell 8
  have z0_9_4 : w4.cell? ⟨w.heap.size, 9, none⟩ = some (.int .i64 (pos)) := K0_4.out.cell 9
  obtain ⟨B, tp, ks2, ho, hr, hp, hk, hcst⟩ := hq
  simp only at ho hr
  rw [HN.out] at ho hr
  have htp := hr.at_
  have hcp := own_cap hr.row
  have HLR : Hid (LeastRes m day pos l (tp.map TRow.xs) V 0) := by rw [hp, ← HV.out]; exact least_least HZ0.out
  have HTL : Hid (∀ r ∈ tp, r.n ≤ 1000) := fun r hr' => by
    have h1 : r.xs ∈ potL m day pos l := by rw [← hp]; exact List.mem_map.2 ⟨r, hr', rfl⟩
    rw [← htp.rlen hr']
    exact potL_small _ h1
  clear ho hr hp hk hcst
  have R3_4 := Lib.hid htp
  clear htp
  go_wp2_with fail
  generalize hwn : (w4.alloc (.cells #[.slice At8 n ct8, .slice Xp n cp] 67)) = w5
  have hbn : Below w4.heap.size w4 w5 := by rw [← hwn]; repeat' (first | exact Below.refl _ _ | refine below_drewN ?_ _ | refine Below.drew ?_ | refine Below.alloc ?_ (by first | omega | (simp; done) | (simp; omega) | (simp [World.setCell]; omega)) _ | refine Below.setCell ?_ (by first | omega | (simp; done) | (simp; omega)) _)
  have HB5 := Lib.hid (show Below w.heap.size w w5 from HB4.out.trans (hbn.mono HB4.out.size))
  have K0_5 := Lib.hid (step_blk hbn K0_4.out)
  have K1_5 := Lib.hid (show Blk w5 (w4.heap.size) 67 #[.slice At8 n ct8, .slice Xp n cp] by rw [← hwn]; repeat' (first | exact Blk.at_ _ (by first | rfl | (simp; done) | (simp; omega)) _ _ | refine Blk.drewN ?_ _ | refine Blk.drew ?_ | refine Blk.alloc ?_ _ | refine Blk.far ?_ (by first | omega | (simp; done) | (simp; omega)) _ | assumption))
  have R0_5 := Lib.hid ((R0_4.out.below hbn).more hbn.size)
  have R1_5 := Lib.hid (R1_4.out.lay hbn)
  have R2_5 := Lib.hid ((R2_4.out.below hbn).more hbn.size)
  have R3_5 := Lib.hid ((R3_4.out.below hbn).more hbn.size)
  have HN5 := Lib.hid hbn
  have hz5 := hbn.size
  clear hwn hbn K0_4 l0_4 z0_0_4 z0_1_4 z0_2_4 z0_3_4 z0_4_4 z0_5_4 z0_6_4 z0_7_4 z0_8_4 z0_9_4 R0_4 R1_4 R2_4 R3_4
  have l0_5 : w.heap.size < w5.heap.size := K0_5.out.lt
  have z0_0_5 : w5.cell? ⟨w.heap.size, 0, none⟩ = some (.int .i64 (m.ls)) := K0_5.out.cell 0
  have z0_1_5 : w5.cell? ⟨w.heap.size, 1, none⟩ = some (.int .i64 (m.ms)) := K0_5.out.cell 1
  have z0_2_5 : w5.cell? ⟨w.heap.size, 2, none⟩ = some (.int .i64 (m.lo)) := K0_5.out.cell 2
  have z0_3_5 : w5.cell? ⟨w.heap.size, 3, none⟩ = some (.int .i64 (m.hi)) := K0_5.out.cell 3
  have z0_4_5 : w5.cell? ⟨w.heap.size, 4, none⟩ = some (.int .i64 (m.sp)) := K0_5.out.cell 4
  have z0_5_5 : w5.cell? ⟨w.heap.size, 5, none⟩ = some (.slice m.A1 m.n1 m.c1) := K0_5.out.cell 5
  have z0_6_5 : w5.cell? ⟨w.heap.size, 6, none⟩ = some (.slice m.A2 m.n2 m.c2) := K0_5.out.cell 6
  have z0_7_5 : w5.cell? ⟨w.heap.size, 7, none⟩ = some (.slice A n c) := K0_5.out.cell 7
  have z0_8_5 : w5.cell? ⟨w.heap.size, 8, none⟩ = some (.int .i64 (day)) := K0_5.out.cell 8
  have z0_9_5 : w5.cell? ⟨w.heap.size, 9, none⟩ = some (.int .i64 (pos)) := K0_5.out.cell 9
  have l1_5 : w4.heap.size < w5.heap.size := K1_5.out.lt
  have z1_0_5 : w5.cell? ⟨w4.heap.size, 0, none⟩ = some (.slice At8 n ct8) := K1_5.out.cell 0
  have z1_1_5 : w5.cell? ⟨w4.heap.size, 1, none⟩ = some (.slice Xp n cp) := K1_5.out.cell 1
  refine (pleast_is m day pos l A n c Xp n cp tp V 0 HLR.out _ R1_5.out R0_5.out ⟨by omega, by omega⟩ HF.out R3_5.out (by omega) HTL.out HZ0.out).mono ?_
  rintro e w6 ⟨rfl, hb⟩
  have HB6 := Lib.hid (show Below w.heap.size w w6 from step_below hb (by repeat' (first | exact Below.refl _ _ | exact HB5.out | refine below_drewN ?_ _ | refine Below.drew ?_ | refine Below.alloc ?_ (by first | omega | (simp; done) | (simp; omega) | (simp [World.setCell]; omega)) _ | refine Below.setCell ?_ (by first | omega | (simp; done) | (simp; omega)) _ | assumption)))
  have K0_6 := Lib.hid (step_blk hb (show Blk _ (w.heap.size) 62 #[.int .i64 (m.ls), .int .i64 (m.ms), .int .i64 (m.lo), .int .i64 (m.hi), .int .i64 (m.sp), .slice m.A1 m.n1 m.c1, .slice m.A2 m.n2 m.c2, .slice A n c, .int .i64 (day), .int .i64 (pos)] by repeat' (first | exact K0_5.out | exact K1_5.out | exact Blk.at_ _ (by first | rfl | (simp; done) | (simp; omega)) _ _ | refine Blk.drewN ?_ _ | refine Blk.drew ?_ | refine Blk.alloc ?_ _ | refine Blk.far ?_ (by first | omega | (simp; done) | (simp; omega)) _ | assumption)))
  have K1_6 := Lib.hid (step_blk hb (show Blk _ (w4.heap.size) 67 #[.slice At8 n ct8, .slice Xp n cp] by repeat' (first | exact K0_5.out | exact K1_5.out | exact Blk.at_ _ (by first | rfl | (simp; done) | (simp; omega)) _ _ | refine Blk.drewN ?_ _ | refine Blk.drew ?_ | refine Blk.alloc ?_ _ | refine Blk.far ?_ (by first | omega | (simp; done) | (simp; omega)) _ | assumption)))
  have hL6 := Lib.hid (show Below w5.heap.size w5 _ from reads_mid hb (by repeat' (first | exact Below.refl _ _ | refine below_drewN ?_ _ | refine Below.drew ?_ | refine Below.alloc ?_ (by first | omega | (simp; done) | (simp; omega) | (simp [World.setCell]; omega)) _ | refine Below.setCell ?_ (by first | omega | (simp; done) | (simp; omega)) _)))
  have R0_6 := Lib.hid (reads_lay hb hL6.out R0_5.out)
  have R1_6 := Lib.hid (mnt_lay hb hL6.out R1_5.out)
  have R2_6 := Lib.hid (reads_lay hb hL6.out R2_5.out)
  have R3_6 := Lib.hid (readsT_lay hb hL6.out R3_5.out)
  clear hL6 R0_5 R1_5 R2_5 R3_5
  have hz6 := hb.size
  try simp only [World.size_alloc, World.drewN, World.drew] at hz6
  clear hb K0_5 K1_5 z0_0_5 z0_1_5 z0_2_5 z0_3_5 z0_4_5 z0_5_5 z0_6_5 z0_7_5 z0_8_5 z0_9_5 l0_5 z1_0_5 z1_1_5 l1_5
  have l0_6 : w.heap.size < w6.heap.size := K0_6.out.lt
  have z0_0_6 : w6.cell? ⟨w.heap.size, 0, none⟩ = some (.int .i64 (m.ls)) := K0_6.out.cell 0
  have z0_1_6 : w6.cell? ⟨w.heap.size, 1, none⟩ = some (.int .i64 (m.ms)) := K0_6.out.cell 1
  have z0_2_6 : w6.cell? ⟨w.heap.size, 2, none⟩ = some (.int .i64 (m.lo)) := K0_6.out.cell 2
  have z0_3_6 : w6.cell? ⟨w.heap.size, 3, none⟩ = some (.int .i64 (m.hi)) := K0_6.out.cell 3
  have z0_4_6 : w6.cell? ⟨w.heap.size, 4, none⟩ = some (.int .i64 (m.sp)) := K0_6.out.cell 4
  have z0_5_6 : w6.cell? ⟨w.heap.size, 5, none⟩ = some (.slice m.A1 m.n1 m.c1) := K0_6.out.cell 5
  have z0_6_6 : w6.cell? ⟨w.heap.size, 6, none⟩ = some (.slice m.A2 m.n2 m.c2) := K0_6.out.cell 6
  have z0_7_6 : w6.cell? ⟨w.heap.size, 7, none⟩ = some (.slice A n c) := K0_6.out.cell 7
  have z0_8_6 : w6.cell? ⟨w.heap.size, 8, none⟩ = some (.int .i64 (day)) := K0_6.out.cell 8
  have z0_9_6 : w6.cell? ⟨w.heap.size, 9, none⟩ = some (.int .i64 (pos)) := K0_6.out.cell 9
  have l1_6 : w4.heap.size < w6.heap.size := K1_6.out.lt
  have z1_0_6 : w6.cell? ⟨w4.heap.size, 0, none⟩ = some (.slice At8 n ct8) := K1_6.out.cell 0
  have z1_1_6 : w6.cell? ⟨w4.heap.size, 1, none⟩ = some (.slice Xp n cp) := K1_6.out.cell 1
  go_wp2_with fail
  refine (floorr_is C 10000000000 F1 HF1.out _ (by omega) (by omega) (by omega) (by omega)).mono ?_
  rintro e w' ⟨rfl, rfl⟩
  go_wp2_with fail
  refine (floorr_is V 10000000000 F2 HF2.out _ (by omega) (by omega) (by omega) (by omega)).mono ?_
  rintro e w' ⟨rfl, rfl⟩
  go_wp2
  go_ret
  exact ⟨rfl, by repeat' (first | exact Below.refl _ _ | exact HB6.out | refine below_drewN ?_ _ | refine Below.drew ?_ | refine Below.alloc ?_ (by first | omega | (simp; done) | (simp; omega) | (simp [World.setCell]; omega)) _ | refine Below.setCell ?_ (by first | omega | (simp; done) | (simp; omega)) _ | assumption)⟩
theorem lawTU_any (m : Mnt) (A : Option Addr) (n c : Nat) (l : List Tgt) (day pos : Int) (At : Option Addr) (nt ct : Nat) (ks : List Int) (w : World) (hx : TourIn m A n c l day pos w) (hntc : nt ≤ ct ∧ ct ≤ 9223372036854775807) (_ : ks.length = nt) (_ : ∀ z ∈ ks, I64 z) (hrk : Reads w w.heap.size 1 At nt (ks.map (.int .i64))) :
    Calls Try.prog 9 #[tourV m A n c day pos, .slice At nt ct] w fun e w' => e = .returned (.bool true) ∧ Below w.heap.size w w' := by
  by_cases h0 : shortB m l = false ∨ 5 < n ∨ 8 < nt
  · exact lawTU_no m A n c l day pos At nt ct ks w hx hntc hrk h0
  · rw [not_or, not_or] at h0
    exact lawTU_yes m A n c l day pos At nt ct ks w hx hntc hrk (by simpa using h0.1) (by omega) (by omega)
end Go.Proofs.Ytdidcpealabaiaa

end
