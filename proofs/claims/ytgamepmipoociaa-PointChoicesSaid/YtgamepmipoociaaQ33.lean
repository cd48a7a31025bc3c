import Derived.Test.YtgamepmipoociaaQ24
import Derived.Test.YtgamepmipoociaaQ28
import Derived.Test.YtgamepmipoociaaQ32

section
/- The walk of the statement on choices and the bounds of their costs. -/
namespace Go.Proofs.Ytgamepmipoociaa
open Go Go.RowKit

/-- What is known of copies of a mounting, of targets, of lists of numbers. -/
def PfM (m : Mnt) (n : Nat) (l : List Tgt) (np : Nat) (tp : List TRow) (ci ti ki : Nat) (i : Nat) (x : Pick2) (w : World) : Prop :=
  PfT m n l 0 [] ci ti 98 i x w ∧ (i = ki → ∃ ts : List TRow, ts.map TRow.xs = tp.map TRow.xs ∧ ReadsT w w.heap.size x.1.1 np ts)
theorem PfM.stb {m : Mnt} {n : Nat} {l : List Tgt} {np : Nat} {tp : List TRow} {ci ti ki : Nat} : Stb (PfM m n l np tp ci ti ki) := fun _ _ _ _ hb h =>
  ⟨PfT.stb _ _ _ _ hb h.1, fun e => by obtain ⟨ts, h1, h2⟩ := h.2 e; exact ⟨ts, h1, (h2.below hb).more hb.size⟩⟩
theorem pleast_like (m : Mnt) (day pos : Int) (l : List Tgt) (A : Option Addr) (n c : Nat) (Ap : Option Addr) (np cp : Nat) (tp : List TRow) (C E : Int) (hR : LeastRes m day pos l (tp.map TRow.xs) C E) (h50 : ∀ r ∈ tp, r.xs.length ≤ 50) (hnp : np ≤ 1000) (w : World) (hx : MntAt m w) (hl : Reads w w.heap.size 6 A n (tgtCells l)) (hn : n ≤ c ∧ c ≤ 9223372036854775807) (hfit : ∀ t ∈ l, t.name.size ≤ maxLen)
    (hk : ∃ ts : List TRow, ts.map TRow.xs = tp.map TRow.xs ∧ ReadsT w w.heap.size Ap np ts) (hT0 : (tourF m l day pos).2 = 0) :
    Calls Try.prog 55 #[m.val, .slice A n c, .agg #[.int .i64 day, .int .i64 pos], .slice Ap np cp] w fun e w' => e = .returned (.tuple #[.int .i64 C, .int .i64 E]) ∧ Below w.heap.size w w' := by
  obtain ⟨ts, h1, h2⟩ := hk
  refine pleast_is m day pos l A n c Ap np cp ts C E (by rw [h1]; exact hR) w hx hl hn hfit h2 hnp (fun r hr => ?_) hT0
  have h3 : r.xs ∈ tp.map TRow.xs := by rw [← h1]; exact List.mem_map.2 ⟨r, hr, rfl⟩
  obtain ⟨r2, h4, h5⟩ := List.mem_map.1 h3
  have h6 := h50 r2 h4
  have h7 := h2.rlen hr
  rw [h5] at h6
  omega

set_option maxRecDepth 100000 in
set_option maxHeartbeats 4000000 in
theorem lawPH_no (m : Mnt) (A : Option Addr) (n c : Nat) (l : List Tgt) (day pos : Int) (At : Option Addr) (nt ct : Nat) (ks : List Int) (Ap : Option Addr) (np cp : Nat) (tp : List TRow) (w : World) (hx : TourIn m A n c l day pos w) (hntc : nt ≤ ct ∧ ct ≤ 9223372036854775807) (hrk : Reads w w.heap.size 1 At nt (ks.map (.int .i64)))
    (hnpc : np ≤ cp ∧ cp ≤ 9223372036854775807) (hrp : ReadsT w w.heap.size Ap np tp)
    (h0 : shortB m l = false ∨ 8 < nt ∨ 8 < np ∨ ∃ r ∈ tp, 50 < r.n) :
    Calls Try.prog 10 #[tourV m A n c day pos, .slice At nt ct, .slice Ap np cp] w fun e w' => e = .returned (.bool true) ∧ Below w.heap.size w w' := by
  have hma := hx.mnt.at_
  have hrd := hx.rd
  have hfit := hx.fit
  have hlen := hx.len
  have hnc := hx.hn.1
  have hcc := hx.hn.2
  unfold tourV
  clear hx
  cases hl : shortB m l
  · have HL := Lib.hid hl
    clear hl h0
    go_enter Try.func10, Try.ntmps10
    have R0_0 := Lib.hid hrd
    clear hrd
    have R1_0 := Lib.hid hma
    clear hma
    have R2_0 := Lib.hid hrk
    clear hrk
    have R3_0 := Lib.hid hrp
    clear hrp
    go_wp2_with fail
    refine (awakept_any _).mono ?_
    rintro e w1 ⟨rfl, hb⟩
    have HB1 := Lib.hid (show Below w.heap.size w w1 from step_below hb (by repeat' (first | exact Below.refl _ _ | exact HB0.out | refine below_drewN ?_ _ | refine Below.drew ?_ | refine Below.alloc ?_ (by first | omega | (simp; done) | (simp; omega) | (simp [World.setCell]; omega)) _ | refine Below.setCell ?_ (by first | omega | (simp; done) | (simp; omega)) _ | assumption)))
    have K0_1 := Lib.hid (step_blk hb (show Blk _ (w.heap.size) 64 #[.int .i64 (m.ls), .int .i64 (m.ms), .int .i64 (m.lo), .int .i64 (m.hi), .int .i64 (m.sp), .slice m.A1 m.n1 m.c1, .slice m.A2 m.n2 m.c2, .slice A n c, .int .i64 (day), .int .i64 (pos)] by repeat' (first | exact Blk.at_ _ (by first | rfl | (simp; done) | (simp; omega)) _ _ | refine Blk.drewN ?_ _ | refine Blk.drew ?_ | refine Blk.alloc ?_ _ | refine Blk.far ?_ (by first | omega | (simp; done) | (simp; omega)) _ | assumption)))
    have hL1 := Lib.hid (show Below w.heap.size w _ from reads_mid hb (by repeat' (first | exact Below.refl _ _ | refine below_drewN ?_ _ | refine Below.drew ?_ | refine Below.alloc ?_ (by first | omega | (simp; done) | (simp; omega) | (simp [World.setCell]; omega)) _ | refine Below.setCell ?_ (by first | omega | (simp; done) | (simp; omega)) _)))
    have R0_1 := Lib.hid (reads_lay hb hL1.out R0_0.out)
    have R1_1 := Lib.hid (mnt_lay hb hL1.out R1_0.out)
    have R2_1 := Lib.hid (reads_lay hb hL1.out R2_0.out)
    have R3_1 := Lib.hid (readsT_lay hb hL1.out R3_0.out)
    clear hL1 R0_0 R1_0 R2_0 R3_0
    have hz1 := hb.size
    try simp only [World.size_alloc, World.drewN, World.drew] at hz1
    clear hb
    have l0_1 : w.heap.size < w1.heap.size := K0_1.out.lt
    have z0_0_1 : w1.cell? ⟨w.heap.size, 0, none⟩ = some (.int .i64 (m.ls)) := K0_1.out.cell 0
    have z0_1_1 : w1.cell? ⟨w.heap.size, 1, none⟩ = some (.int .i64 (m.ms)) := K0_1.out.cell 1
    have z0_2_1 : w1.cell? ⟨w.heap.size, 2, none⟩ = some (.int .i64 (m.lo)) := K0_1.out.cell 2
    have z0_3_1 : w1.cell? ⟨w.heap.size, 3, none⟩ = some (.int .i64 (m.hi)) := K0_1.out.cell 3
    have z0_4_1 : w1.cell? ⟨w.heap.size, 4, none⟩ = some (.int .i64 (m.sp)) := K0_1.out.cell 4
    have z0_5_1 : w1.cell? ⟨w.heap.size, 5, none⟩ = some (.slice m.A1 m.n1 m.c1) := K0_1.out.cell 5
    have z0_6_1 : w1.cell? ⟨w.heap.size, 6, none⟩ = some (.slice m.A2 m.n2 m.c2) := K0_1.out.cell 6
    have z0_7_1 : w1.cell? ⟨w.heap.size, 7, none⟩ = some (.slice A n c) := K0_1.out.cell 7
    have z0_8_1 : w1.cell? ⟨w.heap.size, 8, none⟩ = some (.int .i64 (day)) := K0_1.out.cell 8
    have z0_9_1 : w1.cell? ⟨w.heap.size, 9, none⟩ = some (.int .i64 (pos)) := K0_1.out.cell 9
    go_wp2_with fail
    refine (shortp_is m A n c _ l day pos false HL.out _ R0_1.out (Nat.le_refl _) (by omega)).mono ?_
    rintro e w2 ⟨rfl, hb⟩
    have HB2 := Lib.hid (show Below w.heap.size w w2 from step_below hb (by repeat' (first | exact Below.refl _ _ | exact HB1.out | refine below_drewN ?_ _ | refine Below.drew ?_ | refine Below.alloc ?_ (by first | omega | (simp; done) | (simp; omega) | (simp [World.setCell]; omega)) _ | refine Below.setCell ?_ (by first | omega | (simp; done) | (simp; omega)) _ | assumption)))
    have K0_2 := Lib.hid (step_blk hb (show Blk _ (w.heap.size) 64 #[.int .i64 (m.ls), .int .i64 (m.ms), .int .i64 (m.lo), .int .i64 (m.hi), .int .i64 (m.sp), .slice m.A1 m.n1 m.c1, .slice m.A2 m.n2 m.c2, .slice A n c, .int .i64 (day), .int .i64 (pos)] by repeat' (first | exact K0_1.out | exact Blk.at_ _ (by first | rfl | (simp; done) | (simp; omega)) _ _ | refine Blk.drewN ?_ _ | refine Blk.drew ?_ | refine Blk.alloc ?_ _ | refine Blk.far ?_ (by first | omega | (simp; done) | (simp; omega)) _ | assumption)))
    have hL2 := Lib.hid (show Below w1.heap.size w1 _ from reads_mid hb (by repeat' (first | exact Below.refl _ _ | refine below_drewN ?_ _ | refine Below.drew ?_ | refine Below.alloc ?_ (by first | omega | (simp; done) | (simp; omega) | (simp [World.setCell]; omega)) _ | refine Below.setCell ?_ (by first | omega | (simp; done) | (simp; omega)) _)))
    have R0_2 := Lib.hid (reads_lay hb hL2.out R0_1.out)
    have R1_2 := Lib.hid (mnt_lay hb hL2.out R1_1.out)
    have R2_2 := Lib.hid (reads_lay hb hL2.out R2_1.out)
    have R3_2 := Lib.hid (readsT_lay hb hL2.out R3_1.out)
    clear hL2 R0_1 R1_1 R2_1 R3_1
    have hz2 := hb.size
    try simp only [World.size_alloc, World.drewN, World.drew] at hz2
    clear hb K0_1 z0_0_1 z0_1_1 z0_2_1 z0_3_1 z0_4_1 z0_5_1 z0_6_1 z0_7_1 z0_8_1 z0_9_1 l0_1
    have l0_2 : w.heap.size < w2.heap.size := K0_2.out.lt
    have z0_0_2 : w2.cell? ⟨w.heap.size, 0, none⟩ = some (.int .i64 (m.ls)) := K0_2.out.cell 0
    have z0_1_2 : w2.cell? ⟨w.heap.size, 1, none⟩ = some (.int .i64 (m.ms)) := K0_2.out.cell 1
    have z0_2_2 : w2.cell? ⟨w.heap.size, 2, none⟩ = some (.int .i64 (m.lo)) := K0_2.out.cell 2
    have z0_3_2 : w2.cell? ⟨w.heap.size, 3, none⟩ = some (.int .i64 (m.hi)) := K0_2.out.cell 3
    have z0_4_2 : w2.cell? ⟨w.heap.size, 4, none⟩ = some (.int .i64 (m.sp)) := K0_2.out.cell 4
    have z0_5_2 : w2.cell? ⟨w.heap.size, 5, none⟩ = some (.slice m.A1 m.n1 m.c1) := K0_2.out.cell 5
    have z0_6_2 : w2.cell? ⟨w.heap.size, 6, none⟩ = some (.slice m.A2 m.n2 m.c2) := K0_2.out.cell 6
    have z0_7_2 : w2.cell? ⟨w.heap.size, 7, none⟩ = some (.slice A n c) := K0_2.out.cell 7
    have z0_8_2 : w2.cell? ⟨w.heap.size, 8, none⟩ = some (.int .i64 (day)) := K0_2.out.cell 8
    have z0_9_2 : w2.cell? ⟨w.heap.size, 9, none⟩ = some (.int .i64 (pos)) := K0_2.out.cell 9
    go_wp2
    go_ret
    exact ⟨rfl, by repeat' (first | exact Below.refl _ _ | exact HB2.out | refine below_drewN ?_ _ | refine Below.drew ?_ | refine Below.alloc ?_ (by first | omega | (simp; done) | (simp; omega) | (simp [World.setCell]; omega)) _ | refine Below.setCell ?_ (by first | omega | (simp; done) | (simp; omega)) _ | assumption)⟩
  obtain ⟨-, hn1, hn2, hn23⟩ := short_parts hl
  have HL := Lib.hid hl
  by_cases h8 : (8 : Int) < (nt : Int)
  · clear hl h0
    go_enter Try.func10, Try.ntmps10
    have R0_0 := Lib.hid hrd
    clear hrd
    have R1_0 := Lib.hid hma
    clear hma
    have R2_0 := Lib.hid hrk
    clear hrk
    have R3_0 := Lib.hid hrp
    clear hrp
    go_wp2_with fail
    refine (awakept_any _).mono ?_
    rintro e w1 ⟨rfl, hb⟩
    have HB1 := Lib.hid (show Below w.heap.size w w1 from step_below hb (by repeat' (first | exact Below.refl _ _ | exact HB0.out | refine below_drewN ?_ _ | refine Below.drew ?_ | refine Below.alloc ?_ (by first | omega | (simp; done) | (simp; omega) | (simp [World.setCell]; omega)) _ | refine Below.setCell ?_ (by first | omega | (simp; done) | (simp; omega)) _ | assumption)))
    have K0_1 := Lib.hid (step_blk hb (show Blk _ (w.heap.size) 64 #[.int .i64 (m.ls), .int .i64 (m.ms), .int .i64 (m.lo), .int .i64 (m.hi), .int .i64 (m.sp), .slice m.A1 m.n1 m.c1, .slice m.A2 m.n2 m.c2, .slice A n c, .int .i64 (day), .int .i64 (pos)] by repeat' (first | exact Blk.at_ _ (by first | rfl | (simp; done) | (simp; omega)) _ _ | refine Blk.drewN ?_ _ | refine Blk.drew ?_ | refine Blk.alloc ?_ _ | refine Blk.far ?_ (by first | omega | (simp; done) | (simp; omega)) _ | assumption)))
    have hL1 := Lib.hid (show Below w.heap.size w _ from reads_mid hb (by repeat' (first | exact Below.refl _ _ | refine below_drewN ?_ _ | refine Below.drew ?_ | refine Below.alloc ?_ (by first | omega | (simp; done) | (simp; omega) | (simp [World.setCell]; omega)) _ | refine Below.setCell ?_ (by first | omega | (simp; done) | (simp; omega)) _)))
    have R0_1 := Lib.hid (reads_lay hb hL1.out R0_0.out)
    have R1_1 := Lib.hid (mnt_lay hb hL1.out R1_0.out)
    have R2_1 := Lib.hid (reads_lay hb hL1.out R2_0.out)
    have R3_1 := Lib.hid (readsT_lay hb hL1.out R3_0.out)
    clear hL1 R0_0 R1_0 R2_0 R3_0
    have hz1 := hb.size
    try simp only [World.size_alloc, World.drewN, World.drew] at hz1
    clear hb
    have l0_1 : w.heap.size < w1.heap.size := K0_1.out.lt
    have z0_0_1 : w1.cell? ⟨w.heap.size, 0, none⟩ = some (.int .i64 (m.ls)) := K0_1.out.cell 0
    have z0_1_1 : w1.cell? ⟨w.heap.size, 1, none⟩ = some (.int .i64 (m.ms)) := K0_1.out.cell 1
    have z0_2_1 : w1.cell? ⟨w.heap.size, 2, none⟩ = some (.int .i64 (m.lo)) := K0_1.out.cell 2
    have z0_3_1 : w1.cell? ⟨w.heap.size, 3, none⟩ = some (.int .i64 (m.hi)) := K0_1.out.cell 3
    have z0_4_1 : w1.cell? ⟨w.heap.size, 4, none⟩ = some (.int .i64 (m.sp)) := K0_1.out.cell 4
    have z0_5_1 : w1.cell? ⟨w.heap.size, 5, none⟩ = some (.slice m.A1 m.n1 m.c1) := K0_1.out.cell 5
    have z0_6_1 : w1.cell? ⟨w.heap.size, 6, none⟩ = some (.slice m.A2 m.n2 m.c2) := K0_1.out.cell 6
    have z0_7_1 : w1.cell? ⟨w.heap.size, 7, none⟩ = some (.slice A n c) := K0_1.out.cell 7
    have z0_8_1 : w1.cell? ⟨w.heap.size, 8, none⟩ = some (.int .i64 (day)) := K0_1.out.cell 8
    have z0_9_1 : w1.cell? ⟨w.heap.size, 9, none⟩ = some (.int .i64 (pos)) := K0_1.out.cell 9
    go_wp2_with fail
    refine (shortp_is m A n c _ l day pos true HL.out _ R0_1.out (Nat.le_refl _) (by omega)).mono ?_
    rintro e w2 ⟨rfl, hb⟩
    have HB2 := Lib.hid (show Below w.heap.size w w2 from step_below hb (by repeat' (first | exact Below.refl _ _ | exact HB1.out | refine below_drewN ?_ _ | refine Below.drew ?_ | refine Below.alloc ?_ (by first | omega | (simp; done) | (simp; omega) | (simp [World.setCell]; omega)) _ | refine Below.setCell ?_ (by first | omega | (simp; done) | (simp; omega)) _ | assumption)))
    have K0_2 := Lib.hid (step_blk hb (show Blk _ (w.heap.size) 64 #[.int .i64 (m.ls), .int .i64 (m.ms), .int .i64 (m.lo), .int .i64 (m.hi), .int .i64 (m.sp), .slice m.A1 m.n1 m.c1, .slice m.A2 m.n2 m.c2, .slice A n c, .int .i64 (day), .int .i64 (pos)] by repeat' (first | exact K0_1.out | exact Blk.at_ _ (by first | rfl | (simp; done) | (simp; omega)) _ _ | refine Blk.drewN ?_ _ | refine Blk.drew ?_ | refine Blk.alloc ?_ _ | refine Blk.far ?_ (by first | omega | (simp; done) | (simp; omega)) _ | assumption)))
    have hL2 := Lib.hid (show Below w1.heap.size w1 _ from reads_mid hb (by repeat' (first | exact Below.refl _ _ | refine below_drewN ?_ _ | refine Below.drew ?_ | refine Below.alloc ?_ (by first | omega | (simp; done) | (simp; omega) | (simp [World.setCell]; omega)) _ | refine Below.setCell ?_ (by first | omega | (simp; done) | (simp; omega)) _)))
    have R0_2 := Lib.hid (reads_lay hb hL2.out R0_1.out)
    have R1_2 := Lib.hid (mnt_lay hb hL2.out R1_1.out)
    have R2_2 := Lib.hid (reads_lay hb hL2.out R2_1.out)
    have R3_2 := Lib.hid (readsT_lay hb hL2.out R3_1.out)
    clear hL2 R0_1 R1_1 R2_1 R3_1
    have hz2 := hb.size
    try simp only [World.size_alloc, World.drewN, World.drew] at hz2
    clear hb K0_1 z0_0_1 z0_1_1 z0_2_1 z0_3_1 z0_4_1 z0_5_1 z0_6_1 z0_7_1 z0_8_1 z0_9_1 l0_1
    have l0_2 : w.heap.size < w2.heap.size := K0_2.out.lt
    have z0_0_2 : w2.cell? ⟨w.heap.size, 0, none⟩ = some (.int .i64 (m.ls)) := K0_2.out.cell 0
    have z0_1_2 : w2.cell? ⟨w.heap.size, 1, none⟩ = some (.int .i64 (m.ms)) := K0_2.out.cell 1
    have z0_2_2 : w2.cell? ⟨w.heap.size, 2, none⟩ = some (.int .i64 (m.lo)) := K0_2.out.cell 2
    have z0_3_2 : w2.cell? ⟨w.heap.size, 3, none⟩ = some (.int .i64 (m.hi)) := K0_2.out.cell 3
    have z0_4_2 : w2.cell? ⟨w.heap.size, 4, none⟩ = some (.int .i64 (m.sp)) := K0_2.out.cell 4
    have z0_5_2 : w2.cell? ⟨w.heap.size, 5, none⟩ = some (.slice m.A1 m.n1 m.c1) := K0_2.out.cell 5
    have z0_6_2 : w2.cell? ⟨w.heap.size, 6, none⟩ = some (.slice m.A2 m.n2 m.c2) := K0_2.out.cell 6
    have z0_7_2 : w2.cell? ⟨w.heap.size, 7, none⟩ = some (.slice A n c) := K0_2.out.cell 7
    have z0_8_2 : w2.cell? ⟨w.heap.size, 8, none⟩ = some (.int .i64 (day)) := K0_2.out.cell 8
    have z0_9_2 : w2.cell? ⟨w.heap.size, 9, none⟩ = some (.int .i64 (pos)) := K0_2.out.cell 9
    go_wp2
    go_ret
    exact ⟨rfl, by repeat' (first | exact Below.refl _ _ | exact HB2.out | refine below_drewN ?_ _ | refine Below.drew ?_ | refine Below.alloc ?_ (by first | omega | (simp; done) | (simp; omega) | (simp [World.setCell]; omega)) _ | refine Below.setCell ?_ (by first | omega | (simp; done) | (simp; omega)) _ | assumption)⟩
  by_cases h9 : (8 : Int) < (np : Int)
  · clear hl h0
    go_enter Try.func10, Try.ntmps10
    have R0_0 := Lib.hid hrd
    clear hrd
    have R1_0 := Lib.hid hma
    clear hma
    have R2_0 := Lib.hid hrk
    clear hrk
    have R3_0 := Lib.hid hrp
    clear hrp
    go_wp2_with fail
    refine (awakept_any _).mono ?_
    rintro e w1 ⟨rfl, hb⟩
    have HB1 := Lib.hid (show Below w.heap.size w w1 from step_below hb (by repeat' (first | exact Below.refl _ _ | exact HB0.out | refine below_drewN ?_ _ | refine Below.drew ?_ | refine Below.alloc ?_ (by first | omega | (simp; done) | (simp; omega) | (simp [World.setCell]; omega)) _ | refine Below.setCell ?_ (by first | omega | (simp; done) | (simp; omega)) _ | assumption)))
    have K0_1 := Lib.hid (step_blk hb (show Blk _ (w.heap.size) 64 #[.int .i64 (m.ls), .int .i64 (m.ms), .int .i64 (m.lo), .int .i64 (m.hi), .int .i64 (m.sp), .slice m.A1 m.n1 m.c1, .slice m.A2 m.n2 m.c2, .slice A n c, .int .i64 (day), .int .i64 (pos)] by repeat' (first | exact Blk.at_ _ (by first | rfl | (simp; done) | (simp; omega)) _ _ | refine Blk.drewN ?_ _ | refine Blk.drew ?_ | refine Blk.alloc ?_ _ | refine Blk.far ?_ (by first | omega | (simp; done) | (simp; omega)) _ | assumption)))
    have hL1 := Lib.hid (show Below w.heap.size w _ from reads_mid hb (by repeat' (first | exact Below.refl _ _ | refine below_drewN ?_ _ | refine Below.drew ?_ | refine Below.alloc ?_ (by first | omega | (simp; done) | (simp; omega) | (simp [World.setCell]; omega)) _ | refine Below.setCell ?_ (by first | omega | (simp; done) | (simp; omega)) _)))
    have R0_1 := Lib.hid (reads_lay hb hL1.out R0_0.out)
    have R1_1 := Lib.hid (mnt_lay hb hL1.out R1_0.out)
    have R2_1 := Lib.hid (reads_lay hb hL1.out R2_0.out)
    have R3_1 := Lib.hid (readsT_lay hb hL1.out R3_0.out)
    clear hL1 R0_0 R1_0 R2_0 R3_0
    have hz1 := hb.size
    try simp only [World.size_alloc, World.drewN, World.drew] at hz1
    clear hb
    have l0_1 : w.heap.size < w1.heap.size := K0_1.out.lt
    have z0_0_1 : w1.cell? ⟨w.heap.size, 0, none⟩ = some (.int .i64 (m.ls)) := K0_1.out.cell 0
    have z0_1_1 : w1.cell? ⟨w.heap.size, 1, none⟩ = some (.int .i64 (m.ms)) := K0_1.out.cell 1
    have z0_2_1 : w1.cell? ⟨w.heap.size, 2, none⟩ = some (.int .i64 (m.lo)) := K0_1.out.cell 2
    have z0_3_1 : w1.cell? ⟨w.heap.size, 3, none⟩ = some (.int .i64 (m.hi)) := K0_1.out.cell 3
    have z0_4_1 : w1.cell? ⟨w.heap.size, 4, none⟩ = some (.int .i64 (m.sp)) := K0_1.out.cell 4
    have z0_5_1 : w1.cell? ⟨w.heap.size, 5, none⟩ = some (.slice m.A1 m.n1 m.c1) := K0_1.out.cell 5
    have z0_6_1 : w1.cell? ⟨w.heap.size, 6, none⟩ = some (.slice m.A2 m.n2 m.c2) := K0_1.out.cell 6
    have z0_7_1 : w1.cell? ⟨w.heap.size, 7, none⟩ = some (.slice A n c) := K0_1.out.cell 7
    have z0_8_1 : w1.cell? ⟨w.heap.size, 8, none⟩ = some (.int .i64 (day)) := K0_1.out.cell 8
    have z0_9_1 : w1.cell? ⟨w.heap.size, 9, none⟩ = some (.int .i64 (pos)) := K0_1.out.cell 9
    go_wp2_with fail
    refine (shortp_is m A n c _ l day pos true HL.out _ R0_1.out (Nat.le_refl _) (by omega)).mono ?_
    rintro e w2 ⟨rfl, hb⟩
    have HB2 := Lib.hid (show Below w.heap.size w w2 from step_below hb (by repeat' (first | exact Below.refl _ _ | exact HB1.out | refine below_drewN ?_ _ | refine Below.drew ?_ | refine Below.alloc ?_ (by first | omega | (simp; done) | (simp; omega) | (simp [World.setCell]; omega)) _ | refine Below.setCell ?_ (by first | omega | (simp; done) | (simp; omega)) _ | assumption)))
    have K0_2 := Lib.hid (step_blk hb (show Blk _ (w.heap.size) 64 #[.int .i64 (m.ls), .int .i64 (m.ms), .int .i64 (m.lo), .int .i64 (m.hi), .int .i64 (m.sp), .slice m.A1 m.n1 m.c1, .slice m.A2 m.n2 m.c2, .slice A n c, .int .i64 (day), .int .i64 (pos)] by repeat' (first | exact K0_1.out | exact Blk.at_ _ (by first | rfl | (simp; done) | (simp; omega)) _ _ | refine Blk.drewN ?_ _ | refine Blk.drew ?_ | refine Blk.alloc ?_ _ | refine Blk.far ?_ (by first | omega | (simp; done) | (simp; omega)) _ | assumption)))
    have hL2 := Lib.hid (show Below w1.heap.size w1 _ from reads_mid hb (by repeat' (first | exact Below.refl _ _ | refine below_drewN ?_ _ | refine Below.drew ?_ | refine Below.alloc ?_ (by first | omega | (simp; done) | (simp; omega) | (simp [World.setCell]; omega)) _ | refine Below.setCell ?_ (by first | omega | (simp; done) | (simp; omega)) _)))
    have R0_2 := Lib.hid (reads_lay hb hL2.out R0_1.out)
    have R1_2 := Lib.hid (mnt_lay hb hL2.out R1_1.out)
    have R2_2 := Lib.hid (reads_lay hb hL2.out R2_1.out)
    have R3_2 := Lib.hid (readsT_lay hb hL2.out R3_1.out)
    clear hL2 R0_1 R1_1 R2_1 R3_1
    have hz2 := hb.size
    try simp only [World.size_alloc, World.drewN, World.drew] at hz2
    clear hb K0_1 z0_0_1 z0_1_1 z0_2_1 z0_3_1 z0_4_1 z0_5_1 z0_6_1 z0_7_1 z0_8_1 z0_9_1 l0_1
    have l0_2 : w.heap.size < w2.heap.size := K0_2.out.lt
    have z0_0_2 : w2.cell? ⟨w.heap.size, 0, none⟩ = some (.int .i64 (m.ls)) := K0_2.out.cell 0
    have z0_1_2 : w2.cell? ⟨w.heap.size, 1, none⟩ = some (.int .i64 (m.ms)) := K0_2.out.cell 1
    have z0_2_2 : w2.cell? ⟨w.heap.size, 2, none⟩ = some (.int .i64 (m.lo)) := K0_2.out.cell 2
    have z0_3_2 : w2.cell? ⟨w.heap.size, 3, none⟩ = some (.int .i64 (m.hi)) := K0_2.out.cell 3
    have z0_4_2 : w2.cell? ⟨w.heap.size, 4, none⟩ = some (.int .i64 (m.sp)) := K0_2.out.cell 4
    have z0_5_2 : w2.cell? ⟨w.heap.size, 5, none⟩ = some (.slice m.A1 m.n1 m.c1) := K0_2.out.cell 5
    have z0_6_2 : w2.cell? ⟨w.heap.size, 6, none⟩ = some (.slice m.A2 m.n2 m.c2) := K0_2.out.cell 6
    have z0_7_2 : w2.cell? ⟨w.heap.size, 7, none⟩ = some (.slice A n c) := K0_2.out.cell 7
    have z0_8_2 : w2.cell? ⟨w.heap.size, 8, none⟩ = some (.int .i64 (day)) := K0_2.out.cell 8
    have z0_9_2 : w2.cell? ⟨w.heap.size, 9, none⟩ = some (.int .i64 (pos)) := K0_2.out.cell 9
    go_wp2
    go_ret
    exact ⟨rfl, by repeat' (first | exact Below.refl _ _ | exact HB2.out | refine below_drewN ?_ _ | refine Below.drew ?_ | refine Below.alloc ?_ (by first | omega | (simp; done) | (simp; omega) | (simp [World.setCell]; omega)) _ | refine Below.setCell ?_ (by first | omega | (simp; done) | (simp; omega)) _ | assumption)⟩
  obtain ⟨r0, hr0, hbig⟩ : ∃ r ∈ tp, 50 < r.n := by
    rcases h0 with h | h | h | h
    · rw [hl] at h; cases h
    · exact absurd (by omega) h8
    · exact absurd (by omega) h9
    · exact h
  have HR0 := Lib.hid hr0
  have HBG := Lib.hid hbig
  have HLP := Lib.hid hrp.len
  clear hl h0 hr0 hbig
  go_enter Try.func10, Try.ntmps10
  have R0_0 := Lib.hid hrd
  clear hrd
  have R1_0 := Lib.hid hma
  clear hma
  have R2_0 := Lib.hid hrk
  clear hrk
  have R3_0 := Lib.hid hrp
  clear hrp
  go_wp2_with fail
  refine (awakept_any _).mono ?_
  rintro e w1 ⟨rfl, hb⟩
  have HB1 := Lib.hid (show Below w.heap.size w w1 from step_below hb (by repeat' (first | exact Below.refl _ _ | exact HB0.out | refine below_drewN ?_ _ | refine Below.drew ?_ | refine Below.alloc ?_ (by first | omega | (simp; done) | (simp; omega) | (simp [World.setCell]; omega)) _ | refine Below.setCell ?_ (by first | omega | (simp; done) | (simp; omega)) _ | assumption)))
  have K0_1 := Lib.hid (step_blk hb (show Blk _ (w.heap.size) 64 #[.int .i64 (m.ls), .int .i64 (m.ms), .int .i64 (m.lo), .int .i64 (m.hi), .int .i64 (m.sp), .slice m.A1 m.n1 m.c1, .slice m.A2 m.n2 m.c2, .slice A n c, .int .i64 (day), .int .i64 (pos)] by repeat' (first | exact Blk.at_ _ (by first | rfl | (simp; done) | (simp; omega)) _ _ | refine Blk.drewN ?_ _ | refine Blk.drew ?_ | refine Blk.alloc ?_ _ | refine Blk.far ?_ (by first | omega | (simp; done) | (simp; omega)) _ | assumption)))
  have hL1 := Lib.hid (show Below w.heap.size w _ from reads_mid hb (by repeat' (first | exact Below.refl _ _ | refine below_drewN ?_ _ | refine Below.drew ?_ | refine Below.alloc ?_ (by first | omega | (simp; done) | (simp; omega) | (simp [World.setCell]; omega)) _ | refine Below.setCell ?_ (by first | omega | (simp; done) | (simp; omega)) _)))
  have R0_1 := Lib.hid (reads_lay hb hL1.out R0_0.out)
  have R1_1 := Lib.hid (mnt_lay hb hL1.out R1_0.out)
  have R2_1 := Lib.hid (reads_lay hb hL1.out R2_0.out)
  have R3_1 := Lib.hid (readsT_lay hb hL1.out R3_0.out)
  clear hL1 R0_0 R1_0 R2_0 R3_0
  have hz1 := hb.size
  try simp only [World.size_alloc, World.drewN, World.drew] at hz1
  clear hb
  have l0_1 : w.heap.size < w1.heap.size := K0_1.out.lt
  have z0_0_1 : w1.cell? ⟨w.heap.size, 0, none⟩ = some (.int .i64 (m.ls)) := K0_1.out.cell 0
  have z0_1_1 : w1.cell? ⟨w.heap.size, 1, none⟩ = some (.int .i64 (m.ms)) := K0_1.out.cell 1
  have z0_2_1 : w1.cell? ⟨w.heap.size, 2, none⟩ = some (.int .i64 (m.lo)) := K0_1.out.cell 2
  have z0_3_1 : w1.cell? ⟨w.heap.size, 3, none⟩ = some (.int .i64 (m.hi)) := K0_1.out.cell 3
  have z0_4_1 : w1.cell? ⟨w.heap.size, 4, none⟩ = some (.int .i64 (m.sp)) := K0_1.out.cell 4
  have z0_5_1 : w1.cell? ⟨w.heap.size, 5, none⟩ = some (.slice m.A1 m.n1 m.c1) := K0_1.out.cell 5
  have z0_6_1 : w1.cell? ⟨w.heap.size, 6, none⟩ = some (.slice m.A2 m.n2 m.c2) := K0_1.out.cell 6
  have z0_7_1 : w1.cell? ⟨w.heap.size, 7, none⟩ = some (.slice A n c) := K0_1.out.cell 7
  have z0_8_1 : w1.cell? ⟨w.heap.size, 8, none⟩ = some (.int .i64 (day)) := K0_1.out.cell 8
  have z0_9_1 : w1.cell? ⟨w.heap.size, 9, none⟩ = some (.int .i64 (pos)) := K0_1.out.cell 9
  go_wp2_with fail
  refine (shortp_is m A n c _ l day pos true HL.out _ R0_1.out (Nat.le_refl _) (by omega)).mono ?_
  rintro e w2 ⟨rfl, hb⟩
  have HB2 := Lib.hid (show Below w.heap.size w w2 from step_below hb (by repeat' (first | exact Below.refl _ _ | exact HB1.out | refine below_drewN ?_ _ | refine Below.drew ?_ | refine Below.alloc ?_ (by first | omega | (simp; done) | (simp; omega) | (simp [World.setCell]; omega)) _ | refine Below.setCell ?_ (by first | omega | (simp; done) | (simp; omega)) _ | assumption)))
  have K0_2 := Lib.hid (step_blk hb (show Blk _ (w.heap.size) 64 #[.int .i64 (m.ls), .int .i64 (m.ms), .int .i64 (m.lo), .int .i64 (m.hi), .int .i64 (m.sp), .slice m.A1 m.n1 m.c1, .slice m.A2 m.n2 m.c2, .slice A n c, .int .i64 (day), .int .i64 (pos)] by repeat' (first | exact K0_1.out | exact Blk.at_ _ (by first | rfl | (simp; done) | (simp; omega)) _ _ | refine Blk.drewN ?_ _ | refine Blk.drew ?_ | refine Blk.alloc ?_ _ | refine Blk.far ?_ (by first | omega | (simp; done) | (simp; omega)) _ | assumption)))
  have hL2 := Lib.hid (show Below w1.heap.size w1 _ from reads_mid hb (by repeat' (first | exact Below.refl _ _ | refine below_drewN ?_ _ | refine Below.drew ?_ | refine Below.alloc ?_ (by first | omega | (simp; done) | (simp; omega) | (simp [World.setCell]; omega)) _ | refine Below.setCell ?_ (by first | omega | (simp; done) | (simp; omega)) _)))
  have R0_2 := Lib.hid (reads_lay hb hL2.out R0_1.out)
  have R1_2 := Lib.hid (mnt_lay hb hL2.out R1_1.out)
  have R2_2 := Lib.hid (reads_lay hb hL2.out R2_1.out)
  have R3_2 := Lib.hid (readsT_lay hb hL2.out R3_1.out)
  clear hL2 R0_1 R1_1 R2_1 R3_1
  have hz2 := hb.size
  try simp only [World.size_alloc, World.drewN, World.drew] at hz2
  clear hb K0_1 z0_0_1 z0_1_1 z0_2_1 z0_3_1 z0_4_1 z0_5_1 z0_6_1 z0_7_1 z0_8_1 z0_9_1 l0_1
  have l0_2 : w.heap.size < w2.heap.size := K0_2.out.lt
  have z0_0_2 : w2.cell? ⟨w.heap.size, 0, none⟩ = some (.int .i64 (m.ls)) := K0_2.out.cell 0
  have z0_1_2 : w2.cell? ⟨w.heap.size, 1, none⟩ = some (.int .i64 (m.ms)) := K0_2.out.cell 1
  have z0_2_2 : w2.cell? ⟨w.heap.size, 2, none⟩ = some (.int .i64 (m.lo)) := K0_2.out.cell 2
  have z0_3_2 : w2.cell? ⟨w.heap.size, 3, none⟩ = some (.int .i64 (m.hi)) := K0_2.out.cell 3
  have z0_4_2 : w2.cell? ⟨w.heap.size, 4, none⟩ = some (.int .i64 (m.sp)) := K0_2.out.cell 4
  have z0_5_2 : w2.cell? ⟨w.heap.size, 5, none⟩ = some (.slice m.A1 m.n1 m.c1) := K0_2.out.cell 5
  have z0_6_2 : w2.cell? ⟨w.heap.size, 6, none⟩ = some (.slice m.A2 m.n2 m.c2) := K0_2.out.cell 6
  have z0_7_2 : w2.cell? ⟨w.heap.size, 7, none⟩ = some (.slice A n c) := K0_2.out.cell 7
  have z0_8_2 : w2.cell? ⟨w.heap.size, 8, none⟩ = some (.int .i64 (day)) := K0_2.out.cell 8
  have z0_9_2 : w2.cell? ⟨w.heap.size, 9, none⟩ = some (.int .i64 (pos)) := K0_2.out.cell 9
  go_wp2
  go_loopw [7] (fun i wr => ∃ k : Nat, k ≤ np ∧ i = .int .i64 k ∧ wr = w2 ∧ ∀ j r, j < k → tp[j]? = some r → r.n ≤ 50) (fun i _ => np - (intOf i).toNat)
  case atStart => exact ⟨0, by omega, rfl, by trivial, fun j r h => absurd h (by omega)⟩
  case round =>
    obtain ⟨k, hk, rfl, rfl, hpre⟩ := hrel
    obtain ⟨w2, hnm⟩ : ∃ z : World, z = wr := ⟨_, rfl⟩
    subst hnm
    have HPRE := Lib.hid hpre
    clear hpre
    by_cases hlt : k < np
    · obtain ⟨pb, po, r, hAp, hpb, hr, p0, -⟩ := R3_2.out.at_ hlt
      cases hAp
      have hkk : (k : Int) < (np : Int) := by omega
      have HRR := Lib.hid hr
      clear hr
      by_cases h50 : (50 : Int) < (r.n : Int)
      · go_wp2
        go_ret
        exact ⟨rfl, by repeat' (first | exact Below.refl _ _ | exact HB2.out | refine below_drewN ?_ _ | refine Below.drew ?_ | refine Below.alloc ?_ (by first | omega | (simp; done) | (simp; omega) | (simp [World.setCell]; omega)) _ | refine Below.setCell ?_ (by first | omega | (simp; done) | (simp; omega)) _ | assumption)⟩
      · go_wp2
        go_roundw
        case rel =>
          refine ⟨k + 1, by omega, by go_num, by trivial, fun j r' hj hr' => ?_⟩
          by_cases e : j < k
          · exact HPRE.out j r' e hr'
          · obtain rfl : k = j := by omega
            obtain rfl := Option.some.inj (HRR.out.symm.trans hr')
            omega
        case measure => simp [intOf]; omega
    · exfalso
      obtain ⟨j, hj⟩ := List.getElem?_of_mem HR0.out
      have h1 := (List.getElem?_eq_some_iff.1 hj).1
      have h2 := HLP.out
      have h3 := HPRE.out j r0 (by omega) hj
      have h4 := HBG.out
      omega

set_option maxRecDepth 100000 in
set_option maxHeartbeats 4000000 in
theorem lawPH_bad (m : Mnt) (A : Option Addr) (n c : Nat) (l : List Tgt) (day pos : Int) (At : Option Addr) (nt ct : Nat) (ks : List Int) (Ap : Option Addr) (np cp : Nat) (tp : List TRow) (w : World) (hx : TourIn m A n c l day pos w) (hntc : nt ≤ ct ∧ ct ≤ 9223372036854775807) (hrk : Reads w w.heap.size 1 At nt (ks.map (.int .i64)))
    (hnpc : np ≤ cp ∧ cp ≤ 9223372036854775807) (hrp : ReadsT w w.heap.size Ap np tp)
    (hl : shortB m l = true) (h8 : nt ≤ 8) (h9 : np ≤ 8) (h50 : ∀ r ∈ tp, r.n ≤ 50) (hT : (tourF m l day pos).2 ≠ 0) :
    Calls Try.prog 10 #[tourV m A n c day pos, .slice At nt ct, .slice Ap np cp] w fun e w' => e = .returned (.bool true) ∧ Below w.heap.size w w' := by
  have hma := hx.mnt.at_
  have hrd := hx.rd
  have hfit := hx.fit
  have hlen := hx.len
  have hnc := hx.hn.1
  have hcc := hx.hn.2
  unfold tourV
  clear hx
  obtain ⟨-, hn1, hn2, hn23⟩ := short_parts hl
  obtain ⟨i, E, hE⟩ : ∃ i E, tourF m l day pos = (i, E) := ⟨_, _, rfl⟩
  rw [hE] at hT
  simp only at hT
  have HL := Lib.hid hl
  have HF := Lib.hid hfit
  have HE := Lib.hid hE
  have HE0 := Lib.hid hT
  have H50 := Lib.hid h50
  have d8 : ¬ (8 : Int) < (nt : Int) := by omega
  have d9 : ¬ (8 : Int) < (np : Int) := by omega
  have q1 : (E == E) = true := by simp
  have q3 : (E != 0) = true := by simpa using hT
  clear hl hfit hE hT h50
  go_enter Try.func10, Try.ntmps10
  have R0_0 := Lib.hid hrd
  clear hrd
  have R1_0 := Lib.hid hma
  clear hma
  have R2_0 := Lib.hid hrk
  clear hrk
  have R3_0 := Lib.hid hrp
  clear hrp
  go_wp2_with fail
  refine (awakept_any _).mono ?_
  rintro e w1 ⟨rfl, hb⟩
  have HB1 := Lib.hid (show Below w.heap.size w w1 from step_below hb (by repeat' (first | exact Below.refl _ _ | exact HB0.out | refine below_drewN ?_ _ | refine Below.drew ?_ | refine Below.alloc ?_ (by first | omega | (simp; done) | (simp; omega) | (simp [World.setCell]; omega)) _ | refine Below.setCell ?_ (by first | omega | (simp; done) | (simp; omega)) _ | assumption)))
  have K0_1 := Lib.hid (step_blk hb (show Blk _ (w.heap.size) 64 #[.int .i64 (m.ls), .int .i64 (m.ms), .int .i64 (m.lo), .int .i64 (m.hi), .int .i64 (m.sp), .slice m.A1 m.n1 m.c1, .slice m.A2 m.n2 m.c2, .slice A n c, .int .i64 (day), .int .i64 (pos)] by repeat' (first | exact Blk.at_ _ (by first | rfl | (simp; done) | (simp; omega)) _ _ | refine Blk.drewN ?_ _ | refine Blk.drew ?_ | refine Blk.alloc ?_ _ | refine Blk.far ?_ (by first | omega | (simp; done) | (simp; omega)) _ | assumption)))
  have hL1 := Lib.hid (show Below w.heap.size w _ from reads_mid hb (by repeat' (first | exact Below.refl _ _ | refine below_drewN ?_ _ | refine Below.drew ?_ | refine Below.alloc ?_ (by first | omega | (simp; done) | (simp; omega) | (simp [World.setCell]; omega)) _ | refine Below.setCell ?_ (by first | omega | (simp; done) | (simp; omega)) _)))
  have R0_1 := Lib.hid (reads_lay hb hL1.out R0_0.out)
  have R1_1 := Lib.hid (mnt_lay hb hL1.out R1_0.out)
  have R2_1 := Lib.hid (reads_lay hb hL1.out R2_0.out)
  have R3_1 := Lib.hid (readsT_lay hb hL1.out R3_0.out)
  clear hL1 R0_0 R1_0 R2_0 R3_0
  have hz1 := hb.size
  try simp only [World.size_alloc, World.drewN, World.drew] at hz1
  clear hb
  have l0_1 : w.heap.size < w1.heap.size := K0_1.out.lt
  have z0_0_1 : w1.cell? ⟨w.heap.size, 0, none⟩ = some (.int .i64 (m.ls)) := K0_1.out.cell 0
  have z0_1_1 : w1.cell? ⟨w.heap.size, 1, none⟩ = some (.int .i64 (m.ms)) := K0_1.out.cell 1
  have z0_2_1 : w1.cell? ⟨w.heap.size, 2, none⟩ = some (.int .i64 (m.lo)) := K0_1.out.cell 2
  have z0_3_1 : w1.cell? ⟨w.heap.size, 3, none⟩ = some (.int .i64 (m.hi)) := K0_1.out.cell 3
  have z0_4_1 : w1.cell? ⟨w.heap.size, 4, none⟩ = some (.int .i64 (m.sp)) := K0_1.out.cell 4
  have z0_5_1 : w1.cell? ⟨w.heap.size, 5, none⟩ = some (.slice m.A1 m.n1 m.c1) := K0_1.out.cell 5
  have z0_6_1 : w1.cell? ⟨w.heap.size, 6, none⟩ = some (.slice m.A2 m.n2 m.c2) := K0_1.out.cell 6
  have z0_7_1 : w1.cell? ⟨w.heap.size, 7, none⟩ = some (.slice A n c) := K0_1.out.cell 7
  have z0_8_1 : w1.cell? ⟨w.heap.size, 8, none⟩ = some (.int .i64 (day)) := K0_1.out.cell 8
  have z0_9_1 : w1.cell? ⟨w.heap.size, 9, none⟩ = some (.int .i64 (pos)) := K0_1.out.cell 9
  go_wp2_with fail
  refine (shortp_is m A n c _ l day pos true HL.out _ R0_1.out (Nat.le_refl _) (by omega)).mono ?_
  rintro e w2 ⟨rfl, hb⟩
  have HB2 := Lib.hid (show Below w.heap.size w w2 from step_below hb (by repeat' (first | exact Below.refl _ _ | exact HB1.out | refine below_drewN ?_ _ | refine Below.drew ?_ | refine Below.alloc ?_ (by first | omega | (simp; done) | (simp; omega) | (simp [World.setCell]; omega)) _ | refine Below.setCell ?_ (by first | omega | (simp; done) | (simp; omega)) _ | assumption)))
  have K0_2 := Lib.hid (step_blk hb (show Blk _ (w.heap.size) 64 #[.int .i64 (m.ls), .int .i64 (m.ms), .int .i64 (m.lo), .int .i64 (m.hi), .int .i64 (m.sp), .slice m.A1 m.n1 m.c1, .slice m.A2 m.n2 m.c2, .slice A n c, .int .i64 (day), .int .i64 (pos)] by repeat' (first | exact K0_1.out | exact Blk.at_ _ (by first | rfl | (simp; done) | (simp; omega)) _ _ | refine Blk.drewN ?_ _ | refine Blk.drew ?_ | refine Blk.alloc ?_ _ | refine Blk.far ?_ (by first | omega | (simp; done) | (simp; omega)) _ | assumption)))
  have hL2 := Lib.hid (show Below w1.heap.size w1 _ from reads_mid hb (by repeat' (first | exact Below.refl _ _ | refine below_drewN ?_ _ | refine Below.drew ?_ | refine Below.alloc ?_ (by first | omega | (simp; done) | (simp; omega) | (simp [World.setCell]; omega)) _ | refine Below.setCell ?_ (by first | omega | (simp; done) | (simp; omega)) _)))
  have R0_2 := Lib.hid (reads_lay hb hL2.out R0_1.out)
  have R1_2 := Lib.hid (mnt_lay hb hL2.out R1_1.out)
  have R2_2 := Lib.hid (reads_lay hb hL2.out R2_1.out)
  have R3_2 := Lib.hid (readsT_lay hb hL2.out R3_1.out)
  clear hL2 R0_1 R1_1 R2_1 R3_1
  have hz2 := hb.size
  try simp only [World.size_alloc, World.drewN, World.drew] at hz2
  clear hb K0_1 z0_0_1 z0_1_1 z0_2_1 z0_3_1 z0_4_1 z0_5_1 z0_6_1 z0_7_1 z0_8_1 z0_9_1 l0_1
  have l0_2 : w.heap.size < w2.heap.size := K0_2.out.lt
  have z0_0_2 : w2.cell? ⟨w.heap.size, 0, none⟩ = some (.int .i64 (m.ls)) := K0_2.out.cell 0
  have z0_1_2 : w2.cell? ⟨w.heap.size, 1, none⟩ = some (.int .i64 (m.ms)) := K0_2.out.cell 1
  have z0_2_2 : w2.cell? ⟨w.heap.size, 2, none⟩ = some (.int .i64 (m.lo)) := K0_2.out.cell 2
  have z0_3_2 : w2.cell? ⟨w.heap.size, 3, none⟩ = some (.int .i64 (m.hi)) := K0_2.out.cell 3
  have z0_4_2 : w2.cell? ⟨w.heap.size, 4, none⟩ = some (.int .i64 (m.sp)) := K0_2.out.cell 4
  have z0_5_2 : w2.cell? ⟨w.heap.size, 5, none⟩ = some (.slice m.A1 m.n1 m.c1) := K0_2.out.cell 5
  have z0_6_2 : w2.cell? ⟨w.heap.size, 6, none⟩ = some (.slice m.A2 m.n2 m.c2) := K0_2.out.cell 6
  have z0_7_2 : w2.cell? ⟨w.heap.size, 7, none⟩ = some (.slice A n c) := K0_2.out.cell 7
  have z0_8_2 : w2.cell? ⟨w.heap.size, 8, none⟩ = some (.int .i64 (day)) := K0_2.out.cell 8
  have z0_9_2 : w2.cell? ⟨w.heap.size, 9, none⟩ = some (.int .i64 (pos)) := K0_2.out.cell 9
  go_wp2
  go_loopw [7] (fun i wr => ∃ k : Nat, k ≤ np ∧ i = .int .i64 k ∧ wr = w2) (fun i _ => np - (intOf i).toNat)
  case atStart => exact ⟨0, by omega, rfl, by trivial⟩
  case round =>
    obtain ⟨k, hk, rfl, rfl⟩ := hrel
    obtain ⟨w2, hnm⟩ : ∃ z : World, z = wr := ⟨_, rfl⟩
    subst hnm
    by_cases hlt : k < np
    · obtain ⟨pb, po, r, hAp, hpb, hr, p0, -⟩ := R3_2.out.at_ hlt
      cases hAp
      have h50 := H50.out r (List.mem_of_getElem? hr)
      have d50 : ¬ (50 : Int) < (r.n : Int) := by omega
      have hkk : (k : Int) < (np : Int) := by omega
      clear hr
      go_wp2
      go_roundw
      case rel => exact ⟨k + 1, by omega, by go_num, by trivial⟩
      case measure => simp [intOf]; omega
    · obtain rfl : np = k := by omega
      go_wp2
      refine Fx.regionM (fun W g f w' => Kp (PfT m n l nt ks 2 5 9) W g w') (valT m n nt 2 5) (by kernel_rfl) ?_ ?_
      · intro f hf0
        exact Kp.start
      first
      | (refine Fx.WM.skip 0 (by rfl) (by kernel_rfl) (by kernel_rfl) (by kernel_rfl) (by rfl) (fun g f w h => h) ?_; simp only [Act.put, List.setIfInBounds_toArray, List.set_cons_zero, List.set_cons_succ])
      | (refine Fx.WM.val_ 0 ?_ (by rfl) (by kernel_rfl) (by kernel_rfl) (by kernel_rfl) (by rfl) ?_ (fun g f w h => h) ?_
         rotate_left
         · intro g f w' hx hD hk
           obtain hkp := id hD
           clear hx hk hD hkp
           go_simp
           try rfl
         simp only [Act.put, List.setIfInBounds_toArray, List.set_cons_zero, List.set_cons_succ])
      first
      | (refine Fx.WM.skip 3 (by rfl) (by kernel_rfl) (by kernel_rfl) (by kernel_rfl) (by rfl) (fun g f w h => h) ?_; simp only [Act.put, List.setIfInBounds_toArray, List.set_cons_zero, List.set_cons_succ])
      | (refine Fx.WM.val_ 3 ?_ (by rfl) (by kernel_rfl) (by kernel_rfl) (by kernel_rfl) (by rfl) ?_ (fun g f w h => h) ?_
         rotate_left
         · intro g f w' hx hD hk
           obtain hkp := id hD
           clear hx hk hD hkp
           go_simp
           try rfl
         simp only [Act.put, List.setIfInBounds_toArray, List.set_cons_zero, List.set_cons_succ])
      first
      | (refine Fx.WM.skip 6 (by rfl) (by kernel_rfl) (by kernel_rfl) (by kernel_rfl) (by rfl) (fun g f w h => h) ?_; simp only [Act.put, List.setIfInBounds_toArray, List.set_cons_zero, List.set_cons_succ])
      | (refine Fx.WM.val_ 6 ?_ (by rfl) (by kernel_rfl) (by kernel_rfl) (by kernel_rfl) (by rfl) ?_ (fun g f w h => h) ?_
         rotate_left
         · intro g f w' hx hD hk
           obtain hkp := id hD
           clear hx hk hD hkp
           go_simp
           try rfl
         simp only [Act.put, List.setIfInBounds_toArray, List.set_cons_zero, List.set_cons_succ])
      first
      | (refine Fx.WM.skip 8 (by rfl) (by kernel_rfl) (by kernel_rfl) (by kernel_rfl) (by rfl) (fun g f w h => h) ?_; simp only [Act.put, List.setIfInBounds_toArray, List.set_cons_zero, List.set_cons_succ])
      | (refine Fx.WM.val_ 8 ?_ (by rfl) (by kernel_rfl) (by kernel_rfl) (by kernel_rfl) (by rfl) ?_ (fun g f w h => h) ?_
         rotate_left
         · intro g f w' hx hD hk
           obtain hkp := id hD
           clear hx hk hD hkp
           go_simp
           try rfl
         simp only [Act.put, List.setIfInBounds_toArray, List.set_cons_zero, List.set_cons_succ])
      first
      | (refine Fx.WM.skip 1 (by rfl) (by kernel_rfl) (by kernel_rfl) (by kernel_rfl) (by rfl) (fun g f w h => h) ?_; simp only [Act.put, List.setIfInBounds_toArray, List.set_cons_zero, List.set_cons_succ])
      | (refine Fx.WM.val_ 1 ?_ (by rfl) (by kernel_rfl) (by kernel_rfl) (by kernel_rfl) (by rfl) ?_ (fun g f w h => h) ?_
         rotate_left
         · intro g f w' hx hD hk
           obtain hkp := id hD
           have y0_0 := (K0_2.out.below hkp.bel l0_2).cell 0
           have y0_1 := (K0_2.out.below hkp.bel l0_2).cell 1
           have y0_2 := (K0_2.out.below hkp.bel l0_2).cell 2
           have y0_3 := (K0_2.out.below hkp.bel l0_2).cell 3
           have y0_4 := (K0_2.out.below hkp.bel l0_2).cell 4
           have y0_5 := (K0_2.out.below hkp.bel l0_2).cell 5
           have y0_6 := (K0_2.out.below hkp.bel l0_2).cell 6
           have y0_7 := (K0_2.out.below hkp.bel l0_2).cell 7
           have y0_8 := (K0_2.out.below hkp.bel l0_2).cell 8
           have y0_9 := (K0_2.out.below hkp.bel l0_2).cell 9
           clear hx hk hD hkp
           go_simp
           try rfl
         simp only [Act.put, List.setIfInBounds_toArray, List.set_cons_zero, List.set_cons_succ])
      first
      | (refine Fx.WM.skip 4 (by rfl) (by kernel_rfl) (by kernel_rfl) (by kernel_rfl) (by rfl) (fun g f w h => h) ?_; simp only [Act.put, List.setIfInBounds_toArray, List.set_cons_zero, List.set_cons_succ])
      | (refine Fx.WM.val_ 4 ?_ (by rfl) (by kernel_rfl) (by kernel_rfl) (by kernel_rfl) (by rfl) ?_ (fun g f w h => h) ?_
         rotate_left
         · intro g f w' hx hD hk
           obtain hkp := id hD
           have y0_0 := (K0_2.out.below hkp.bel l0_2).cell 0
           have y0_1 := (K0_2.out.below hkp.bel l0_2).cell 1
           have y0_2 := (K0_2.out.below hkp.bel l0_2).cell 2
           have y0_3 := (K0_2.out.below hkp.bel l0_2).cell 3
           have y0_4 := (K0_2.out.below hkp.bel l0_2).cell 4
           have y0_5 := (K0_2.out.below hkp.bel l0_2).cell 5
           have y0_6 := (K0_2.out.below hkp.bel l0_2).cell 6
           have y0_7 := (K0_2.out.below hkp.bel l0_2).cell 7
           have y0_8 := (K0_2.out.below hkp.bel l0_2).cell 8
           have y0_9 := (K0_2.out.below hkp.bel l0_2).cell 9
           clear hx hk hD hkp
           go_simp
           try rfl
         simp only [Act.put, List.setIfInBounds_toArray, List.set_cons_zero, List.set_cons_succ])
      first
      | (refine Fx.WM.skip 7 (by rfl) (by kernel_rfl) (by kernel_rfl) (by kernel_rfl) (by rfl) (fun g f w h => h) ?_; simp only [Act.put, List.setIfInBounds_toArray, List.set_cons_zero, List.set_cons_succ])
      | (refine Fx.WM.val_ 7 ?_ (by rfl) (by kernel_rfl) (by kernel_rfl) (by kernel_rfl) (by rfl) ?_ (fun g f w h => h) ?_
         rotate_left
         · intro g f w' hx hD hk
           obtain hkp := id hD
           have y0_0 := (K0_2.out.below hkp.bel l0_2).cell 0
           have y0_1 := (K0_2.out.below hkp.bel l0_2).cell 1
           have y0_2 := (K0_2.out.below hkp.bel l0_2).cell 2
           have y0_3 := (K0_2.out.below hkp.bel l0_2).cell 3
           have y0_4 := (K0_2.out.below hkp.bel l0_2).cell 4
           have y0_5 := (K0_2.out.below hkp.bel l0_2).cell 5
           have y0_6 := (K0_2.out.below hkp.bel l0_2).cell 6
           have y0_7 := (K0_2.out.below hkp.bel l0_2).cell 7
           have y0_8 := (K0_2.out.below hkp.bel l0_2).cell 8
           have y0_9 := (K0_2.out.below hkp.bel l0_2).cell 9
           clear hx hk hD hkp
           go_simp
           try rfl
         simp only [Act.put, List.setIfInBounds_toArray, List.set_cons_zero, List.set_cons_succ])
      refine Fx.WM.choose 2 (by rfl) (by kernel_rfl) (by rfl) ?_ ?_
      · skip
        refine Fx.Chooses.call ?_ ?_ (by rfl) ?_ ?_
        rotate_left 2
        · intro w'
          go_simp
          refine ⟨?_, ?_⟩ <;> rfl
        · intro f w' hD hk
          exact (mount_any m w' (R1_2.out.lay hD.bel) (by omega) (by omega)).mono fun e w'' ⟨A', c', B', d', he, hb, hm⟩ => ⟨((A', c'), (B', d')), he, hD.choose PfT.stb hb 2 _ ⟨fun _ => hm, fun e => absurd e (by decide), fun e => absurd e (by decide)⟩⟩
      intro x
      simp only [Act.put, List.setIfInBounds_toArray, List.set_cons_zero, List.set_cons_succ]
      refine Fx.WM.choose 5 (by rfl) (by kernel_rfl) (by rfl) ?_ ?_
      · skip
        refine Fx.Chooses.call ?_ ?_ (by rfl) ?_ ?_
        rotate_left 2
        · intro w'
          go_simp
          refine ⟨?_, ?_⟩ <;> rfl
        · intro f w' hD hk
          exact (ctargets_any A n c w'.heap.size l w' (((R0_2.out.below hD.bel).more hD.bel.size)) (Nat.le_refl _) (by omega)).mono fun e w'' ⟨A', c', he, hb, hr, ho⟩ => ⟨((A', c'), (none, 0)), he, hD.choose PfT.stb hb 5 _ ⟨fun e => absurd e (by decide), fun _ => ⟨hr, own_cap ho⟩, fun e => absurd e (by decide)⟩⟩
      intro y
      simp only [Act.put, List.setIfInBounds_toArray, List.set_cons_zero, List.set_cons_succ]
      refine Fx.WM.choose 9 (by rfl) (by kernel_rfl) (by rfl) ?_ ?_
      · skip
        refine Fx.Chooses.call ?_ ?_ (by rfl) ?_ ?_
        rotate_left 2
        · intro w'
          go_simp
          refine ⟨?_, ?_⟩ <;> rfl
        · intro f w' hD hk
          exact (copyints_any At nt ct w'.heap.size ks w' (((R2_2.out.below hD.bel).more hD.bel.size)) (Nat.le_refl _) (by omega)).mono fun e w'' ⟨A', c', he, hb, hr, ho⟩ => ⟨((A', c'), (none, 0)), he, hD.choose PfT.stb hb 9 _ ⟨fun e => absurd e (by decide), fun e => absurd e (by decide), fun _ => ⟨hr, own_cap ho⟩⟩⟩
      intro z
      simp only [Act.put, List.setIfInBounds_toArray, List.set_cons_zero, List.set_cons_succ]
      refine Fx.WM.call 10 (.tuple #[.int .i64 (0), .int .i64 (E)]) ?_ ?_ (by rfl) (by kernel_rfl) (by kernel_rfl) (by kernel_rfl) (by rfl) ?_ ?_ ?_
      rotate_left 2
      · intro w'
        go_simp
        refine ⟨?_, ?_⟩ <;> rfl
      · intro g f w' hx hD hk
        exact (pchoice_bad (m.to x.1.1 x.1.2 x.2.1 x.2.2) day pos l y.1.1 n y.1.2 z.1.1 nt z.1.2 i E HE.out HE0.out w' ((hD.has 2 x (hx 2 _ (by rfl))).1 rfl) ((hD.has 5 y (hx 5 _ (by rfl))).2.1 rfl).1 ((hD.has 5 y (hx 5 _ (by rfl))).2.1 rfl).2 HF.out).mono fun e w'' ⟨he, hw⟩ => ⟨he, hD.call PfT.stb hw⟩
      simp only [Act.put, List.setIfInBounds_toArray, List.set_cons_zero, List.set_cons_succ]
      first
      | (refine Fx.WM.skip 11 (by rfl) (by kernel_rfl) (by kernel_rfl) (by kernel_rfl) (by rfl) (fun g f w h => h) ?_; simp only [Act.put, List.setIfInBounds_toArray, List.set_cons_zero, List.set_cons_succ])
      | (refine Fx.WM.val_ 11 ?_ (by rfl) (by kernel_rfl) (by kernel_rfl) (by kernel_rfl) (by rfl) ?_ (fun g f w h => h) ?_
         rotate_left
         · intro g f w' hx hD hk
           obtain hkp := id hD
           clear hx hk hD hkp
           go_simp
           try rfl
         simp only [Act.put, List.setIfInBounds_toArray, List.set_cons_zero, List.set_cons_succ])
      first
      | (refine Fx.WM.skip 12 (by rfl) (by kernel_rfl) (by kernel_rfl) (by kernel_rfl) (by rfl) (fun g f w h => h) ?_; simp only [Act.put, List.setIfInBounds_toArray, List.set_cons_zero, List.set_cons_succ])
      | (refine Fx.WM.val_ 12 ?_ (by rfl) (by kernel_rfl) (by kernel_rfl) (by kernel_rfl) (by rfl) ?_ (fun g f w h => h) ?_
         rotate_left
         · intro g f w' hx hD hk
           obtain hkp := id hD
           clear hx hk hD hkp
           go_simp
           try rfl
         simp only [Act.put, List.setIfInBounds_toArray, List.set_cons_zero, List.set_cons_succ])
      first
      | (refine Fx.WM.skip 13 (by rfl) (by kernel_rfl) (by kernel_rfl) (by kernel_rfl) (by rfl) (fun g f w h => h) ?_; simp only [Act.put, List.setIfInBounds_toArray, List.set_cons_zero, List.set_cons_succ])
      | (refine Fx.WM.val_ 13 ?_ (by rfl) (by kernel_rfl) (by kernel_rfl) (by kernel_rfl) (by rfl) ?_ (fun g f w h => h) ?_
         rotate_left
         · intro g f w' hx hD hk
           obtain hkp := id hD
           clear hx hk hD hkp
           go_simp
           try rfl
         simp only [Act.put, List.setIfInBounds_toArray, List.set_cons_zero, List.set_cons_succ])
      first
      | (refine Fx.WM.skip 14 (by rfl) (by kernel_rfl) (by kernel_rfl) (by kernel_rfl) (by rfl) (fun g f w h => h) ?_; simp only [Act.put, List.setIfInBounds_toArray, List.set_cons_zero, List.set_cons_succ])
      | (refine Fx.WM.val_ 14 ?_ (by rfl) (by kernel_rfl) (by kernel_rfl) (by kernel_rfl) (by rfl) ?_ (fun g f w h => h) ?_
         rotate_left
         · intro g f w' hx hD hk
           obtain hkp := id hD
           clear hx hk hD hkp
           go_simp
           try rfl
         simp only [Act.put, List.setIfInBounds_toArray, List.set_cons_zero, List.set_cons_succ])
      first
      | (refine Fx.WM.skip 15 (by rfl) (by kernel_rfl) (by kernel_rfl) (by kernel_rfl) (by rfl) (fun g f w h => h) ?_; simp only [Act.put, List.setIfInBounds_toArray, List.set_cons_zero, List.set_cons_succ])
      | (refine Fx.WM.val_ 15 ?_ (by rfl) (by kernel_rfl) (by kernel_rfl) (by kernel_rfl) (by rfl) ?_ (fun g f w h => h) ?_
         rotate_left
         · intro g f w' hx hD hk
           obtain hkp := id hD
           clear hx hk hD hkp
           go_simp
           try rfl
         simp only [Act.put, List.setIfInBounds_toArray, List.set_cons_zero, List.set_cons_succ])
      refine Fx.WM.nil (by kernel_rfl) ?_
      intro wz hkp
      have hb := hkp.bel
      clear hkp
      obtain ⟨w3, hnm⟩ : ∃ z : World, z = wz := ⟨_, rfl⟩
      subst hnm
      have HB3 := Lib.hid (show Below w.heap.size w w3 from step_below hb (by repeat' (first | exact Below.refl _ _ | exact HB2.out | refine below_drewN ?_ _ | refine Below.drew ?_ | refine Below.alloc ?_ (by first | omega | (simp; done) | (simp; omega) | (simp [World.setCell]; omega)) _ | refine Below.setCell ?_ (by first | omega | (simp; done) | (simp; omega)) _ | assumption)))
      have K0_3 := Lib.hid (step_blk hb (show Blk _ (w.heap.size) 64 #[.int .i64 (m.ls), .int .i64 (m.ms), .int .i64 (m.lo), .int .i64 (m.hi), .int .i64 (m.sp), .slice m.A1 m.n1 m.c1, .slice m.A2 m.n2 m.c2, .slice A n c, .int .i64 (day), .int .i64 (pos)] by repeat' (first | exact K0_2.out | exact Blk.at_ _ (by first | rfl | (simp; done) | (simp; omega)) _ _ | refine Blk.drewN ?_ _ | refine Blk.drew ?_ | refine Blk.alloc ?_ _ | refine Blk.far ?_ (by first | omega | (simp; done) | (simp; omega)) _ | assumption)))
      have hL3 := Lib.hid (show Below w2.heap.size w2 _ from reads_mid hb (by repeat' (first | exact Below.refl _ _ | refine below_drewN ?_ _ | refine Below.drew ?_ | refine Below.alloc ?_ (by first | omega | (simp; done) | (simp; omega) | (simp [World.setCell]; omega)) _ | refine Below.setCell ?_ (by first | omega | (simp; done) | (simp; omega)) _)))
      have R0_3 := Lib.hid (reads_lay hb hL3.out R0_2.out)
      have R1_3 := Lib.hid (mnt_lay hb hL3.out R1_2.out)
      have R2_3 := Lib.hid (reads_lay hb hL3.out R2_2.out)
      have R3_3 := Lib.hid (readsT_lay hb hL3.out R3_2.out)
      clear hL3 R0_2 R1_2 R2_2 R3_2
      have hz3 := hb.size
      try simp only [World.size_alloc, World.drewN, World.drew] at hz3
      clear hb K0_2 z0_0_2 z0_1_2 z0_2_2 z0_3_2 z0_4_2 z0_5_2 z0_6_2 z0_7_2 z0_8_2 z0_9_2 l0_2
      have l0_3 : w.heap.size < w3.heap.size := K0_3.out.lt
      have z0_0_3 : w3.cell? ⟨w.heap.size, 0, none⟩ = some (.int .i64 (m.ls)) := K0_3.out.cell 0
      have z0_1_3 : w3.cell? ⟨w.heap.size, 1, none⟩ = some (.int .i64 (m.ms)) := K0_3.out.cell 1
      have z0_2_3 : w3.cell? ⟨w.heap.size, 2, none⟩ = some (.int .i64 (m.lo)) := K0_3.out.cell 2
      have z0_3_3 : w3.cell? ⟨w.heap.size, 3, none⟩ = some (.int .i64 (m.hi)) := K0_3.out.cell 3
      have z0_4_3 : w3.cell? ⟨w.heap.size, 4, none⟩ = some (.int .i64 (m.sp)) := K0_3.out.cell 4
      have z0_5_3 : w3.cell? ⟨w.heap.size, 5, none⟩ = some (.slice m.A1 m.n1 m.c1) := K0_3.out.cell 5
      have z0_6_3 : w3.cell? ⟨w.heap.size, 6, none⟩ = some (.slice m.A2 m.n2 m.c2) := K0_3.out.cell 6
      have z0_7_3 : w3.cell? ⟨w.heap.size, 7, none⟩ = some (.slice A n c) := K0_3.out.cell 7
      have z0_8_3 : w3.cell? ⟨w.heap.size, 8, none⟩ = some (.int .i64 (day)) := K0_3.out.cell 8
      have z0_9_3 : w3.cell? ⟨w.heap.size, 9, none⟩ = some (.int .i64 (pos)) := K0_3.out.cell 9
      go_wp2
      refine Fx.regionM (fun W g f w' => Kp (PfM m n l np tp 2 5 9) W g w') (valT m n np 2 5) (by kernel_rfl) ?_ ?_
      · intro f hf0
        exact Kp.start
      first
      | (refine Fx.WM.skip 0 (by rfl) (by kernel_rfl) (by kernel_rfl) (by kernel_rfl) (by rfl) (fun g f w h => h) ?_; simp only [Act.put, List.setIfInBounds_toArray, List.set_cons_zero, List.set_cons_succ])
      | (refine Fx.WM.val_ 0 ?_ (by rfl) (by kernel_rfl) (by kernel_rfl) (by kernel_rfl) (by rfl) ?_ (fun g f w h => h) ?_
         rotate_left
         · intro g f w' hx hD hk
           obtain hkp := id hD
           clear hx hk hD hkp
           go_simp
           try rfl
         simp only [Act.put, List.setIfInBounds_toArray, List.set_cons_zero, List.set_cons_succ])
      first
      | (refine Fx.WM.skip 3 (by rfl) (by kernel_rfl) (by kernel_rfl) (by kernel_rfl) (by rfl) (fun g f w h => h) ?_; simp only [Act.put, List.setIfInBounds_toArray, List.set_cons_zero, List.set_cons_succ])
      | (refine Fx.WM.val_ 3 ?_ (by rfl) (by kernel_rfl) (by kernel_rfl) (by kernel_rfl) (by rfl) ?_ (fun g f w h => h) ?_
         rotate_left
         · intro g f w' hx hD hk
           obtain hkp := id hD
           clear hx hk hD hkp
           go_simp
           try rfl
         simp only [Act.put, List.setIfInBounds_toArray, List.set_cons_zero, List.set_cons_succ])
      first
      | (refine Fx.WM.skip 6 (by rfl) (by kernel_rfl) (by kernel_rfl) (by kernel_rfl) (by rfl) (fun g f w h => h) ?_; simp only [Act.put, List.setIfInBounds_toArray, List.set_cons_zero, List.set_cons_succ])
      | (refine Fx.WM.val_ 6 ?_ (by rfl) (by kernel_rfl) (by kernel_rfl) (by kernel_rfl) (by rfl) ?_ (fun g f w h => h) ?_
         rotate_left
         · intro g f w' hx hD hk
           obtain hkp := id hD
           clear hx hk hD hkp
           go_simp
           try rfl
         simp only [Act.put, List.setIfInBounds_toArray, List.set_cons_zero, List.set_cons_succ])
      first
      | (refine Fx.WM.skip 8 (by rfl) (by kernel_rfl) (by kernel_rfl) (by kernel_rfl) (by rfl) (fun g f w h => h) ?_; simp only [Act.put, List.setIfInBounds_toArray, List.set_cons_zero, List.set_cons_succ])
      | (refine Fx.WM.val_ 8 ?_ (by rfl) (by kernel_rfl) (by kernel_rfl) (by kernel_rfl) (by rfl) ?_ (fun g f w h => h) ?_
         rotate_left
         · intro g f w' hx hD hk
           obtain hkp := id hD
           clear hx hk hD hkp
           go_simp
           try rfl
         simp only [Act.put, List.setIfInBounds_toArray, List.set_cons_zero, List.set_cons_succ])
      first
      | (refine Fx.WM.skip 1 (by rfl) (by kernel_rfl) (by kernel_rfl) (by kernel_rfl) (by rfl) (fun g f w h => h) ?_; simp only [Act.put, List.setIfInBounds_toArray, List.set_cons_zero, List.set_cons_succ])
      | (refine Fx.WM.val_ 1 ?_ (by rfl) (by kernel_rfl) (by kernel_rfl) (by kernel_rfl) (by rfl) ?_ (fun g f w h => h) ?_
         rotate_left
         · intro g f w' hx hD hk
           obtain hkp := id hD
           have y0_0 := (K0_3.out.below hkp.bel l0_3).cell 0
           have y0_1 := (K0_3.out.below hkp.bel l0_3).cell 1
           have y0_2 := (K0_3.out.below hkp.bel l0_3).cell 2
           have y0_3 := (K0_3.out.below hkp.bel l0_3).cell 3
           have y0_4 := (K0_3.out.below hkp.bel l0_3).cell 4
           have y0_5 := (K0_3.out.below hkp.bel l0_3).cell 5
           have y0_6 := (K0_3.out.below hkp.bel l0_3).cell 6
           have y0_7 := (K0_3.out.below hkp.bel l0_3).cell 7
           have y0_8 := (K0_3.out.below hkp.bel l0_3).cell 8
           have y0_9 := (K0_3.out.below hkp.bel l0_3).cell 9
           clear hx hk hD hkp
           go_simp
           try rfl
         simp only [Act.put, List.setIfInBounds_toArray, List.set_cons_zero, List.set_cons_succ])
      first
      | (refine Fx.WM.skip 4 (by rfl) (by kernel_rfl) (by kernel_rfl) (by kernel_rfl) (by rfl) (fun g f w h => h) ?_; simp only [Act.put, List.setIfInBounds_toArray, List.set_cons_zero, List.set_cons_succ])
      | (refine Fx.WM.val_ 4 ?_ (by rfl) (by kernel_rfl) (by kernel_rfl) (by kernel_rfl) (by rfl) ?_ (fun g f w h => h) ?_
         rotate_left
         · intro g f w' hx hD hk
           obtain hkp := id hD
           have y0_0 := (K0_3.out.below hkp.bel l0_3).cell 0
           have y0_1 := (K0_3.out.below hkp.bel l0_3).cell 1
           have y0_2 := (K0_3.out.below hkp.bel l0_3).cell 2
           have y0_3 := (K0_3.out.below hkp.bel l0_3).cell 3
           have y0_4 := (K0_3.out.below hkp.bel l0_3).cell 4
           have y0_5 := (K0_3.out.below hkp.bel l0_3).cell 5
           have y0_6 := (K0_3.out.below hkp.bel l0_3).cell 6
           have y0_7 := (K0_3.out.below hkp.bel l0_3).cell 7
           have y0_8 := (K0_3.out.below hkp.bel l0_3).cell 8
           have y0_9 := (K0_3.out.below hkp.bel l0_3).cell 9
           clear hx hk hD hkp
           go_simp
           try rfl
         simp only [Act.put, List.setIfInBounds_toArray, List.set_cons_zero, List.set_cons_succ])
      first
      | (refine Fx.WM.skip 7 (by rfl) (by kernel_rfl) (by kernel_rfl) (by kernel_rfl) (by rfl) (fun g f w h => h) ?_; simp only [Act.put, List.setIfInBounds_toArray, List.set_cons_zero, List.set_cons_succ])
      | (refine Fx.WM.val_ 7 ?_ (by rfl) (by kernel_rfl) (by kernel_rfl) (by kernel_rfl) (by rfl) ?_ (fun g f w h => h) ?_
         rotate_left
         · intro g f w' hx hD hk
           obtain hkp := id hD
           have y0_0 := (K0_3.out.below hkp.bel l0_3).cell 0
           have y0_1 := (K0_3.out.below hkp.bel l0_3).cell 1
           have y0_2 := (K0_3.out.below hkp.bel l0_3).cell 2
           have y0_3 := (K0_3.out.below hkp.bel l0_3).cell 3
           have y0_4 := (K0_3.out.below hkp.bel l0_3).cell 4
           have y0_5 := (K0_3.out.below hkp.bel l0_3).cell 5
           have y0_6 := (K0_3.out.below hkp.bel l0_3).cell 6
           have y0_7 := (K0_3.out.below hkp.bel l0_3).cell 7
           have y0_8 := (K0_3.out.below hkp.bel l0_3).cell 8
           have y0_9 := (K0_3.out.below hkp.bel l0_3).cell 9
           clear hx hk hD hkp
           go_simp
           try rfl
         simp only [Act.put, List.setIfInBounds_toArray, List.set_cons_zero, List.set_cons_succ])
      refine Fx.WM.choose 2 (by rfl) (by kernel_rfl) (by rfl) ?_ ?_
      · skip
        refine Fx.Chooses.call ?_ ?_ (by rfl) ?_ ?_
        rotate_left 2
        · intro w'
          go_simp
          refine ⟨?_, ?_⟩ <;> rfl
        · intro f w' hD hk
          exact (mount_any m w' (R1_3.out.lay hD.bel) (by omega) (by omega)).mono fun e w'' ⟨A', c', B', d', he, hb, hm⟩ => ⟨((A', c'), (B', d')), he, hD.choose PfM.stb hb 2 _ ⟨⟨fun _ => hm, fun e => absurd e (by decide), fun e => absurd e (by decide)⟩, fun e => absurd e (by decide)⟩⟩
      intro x
      simp only [Act.put, List.setIfInBounds_toArray, List.set_cons_zero, List.set_cons_succ]
      refine Fx.WM.choose 5 (by rfl) (by kernel_rfl) (by rfl) ?_ ?_
      · skip
        refine Fx.Chooses.call ?_ ?_ (by rfl) ?_ ?_
        rotate_left 2
        · intro w'
          go_simp
          refine ⟨?_, ?_⟩ <;> rfl
        · intro f w' hD hk
          exact (ctargets_any A n c w'.heap.size l w' (((R0_3.out.below hD.bel).more hD.bel.size)) (Nat.le_refl _) (by omega)).mono fun e w'' ⟨A', c', he, hb, hr, ho⟩ => ⟨((A', c'), (none, 0)), he, hD.choose PfM.stb hb 5 _ ⟨⟨fun e => absurd e (by decide), fun _ => ⟨hr, own_cap ho⟩, fun e => absurd e (by decide)⟩, fun e => absurd e (by decide)⟩⟩
      intro y
      simp only [Act.put, List.setIfInBounds_toArray, List.set_cons_zero, List.set_cons_succ]
      refine Fx.WM.choose 9 (by rfl) (by kernel_rfl) (by rfl) ?_ ?_
      · skip
        refine Fx.Chooses.call ?_ ?_ (by rfl) ?_ ?_
        rotate_left 2
        · intro w'
          go_simp
          refine ⟨?_, ?_⟩ <;> rfl
        · intro f w' hD hk
          exact (copylists_any Ap np cp tp w' ((R3_3.out.below hD.bel).more hD.bel.size) (by omega) (fun r hr => Nat.le_trans (H50.out r hr) (by decide))).mono fun e w'' ⟨hb, A', c', ts, he, hts, hrt⟩ => ⟨((A', c'), (none, 0)), he, hD.choose PfM.stb hb 9 _ ⟨⟨fun e => absurd e (by decide), fun e => absurd e (by decide), fun e => absurd e (by decide)⟩, fun _ => ⟨ts, hts, hrt⟩⟩⟩
      intro z
      simp only [Act.put, List.setIfInBounds_toArray, List.set_cons_zero, List.set_cons_succ]
      refine Fx.WM.call 10 (.tuple #[.int .i64 (0), .int .i64 (E)]) ?_ ?_ (by rfl) (by kernel_rfl) (by kernel_rfl) (by kernel_rfl) (by rfl) ?_ ?_ ?_
      rotate_left 2
      · intro w'
        go_simp
        refine ⟨?_, ?_⟩ <;> rfl
      · intro g f w' hx hD hk
        exact (pleast_bad (m.to x.1.1 x.1.2 x.2.1 x.2.2) day pos l y.1.1 n y.1.2 z.1.1 np z.1.2 i E HE.out HE0.out w' ((hD.has 2 x (hx 2 _ (by rfl))).1.1 rfl) ((hD.has 5 y (hx 5 _ (by rfl))).1.2.1 rfl).1 ((hD.has 5 y (hx 5 _ (by rfl))).1.2.1 rfl).2 HF.out).mono fun e w'' ⟨he, hw⟩ => ⟨he, hD.call PfM.stb hw⟩
      simp only [Act.put, List.setIfInBounds_toArray, List.set_cons_zero, List.set_cons_succ]
      first
      | (refine Fx.WM.skip 11 (by rfl) (by kernel_rfl) (by kernel_rfl) (by kernel_rfl) (by rfl) (fun g f w h => h) ?_; simp only [Act.put, List.setIfInBounds_toArray, List.set_cons_zero, List.set_cons_succ])
      | (refine Fx.WM.val_ 11 ?_ (by rfl) (by kernel_rfl) (by kernel_rfl) (by kernel_rfl) (by rfl) ?_ (fun g f w h => h) ?_
         rotate_left
         · intro g f w' hx hD hk
           obtain hkp := id hD
           clear hx hk hD hkp
           go_simp
           try rfl
         simp only [Act.put, List.setIfInBounds_toArray, List.set_cons_zero, List.set_cons_succ])
      first
      | (refine Fx.WM.skip 12 (by rfl) (by kernel_rfl) (by kernel_rfl) (by kernel_rfl) (by rfl) (fun g f w h => h) ?_; simp only [Act.put, List.setIfInBounds_toArray, List.set_cons_zero, List.set_cons_succ])
      | (refine Fx.WM.val_ 12 ?_ (by rfl) (by kernel_rfl) (by kernel_rfl) (by kernel_rfl) (by rfl) ?_ (fun g f w h => h) ?_
         rotate_left
         · intro g f w' hx hD hk
           obtain hkp := id hD
           clear hx hk hD hkp
           go_simp
           try rfl
         simp only [Act.put, List.setIfInBounds_toArray, List.set_cons_zero, List.set_cons_succ])
      first
      | (refine Fx.WM.skip 13 (by rfl) (by kernel_rfl) (by kernel_rfl) (by kernel_rfl) (by rfl) (fun g f w h => h) ?_; simp only [Act.put, List.setIfInBounds_toArray, List.set_cons_zero, List.set_cons_succ])
      | (refine Fx.WM.val_ 13 ?_ (by rfl) (by kernel_rfl) (by kernel_rfl) (by kernel_rfl) (by rfl) ?_ (fun g f w h => h) ?_
         rotate_left
         · intro g f w' hx hD hk
           obtain hkp := id hD
           clear hx hk hD hkp
           go_simp
           try rfl
         simp only [Act.put, List.setIfInBounds_toArray, List.set_cons_zero, List.set_cons_succ])
      first
      | (refine Fx.WM.skip 14 (by rfl) (by kernel_rfl) (by kernel_rfl) (by kernel_rfl) (by rfl) (fun g f w h => h) ?_; simp only [Act.put, List.setIfInBounds_toArray, List.set_cons_zero, List.set_cons_succ])
      | (refine Fx.WM.val_ 14 ?_ (by rfl) (by kernel_rfl) (by kernel_rfl) (by kernel_rfl) (by rfl) ?_ (fun g f w h => h) ?_
         rotate_left
         · intro g f w' hx hD hk
           obtain hkp := id hD
           clear hx hk hD hkp
           go_simp
           try rfl
         simp only [Act.put, List.setIfInBounds_toArray, List.set_cons_zero, List.set_cons_succ])
      first
      | (refine Fx.WM.skip 15 (by rfl) (by kernel_rfl) (by kernel_rfl) (by kernel_rfl) (by rfl) (fun g f w h => h) ?_; simp only [Act.put, List.setIfInBounds_toArray, List.set_cons_zero, List.set_cons_succ])
      | (refine Fx.WM.val_ 15 ?_ (by rfl) (by kernel_rfl) (by kernel_rfl) (by kernel_rfl) (by rfl) ?_ (fun g f w h => h) ?_
         rotate_left
         · intro g f w' hx hD hk
           obtain hkp := id hD
           clear hx hk hD hkp
           go_simp
           try rfl
         simp only [Act.put, List.setIfInBounds_toArray, List.set_cons_zero, List.set_cons_succ])
      refine Fx.WM.nil (by kernel_rfl) ?_
      intro wz hkp
      have hb := hkp.bel
      clear hkp
      obtain ⟨w4, hnm⟩ : ∃ z : World, z = wz := ⟨_, rfl⟩
      subst hnm
      have HB4 := Lib.hid (show Below w.heap.size w w4 from step_below hb (by repeat' (first | exact Below.refl _ _ | exact HB3.out | refine below_drewN ?_ _ | refine Below.drew ?_ | refine Below.alloc ?_ (by first | omega | (simp; done) | (simp; omega) | (simp [World.setCell]; omega)) _ | refine Below.setCell ?_ (by first | omega | (simp; done) | (simp; omega)) _ | assumption)))
      have K0_4 := Lib.hid (step_blk hb (show Blk _ (w.heap.size) 64 #[.int .i64 (m.ls), .int .i64 (m.ms), .int .i64 (m.lo), .int .i64 (m.hi), .int .i64 (m.sp), .slice m.A1 m.n1 m.c1, .slice m.A2 m.n2 m.c2, .slice A n c, .int .i64 (day), .int .i64 (pos)] by repeat' (first | exact K0_3.out | exact Blk.at_ _ (by first | rfl | (simp; done) | (simp; omega)) _ _ | refine Blk.drewN ?_ _ | refine Blk.drew ?_ | refine Blk.alloc ?_ _ | refine Blk.far ?_ (by first | omega | (simp; done) | (simp; omega)) _ | assumption)))
      have hL4 := Lib.hid (show Below w3.heap.size w3 _ from reads_mid hb (by repeat' (first | exact Below.refl _ _ | refine below_drewN ?_ _ | refine Below.drew ?_ | refine Below.alloc ?_ (by first | omega | (simp; done) | (simp; omega) | (simp [World.setCell]; omega)) _ | refine Below.setCell ?_ (by first | omega | (simp; done) | (simp; omega)) _)))
      have R0_4 := Lib.hid (reads_lay hb hL4.out R0_3.out)
      have R1_4 := Lib.hid (mnt_lay hb hL4.out R1_3.out)
      have R2_4 := Lib.hid (reads_lay hb hL4.out R2_3.out)
      have R3_4 := Lib.hid (readsT_lay hb hL4.out R3_3.out)
      clear hL4 R0_3 R1_3 R2_3 R3_3
      have hz4 := hb.size
      try simp only [World.size_alloc, World.drewN, World.drew] at hz4
      clear hb K0_3 z0_0_3 z0_1_3 z0_2_3 z0_3_3 z0_4_3 z0_5_3 z0_6_3 z0_7_3 z0_8_3 z0_9_3 l0_3
      have l0_4 : w.heap.size < w4.heap.size := K0_4.out.lt
      have z0_0_4 : w4.cell? ⟨w.heap.size, 0, none⟩ = some (.int .i64 (m.ls)) := K0_4.out.cell 0
      have z0_1_4 : w4.cell? ⟨w.heap.size, 1, none⟩ = some (.int .i64 (m.ms)) := K0_4.out.cell 1
      have z0_2_4 : w4.cell? ⟨w.heap.size, 2, none⟩ = some (.int .i64 (m.lo)) := K0_4.out.cell 2
      have z0_3_4 : w4.cell? ⟨w.heap.size, 3, none⟩ = some (.int .i64 (m.hi)) := K0_4.out.cell 3
      have z0_4_4 : w4.cell? ⟨w.heap.size, 4, none⟩ = some (.int .i64 (m.sp)) := K0_4.out.cell 4
      have z0_5_4 : w4.cell? ⟨w.heap.size, 5, none⟩ = some (.slice m.A1 m.n1 m.c1) := K0_4.out.cell 5
      have z0_6_4 : w4.cell? ⟨w.heap.size, 6, none⟩ = some (.slice m.A2 m.n2 m.c2) := K0_4.out.cell 6
      have z0_7_4 : w4.cell? ⟨w.heap.size, 7, none⟩ = some (.slice A n c) := K0_4.out.cell 7
      have z0_8_4 : w4.cell? ⟨w.heap.size, 8, none⟩ = some (.int .i64 (day)) := K0_4.out.cell 8
      have z0_9_4 : w4.cell? ⟨w.heap.size, 9, none⟩ = some (.int .i64 (pos)) := K0_4.out.cell 9
      go_wp2_with fail
      refine (rtour_is m day pos l A n c i E HE.out _ R1_4.out R0_4.out (by omega) HF.out).mono ?_
      rintro e w5 ⟨rfl, hb⟩
      have HB5 := Lib.hid (show Below w.heap.size w w5 from step_below hb (by repeat' (first | exact Below.refl _ _ | exact HB4.out | refine below_drewN ?_ _ | refine Below.drew ?_ | refine Below.alloc ?_ (by first | omega | (simp; done) | (simp; omega) | (simp [World.setCell]; omega)) _ | refine Below.setCell ?_ (by first | omega | (simp; done) | (simp; omega)) _ | assumption)))
      have K0_5 := Lib.hid (step_blk hb (show Blk _ (w.heap.size) 64 #[.int .i64 (m.ls), .int .i64 (m.ms), .int .i64 (m.lo), .int .i64 (m.hi), .int .i64 (m.sp), .slice m.A1 m.n1 m.c1, .slice m.A2 m.n2 m.c2, .slice A n c, .int .i64 (day), .int .i64 (pos)] by repeat' (first | exact K0_4.out | exact Blk.at_ _ (by first | rfl | (simp; done) | (simp; omega)) _ _ | refine Blk.drewN ?_ _ | refine Blk.drew ?_ | refine Blk.alloc ?_ _ | refine Blk.far ?_ (by first | omega | (simp; done) | (simp; omega)) _ | assumption)))
      have hL5 := Lib.hid (show Below w4.heap.size w4 _ from reads_mid hb (by repeat' (first | exact Below.refl _ _ | refine below_drewN ?_ _ | refine Below.drew ?_ | refine Below.alloc ?_ (by first | omega | (simp; done) | (simp; omega) | (simp [World.setCell]; omega)) _ | refine Below.setCell ?_ (by first | omega | (simp; done) | (simp; omega)) _)))
      have R0_5 := Lib.hid (reads_lay hb hL5.out R0_4.out)
      have R1_5 := Lib.hid (mnt_lay hb hL5.out R1_4.out)
      have R2_5 := Lib.hid (reads_lay hb hL5.out R2_4.out)
      have R3_5 := Lib.hid (readsT_lay hb hL5.out R3_4.out)
      clear hL5 R0_4 R1_4 R2_4 R3_4
      have hz5 := hb.size
      try simp only [World.size_alloc, World.drewN, World.drew] at hz5
      clear hb K0_4 z0_0_4 z0_1_4 z0_2_4 z0_3_4 z0_4_4 z0_5_4 z0_6_4 z0_7_4 z0_8_4 z0_9_4 l0_4
      have l0_5 : w.heap.size < w5.heap.size := K0_5.out.lt
      have z0_0_5 : w5.cell? ⟨w.heap.size, 0, none⟩ = some (.int .i64 (m.ls)) := K0_5.out.cell 0
      have z0_1_5 : w5.cell? ⟨w.heap.size, 1, none⟩ = some (.int .i64 (m.ms)) := K0_5.out.cell 1
      have z0_2_5 : w5.cell? ⟨w.heap.size, 2, none⟩ = some (.int .i64 (m.lo)) := K0_5.out.cell 2
      have z0_3_5 : w5.cell? ⟨w.heap.size, 3, none⟩ = some (.int .i64 (m.hi)) := K0_5.out.cell 3
      have z0_4_5 : w5.cell? ⟨w.heap.size, 4, none⟩ = some (.int .i64 (m.sp)) := K0_5.out.cell 4
      have z0_5_5 : w5.cell? ⟨w.heap.size, 5, none⟩ = some (.slice m.A1 m.n1 m.c1) := K0_5.out.cell 5
      have z0_6_5 : w5.cell? ⟨w.heap.size, 6, none⟩ = some (.slice m.A2 m.n2 m.c2) := K0_5.out.cell 6
      have z0_7_5 : w5.cell? ⟨w.heap.size, 7, none⟩ = some (.slice A n c) := K0_5.out.cell 7
      have z0_8_5 : w5.cell? ⟨w.heap.size, 8, none⟩ = some (.int .i64 (day)) := K0_5.out.cell 8
      have z0_9_5 : w5.cell? ⟨w.heap.size, 9, none⟩ = some (.int .i64 (pos)) := K0_5.out.cell 9
      go_wp2
      go_ret
      exact ⟨rfl, by repeat' (first | exact Below.refl _ _ | exact HB5.out | refine below_drewN ?_ _ | refine Below.drew ?_ | refine Below.alloc ?_ (by first | omega | (simp; done) | (simp; omega) | (simp [World.setCell]; omega)) _ | refine Below.setCell ?_ (by first | omega | (simp; done) | (simp; omega)) _ | assumption)⟩

set_option maxRecDepth 100000 in
set_option maxHeartbeats 4000000 in
theorem lawPH_ok (m : Mnt) (A : Option Addr) (n c : Nat) (l : List Tgt) (day pos : Int) (At : Option Addr) (nt ct : Nat) (ks : List Int) (Ap : Option Addr) (np cp : Nat) (tp : List TRow) (w : World) (hx : TourIn m A n c l day pos w) (hntc : nt ≤ ct ∧ ct ≤ 9223372036854775807) (hrk : Reads w w.heap.size 1 At nt (ks.map (.int .i64)))
    (hnpc : np ≤ cp ∧ cp ≤ 9223372036854775807) (hrp : ReadsT w w.heap.size Ap np tp)
    (hl : shortB m l = true) (h8 : nt ≤ 8) (h9 : np ≤ 8) (h50 : ∀ r ∈ tp, r.n ≤ 50) (hT : (tourF m l day pos).2 = 0) :
    Calls Try.prog 10 #[tourV m A n c day pos, .slice At nt ct, .slice Ap np cp] w fun e w' => e = .returned (.bool true) ∧ Below w.heap.size w w' := by
  have hma := hx.mnt.at_
  have hrd := hx.rd
  have hfit := hx.fit
  have hlen := hx.len
  have hnc := hx.hn.1
  have hcc := hx.hn.2
  unfold tourV
  clear hx
  obtain ⟨-, hn1, hn2, hn23⟩ := short_parts hl
  obtain ⟨Cc, Ec, hC⟩ : ∃ C E, choiceF m l day pos ks = (C, E) := ⟨_, _, rfl⟩
  obtain ⟨Cl, El, hR⟩ := least_res m day pos l (tp.map TRow.xs)
  have HL := Lib.hid hl
  have HF := Lib.hid hfit
  have HE := Lib.hid (tour_zero hT)
  have HZ0 := Lib.hid hT
  have HC := Lib.hid hC
  have HR := Lib.hid hR
  have H50 := Lib.hid h50
  have hxl : ∀ r ∈ tp, r.xs.length ≤ 50 := fun r hr => by rw [hrp.rlen hr]; exact h50 r hr
  have HXL := Lib.hid hxl
  have d8 : ¬ (8 : Int) < (nt : Int) := by omega
  have d9 : ¬ (8 : Int) < (np : Int) := by omega
  have q0 : ((0 : Int) != 0) = false := by decide
  have q1 : (Ec == Ec) = true := by simp
  have q2 : (Cc == Cc) = true := by simp
  have q3 : (El == El) = true := by simp
  have q4 : (Cl == Cl) = true := by simp
  have hle : Ec = 0 → El = 0 → Cl ≤ Cc := fun h1 h2 => by
    subst h1 h2
    obtain ⟨a1, a2, a3⟩ := hR.zero
    unfold choiceF at hC
    by_cases hp : pathErr m day l ks ≠ 0
    · rw [if_pos hp] at hC
      exact absurd (Prod.mk.inj hC).2 hp
    · rw [if_neg hp] at hC
      rw [a3, ← (Prod.mk.inj hC).1]
      exact bound_le a1 a2 (Decidable.not_not.1 hp)
  have HLE := Lib.hid hle
  clear hl hfit hT h50 hC hR hxl hle
  go_enter Try.func10, Try.ntmps10
  have R0_0 := Lib.hid hrd
  clear hrd
  have R1_0 := Lib.hid hma
  clear hma
  have R2_0 := Lib.hid hrk
  clear hrk
  have R3_0 := Lib.hid hrp
  clear hrp
  go_wp2_with fail
  refine (awakept_any _).mono ?_
  rintro e w1 ⟨rfl, hb⟩
  have HB1 := Lib.hid (show Below w.heap.size w w1 from step_below hb (by repeat' (first | exact Below.refl _ _ | exact HB0.out | refine below_drewN ?_ _ | refine Below.drew ?_ | refine Below.alloc ?_ (by first | omega | (simp; done) | (simp; omega) | (simp [World.setCell]; omega)) _ | refine Below.setCell ?_ (by first | omega | (simp; done) | (simp; omega)) _ | assumption)))
  have K0_1 := Lib.hid (step_blk hb (show Blk _ (w.heap.size) 64 #[.int .i64 (m.ls), .int .i64 (m.ms), .int .i64 (m.lo), .int .i64 (m.hi), .int .i64 (m.sp), .slice m.A1 m.n1 m.c1, .slice m.A2 m.n2 m.c2, .slice A n c, .int .i64 (day), .int .i64 (pos)] by repeat' (first | exact Blk.at_ _ (by first | rfl | (simp; done) | (simp; omega)) _ _ | refine Blk.drewN ?_ _ | refine Blk.drew ?_ | refine Blk.alloc ?_ _ | refine Blk.far ?_ (by first | omega | (simp; done) | (simp; omega)) _ | assumption)))
  have hL1 := Lib.hid (show Below w.heap.size w _ from reads_mid hb (by repeat' (first | exact Below.refl _ _ | refine below_drewN ?_ _ | refine Below.drew ?_ | refine Below.alloc ?_ (by first | omega | (simp; done) | (simp; omega) | (simp [World.setCell]; omega)) _ | refine Below.setCell ?_ (by first | omega | (simp; done) | (simp; omega)) _)))
  have R0_1 := Lib.hid (reads_lay hb hL1.out R0_0.out)
  have R1_1 := Lib.hid (mnt_lay hb hL1.out R1_0.out)
  have R2_1 := Lib.hid (reads_lay hb hL1.out R2_0.out)
  have R3_1 := Lib.hid (readsT_lay hb hL1.out R3_0.out)
  clear hL1 R0_0 R1_0 R2_0 R3_0
  have hz1 := hb.size
  try simp only [World.size_alloc, World.drewN, World.drew] at hz1
  clear hb
  have l0_1 : w.heap.size < w1.heap.size := K0_1.out.lt
  have z0_0_1 : w1.cell? ⟨w.heap.size, 0, none⟩ = some (.int .i64 (m.ls)) := K0_1.out.cell 0
  have z0_1_1 : w1.cell? ⟨w.heap.size, 1, none⟩ = some (.int .i64 (m.ms)) := K0_1.out.cell 1
  have z0_2_1 : w1.cell? ⟨w.heap.size, 2, none⟩ = some (.int .i64 (m.lo)) := K0_1.out.cell 2
  have z0_3_1 : w1.cell? ⟨w.heap.size, 3, none⟩ = some (.int .i64 (m.hi)) := K0_1.out.cell 3
  have z0_4_1 : w1.cell? ⟨w.heap.size, 4, none⟩ = some (.int .i64 (m.sp)) := K0_1.out.cell 4
  have z0_5_1 : w1.cell? ⟨w.heap.size, 5, none⟩ = some (.slice m.A1 m.n1 m.c1) := K0_1.out.cell 5
  have z0_6_1 : w1.cell? ⟨w.heap.size, 6, none⟩ = some (.slice m.A2 m.n2 m.c2) := K0_1.out.cell 6
  have z0_7_1 : w1.cell? ⟨w.heap.size, 7, none⟩ = some (.slice A n c) := K0_1.out.cell 7
  have z0_8_1 : w1.cell? ⟨w.heap.size, 8, none⟩ = some (.int .i64 (day)) := K0_1.out.cell 8
  have z0_9_1 : w1.cell? ⟨w.heap.size, 9, none⟩ = some (.int .i64 (pos)) := K0_1.out.cell 9
  go_wp2_with fail
  refine (shortp_is m A n c _ l day pos true HL.out _ R0_1.out (Nat.le_refl _) (by omega)).mono ?_
  rintro e w2 ⟨rfl, hb⟩
  have HB2 := Lib.hid (show Below w.heap.size w w2 from step_below hb (by repeat' (first | exact Below.refl _ _ | exact HB1.out | refine below_drewN ?_ _ | refine Below.drew ?_ | refine Below.alloc ?_ (by first | omega | (simp; done) | (simp; omega) | (simp [World.setCell]; omega)) _ | refine Below.setCell ?_ (by first | omega | (simp; done) | (simp; omega)) _ | assumption)))
  have K0_2 := Lib.hid (step_blk hb (show Blk _ (w.heap.size) 64 #[.int .i64 (m.ls), .int .i64 (m.ms), .int .i64 (m.lo), .int .i64 (m.hi), .int .i64 (m.sp), .slice m.A1 m.n1 m.c1, .slice m.A2 m.n2 m.c2, .slice A n c, .int .i64 (day), .int .i64 (pos)] by repeat' (first | exact K0_1.out | exact Blk.at_ _ (by first | rfl | (simp; done) | (simp; omega)) _ _ | refine Blk.drewN ?_ _ | refine Blk.drew ?_ | refine Blk.alloc ?_ _ | refine Blk.far ?_ (by first | omega | (simp; done) | (simp; omega)) _ | assumption)))
  have hL2 := Lib.hid (show Below w1.heap.size w1 _ from reads_mid hb (by repeat' (first | exact Below.refl _ _ | refine below_drewN ?_ _ | refine Below.drew ?_ | refine Below.alloc ?_ (by first | omega | (simp; done) | (simp; omega) | (simp [World.setCell]; omega)) _ | refine Below.setCell ?_ (by first | omega | (simp; done) | (simp; omega)) _)))
  have R0_2 := Lib.hid (reads_lay hb hL2.out R0_1.out)
  have R1_2 := Lib.hid (mnt_lay hb hL2.out R1_1.out)
  have R2_2 := Lib.hid (reads_lay hb hL2.out R2_1.out)
  have R3_2 := Lib.hid (readsT_lay hb hL2.out R3_1.out)
  clear hL2 R0_1 R1_1 R2_1 R3_1
  have hz2 := hb.size
  try simp only [World.size_alloc, World.drewN, World.drew] at hz2
  clear hb K0_1 z0_0_1 z0_1_1 z0_2_1 z0_3_1 z0_4_1 z0_5_1 z0_6_1 z0_7_1 z0_8_1 z0_9_1 l0_1
  have l0_2 : w.heap.size < w2.heap.size := K0_2.out.lt
  have z0_0_2 : w2.cell? ⟨w.heap.size, 0, none⟩ = some (.int .i64 (m.ls)) := K0_2.out.cell 0
  have z0_1_2 : w2.cell? ⟨w.heap.size, 1, none⟩ = some (.int .i64 (m.ms)) := K0_2.out.cell 1
  have z0_2_2 : w2.cell? ⟨w.heap.size, 2, none⟩ = some (.int .i64 (m.lo)) := K0_2.out.cell 2
  have z0_3_2 : w2.cell? ⟨w.heap.size, 3, none⟩ = some (.int .i64 (m.hi)) := K0_2.out.cell 3
  have z0_4_2 : w2.cell? ⟨w.heap.size, 4, none⟩ = some (.int .i64 (m.sp)) := K0_2.out.cell 4
  have z0_5_2 : w2.cell? ⟨w.heap.size, 5, none⟩ = some (.slice m.A1 m.n1 m.c1) := K0_2.out.cell 5
  have z0_6_2 : w2.cell? ⟨w.heap.size, 6, none⟩ = some (.slice m.A2 m.n2 m.c2) := K0_2.out.cell 6
  have z0_7_2 : w2.cell? ⟨w.heap.size, 7, none⟩ = some (.slice A n c) := K0_2.out.cell 7
  have z0_8_2 : w2.cell? ⟨w.heap.size, 8, none⟩ = some (.int .i64 (day)) := K0_2.out.cell 8
  have z0_9_2 : w2.cell? ⟨w.heap.size, 9, none⟩ = some (.int .i64 (pos)) := K0_2.out.cell 9
  go_wp2
  go_loopw [7] (fun i wr => ∃ k : Nat, k ≤ np ∧ i = .int .i64 k ∧ wr = w2) (fun i _ => np - (intOf i).toNat)
  case atStart => exact ⟨0, by omega, rfl, by trivial⟩
  case round =>
    obtain ⟨k, hk, rfl, rfl⟩ := hrel
    obtain ⟨w2, hnm⟩ : ∃ z : World, z = wr := ⟨_, rfl⟩
    subst hnm
    by_cases hlt : k < np
    · obtain ⟨pb, po, r, hAp, hpb, hr, p0, -⟩ := R3_2.out.at_ hlt
      cases hAp
      have h50 := H50.out r (List.mem_of_getElem? hr)
      have d50 : ¬ (50 : Int) < (r.n : Int) := by omega
      have hkk : (k : Int) < (np : Int) := by omega
      clear hr
      go_wp2
      go_roundw
      case rel => exact ⟨k + 1, by omega, by go_num, by trivial⟩
      case measure => simp [intOf]; omega
    · obtain rfl : np = k := by omega
      go_wp2
      refine Fx.regionM (fun W g f w' => Kp (PfT m n l nt ks 2 5 9) W g w') (valT m n nt 2 5) (by kernel_rfl) ?_ ?_
      · intro f hf0
        exact Kp.start
      first
      | (refine Fx.WM.skip 0 (by rfl) (by kernel_rfl) (by kernel_rfl) (by kernel_rfl) (by rfl) (fun g f w h => h) ?_; simp only [Act.put, List.setIfInBounds_toArray, List.set_cons_zero, List.set_cons_succ])
      | (refine Fx.WM.val_ 0 ?_ (by rfl) (by kernel_rfl) (by kernel_rfl) (by kernel_rfl) (by rfl) ?_ (fun g f w h => h) ?_
         rotate_left
         · intro g f w' hx hD hk
           obtain hkp := id hD
           clear hx hk hD hkp
           go_simp
           try rfl
         simp only [Act.put, List.setIfInBounds_toArray, List.set_cons_zero, List.set_cons_succ])
      first
      | (refine Fx.WM.skip 3 (by rfl) (by kernel_rfl) (by kernel_rfl) (by kernel_rfl) (by rfl) (fun g f w h => h) ?_; simp only [Act.put, List.setIfInBounds_toArray, List.set_cons_zero, List.set_cons_succ])
      | (refine Fx.WM.val_ 3 ?_ (by rfl) (by kernel_rfl) (by kernel_rfl) (by kernel_rfl) (by rfl) ?_ (fun g f w h => h) ?_
         rotate_left
         · intro g f w' hx hD hk
           obtain hkp := id hD
           clear hx hk hD hkp
           go_simp
           try rfl
         simp only [Act.put, List.setIfInBounds_toArray, List.set_cons_zero, List.set_cons_succ])
      first
      | (refine Fx.WM.skip 6 (by rfl) (by kernel_rfl) (by kernel_rfl) (by kernel_rfl) (by rfl) (fun g f w h => h) ?_; simp only [Act.put, List.setIfInBounds_toArray, List.set_cons_zero, List.set_cons_succ])
      | (refine Fx.WM.val_ 6 ?_ (by rfl) (by kernel_rfl) (by kernel_rfl) (by kernel_rfl) (by rfl) ?_ (fun g f w h => h) ?_
         rotate_left
         · intro g f w' hx hD hk
           obtain hkp := id hD
           clear hx hk hD hkp
           go_simp
           try rfl
         simp only [Act.put, List.setIfInBounds_toArray, List.set_cons_zero, List.set_cons_succ])
      first
      | (refine Fx.WM.skip 8 (by rfl) (by kernel_rfl) (by kernel_rfl) (by kernel_rfl) (by rfl) (fun g f w h => h) ?_; simp only [Act.put, List.setIfInBounds_toArray, List.set_cons_zero, List.set_cons_succ])
      | (refine Fx.WM.val_ 8 ?_ (by rfl) (by kernel_rfl) (by kernel_rfl) (by kernel_rfl) (by rfl) ?_ (fun g f w h => h) ?_
         rotate_left
         · intro g f w' hx hD hk
           obtain hkp := id hD
           clear hx hk hD hkp
           go_simp
           try rfl
         simp only [Act.put, List.setIfInBounds_toArray, List.set_cons_zero, List.set_cons_succ])
      first
      | (refine Fx.WM.skip 1 (by rfl) (by kernel_rfl) (by kernel_rfl) (by kernel_rfl) (by rfl) (fun g f w h => h) ?_; simp only [Act.put, List.setIfInBounds_toArray, List.set_cons_zero, List.set_cons_succ])
      | (refine Fx.WM.val_ 1 ?_ (by rfl) (by kernel_rfl) (by kernel_rfl) (by kernel_rfl) (by rfl) ?_ (fun g f w h => h) ?_
         rotate_left
         · intro g f w' hx hD hk
           obtain hkp := id hD
           have y0_0 := (K0_2.out.below hkp.bel l0_2).cell 0
           have y0_1 := (K0_2.out.below hkp.bel l0_2).cell 1
           have y0_2 := (K0_2.out.below hkp.bel l0_2).cell 2
           have y0_3 := (K0_2.out.below hkp.bel l0_2).cell 3
           have y0_4 := (K0_2.out.below hkp.bel l0_2).cell 4
           have y0_5 := (K0_2.out.below hkp.bel l0_2).cell 5
           have y0_6 := (K0_2.out.below hkp.bel l0_2).cell 6
           have y0_7 := (K0_2.out.below hkp.bel l0_2).cell 7
           have y0_8 := (K0_2.out.below hkp.bel l0_2).cell 8
           have y0_9 := (K0_2.out.below hkp.bel l0_2).cell 9
           clear hx hk hD hkp
           go_simp
           try rfl
         simp only [Act.put, List.setIfInBounds_toArray, List.set_cons_zero, List.set_cons_succ])
      first
      | (refine Fx.WM.skip 4 (by rfl) (by kernel_rfl) (by kernel_rfl) (by kernel_rfl) (by rfl) (fun g f w h => h) ?_; simp only [Act.put, List.setIfInBounds_toArray, List.set_cons_zero, List.set_cons_succ])
      | (refine Fx.WM.val_ 4 ?_ (by rfl) (by kernel_rfl) (by kernel_rfl) (by kernel_rfl) (by rfl) ?_ (fun g f w h => h) ?_
         rotate_left
         · intro g f w' hx hD hk
           obtain hkp := id hD
           have y0_0 := (K0_2.out.below hkp.bel l0_2).cell 0
           have y0_1 := (K0_2.out.below hkp.bel l0_2).cell 1
           have y0_2 := (K0_2.out.below hkp.bel l0_2).cell 2
           have y0_3 := (K0_2.out.below hkp.bel l0_2).cell 3
           have y0_4 := (K0_2.out.below hkp.bel l0_2).cell 4
           have y0_5 := (K0_2.out.below hkp.bel l0_2).cell 5
           have y0_6 := (K0_2.out.below hkp.bel l0_2).cell 6
           have y0_7 := (K0_2.out.below hkp.bel l0_2).cell 7
           have y0_8 := (K0_2.out.below hkp.bel l0_2).cell 8
           have y0_9 := (K0_2.out.below hkp.bel l0_2).cell 9
           clear hx hk hD hkp
           go_simp
           try rfl
         simp only [Act.put, List.setIfInBounds_toArray, List.set_cons_zero, List.set_cons_succ])
      first
      | (refine Fx.WM.skip 7 (by rfl) (by kernel_rfl) (by kernel_rfl) (by kernel_rfl) (by rfl) (fun g f w h => h) ?_; simp only [Act.put, List.setIfInBounds_toArray, List.set_cons_zero, List.set_cons_succ])
      | (refine Fx.WM.val_ 7 ?_ (by rfl) (by kernel_rfl) (by kernel_rfl) (by kernel_rfl) (by rfl) ?_ (fun g f w h => h) ?_
         rotate_left
         · intro g f w' hx hD hk
           obtain hkp := id hD
           have y0_0 := (K0_2.out.below hkp.bel l0_2).cell 0
           have y0_1 := (K0_2.out.below hkp.bel l0_2).cell 1
           have y0_2 := (K0_2.out.below hkp.bel l0_2).cell 2
           have y0_3 := (K0_2.out.below hkp.bel l0_2).cell 3
           have y0_4 := (K0_2.out.below hkp.bel l0_2).cell 4
           have y0_5 := (K0_2.out.below hkp.bel l0_2).cell 5
           have y0_6 := (K0_2.out.below hkp.bel l0_2).cell 6
           have y0_7 := (K0_2.out.below hkp.bel l0_2).cell 7
           have y0_8 := (K0_2.out.below hkp.bel l0_2).cell 8
           have y0_9 := (K0_2.out.below hkp.bel l0_2).cell 9
           clear hx hk hD hkp
           go_simp
           try rfl
         simp only [Act.put, List.setIfInBounds_toArray, List.set_cons_zero, List.set_cons_succ])
      refine Fx.WM.choose 2 (by rfl) (by kernel_rfl) (by rfl) ?_ ?_
      · skip
        refine Fx.Chooses.call ?_ ?_ (by rfl) ?_ ?_
        rotate_left 2
        · intro w'
          go_simp
          refine ⟨?_, ?_⟩ <;> rfl
        · intro f w' hD hk
          exact (mount_any m w' (R1_2.out.lay hD.bel) (by omega) (by omega)).mono fun e w'' ⟨A', c', B', d', he, hb, hm⟩ => ⟨((A', c'), (B', d')), he, hD.choose PfT.stb hb 2 _ ⟨fun _ => hm, fun e => absurd e (by decide), fun e => absurd e (by decide)⟩⟩
      intro x
      simp only [Act.put, List.setIfInBounds_toArray, List.set_cons_zero, List.set_cons_succ]
      refine Fx.WM.choose 5 (by rfl) (by kernel_rfl) (by rfl) ?_ ?_
      · skip
        refine Fx.Chooses.call ?_ ?_ (by rfl) ?_ ?_
        rotate_left 2
        · intro w'
          go_simp
          refine ⟨?_, ?_⟩ <;> rfl
        · intro f w' hD hk
          exact (ctargets_any A n c w'.heap.size l w' (((R0_2.out.below hD.bel).more hD.bel.size)) (Nat.le_refl _) (by omega)).mono fun e w'' ⟨A', c', he, hb, hr, ho⟩ => ⟨((A', c'), (none, 0)), he, hD.choose PfT.stb hb 5 _ ⟨fun e => absurd e (by decide), fun _ => ⟨hr, own_cap ho⟩, fun e => absurd e (by decide)⟩⟩
      intro y
      simp only [Act.put, List.setIfInBounds_toArray, List.set_cons_zero, List.set_cons_succ]
      refine Fx.WM.choose 9 (by rfl) (by kernel_rfl) (by rfl) ?_ ?_
      · skip
        refine Fx.Chooses.call ?_ ?_ (by rfl) ?_ ?_
        rotate_left 2
        · intro w'
          go_simp
          refine ⟨?_, ?_⟩ <;> rfl
        · intro f w' hD hk
          exact (copyints_any At nt ct w'.heap.size ks w' (((R2_2.out.below hD.bel).more hD.bel.size)) (Nat.le_refl _) (by omega)).mono fun e w'' ⟨A', c', he, hb, hr, ho⟩ => ⟨((A', c'), (none, 0)), he, hD.choose PfT.stb hb 9 _ ⟨fun e => absurd e (by decide), fun e => absurd e (by decide), fun _ => ⟨hr, own_cap ho⟩⟩⟩
      intro z
      simp only [Act.put, List.setIfInBounds_toArray, List.set_cons_zero, List.set_cons_succ]
      refine Fx.WM.call 10 (.tuple #[.int .i64 (Cc), .int .i64 (Ec)]) ?_ ?_ (by rfl) (by kernel_rfl) (by kernel_rfl) (by kernel_rfl) (by rfl) ?_ ?_ ?_
      rotate_left 2
      · intro w'
        go_simp
        refine ⟨?_, ?_⟩ <;> rfl
      · intro g f w' hx hD hk
        exact (pchoice_is (m.to x.1.1 x.1.2 x.2.1 x.2.2) day pos l y.1.1 n y.1.2 z.1.1 nt z.1.2 ks Cc Ec HC.out w' ((hD.has 2 x (hx 2 _ (by rfl))).1 rfl) ((hD.has 5 y (hx 5 _ (by rfl))).2.1 rfl).1 ((hD.has 5 y (hx 5 _ (by rfl))).2.1 rfl).2 HF.out ((hD.has 9 z (hx 9 _ (by rfl))).2.2 rfl).1 ((hD.has 9 z (hx 9 _ (by rfl))).2.2 rfl).2 HZ0.out).mono fun e w'' ⟨he, hw⟩ => ⟨he, hD.call PfT.stb hw⟩
      simp only [Act.put, List.setIfInBounds_toArray, List.set_cons_zero, List.set_cons_succ]
      first
      | (refine Fx.WM.skip 11 (by rfl) (by kernel_rfl) (by kernel_rfl) (by kernel_rfl) (by rfl) (fun g f w h => h) ?_; simp only [Act.put, List.setIfInBounds_toArray, List.set_cons_zero, List.set_cons_succ])
      | (refine Fx.WM.val_ 11 ?_ (by rfl) (by kernel_rfl) (by kernel_rfl) (by kernel_rfl) (by rfl) ?_ (fun g f w h => h) ?_
         rotate_left
         · intro g f w' hx hD hk
           obtain hkp := id hD
           clear hx hk hD hkp
           go_simp
           try rfl
         simp only [Act.put, List.setIfInBounds_toArray, List.set_cons_zero, List.set_cons_succ])
      first
      | (refine Fx.WM.skip 12 (by rfl) (by kernel_rfl) (by kernel_rfl) (by kernel_rfl) (by rfl) (fun g f w h => h) ?_; simp only [Act.put, List.setIfInBounds_toArray, List.set_cons_zero, List.set_cons_succ])
      | (refine Fx.WM.val_ 12 ?_ (by rfl) (by kernel_rfl) (by kernel_rfl) (by kernel_rfl) (by rfl) ?_ (fun g f w h => h) ?_
         rotate_left
         · intro g f w' hx hD hk
           obtain hkp := id hD
           clear hx hk hD hkp
           go_simp
           try rfl
         simp only [Act.put, List.setIfInBounds_toArray, List.set_cons_zero, List.set_cons_succ])
      first
      | (refine Fx.WM.skip 13 (by rfl) (by kernel_rfl) (by kernel_rfl) (by kernel_rfl) (by rfl) (fun g f w h => h) ?_; simp only [Act.put, List.setIfInBounds_toArray, List.set_cons_zero, List.set_cons_succ])
      | (refine Fx.WM.val_ 13 ?_ (by rfl) (by kernel_rfl) (by kernel_rfl) (by kernel_rfl) (by rfl) ?_ (fun g f w h => h) ?_
         rotate_left
         · intro g f w' hx hD hk
           obtain hkp := id hD
           clear hx hk hD hkp
           go_simp
           try rfl
         simp only [Act.put, List.setIfInBounds_toArray, List.set_cons_zero, List.set_cons_succ])
      first
      | (refine Fx.WM.skip 14 (by rfl) (by kernel_rfl) (by kernel_rfl) (by kernel_rfl) (by rfl) (fun g f w h => h) ?_; simp only [Act.put, List.setIfInBounds_toArray, List.set_cons_zero, List.set_cons_succ])
      | (refine Fx.WM.val_ 14 ?_ (by rfl) (by kernel_rfl) (by kernel_rfl) (by kernel_rfl) (by rfl) ?_ (fun g f w h => h) ?_
         rotate_left
         · intro g f w' hx hD hk
           obtain hkp := id hD
           clear hx hk hD hkp
           go_simp
           try rfl
         simp only [Act.put, List.setIfInBounds_toArray, List.set_cons_zero, List.set_cons_succ])
      first
      | (refine Fx.WM.skip 15 (by rfl) (by kernel_rfl) (by kernel_rfl) (by kernel_rfl) (by rfl) (fun g f w h => h) ?_; simp only [Act.put, List.setIfInBounds_toArray, List.set_cons_zero, List.set_cons_succ])
      | (refine Fx.WM.val_ 15 ?_ (by rfl) (by kernel_rfl) (by kernel_rfl) (by kernel_rfl) (by rfl) ?_ (fun g f w h => h) ?_
         rotate_left
         · intro g f w' hx hD hk
           obtain hkp := id hD
           clear hx hk hD hkp
           go_simp
           try rfl
         simp only [Act.put, List.setIfInBounds_toArray, List.set_cons_zero, List.set_cons_succ])
      refine Fx.WM.nil (by kernel_rfl) ?_
      intro wz hkp
      have hb := hkp.bel
      clear hkp
      obtain ⟨w3, hnm⟩ : ∃ z : World, z = wz := ⟨_, rfl⟩
      subst hnm
      have HB3 := Lib.hid (show Below w.heap.size w w3 from step_below hb (by repeat' (first | exact Below.refl _ _ | exact HB2.out | refine below_drewN ?_ _ | refine Below.drew ?_ | refine Below.alloc ?_ (by first | omega | (simp; done) | (simp; omega) | (simp [World.setCell]; omega)) _ | refine Below.setCell ?_ (by first | omega | (simp; done) | (simp; omega)) _ | assumption)))
      have K0_3 := Lib.hid (step_blk hb (show Blk _ (w.heap.size) 64 #[.int .i64 (m.ls), .int .i64 (m.ms), .int .i64 (m.lo), .int .i64 (m.hi), .int .i64 (m.sp), .slice m.A1 m.n1 m.c1, .slice m.A2 m.n2 m.c2, .slice A n c, .int .i64 (day), .int .i64 (pos)] by repeat' (first | exact K0_2.out | exact Blk.at_ _ (by first | rfl | (simp; done) | (simp; omega)) _ _ | refine Blk.drewN ?_ _ | refine Blk.drew ?_ | refine Blk.alloc ?_ _ | refine Blk.far ?_ (by first | omega | (simp; done) | (simp; omega)) _ | assumption)))
      have hL3 := Lib.hid (show Below w2.heap.size w2 _ from reads_mid hb (by repeat' (first | exact Below.refl _ _ | refine below_drewN ?_ _ | refine Below.drew ?_ | refine Below.alloc ?_ (by first | omega | (simp; done) | (simp; omega) | (simp [World.setCell]; omega)) _ | refine Below.setCell ?_ (by first | omega | (simp; done) | (simp; omega)) _)))
      have R0_3 := Lib.hid (reads_lay hb hL3.out R0_2.out)
      have R1_3 := Lib.hid (mnt_lay hb hL3.out R1_2.out)
      have R2_3 := Lib.hid (reads_lay hb hL3.out R2_2.out)
      have R3_3 := Lib.hid (readsT_lay hb hL3.out R3_2.out)
      clear hL3 R0_2 R1_2 R2_2 R3_2
      have hz3 := hb.size
      try simp only [World.size_alloc, World.drewN, World.drew] at hz3
      clear hb K0_2 z0_0_2 z0_1_2 z0_2_2 z0_3_2 z0_4_2 z0_5_2 z0_6_2 z0_7_2 z0_8_2 z0_9_2 l0_2
      have l0_3 : w.heap.size < w3.heap.size := K0_3.out.lt
      have z0_0_3 : w3.cell? ⟨w.heap.size, 0, none⟩ = some (.int .i64 (m.ls)) := K0_3.out.cell 0
      have z0_1_3 : w3.cell? ⟨w.heap.size, 1, none⟩ = some (.int .i64 (m.ms)) := K0_3.out.cell 1
      have z0_2_3 : w3.cell? ⟨w.heap.size, 2, none⟩ = some (.int .i64 (m.lo)) := K0_3.out.cell 2
      have z0_3_3 : w3.cell? ⟨w.heap.size, 3, none⟩ = some (.int .i64 (m.hi)) := K0_3.out.cell 3
      have z0_4_3 : w3.cell? ⟨w.heap.size, 4, none⟩ = some (.int .i64 (m.sp)) := K0_3.out.cell 4
      have z0_5_3 : w3.cell? ⟨w.heap.size, 5, none⟩ = some (.slice m.A1 m.n1 m.c1) := K0_3.out.cell 5
      have z0_6_3 : w3.cell? ⟨w.heap.size, 6, none⟩ = some (.slice m.A2 m.n2 m.c2) := K0_3.out.cell 6
      have z0_7_3 : w3.cell? ⟨w.heap.size, 7, none⟩ = some (.slice A n c) := K0_3.out.cell 7
      have z0_8_3 : w3.cell? ⟨w.heap.size, 8, none⟩ = some (.int .i64 (day)) := K0_3.out.cell 8
      have z0_9_3 : w3.cell? ⟨w.heap.size, 9, none⟩ = some (.int .i64 (pos)) := K0_3.out.cell 9
      go_wp2
      refine Fx.regionM (fun W g f w' => Kp (PfM m n l np tp 2 5 9) W g w') (valT m n np 2 5) (by kernel_rfl) ?_ ?_
      · intro f hf0
        exact Kp.start
      first
      | (refine Fx.WM.skip 0 (by rfl) (by kernel_rfl) (by kernel_rfl) (by kernel_rfl) (by rfl) (fun g f w h => h) ?_; simp only [Act.put, List.setIfInBounds_toArray, List.set_cons_zero, List.set_cons_succ])
      | (refine Fx.WM.val_ 0 ?_ (by rfl) (by kernel_rfl) (by kernel_rfl) (by kernel_rfl) (by rfl) ?_ (fun g f w h => h) ?_
         rotate_left
         · intro g f w' hx hD hk
           obtain hkp := id hD
           clear hx hk hD hkp
           go_simp
           try rfl
         simp only [Act.put, List.setIfInBounds_toArray, List.set_cons_zero, List.set_cons_succ])
      first
      | (refine Fx.WM.skip 3 (by rfl) (by kernel_rfl) (by kernel_rfl) (by kernel_rfl) (by rfl) (fun g f w h => h) ?_; simp only [Act.put, List.setIfInBounds_toArray, List.set_cons_zero, List.set_cons_succ])
      | (refine Fx.WM.val_ 3 ?_ (by rfl) (by kernel_rfl) (by kernel_rfl) (by kernel_rfl) (by rfl) ?_ (fun g f w h => h) ?_
         rotate_left
         · intro g f w' hx hD hk
           obtain hkp := id hD
           clear hx hk hD hkp
           go_simp
           try rfl
         simp only [Act.put, List.setIfInBounds_toArray, List.set_cons_zero, List.set_cons_succ])
      first
      | (refine Fx.WM.skip 6 (by rfl) (by kernel_rfl) (by kernel_rfl) (by kernel_rfl) (by rfl) (fun g f w h => h) ?_; simp only [Act.put, List.setIfInBounds_toArray, List.set_cons_zero, List.set_cons_succ])
      | (refine Fx.WM.val_ 6 ?_ (by rfl) (by kernel_rfl) (by kernel_rfl) (by kernel_rfl) (by rfl) ?_ (fun g f w h => h) ?_
         rotate_left
         · intro g f w' hx hD hk
           obtain hkp := id hD
           clear hx hk hD hkp
           go_simp
           try rfl
         simp only [Act.put, List.setIfInBounds_toArray, List.set_cons_zero, List.set_cons_succ])
      first
      | (refine Fx.WM.skip 8 (by rfl) (by kernel_rfl) (by kernel_rfl) (by kernel_rfl) (by rfl) (fun g f w h => h) ?_; simp only [Act.put, List.setIfInBounds_toArray, List.set_cons_zero, List.set_cons_succ])
      | (refine Fx.WM.val_ 8 ?_ (by rfl) (by kernel_rfl) (by kernel_rfl) (by kernel_rfl) (by rfl) ?_ (fun g f w h => h) ?_
         rotate_left
         · intro g f w' hx hD hk
           obtain hkp := id hD
           clear hx hk hD hkp
           go_simp
           try rfl
         simp only [Act.put, List.setIfInBounds_toArray, List.set_cons_zero, List.set_cons_succ])
      first
      | (refine Fx.WM.skip 1 (by rfl) (by kernel_rfl) (by kernel_rfl) (by kernel_rfl) (by rfl) (fun g f w h => h) ?_; simp only [Act.put, List.setIfInBounds_toArray, List.set_cons_zero, List.set_cons_succ])
      | (refine Fx.WM.val_ 1 ?_ (by rfl) (by kernel_rfl) (by kernel_rfl) (by kernel_rfl) (by rfl) ?_ (fun g f w h => h) ?_
         rotate_left
         · intro g f w' hx hD hk
           obtain hkp := id hD
           have y0_0 := (K0_3.out.below hkp.bel l0_3).cell 0
           have y0_1 := (K0_3.out.below hkp.bel l0_3).cell 1
           have y0_2 := (K0_3.out.below hkp.bel l0_3).cell 2
           have y0_3 := (K0_3.out.below hkp.bel l0_3).cell 3
           have y0_4 := (K0_3.out.below hkp.bel l0_3).cell 4
           have y0_5 := (K0_3.out.below hkp.bel l0_3).cell 5
           have y0_6 := (K0_3.out.below hkp.bel l0_3).cell 6
           have y0_7 := (K0_3.out.below hkp.bel l0_3).cell 7
           have y0_8 := (K0_3.out.below hkp.bel l0_3).cell 8
           have y0_9 := (K0_3.out.below hkp.bel l0_3).cell 9
           clear hx hk hD hkp
           go_simp
           try rfl
         simp only [Act.put, List.setIfInBounds_toArray, List.set_cons_zero, List.set_cons_succ])
      first
      | (refine Fx.WM.skip 4 (by rfl) (by kernel_rfl) (by kernel_rfl) (by kernel_rfl) (by rfl) (fun g f w h => h) ?_; simp only [Act.put, List.setIfInBounds_toArray, List.set_cons_zero, List.set_cons_succ])
      | (refine Fx.WM.val_ 4 ?_ (by rfl) (by kernel_rfl) (by kernel_rfl) (by kernel_rfl) (by rfl) ?_ (fun g f w h => h) ?_
         rotate_left
         · intro g f w' hx hD hk
           obtain hkp := id hD
           have y0_0 := (K0_3.out.below hkp.bel l0_3).cell 0
           have y0_1 := (K0_3.out.below hkp.bel l0_3).cell 1
           have y0_2 := (K0_3.out.below hkp.bel l0_3).cell 2
           have y0_3 := (K0_3.out.below hkp.bel l0_3).cell 3
           have y0_4 := (K0_3.out.below hkp.bel l0_3).cell 4
           have y0_5 := (K0_3.out.below hkp.bel l0_3).cell 5
           have y0_6 := (K0_3.out.below hkp.bel l0_3).cell 6
           have y0_7 := (K0_3.out.below hkp.bel l0_3).cell 7
           have y0_8 := (K0_3.out.below hkp.bel l0_3).cell 8
           have y0_9 := (K0_3.out.below hkp.bel l0_3).cell 9
           clear hx hk hD hkp
           go_simp
           try rfl
         simp only [Act.put, List.setIfInBounds_toArray, List.set_cons_zero, List.set_cons_succ])
      first
      | (refine Fx.WM.skip 7 (by rfl) (by kernel_rfl) (by kernel_rfl) (by kernel_rfl) (by rfl) (fun g f w h => h) ?_; simp only [Act.put, List.setIfInBounds_toArray, List.set_cons_zero, List.set_cons_succ])
      | (refine Fx.WM.val_ 7 ?_ (by rfl) (by kernel_rfl) (by kernel_rfl) (by kernel_rfl) (by rfl) ?_ (fun g f w h => h) ?_
         rotate_left
         · intro g f w' hx hD hk
           obtain hkp := id hD
           have y0_0 := (K0_3.out.below hkp.bel l0_3).cell 0
           have y0_1 := (K0_3.out.below hkp.bel l0_3).cell 1
           have y0_2 := (K0_3.out.below hkp.bel l0_3).cell 2
           have y0_3 := (K0_3.out.below hkp.bel l0_3).cell 3
           have y0_4 := (K0_3.out.below hkp.bel l0_3).cell 4
           have y0_5 := (K0_3.out.below hkp.bel l0_3).cell 5
           have y0_6 := (K0_3.out.below hkp.bel l0_3).cell 6
           have y0_7 := (K0_3.out.below hkp.bel l0_3).cell 7
           have y0_8 := (K0_3.out.below hkp.bel l0_3).cell 8
           have y0_9 := (K0_3.out.below hkp.bel l0_3).cell 9
           clear hx hk hD hkp
           go_simp
           try rfl
         simp only [Act.put, List.setIfInBounds_toArray, List.set_cons_zero, List.set_cons_succ])
      refine Fx.WM.choose 2 (by rfl) (by kernel_rfl) (by rfl) ?_ ?_
      · skip
        refine Fx.Chooses.call ?_ ?_ (by rfl) ?_ ?_
        rotate_left 2
        · intro w'
          go_simp
          refine ⟨?_, ?_⟩ <;> rfl
        · intro f w' hD hk
          exact (mount_any m w' (R1_3.out.lay hD.bel) (by omega) (by omega)).mono fun e w'' ⟨A', c', B', d', he, hb, hm⟩ => ⟨((A', c'), (B', d')), he, hD.choose PfM.stb hb 2 _ ⟨⟨fun _ => hm, fun e => absurd e (by decide), fun e => absurd e (by decide)⟩, fun e => absurd e (by decide)⟩⟩
      intro x
      simp only [Act.put, List.setIfInBounds_toArray, List.set_cons_zero, List.set_cons_succ]
      refine Fx.WM.choose 5 (by rfl) (by kernel_rfl) (by rfl) ?_ ?_
      · skip
        refine Fx.Chooses.call ?_ ?_ (by rfl) ?_ ?_
        rotate_left 2
        · intro w'
          go_simp
          refine ⟨?_, ?_⟩ <;> rfl
        · intro f w' hD hk
          exact (ctargets_any A n c w'.heap.size l w' (((R0_3.out.below hD.bel).more hD.bel.size)) (Nat.le_refl _) (by omega)).mono fun e w'' ⟨A', c', he, hb, hr, ho⟩ => ⟨((A', c'), (none, 0)), he, hD.choose PfM.stb hb 5 _ ⟨⟨fun e => absurd e (by decide), fun _ => ⟨hr, own_cap ho⟩, fun e => absurd e (by decide)⟩, fun e => absurd e (by decide)⟩⟩
      intro y
      simp only [Act.put, List.setIfInBounds_toArray, List.set_cons_zero, List.set_cons_succ]
      refine Fx.WM.choose 9 (by rfl) (by kernel_rfl) (by rfl) ?_ ?_
      · skip
        refine Fx.Chooses.call ?_ ?_ (by rfl) ?_ ?_
        rotate_left 2
        · intro w'
          go_simp
          refine ⟨?_, ?_⟩ <;> rfl
        · intro f w' hD hk
          exact (copylists_any Ap np cp tp w' ((R3_3.out.below hD.bel).more hD.bel.size) (by omega) (fun r hr => Nat.le_trans (H50.out r hr) (by decide))).mono fun e w'' ⟨hb, A', c', ts, he, hts, hrt⟩ => ⟨((A', c'), (none, 0)), he, hD.choose PfM.stb hb 9 _ ⟨⟨fun e => absurd e (by decide), fun e => absurd e (by decide), fun e => absurd e (by decide)⟩, fun _ => ⟨ts, hts, hrt⟩⟩⟩
      intro z
      simp only [Act.put, List.setIfInBounds_toArray, List.set_cons_zero, List.set_cons_succ]
      refine Fx.WM.call 10 (.tuple #[.int .i64 (Cl), .int .i64 (El)]) ?_ ?_ (by rfl) (by kernel_rfl) (by kernel_rfl) (by kernel_rfl) (by rfl) ?_ ?_ ?_
      rotate_left 2
      · intro w'
        go_simp
        refine ⟨?_, ?_⟩ <;> rfl
      · intro g f w' hx hD hk
        exact (pleast_like (m.to x.1.1 x.1.2 x.2.1 x.2.2) day pos l y.1.1 n y.1.2 z.1.1 np z.1.2 tp Cl El HR.out HXL.out (by omega) w' ((hD.has 2 x (hx 2 _ (by rfl))).1.1 rfl) ((hD.has 5 y (hx 5 _ (by rfl))).1.2.1 rfl).1 ((hD.has 5 y (hx 5 _ (by rfl))).1.2.1 rfl).2 HF.out ((hD.has 9 z (hx 9 _ (by rfl))).2 rfl) HZ0.out).mono fun e w'' ⟨he, hw⟩ => ⟨he, hD.call PfM.stb hw⟩
      simp only [Act.put, List.setIfInBounds_toArray, List.set_cons_zero, List.set_cons_succ]
      first
      | (refine Fx.WM.skip 11 (by rfl) (by kernel_rfl) (by kernel_rfl) (by kernel_rfl) (by rfl) (fun g f w h => h) ?_; simp only [Act.put, List.setIfInBounds_toArray, List.set_cons_zero, List.set_cons_succ])
      | (refine Fx.WM.val_ 11 ?_ (by rfl) (by kernel_rfl) (by kernel_rfl) (by kernel_rfl) (by rfl) ?_ (fun g f w h => h) ?_
         rotate_left
         · intro g f w' hx hD hk
           obtain hkp := id hD
           clear hx hk hD hkp
           go_simp
           try rfl
         simp only [Act.put, List.setIfInBounds_toArray, List.set_cons_zero, List.set_cons_succ])
      first
      | (refine Fx.WM.skip 12 (by rfl) (by kernel_rfl) (by kernel_rfl) (by kernel_rfl) (by rfl) (fun g f w h => h) ?_; simp only [Act.put, List.setIfInBounds_toArray, List.set_cons_zero, List.set_cons_succ])
      | (refine Fx.WM.val_ 12 ?_ (by rfl) (by kernel_rfl) (by kernel_rfl) (by kernel_rfl) (by rfl) ?_ (fun g f w h => h) ?_
         rotate_left
         · intro g f w' hx hD hk
           obtain hkp := id hD
           clear hx hk hD hkp
           go_simp
           try rfl
         simp only [Act.put, List.setIfInBounds_toArray, List.set_cons_zero, List.set_cons_succ])
      first
      | (refine Fx.WM.skip 13 (by rfl) (by kernel_rfl) (by kernel_rfl) (by kernel_rfl) (by rfl) (fun g f w h => h) ?_; simp only [Act.put, List.setIfInBounds_toArray, List.set_cons_zero, List.set_cons_succ])
      | (refine Fx.WM.val_ 13 ?_ (by rfl) (by kernel_rfl) (by kernel_rfl) (by kernel_rfl) (by rfl) ?_ (fun g f w h => h) ?_
         rotate_left
         · intro g f w' hx hD hk
           obtain hkp := id hD
           clear hx hk hD hkp
           go_simp
           try rfl
         simp only [Act.put, List.setIfInBounds_toArray, List.set_cons_zero, List.set_cons_succ])
      first
      | (refine Fx.WM.skip 14 (by rfl) (by kernel_rfl) (by kernel_rfl) (by kernel_rfl) (by rfl) (fun g f w h => h) ?_; simp only [Act.put, List.setIfInBounds_toArray, List.set_cons_zero, List.set_cons_succ])
      | (refine Fx.WM.val_ 14 ?_ (by rfl) (by kernel_rfl) (by kernel_rfl) (by kernel_rfl) (by rfl) ?_ (fun g f w h => h) ?_
         rotate_left
         · intro g f w' hx hD hk
           obtain hkp := id hD
           clear hx hk hD hkp
           go_simp
           try rfl
         simp only [Act.put, List.setIfInBounds_toArray, List.set_cons_zero, List.set_cons_succ])
      first
      | (refine Fx.WM.skip 15 (by rfl) (by kernel_rfl) (by kernel_rfl) (by kernel_rfl) (by rfl) (fun g f w h => h) ?_; simp only [Act.put, List.setIfInBounds_toArray, List.set_cons_zero, List.set_cons_succ])
      | (refine Fx.WM.val_ 15 ?_ (by rfl) (by kernel_rfl) (by kernel_rfl) (by kernel_rfl) (by rfl) ?_ (fun g f w h => h) ?_
         rotate_left
         · intro g f w' hx hD hk
           obtain hkp := id hD
           clear hx hk hD hkp
           go_simp
           try rfl
         simp only [Act.put, List.setIfInBounds_toArray, List.set_cons_zero, List.set_cons_succ])
      refine Fx.WM.nil (by kernel_rfl) ?_
      intro wz hkp
      have hb := hkp.bel
      clear hkp
      obtain ⟨w4, hnm⟩ : ∃ z : World, z = wz := ⟨_, rfl⟩
      subst hnm
      have HB4 := Lib.hid (show Below w.heap.size w w4 from step_below hb (by repeat' (first | exact Below.refl _ _ | exact HB3.out | refine below_drewN ?_ _ | refine Below.drew ?_ | refine Below.alloc ?_ (by first | omega | (simp; done) | (simp; omega) | (simp [World.setCell]; omega)) _ | refine Below.setCell ?_ (by first | omega | (simp; done) | (simp; omega)) _ | assumption)))
      have K0_4 := Lib.hid (step_blk hb (show Blk _ (w.heap.size) 64 #[.int .i64 (m.ls), .int .i64 (m.ms), .int .i64 (m.lo), .int .i64 (m.hi), .int .i64 (m.sp), .slice m.A1 m.n1 m.c1, .slice m.A2 m.n2 m.c2, .slice A n c, .int .i64 (day), .int .i64 (pos)] by repeat' (first | exact K0_3.out | exact Blk.at_ _ (by first | rfl | (simp; done) | (simp; omega)) _ _ | refine Blk.drewN ?_ _ | refine Blk.drew ?_ | refine Blk.alloc ?_ _ | refine Blk.far ?_ (by first | omega | (simp; done) | (simp; omega)) _ | assumption)))
      have hL4 := Lib.hid (show Below w3.heap.size w3 _ from reads_mid hb (by repeat' (first | exact Below.refl _ _ | refine below_drewN ?_ _ | refine Below.drew ?_ | refine Below.alloc ?_ (by first | omega | (simp; done) | (simp; omega) | (simp [World.setCell]; omega)) _ | refine Below.setCell ?_ (by first | omega | (simp; done) | (simp; omega)) _)))
      have R0_4 := Lib.hid (reads_lay hb hL4.out R0_3.out)
      have R1_4 := Lib.hid (mnt_lay hb hL4.out R1_3.out)
      have R2_4 := Lib.hid (reads_lay hb hL4.out R2_3.out)
      have R3_4 := Lib.hid (readsT_lay hb hL4.out R3_3.out)
      clear hL4 R0_3 R1_3 R2_3 R3_3
      have hz4 := hb.size
      try simp only [World.size_alloc, World.drewN, World.drew] at hz4
      clear hb K0_3 z0_0_3 z0_1_3 z0_2_3 z0_3_3 z0_4_3 z0_5_3 z0_6_3 z0_7_3 z0_8_3 z0_9_3 l0_3
      have l0_4 : w.heap.size < w4.heap.size := K0_4.out.lt
      have z0_0_4 : w4.cell? ⟨w.heap.size, 0, none⟩ = some (.int .i64 (m.ls)) := K0_4.out.cell 0
      have z0_1_4 : w4.cell? ⟨w.heap.size, 1, none⟩ = some (.int .i64 (m.ms)) := K0_4.out.cell 1
      have z0_2_4 : w4.cell? ⟨w.heap.size, 2, none⟩ = some (.int .i64 (m.lo)) := K0_4.out.cell 2
      have z0_3_4 : w4.cell? ⟨w.heap.size, 3, none⟩ = some (.int .i64 (m.hi)) := K0_4.out.cell 3
      have z0_4_4 : w4.cell? ⟨w.heap.size, 4, none⟩ = some (.int .i64 (m.sp)) := K0_4.out.cell 4
      have z0_5_4 : w4.cell? ⟨w.heap.size, 5, none⟩ = some (.slice m.A1 m.n1 m.c1) := K0_4.out.cell 5
      have z0_6_4 : w4.cell? ⟨w.heap.size, 6, none⟩ = some (.slice m.A2 m.n2 m.c2) := K0_4.out.cell 6
      have z0_7_4 : w4.cell? ⟨w.heap.size, 7, none⟩ = some (.slice A n c) := K0_4.out.cell 7
      have z0_8_4 : w4.cell? ⟨w.heap.size, 8, none⟩ = some (.int .i64 (day)) := K0_4.out.cell 8
      have z0_9_4 : w4.cell? ⟨w.heap.size, 9, none⟩ = some (.int .i64 (pos)) := K0_4.out.cell 9
      go_wp2_with fail
      refine (rtour_is m day pos l A n c 0 0 HE.out _ R1_4.out R0_4.out (by omega) HF.out).mono ?_
      rintro e w5 ⟨rfl, hb⟩
      have HB5 := Lib.hid (show Below w.heap.size w w5 from step_below hb (by repeat' (first | exact Below.refl _ _ | exact HB4.out | refine below_drewN ?_ _ | refine Below.drew ?_ | refine Below.alloc ?_ (by first | omega | (simp; done) | (simp; omega) | (simp [World.setCell]; omega)) _ | refine Below.setCell ?_ (by first | omega | (simp; done) | (simp; omega)) _ | assumption)))
      have K0_5 := Lib.hid (step_blk hb (show Blk _ (w.heap.size) 64 #[.int .i64 (m.ls), .int .i64 (m.ms), .int .i64 (m.lo), .int .i64 (m.hi), .int .i64 (m.sp), .slice m.A1 m.n1 m.c1, .slice m.A2 m.n2 m.c2, .slice A n c, .int .i64 (day), .int .i64 (pos)] by repeat' (first | exact K0_4.out | exact Blk.at_ _ (by first | rfl | (simp; done) | (simp; omega)) _ _ | refine Blk.drewN ?_ _ | refine Blk.drew ?_ | refine Blk.alloc ?_ _ | refine Blk.far ?_ (by first | omega | (simp; done) | (simp; omega)) _ | assumption)))
      have hL5 := Lib.hid (show Below w4.heap.size w4 _ from reads_mid hb (by repeat' (first | exact Below.refl _ _ | refine below_drewN ?_ _ | refine Below.drew ?_ | refine Below.alloc ?_ (by first | omega | (simp; done) | (simp; omega) | (simp [World.setCell]; omega)) _ | refine Below.setCell ?_ (by first | omega | (simp; done) | (simp; omega)) _)))
      have R0_5 := Lib.hid (reads_lay hb hL5.out R0_4.out)
      have R1_5 := Lib.hid (mnt_lay hb hL5.out R1_4.out)
      have R2_5 := Lib.hid (reads_lay hb hL5.out R2_4.out)
      have R3_5 := Lib.hid (readsT_lay hb hL5.out R3_4.out)
      clear hL5 R0_4 R1_4 R2_4 R3_4
      have hz5 := hb.size
      try simp only [World.size_alloc, World.drewN, World.drew] at hz5
      clear hb K0_4 z0_0_4 z0_1_4 z0_2_4 z0_3_4 z0_4_4 z0_5_4 z0_6_4 z0_7_4 z0_8_4 z0_9_4 l0_4
      have l0_5 : w.heap.size < w5.heap.size := K0_5.out.lt
      have z0_0_5 : w5.cell? ⟨w.heap.size, 0, none⟩ = some (.int .i64 (m.ls)) := K0_5.out.cell 0
      have z0_1_5 : w5.cell? ⟨w.heap.size, 1, none⟩ = some (.int .i64 (m.ms)) := K0_5.out.cell 1
      have z0_2_5 : w5.cell? ⟨w.heap.size, 2, none⟩ = some (.int .i64 (m.lo)) := K0_5.out.cell 2
      have z0_3_5 : w5.cell? ⟨w.heap.size, 3, none⟩ = some (.int .i64 (m.hi)) := K0_5.out.cell 3
      have z0_4_5 : w5.cell? ⟨w.heap.size, 4, none⟩ = some (.int .i64 (m.sp)) := K0_5.out.cell 4
      have z0_5_5 : w5.cell? ⟨w.heap.size, 5, none⟩ = some (.slice m.A1 m.n1 m.c1) := K0_5.out.cell 5
      have z0_6_5 : w5.cell? ⟨w.heap.size, 6, none⟩ = some (.slice m.A2 m.n2 m.c2) := K0_5.out.cell 6
      have z0_7_5 : w5.cell? ⟨w.heap.size, 7, none⟩ = some (.slice A n c) := K0_5.out.cell 7
      have z0_8_5 : w5.cell? ⟨w.heap.size, 8, none⟩ = some (.int .i64 (day)) := K0_5.out.cell 8
      have z0_9_5 : w5.cell? ⟨w.heap.size, 9, none⟩ = some (.int .i64 (pos)) := K0_5.out.cell 9
      go_wp2_with fail
      refine (rchoice_is m day pos l A n c At nt ct ks Cc Ec HC.out _ R1_5.out R0_5.out (by omega) R2_5.out (by omega) HZ0.out).mono ?_
      rintro e w6 ⟨rfl, hb⟩
      have HB6 := Lib.hid (show Below w.heap.size w w6 from step_below hb (by repeat' (first | exact Below.refl _ _ | exact HB5.out | refine below_drewN ?_ _ | refine Below.drew ?_ | refine Below.alloc ?_ (by first | omega | (simp; done) | (simp; omega) | (simp [World.setCell]; omega)) _ | refine Below.setCell ?_ (by first | omega | (simp; done) | (simp; omega)) _ | assumption)))
      have K0_6 := Lib.hid (step_blk hb (show Blk _ (w.heap.size) 64 #[.int .i64 (m.ls), .int .i64 (m.ms), .int .i64 (m.lo), .int .i64 (m.hi), .int .i64 (m.sp), .slice m.A1 m.n1 m.c1, .slice m.A2 m.n2 m.c2, .slice A n c, .int .i64 (day), .int .i64 (pos)] by repeat' (first | exact K0_5.out | exact Blk.at_ _ (by first | rfl | (simp; done) | (simp; omega)) _ _ | refine Blk.drewN ?_ _ | refine Blk.drew ?_ | refine Blk.alloc ?_ _ | refine Blk.far ?_ (by first | omega | (simp; done) | (simp; omega)) _ | assumption)))
      have hL6 := Lib.hid (show Below w5.heap.size w5 _ from reads_mid hb (by repeat' (first | exact Below.refl _ _ | refine below_drewN ?_ _ | refine Below.drew ?_ | refine Below.alloc ?_ (by first | omega | (simp; done) | (simp; omega) | (simp [World.setCell]; omega)) _ | refine Below.setCell ?_ (by first | omega | (simp; done) | (simp; omega)) _)))
      have R0_6 := Lib.hid (reads_lay hb hL6.out R0_5.out)
      have R1_6 := Lib.hid (mnt_lay hb hL6.out R1_5.out)
      have R2_6 := Lib.hid (reads_lay hb hL6.out R2_5.out)
      have R3_6 := Lib.hid (readsT_lay hb hL6.out R3_5.out)
      clear hL6 R0_5 R1_5 R2_5 R3_5
      have hz6 := hb.size
      try simp only [World.size_alloc, World.drewN, World.drew] at hz6
      clear hb K0_5 z0_0_5 z0_1_5 z0_2_5 z0_3_5 z0_4_5 z0_5_5 z0_6_5 z0_7_5 z0_8_5 z0_9_5 l0_5
      have l0_6 : w.heap.size < w6.heap.size := K0_6.out.lt
      have z0_0_6 : w6.cell? ⟨w.heap.size, 0, none⟩ = some (.int .i64 (m.ls)) := K0_6.out.cell 0
      have z0_1_6 : w6.cell? ⟨w.heap.size, 1, none⟩ = some (.int .i64 (m.ms)) := K0_6.out.cell 1
      have z0_2_6 : w6.cell? ⟨w.heap.size, 2, none⟩ = some (.int .i64 (m.lo)) := K0_6.out.cell 2
      have z0_3_6 : w6.cell? ⟨w.heap.size, 3, none⟩ = some (.int .i64 (m.hi)) := K0_6.out.cell 3
      have z0_4_6 : w6.cell? ⟨w.heap.size, 4, none⟩ = some (.int .i64 (m.sp)) := K0_6.out.cell 4
      have z0_5_6 : w6.cell? ⟨w.heap.size, 5, none⟩ = some (.slice m.A1 m.n1 m.c1) := K0_6.out.cell 5
      have z0_6_6 : w6.cell? ⟨w.heap.size, 6, none⟩ = some (.slice m.A2 m.n2 m.c2) := K0_6.out.cell 6
      have z0_7_6 : w6.cell? ⟨w.heap.size, 7, none⟩ = some (.slice A n c) := K0_6.out.cell 7
      have z0_8_6 : w6.cell? ⟨w.heap.size, 8, none⟩ = some (.int .i64 (day)) := K0_6.out.cell 8
      have z0_9_6 : w6.cell? ⟨w.heap.size, 9, none⟩ = some (.int .i64 (pos)) := K0_6.out.cell 9
      go_wp2_with fail
      refine (rleast9_is m day pos l A n c Ap np cp tp Cl El HR.out _ R1_6.out R0_6.out R3_6.out (by omega) (fun r hr => Nat.le_trans (H50.out r hr) (by decide)) HZ0.out).mono ?_
      rintro e w7 ⟨rfl, hb⟩
      have HB7 := Lib.hid (show Below w.heap.size w w7 from step_below hb (by repeat' (first | exact Below.refl _ _ | exact HB6.out | refine below_drewN ?_ _ | refine Below.drew ?_ | refine Below.alloc ?_ (by first | omega | (simp; done) | (simp; omega) | (simp [World.setCell]; omega)) _ | refine Below.setCell ?_ (by first | omega | (simp; done) | (simp; omega)) _ | assumption)))
      have K0_7 := Lib.hid (step_blk hb (show Blk _ (w.heap.size) 64 #[.int .i64 (m.ls), .int .i64 (m.ms), .int .i64 (m.lo), .int .i64 (m.hi), .int .i64 (m.sp), .slice m.A1 m.n1 m.c1, .slice m.A2 m.n2 m.c2, .slice A n c, .int .i64 (day), .int .i64 (pos)] by repeat' (first | exact K0_6.out | exact Blk.at_ _ (by first | rfl | (simp; done) | (simp; omega)) _ _ | refine Blk.drewN ?_ _ | refine Blk.drew ?_ | refine Blk.alloc ?_ _ | refine Blk.far ?_ (by first | omega | (simp; done) | (simp; omega)) _ | assumption)))
      have hL7 := Lib.hid (show Below w6.heap.size w6 _ from reads_mid hb (by repeat' (first | exact Below.refl _ _ | refine below_drewN ?_ _ | refine Below.drew ?_ | refine Below.alloc ?_ (by first | omega | (simp; done) | (simp; omega) | (simp [World.setCell]; omega)) _ | refine Below.setCell ?_ (by first | omega | (simp; done) | (simp; omega)) _)))
      have R0_7 := Lib.hid (reads_lay hb hL7.out R0_6.out)
      have R1_7 := Lib.hid (mnt_lay hb hL7.out R1_6.out)
      have R2_7 := Lib.hid (reads_lay hb hL7.out R2_6.out)
      have R3_7 := Lib.hid (readsT_lay hb hL7.out R3_6.out)
      clear hL7 R0_6 R1_6 R2_6 R3_6
      have hz7 := hb.size
      try simp only [World.size_alloc, World.drewN, World.drew] at hz7
      clear hb K0_6 z0_0_6 z0_1_6 z0_2_6 z0_3_6 z0_4_6 z0_5_6 z0_6_6 z0_7_6 z0_8_6 z0_9_6 l0_6
      have l0_7 : w.heap.size < w7.heap.size := K0_7.out.lt
      have z0_0_7 : w7.cell? ⟨w.heap.size, 0, none⟩ = some (.int .i64 (m.ls)) := K0_7.out.cell 0
      have z0_1_7 : w7.cell? ⟨w.heap.size, 1, none⟩ = some (.int .i64 (m.ms)) := K0_7.out.cell 1
      have z0_2_7 : w7.cell? ⟨w.heap.size, 2, none⟩ = some (.int .i64 (m.lo)) := K0_7.out.cell 2
      have z0_3_7 : w7.cell? ⟨w.heap.size, 3, none⟩ = some (.int .i64 (m.hi)) := K0_7.out.cell 3
      have z0_4_7 : w7.cell? ⟨w.heap.size, 4, none⟩ = some (.int .i64 (m.sp)) := K0_7.out.cell 4
      have z0_5_7 : w7.cell? ⟨w.heap.size, 5, none⟩ = some (.slice m.A1 m.n1 m.c1) := K0_7.out.cell 5
      have z0_6_7 : w7.cell? ⟨w.heap.size, 6, none⟩ = some (.slice m.A2 m.n2 m.c2) := K0_7.out.cell 6
      have z0_7_7 : w7.cell? ⟨w.heap.size, 7, none⟩ = some (.slice A n c) := K0_7.out.cell 7
      have z0_8_7 : w7.cell? ⟨w.heap.size, 8, none⟩ = some (.int .i64 (day)) := K0_7.out.cell 8
      have z0_9_7 : w7.cell? ⟨w.heap.size, 9, none⟩ = some (.int .i64 (pos)) := K0_7.out.cell 9
      by_cases h1 : Ec = 0
      rotate_left
      · have e1 : (Ec != 0) = true := by simpa using h1
        clear h1
        go_wp2
        go_ret
        exact ⟨rfl, by repeat' (first | exact Below.refl _ _ | exact HB7.out | refine below_drewN ?_ _ | refine Below.drew ?_ | refine Below.alloc ?_ (by first | omega | (simp; done) | (simp; omega) | (simp [World.setCell]; omega)) _ | refine Below.setCell ?_ (by first | omega | (simp; done) | (simp; omega)) _ | assumption)⟩
      by_cases h2 : El = 0
      rotate_left
      · have e1 : (Ec != 0) = false := by simpa using h1
        have e2 : (El != 0) = true := by simpa using h2
        clear h1 h2
        go_wp2
        go_ret
        exact ⟨rfl, by repeat' (first | exact Below.refl _ _ | exact HB7.out | refine below_drewN ?_ _ | refine Below.drew ?_ | refine Below.alloc ?_ (by first | omega | (simp; done) | (simp; omega) | (simp [World.setCell]; omega)) _ | refine Below.setCell ?_ (by first | omega | (simp; done) | (simp; omega)) _ | assumption)⟩
      have e1 : (Ec != 0) = false := by simpa using h1
      have e2 : (El != 0) = false := by simpa using h2
      have e3 : decide (Cl ≤ Cc) = true := decide_eq_true (HLE.out h1 h2)
      clear h1 h2
      go_wp2
      go_ret
      exact ⟨rfl, by repeat' (first | exact Below.refl _ _ | exact HB7.out | refine below_drewN ?_ _ | refine Below.drew ?_ | refine Below.alloc ?_ (by first | omega | (simp; done) | (simp; omega) | (simp [World.setCell]; omega)) _ | refine Below.setCell ?_ (by first | omega | (simp; done) | (simp; omega)) _ | assumption)⟩

theorem lawPH_any (m : Mnt) (A : Option Addr) (n c : Nat) (l : List Tgt) (day pos : Int) (At : Option Addr) (nt ct : Nat) (ks : List Int) (Ap : Option Addr) (np cp : Nat) (tp : List TRow) (w : World) (hx : TourIn m A n c l day pos w) (hntc : nt ≤ ct ∧ ct ≤ 9223372036854775807) (_ : ks.length = nt) (_ : ∀ z ∈ ks, I64 z) (hrk : Reads w w.heap.size 1 At nt (ks.map (.int .i64)))
    (hnpc : np ≤ cp ∧ cp ≤ 9223372036854775807) (_ : tp.length = np) (_ : ∀ r ∈ tp, ∀ z ∈ r.xs, I64 z) (hrp : ReadsT w w.heap.size Ap np tp) :
    Calls Try.prog 10 #[tourV m A n c day pos, .slice At nt ct, .slice Ap np cp] w fun e w' => e = .returned (.bool true) ∧ Below w.heap.size w w' := by
  by_cases h0 : shortB m l = false ∨ 8 < nt ∨ 8 < np ∨ ∃ r ∈ tp, 50 < r.n
  · exact lawPH_no m A n c l day pos At nt ct ks Ap np cp tp w hx hntc hrk hnpc hrp h0
  · rw [not_or, not_or, not_or] at h0
    obtain ⟨h1, h2, h3, h4⟩ := h0
    have h5 : ∀ r ∈ tp, r.n ≤ 50 := fun r hr => Nat.le_of_not_lt fun h => h4 ⟨r, hr, h⟩
    by_cases hT : (tourF m l day pos).2 = 0
    · exact lawPH_ok m A n c l day pos At nt ct ks Ap np cp tp w hx hntc hrk hnpc hrp (by simpa using h1) (by omega) (by omega) h5 hT
    · exact lawPH_bad m A n c l day pos At nt ct ks Ap np cp tp w hx hntc hrk hnpc hrp (by simpa using h1) (by omega) (by omega) h5 hT
end Go.Proofs.Ytgamepmipoociaa

end
