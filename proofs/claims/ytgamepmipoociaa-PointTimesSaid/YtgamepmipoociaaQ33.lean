import Derived.Test.YtgamepmipoociaaQ24
import Derived.Test.YtgamepmipoociaaQ28
import Derived.Test.YtgamepmipoociaaQ32

section
/- The walk of the statement on the minutes of a choice. -/
namespace Go.Proofs.Ytgamepmipoociaa
open Go Go.RowKit

theorem isminute_any (n : Int) (t : Bool) (h : withinB n 0 10000000 = t) (w : World) : Calls Try.prog 51 #[.int .i64 n] w fun e w' => e = .returned (.bool t) ∧ w = w' := isminute_is n t h w
theorem ptimes_path (m : Mnt) (day pos mi : Int) (l : List Tgt) (A : Option Addr) (n c : Nat) (At : Option Addr) (nt ct : Nat) (ks : List Int) (p : Int) (hp : pathErr m day l ks = p) (hp0 : p ≠ 0) (hT0 : (tourF m l day pos).2 = 0) (h0 : withinB mi 0 10000000 = true) (w : World) (hx : MntAt m w) (hl : Reads w w.heap.size 6 A n (tgtCells l)) (hn : n ≤ c ∧ c ≤ 9223372036854775807) (hfit : ∀ t ∈ l, t.name.size ≤ maxLen)
    (hk : Reads w w.heap.size 1 At nt (ks.map (.int .i64))) (hnt : nt ≤ ct ∧ ct ≤ 9223372036854775807) :
    Calls Try.prog 49 #[m.val, .slice A n c, .agg #[.int .i64 day, .int .i64 pos, .int .i64 mi], .slice At nt ct] w fun e w' => e = .returned (.tuple #[.slice none 0 0, .int .i64 0, .int .i64 p]) ∧ Below w.heap.size w w' :=
  (ptimes_any m day pos mi l A n c At nt ct ks p hp hT0 h0 w hx hl hn hfit hk hnt _ rfl _ rfl).mono fun _ _ h => h.1 hp0
theorem ptimes_ok (m : Mnt) (day pos mi : Int) (l : List Tgt) (A : Option Addr) (n c : Nat) (At : Option Addr) (nt ct : Nat) (ks : List Int) (hp : pathErr m day l ks = 0) (hT0 : (tourF m l day pos).2 = 0) (h0 : withinB mi 0 10000000 = true) (w : World) (hx : MntAt m w) (hl : Reads w w.heap.size 6 A n (tgtCells l)) (hn : n ≤ c ∧ c ≤ 9223372036854775807) (hfit : ∀ t ∈ l, t.name.size ≤ maxLen)
    (hk : Reads w w.heap.size 1 At nt (ks.map (.int .i64))) (hnt : nt ≤ ct ∧ ct ≤ 9223372036854775807) (L : List Int) (i E : Int) (hQ : timesQ m.sp (mi, pos) (tgtPos m day l ks) = ((L, i), E)) (r : Nat) (hr : L.length = r) :
    Calls Try.prog 49 #[m.val, .slice A n c, .agg #[.int .i64 day, .int .i64 pos, .int .i64 mi], .slice At nt ct] w (TimesPost L i E r w) :=
  (ptimes_any m day pos mi l A n c At nt ct ks 0 hp hT0 h0 w hx hl hn hfit hk hnt _ hQ _ hr).mono fun _ _ h => h.2 rfl
/-- What is known of copies and of the minutes (operation qi). -/
def PfM (m : Mnt) (n : Nat) (l : List Tgt) (q : Nat) (ks : List Int) (ci ti ki : Nat) (r : Nat) (L : List Int) (qi : Nat) (i : Nat) (x : Pick2) (w : World) : Prop := PfT m n l q ks ci ti ki i x w ∧ (i = qi → Reads w w.heap.size 1 x.1.1 r (L.map (.int .i64)))
theorem PfM.stb {m : Mnt} {n : Nat} {l : List Tgt} {q : Nat} {ks : List Int} {ci ti ki r : Nat} {L : List Int} {qi : Nat} : Stb (PfM m n l q ks ci ti ki r L qi) := fun _ _ _ _ hb h => ⟨PfT.stb _ _ _ _ hb h.1, fun e => ((h.2 e).below hb).more hb.size⟩

set_option maxRecDepth 100000 in
set_option maxHeartbeats 4000000 in
theorem lawPM_any (m : Mnt) (A : Option Addr) (n c : Nat) (l : List Tgt) (day pos : Int) (At : Option Addr) (nt ct : Nat) (ks : List Int) (mi : Int) (w : World) (hx : TourIn m A n c l day pos w) (hntc : nt ≤ ct ∧ ct ≤ 9223372036854775807) (_ : ks.length = nt) (_ : ∀ z ∈ ks, I64 z) (hrk : Reads w w.heap.size 1 At nt (ks.map (.int .i64))) (_ : -9223372036854775808 ≤ mi) (_ : mi ≤ 9223372036854775807) :
    Calls Try.prog 9 #[tourV m A n c day pos, .slice At nt ct, .int .i64 mi] w fun e w' => e = .returned (.bool true) ∧ Below w.heap.size w w' := by
  have hma := hx.mnt.at_
  have hrd := hx.rd
  have hfit := hx.fit
  have hlen := hx.len
  have hnc := hx.hn.1
  have hcc := hx.hn.2
  unfold tourV
  clear hx
  cases hl : shortB m l
  · have HL := Lib.hid hl
    clear hl
    go_enter Try.func9, Try.ntmps9
    have R0_0 := Lib.hid hrd
    clear hrd
    go_wp2_with fail
    refine (awakept_any _).mono ?_
    rintro e w1 ⟨rfl, hb⟩
    have HB1 := Lib.hid (show Below w.heap.size w w1 from step_below hb (by repeat' (first | exact Below.refl _ _ | exact HB0.out | refine below_drewN ?_ _ | refine Below.drew ?_ | refine Below.alloc ?_ (by first | omega | (simp; done) | (simp; omega) | (simp [World.setCell]; omega)) _ | refine Below.setCell ?_ (by first | omega | (simp; done) | (simp; omega)) _ | assumption)))
    have K0_1 := Lib.hid (step_blk hb (show Blk _ (w.heap.size) 64 #[.int .i64 (m.ls), .int .i64 (m.ms), .int .i64 (m.lo), .int .i64 (m.hi), .int .i64 (m.sp), .slice m.A1 m.n1 m.c1, .slice m.A2 m.n2 m.c2, .slice A n c, .int .i64 (day), .int .i64 (pos)] by repeat' (first | exact Blk.at_ _ (by first | rfl | (simp; done) | (simp; omega)) _ _ | refine Blk.drewN ?_ _ | refine Blk.drew ?_ | refine Blk.alloc ?_ _ | refine Blk.far ?_ (by first | omega | (simp; done) | (simp; omega)) _ | assumption)))
    have hL1 := Lib.hid (show Below w.heap.size w _ from reads_mid hb (by repeat' (first | exact Below.refl _ _ | refine below_drewN ?_ _ | refine Below.drew ?_ | refine Below.alloc ?_ (by first | omega | (simp; done) | (simp; omega) | (simp [World.setCell]; omega)) _ | refine Below.setCell ?_ (by first | omega | (simp; done) | (simp; omega)) _)))
    have R0_1 := Lib.hid (reads_lay hb hL1.out R0_0.out)
    clear hL1 R0_0
    have hz1 := hb.size
    try simp only [World.size_alloc, World.drewN, World.drew] at hz1
    clear hb
    have l0_1 : w.heap.size < w1.heap.size := K0_1.out.lt
    have z0_0_1 : w1.cell? ⟨w.heap.size, 0, none⟩ = some (.int .i64 (m.ls)) := K0_1.out.cell 0
    have z0_1_1 : w1.cell? ⟨w.heap.size, 1, none⟩ = some (.int .i64 (m.ms)) := K0_1.out.cell 1
    have z0_2_1 : w1.cell? ⟨w.heap.size, 2, none⟩ = some (.int .i64 (m.lo)) := K0_1.out.cell 2
    have z0_3_1 : w1.cell? ⟨w.heap.size, 3, none⟩ = some (.int .i64 (m.hi)) := K0_1.out.cell 3
    have z0_4_1 : w1.cell? ⟨w.heap.size, 4, none⟩ = some (.int .i64 (m.sp)) := K0_1.out.cell 4
    have z0_5_1 : w1.cell? ⟨w.heap.size, 5, none⟩ = some (.slice m.A1 m.n1 m.c1) := K0_1.out.cell 5
    have z0_6_1 : w1.cell? ⟨w.heap.size, 6, none⟩ = some (.slice m.A2 m.n2 m.c2) := K0_1.out.cell 6
    have z0_7_1 : w1.cell? ⟨w.heap.size, 7, none⟩ = some (.slice A n c) := K0_1.out.cell 7
    have z0_8_1 : w1.cell? ⟨w.heap.size, 8, none⟩ = some (.int .i64 (day)) := K0_1.out.cell 8
    have z0_9_1 : w1.cell? ⟨w.heap.size, 9, none⟩ = some (.int .i64 (pos)) := K0_1.out.cell 9
    go_wp2_with fail
    refine (shortp_is m A n c _ l day pos false HL.out _ R0_1.out (Nat.le_refl _) (by omega)).mono ?_
    rintro e w2 ⟨rfl, hb⟩
    have HB2 := Lib.hid (show Below w.heap.size w w2 from step_below hb (by repeat' (first | exact Below.refl _ _ | exact HB1.out | refine below_drewN ?_ _ | refine Below.drew ?_ | refine Below.alloc ?_ (by first | omega | (simp; done) | (simp; omega) | (simp [World.setCell]; omega)) _ | refine Below.setCell ?_ (by first | omega | (simp; done) | (simp; omega)) _ | assumption)))
    have K0_2 := Lib.hid (step_blk hb (show Blk _ (w.heap.size) 64 #[.int .i64 (m.ls), .int .i64 (m.ms), .int .i64 (m.lo), .int .i64 (m.hi), .int .i64 (m.sp), .slice m.A1 m.n1 m.c1, .slice m.A2 m.n2 m.c2, .slice A n c, .int .i64 (day), .int .i64 (pos)] by repeat' (first | exact K0_1.out | exact Blk.at_ _ (by first | rfl | (simp; done) | (simp; omega)) _ _ | refine Blk.drewN ?_ _ | refine Blk.drew ?_ | refine Blk.alloc ?_ _ | refine Blk.far ?_ (by first | omega | (simp; done) | (simp; omega)) _ | assumption)))
    have hL2 := Lib.hid (show Below w1.heap.size w1 _ from reads_mid hb (by repeat' (first | exact Below.refl _ _ | refine below_drewN ?_ _ | refine Below.drew ?_ | refine Below.alloc ?_ (by first | omega | (simp; done) | (simp; omega) | (simp [World.setCell]; omega)) _ | refine Below.setCell ?_ (by first | omega | (simp; done) | (simp; omega)) _)))
    have R0_2 := Lib.hid (reads_lay hb hL2.out R0_1.out)
    clear hL2 R0_1
    have hz2 := hb.size
    try simp only [World.size_alloc, World.drewN, World.drew] at hz2
    clear hb K0_1 z0_0_1 z0_1_1 z0_2_1 z0_3_1 z0_4_1 z0_5_1 z0_6_1 z0_7_1 z0_8_1 z0_9_1 l0_1
    have l0_2 : w.heap.size < w2.heap.size := K0_2.out.lt
    have z0_0_2 : w2.cell? ⟨w.heap.size, 0, none⟩ = some (.int .i64 (m.ls)) := K0_2.out.cell 0
    have z0_1_2 : w2.cell? ⟨w.heap.size, 1, none⟩ = some (.int .i64 (m.ms)) := K0_2.out.cell 1
    have z0_2_2 : w2.cell? ⟨w.heap.size, 2, none⟩ = some (.int .i64 (m.lo)) := K0_2.out.cell 2
    have z0_3_2 : w2.cell? ⟨w.heap.size, 3, none⟩ = some (.int .i64 (m.hi)) := K0_2.out.cell 3
    have z0_4_2 : w2.cell? ⟨w.heap.size, 4, none⟩ = some (.int .i64 (m.sp)) := K0_2.out.cell 4
    have z0_5_2 : w2.cell? ⟨w.heap.size, 5, none⟩ = some (.slice m.A1 m.n1 m.c1) := K0_2.out.cell 5
    have z0_6_2 : w2.cell? ⟨w.heap.size, 6, none⟩ = some (.slice m.A2 m.n2 m.c2) := K0_2.out.cell 6
    have z0_7_2 : w2.cell? ⟨w.heap.size, 7, none⟩ = some (.slice A n c) := K0_2.out.cell 7
    have z0_8_2 : w2.cell? ⟨w.heap.size, 8, none⟩ = some (.int .i64 (day)) := K0_2.out.cell 8
    have z0_9_2 : w2.cell? ⟨w.heap.size, 9, none⟩ = some (.int .i64 (pos)) := K0_2.out.cell 9
    go_wp2
    go_ret
    exact ⟨rfl, by repeat' (first | exact Below.refl _ _ | exact HB2.out | refine below_drewN ?_ _ | refine Below.drew ?_ | refine Below.alloc ?_ (by first | omega | (simp; done) | (simp; omega) | (simp [World.setCell]; omega)) _ | refine Below.setCell ?_ (by first | omega | (simp; done) | (simp; omega)) _ | assumption)⟩
  obtain ⟨-, hn1, hn2, hn23⟩ := short_parts hl
  have HL := Lib.hid hl
  have HF := Lib.hid hfit
  clear hl hfit
  by_cases h8 : (8 : Int) < (nt : Int)
  · go_enter Try.func9, Try.ntmps9
    have R0_0 := Lib.hid hrd
    clear hrd
    go_wp2_with fail
    refine (awakept_any _).mono ?_
    rintro e w1 ⟨rfl, hb⟩
    have HB1 := Lib.hid (show Below w.heap.size w w1 from step_below hb (by repeat' (first | exact Below.refl _ _ | exact HB0.out | refine below_drewN ?_ _ | refine Below.drew ?_ | refine Below.alloc ?_ (by first | omega | (simp; done) | (simp; omega) | (simp [World.setCell]; omega)) _ | refine Below.setCell ?_ (by first | omega | (simp; done) | (simp; omega)) _ | assumption)))
    have K0_1 := Lib.hid (step_blk hb (show Blk _ (w.heap.size) 64 #[.int .i64 (m.ls), .int .i64 (m.ms), .int .i64 (m.lo), .int .i64 (m.hi), .int .i64 (m.sp), .slice m.A1 m.n1 m.c1, .slice m.A2 m.n2 m.c2, .slice A n c, .int .i64 (day), .int .i64 (pos)] by repeat' (first | exact Blk.at_ _ (by first | rfl | (simp; done) | (simp; omega)) _ _ | refine Blk.drewN ?_ _ | refine Blk.drew ?_ | refine Blk.alloc ?_ _ | refine Blk.far ?_ (by first | omega | (simp; done) | (simp; omega)) _ | assumption)))
    have hL1 := Lib.hid (show Below w.heap.size w _ from reads_mid hb (by repeat' (first | exact Below.refl _ _ | refine below_drewN ?_ _ | refine Below.drew ?_ | refine Below.alloc ?_ (by first | omega | (simp; done) | (simp; omega) | (simp [World.setCell]; omega)) _ | refine Below.setCell ?_ (by first | omega | (simp; done) | (simp; omega)) _)))
    have R0_1 := Lib.hid (reads_lay hb hL1.out R0_0.out)
    clear hL1 R0_0
    have hz1 := hb.size
    try simp only [World.size_alloc, World.drewN, World.drew] at hz1
    clear hb
    have l0_1 : w.heap.size < w1.heap.size := K0_1.out.lt
    have z0_0_1 : w1.cell? ⟨w.heap.size, 0, none⟩ = some (.int .i64 (m.ls)) := K0_1.out.cell 0
    have z0_1_1 : w1.cell? ⟨w.heap.size, 1, none⟩ = some (.int .i64 (m.ms)) := K0_1.out.cell 1
    have z0_2_1 : w1.cell? ⟨w.heap.size, 2, none⟩ = some (.int .i64 (m.lo)) := K0_1.out.cell 2
    have z0_3_1 : w1.cell? ⟨w.heap.size, 3, none⟩ = some (.int .i64 (m.hi)) := K0_1.out.cell 3
    have z0_4_1 : w1.cell? ⟨w.heap.size, 4, none⟩ = some (.int .i64 (m.sp)) := K0_1.out.cell 4
    have z0_5_1 : w1.cell? ⟨w.heap.size, 5, none⟩ = some (.slice m.A1 m.n1 m.c1) := K0_1.out.cell 5
    have z0_6_1 : w1.cell? ⟨w.heap.size, 6, none⟩ = some (.slice m.A2 m.n2 m.c2) := K0_1.out.cell 6
    have z0_7_1 : w1.cell? ⟨w.heap.size, 7, none⟩ = some (.slice A n c) := K0_1.out.cell 7
    have z0_8_1 : w1.cell? ⟨w.heap.size, 8, none⟩ = some (.int .i64 (day)) := K0_1.out.cell 8
    have z0_9_1 : w1.cell? ⟨w.heap.size, 9, none⟩ = some (.int .i64 (pos)) := K0_1.out.cell 9
    go_wp2_with fail
    refine (shortp_is m A n c _ l day pos true HL.out _ R0_1.out (Nat.le_refl _) (by omega)).mono ?_
    rintro e w2 ⟨rfl, hb⟩
    have HB2 := Lib.hid (show Below w.heap.size w w2 from step_below hb (by repeat' (first | exact Below.refl _ _ | exact HB1.out | refine below_drewN ?_ _ | refine Below.drew ?_ | refine Below.alloc ?_ (by first | omega | (simp; done) | (simp; omega) | (simp [World.setCell]; omega)) _ | refine Below.setCell ?_ (by first | omega | (simp; done) | (simp; omega)) _ | assumption)))
    have K0_2 := Lib.hid (step_blk hb (show Blk _ (w.heap.size) 64 #[.int .i64 (m.ls), .int .i64 (m.ms), .int .i64 (m.lo), .int .i64 (m.hi), .int .i64 (m.sp), .slice m.A1 m.n1 m.c1, .slice m.A2 m.n2 m.c2, .slice A n c, .int .i64 (day), .int .i64 (pos)] by repeat' (first | exact K0_1.out | exact Blk.at_ _ (by first | rfl | (simp; done) | (simp; omega)) _ _ | refine Blk.drewN ?_ _ | refine Blk.drew ?_ | refine Blk.alloc ?_ _ | refine Blk.far ?_ (by first | omega | (simp; done) | (simp; omega)) _ | assumption)))
    have hL2 := Lib.hid (show Below w1.heap.size w1 _ from reads_mid hb (by repeat' (first | exact Below.refl _ _ | refine below_drewN ?_ _ | refine Below.drew ?_ | refine Below.alloc ?_ (by first | omega | (simp; done) | (simp; omega) | (simp [World.setCell]; omega)) _ | refine Below.setCell ?_ (by first | omega | (simp; done) | (simp; omega)) _)))
    have R0_2 := Lib.hid (reads_lay hb hL2.out R0_1.out)
    clear hL2 R0_1
    have hz2 := hb.size
    try simp only [World.size_alloc, World.drewN, World.drew] at hz2
    clear hb K0_1 z0_0_1 z0_1_1 z0_2_1 z0_3_1 z0_4_1 z0_5_1 z0_6_1 z0_7_1 z0_8_1 z0_9_1 l0_1
    have l0_2 : w.heap.size < w2.heap.size := K0_2.out.lt
    have z0_0_2 : w2.cell? ⟨w.heap.size, 0, none⟩ = some (.int .i64 (m.ls)) := K0_2.out.cell 0
    have z0_1_2 : w2.cell? ⟨w.heap.size, 1, none⟩ = some (.int .i64 (m.ms)) := K0_2.out.cell 1
    have z0_2_2 : w2.cell? ⟨w.heap.size, 2, none⟩ = some (.int .i64 (m.lo)) := K0_2.out.cell 2
    have z0_3_2 : w2.cell? ⟨w.heap.size, 3, none⟩ = some (.int .i64 (m.hi)) := K0_2.out.cell 3
    have z0_4_2 : w2.cell? ⟨w.heap.size, 4, none⟩ = some (.int .i64 (m.sp)) := K0_2.out.cell 4
    have z0_5_2 : w2.cell? ⟨w.heap.size, 5, none⟩ = some (.slice m.A1 m.n1 m.c1) := K0_2.out.cell 5
    have z0_6_2 : w2.cell? ⟨w.heap.size, 6, none⟩ = some (.slice m.A2 m.n2 m.c2) := K0_2.out.cell 6
    have z0_7_2 : w2.cell? ⟨w.heap.size, 7, none⟩ = some (.slice A n c) := K0_2.out.cell 7
    have z0_8_2 : w2.cell? ⟨w.heap.size, 8, none⟩ = some (.int .i64 (day)) := K0_2.out.cell 8
    have z0_9_2 : w2.cell? ⟨w.heap.size, 9, none⟩ = some (.int .i64 (pos)) := K0_2.out.cell 9
    go_wp2
    go_ret
    exact ⟨rfl, by repeat' (first | exact Below.refl _ _ | exact HB2.out | refine below_drewN ?_ _ | refine Below.drew ?_ | refine Below.alloc ?_ (by first | omega | (simp; done) | (simp; omega) | (simp [World.setCell]; omega)) _ | refine Below.setCell ?_ (by first | omega | (simp; done) | (simp; omega)) _ | assumption)⟩
  obtain ⟨i, E, hE⟩ : ∃ i E, tourF m l day pos = (i, E) := ⟨_, _, rfl⟩
  by_cases h0 : E = 0
  rotate_left
  · have HE := Lib.hid hE
    have q1 : (E == E) = true := by simp
    have q2 : (E == 0) = false := by simpa using h0
    have q3 : (E != 0) = true := by simpa using h0
    clear hE
    go_enter Try.func9, Try.ntmps9
    have R0_0 := Lib.hid hrd
    clear hrd
    have R1_0 := Lib.hid hma
    clear hma
    have R2_0 := Lib.hid hrk
    clear hrk
    go_wp2_with fail
    refine (awakept_any _).mono ?_
    rintro e w1 ⟨rfl, hb⟩
    have HB1 := Lib.hid (show Below w.heap.size w w1 from step_below hb (by repeat' (first | exact Below.refl _ _ | exact HB0.out | refine below_drewN ?_ _ | refine Below.drew ?_ | refine Below.alloc ?_ (by first | omega | (simp; done) | (simp; omega) | (simp [World.setCell]; omega)) _ | refine Below.setCell ?_ (by first | omega | (simp; done) | (simp; omega)) _ | assumption)))
    have K0_1 := Lib.hid (step_blk hb (show Blk _ (w.heap.size) 64 #[.int .i64 (m.ls), .int .i64 (m.ms), .int .i64 (m.lo), .int .i64 (m.hi), .int .i64 (m.sp), .slice m.A1 m.n1 m.c1, .slice m.A2 m.n2 m.c2, .slice A n c, .int .i64 (day), .int .i64 (pos)] by repeat' (first | exact Blk.at_ _ (by first | rfl | (simp; done) | (simp; omega)) _ _ | refine Blk.drewN ?_ _ | refine Blk.drew ?_ | refine Blk.alloc ?_ _ | refine Blk.far ?_ (by first | omega | (simp; done) | (simp; omega)) _ | assumption)))
    have hL1 := Lib.hid (show Below w.heap.size w _ from reads_mid hb (by repeat' (first | exact Below.refl _ _ | refine below_drewN ?_ _ | refine Below.drew ?_ | refine Below.alloc ?_ (by first | omega | (simp; done) | (simp; omega) | (simp [World.setCell]; omega)) _ | refine Below.setCell ?_ (by first | omega | (simp; done) | (simp; omega)) _)))
    have R0_1 := Lib.hid (reads_lay hb hL1.out R0_0.out)
    have R1_1 := Lib.hid (mnt_lay hb hL1.out R1_0.out)
    have R2_1 := Lib.hid (reads_lay hb hL1.out R2_0.out)
    clear hL1 R0_0 R1_0 R2_0
    have hz1 := hb.size
    try simp only [World.size_alloc, World.drewN, World.drew] at hz1
    clear hb
    have l0_1 : w.heap.size < w1.heap.size := K0_1.out.lt
    have z0_0_1 : w1.cell? ⟨w.heap.size, 0, none⟩ = some (.int .i64 (m.ls)) := K0_1.out.cell 0
    have z0_1_1 : w1.cell? ⟨w.heap.size, 1, none⟩ = some (.int .i64 (m.ms)) := K0_1.out.cell 1
    have z0_2_1 : w1.cell? ⟨w.heap.size, 2, none⟩ = some (.int .i64 (m.lo)) := K0_1.out.cell 2
    have z0_3_1 : w1.cell? ⟨w.heap.size, 3, none⟩ = some (.int .i64 (m.hi)) := K0_1.out.cell 3
    have z0_4_1 : w1.cell? ⟨w.heap.size, 4, none⟩ = some (.int .i64 (m.sp)) := K0_1.out.cell 4
    have z0_5_1 : w1.cell? ⟨w.heap.size, 5, none⟩ = some (.slice m.A1 m.n1 m.c1) := K0_1.out.cell 5
    have z0_6_1 : w1.cell? ⟨w.heap.size, 6, none⟩ = some (.slice m.A2 m.n2 m.c2) := K0_1.out.cell 6
    have z0_7_1 : w1.cell? ⟨w.heap.size, 7, none⟩ = some (.slice A n c) := K0_1.out.cell 7
    have z0_8_1 : w1.cell? ⟨w.heap.size, 8, none⟩ = some (.int .i64 (day)) := K0_1.out.cell 8
    have z0_9_1 : w1.cell? ⟨w.heap.size, 9, none⟩ = some (.int .i64 (pos)) := K0_1.out.cell 9
    go_wp2_with fail
    refine (shortp_is m A n c _ l day pos true HL.out _ R0_1.out (Nat.le_refl _) (by omega)).mono ?_
    rintro e w2 ⟨rfl, hb⟩
    have HB2 := Lib.hid (show Below w.heap.size w w2 from step_below hb (by repeat' (first | exact Below.refl _ _ | exact HB1.out | refine below_drewN ?_ _ | refine Below.drew ?_ | refine Below.alloc ?_ (by first | omega | (simp; done) | (simp; omega) | (simp [World.setCell]; omega)) _ | refine Below.setCell ?_ (by first | omega | (simp; done) | (simp; omega)) _ | assumption)))
    have K0_2 := Lib.hid (step_blk hb (show Blk _ (w.heap.size) 64 #[.int .i64 (m.ls), .int .i64 (m.ms), .int .i64 (m.lo), .int .i64 (m.hi), .int .i64 (m.sp), .slice m.A1 m.n1 m.c1, .slice m.A2 m.n2 m.c2, .slice A n c, .int .i64 (day), .int .i64 (pos)] by repeat' (first | exact K0_1.out | exact Blk.at_ _ (by first | rfl | (simp; done) | (simp; omega)) _ _ | refine Blk.drewN ?_ _ | refine Blk.drew ?_ | refine Blk.alloc ?_ _ | refine Blk.far ?_ (by first | omega | (simp; done) | (simp; omega)) _ | assumption)))
    have hL2 := Lib.hid (show Below w1.heap.size w1 _ from reads_mid hb (by repeat' (first | exact Below.refl _ _ | refine below_drewN ?_ _ | refine Below.drew ?_ | refine Below.alloc ?_ (by first | omega | (simp; done) | (simp; omega) | (simp [World.setCell]; omega)) _ | refine Below.setCell ?_ (by first | omega | (simp; done) | (simp; omega)) _)))
    have R0_2 := Lib.hid (reads_lay hb hL2.out R0_1.out)
    have R1_2 := Lib.hid (mnt_lay hb hL2.out R1_1.out)
    have R2_2 := Lib.hid (reads_lay hb hL2.out R2_1.out)
    clear hL2 R0_1 R1_1 R2_1
    have hz2 := hb.size
    try simp only [World.size_alloc, World.drewN, World.drew] at hz2
    clear hb K0_1 z0_0_1 z0_1_1 z0_2_1 z0_3_1 z0_4_1 z0_5_1 z0_6_1 z0_7_1 z0_8_1 z0_9_1 l0_1
    have l0_2 : w.heap.size < w2.heap.size := K0_2.out.lt
    have z0_0_2 : w2.cell? ⟨w.heap.size, 0, none⟩ = some (.int .i64 (m.ls)) := K0_2.out.cell 0
    have z0_1_2 : w2.cell? ⟨w.heap.size, 1, none⟩ = some (.int .i64 (m.ms)) := K0_2.out.cell 1
    have z0_2_2 : w2.cell? ⟨w.heap.size, 2, none⟩ = some (.int .i64 (m.lo)) := K0_2.out.cell 2
    have z0_3_2 : w2.cell? ⟨w.heap.size, 3, none⟩ = some (.int .i64 (m.hi)) := K0_2.out.cell 3
    have z0_4_2 : w2.cell? ⟨w.heap.size, 4, none⟩ = some (.int .i64 (m.sp)) := K0_2.out.cell 4
    have z0_5_2 : w2.cell? ⟨w.heap.size, 5, none⟩ = some (.slice m.A1 m.n1 m.c1) := K0_2.out.cell 5
    have z0_6_2 : w2.cell? ⟨w.heap.size, 6, none⟩ = some (.slice m.A2 m.n2 m.c2) := K0_2.out.cell 6
    have z0_7_2 : w2.cell? ⟨w.heap.size, 7, none⟩ = some (.slice A n c) := K0_2.out.cell 7
    have z0_8_2 : w2.cell? ⟨w.heap.size, 8, none⟩ = some (.int .i64 (day)) := K0_2.out.cell 8
    have z0_9_2 : w2.cell? ⟨w.heap.size, 9, none⟩ = some (.int .i64 (pos)) := K0_2.out.cell 9
    go_wp2
    refine Fx.regionM (fun W g f w' => Kp (PfT m n l nt ks 2 5 15) W g w') (valT m n nt 2 5) (by kernel_rfl) ?_ ?_
    · intro f hf0
      exact Kp.start
    first
    | (refine Fx.WM.skip 0 (by rfl) (by kernel_rfl) (by kernel_rfl) (by kernel_rfl) (by rfl) (fun g f w h => h) ?_; simp only [Act.put, List.setIfInBounds_toArray, List.set_cons_zero, List.set_cons_succ])
    | (refine Fx.WM.val_ 0 ?_ (by rfl) (by kernel_rfl) (by kernel_rfl) (by kernel_rfl) (by rfl) ?_ (fun g f w h => h) ?_
       rotate_left
       · intro g f w' hx hD hk
         obtain hkp := id hD
         clear hx hk hD hkp
         go_simp
         try rfl
       simp only [Act.put, List.setIfInBounds_toArray, List.set_cons_zero, List.set_cons_succ])
    first
    | (refine Fx.WM.skip 3 (by rfl) (by kernel_rfl) (by kernel_rfl) (by kernel_rfl) (by rfl) (fun g f w h => h) ?_; simp only [Act.put, List.setIfInBounds_toArray, List.set_cons_zero, List.set_cons_succ])
    | (refine Fx.WM.val_ 3 ?_ (by rfl) (by kernel_rfl) (by kernel_rfl) (by kernel_rfl) (by rfl) ?_ (fun g f w h => h) ?_
       rotate_left
       · intro g f w' hx hD hk
         obtain hkp := id hD
         clear hx hk hD hkp
         go_simp
         try rfl
       simp only [Act.put, List.setIfInBounds_toArray, List.set_cons_zero, List.set_cons_succ])
    first
    | (refine Fx.WM.skip 6 (by rfl) (by kernel_rfl) (by kernel_rfl) (by kernel_rfl) (by rfl) (fun g f w h => h) ?_; simp only [Act.put, List.setIfInBounds_toArray, List.set_cons_zero, List.set_cons_succ])
    | (refine Fx.WM.val_ 6 ?_ (by rfl) (by kernel_rfl) (by kernel_rfl) (by kernel_rfl) (by rfl) ?_ (fun g f w h => h) ?_
       rotate_left
       · intro g f w' hx hD hk
         obtain hkp := id hD
         clear hx hk hD hkp
         go_simp
         try rfl
       simp only [Act.put, List.setIfInBounds_toArray, List.set_cons_zero, List.set_cons_succ])
    first
    | (refine Fx.WM.skip 7 (by rfl) (by kernel_rfl) (by kernel_rfl) (by kernel_rfl) (by rfl) (fun g f w h => h) ?_; simp only [Act.put, List.setIfInBounds_toArray, List.set_cons_zero, List.set_cons_succ])
    | (refine Fx.WM.val_ 7 ?_ (by rfl) (by kernel_rfl) (by kernel_rfl) (by kernel_rfl) (by rfl) ?_ (fun g f w h => h) ?_
       rotate_left
       · intro g f w' hx hD hk
         obtain hkp := id hD
         clear hx hk hD hkp
         go_simp
         try rfl
       simp only [Act.put, List.setIfInBounds_toArray, List.set_cons_zero, List.set_cons_succ])
    first
    | (refine Fx.WM.skip 9 (by rfl) (by kernel_rfl) (by kernel_rfl) (by kernel_rfl) (by rfl) (fun g f w h => h) ?_; simp only [Act.put, List.setIfInBounds_toArray, List.set_cons_zero, List.set_cons_succ])
    | (refine Fx.WM.val_ 9 ?_ (by rfl) (by kernel_rfl) (by kernel_rfl) (by kernel_rfl) (by rfl) ?_ (fun g f w h => h) ?_
       rotate_left
       · intro g f w' hx hD hk
         obtain hkp := id hD
         clear hx hk hD hkp
         go_simp
         try rfl
       simp only [Act.put, List.setIfInBounds_toArray, List.set_cons_zero, List.set_cons_succ])
    first
    | (refine Fx.WM.skip 10 (by rfl) (by kernel_rfl) (by kernel_rfl) (by kernel_rfl) (by rfl) (fun g f w h => h) ?_; simp only [Act.put, List.setIfInBounds_toArray, List.set_cons_zero, List.set_cons_succ])
    | (refine Fx.WM.val_ 10 ?_ (by rfl) (by kernel_rfl) (by kernel_rfl) (by kernel_rfl) (by rfl) ?_ (fun g f w h => h) ?_
       rotate_left
       · intro g f w' hx hD hk
         obtain hkp := id hD
         clear hx hk hD hkp
         go_simp
         try rfl
       simp only [Act.put, List.setIfInBounds_toArray, List.set_cons_zero, List.set_cons_succ])
    first
    | (refine Fx.WM.skip 1 (by rfl) (by kernel_rfl) (by kernel_rfl) (by kernel_rfl) (by rfl) (fun g f w h => h) ?_; simp only [Act.put, List.setIfInBounds_toArray, List.set_cons_zero, List.set_cons_succ])
    | (refine Fx.WM.val_ 1 ?_ (by rfl) (by kernel_rfl) (by kernel_rfl) (by kernel_rfl) (by rfl) ?_ (fun g f w h => h) ?_
       rotate_left
       · intro g f w' hx hD hk
         obtain hkp := id hD
         have y0_0 := (K0_2.out.below hkp.bel l0_2).cell 0
         have y0_1 := (K0_2.out.below hkp.bel l0_2).cell 1
         have y0_2 := (K0_2.out.below hkp.bel l0_2).cell 2
         have y0_3 := (K0_2.out.below hkp.bel l0_2).cell 3
         have y0_4 := (K0_2.out.below hkp.bel l0_2).cell 4
         have y0_5 := (K0_2.out.below hkp.bel l0_2).cell 5
         have y0_6 := (K0_2.out.below hkp.bel l0_2).cell 6
         have y0_7 := (K0_2.out.below hkp.bel l0_2).cell 7
         have y0_8 := (K0_2.out.below hkp.bel l0_2).cell 8
         have y0_9 := (K0_2.out.below hkp.bel l0_2).cell 9
         clear hx hk hD hkp
         go_simp
         try rfl
       simp only [Act.put, List.setIfInBounds_toArray, List.set_cons_zero, List.set_cons_succ])
    first
    | (refine Fx.WM.skip 4 (by rfl) (by kernel_rfl) (by kernel_rfl) (by kernel_rfl) (by rfl) (fun g f w h => h) ?_; simp only [Act.put, List.setIfInBounds_toArray, List.set_cons_zero, List.set_cons_succ])
    | (refine Fx.WM.val_ 4 ?_ (by rfl) (by kernel_rfl) (by kernel_rfl) (by kernel_rfl) (by rfl) ?_ (fun g f w h => h) ?_
       rotate_left
       · intro g f w' hx hD hk
         obtain hkp := id hD
         have y0_0 := (K0_2.out.below hkp.bel l0_2).cell 0
         have y0_1 := (K0_2.out.below hkp.bel l0_2).cell 1
         have y0_2 := (K0_2.out.below hkp.bel l0_2).cell 2
         have y0_3 := (K0_2.out.below hkp.bel l0_2).cell 3
         have y0_4 := (K0_2.out.below hkp.bel l0_2).cell 4
         have y0_5 := (K0_2.out.below hkp.bel l0_2).cell 5
         have y0_6 := (K0_2.out.below hkp.bel l0_2).cell 6
         have y0_7 := (K0_2.out.below hkp.bel l0_2).cell 7
         have y0_8 := (K0_2.out.below hkp.bel l0_2).cell 8
         have y0_9 := (K0_2.out.below hkp.bel l0_2).cell 9
         clear hx hk hD hkp
         go_simp
         try rfl
       simp only [Act.put, List.setIfInBounds_toArray, List.set_cons_zero, List.set_cons_succ])
    first
    | (refine Fx.WM.skip 8 (by rfl) (by kernel_rfl) (by kernel_rfl) (by kernel_rfl) (by rfl) (fun g f w h => h) ?_; simp only [Act.put, List.setIfInBounds_toArray, List.set_cons_zero, List.set_cons_succ])
    | (refine Fx.WM.val_ 8 ?_ (by rfl) (by kernel_rfl) (by kernel_rfl) (by kernel_rfl) (by rfl) ?_ (fun g f w h => h) ?_
       rotate_left
       · intro g f w' hx hD hk
         obtain hkp := id hD
         have y0_0 := (K0_2.out.below hkp.bel l0_2).cell 0
         have y0_1 := (K0_2.out.below hkp.bel l0_2).cell 1
         have y0_2 := (K0_2.out.below hkp.bel l0_2).cell 2
         have y0_3 := (K0_2.out.below hkp.bel l0_2).cell 3
         have y0_4 := (K0_2.out.below hkp.bel l0_2).cell 4
         have y0_5 := (K0_2.out.below hkp.bel l0_2).cell 5
         have y0_6 := (K0_2.out.below hkp.bel l0_2).cell 6
         have y0_7 := (K0_2.out.below hkp.bel l0_2).cell 7
         have y0_8 := (K0_2.out.below hkp.bel l0_2).cell 8
         have y0_9 := (K0_2.out.below hkp.bel l0_2).cell 9
         clear hx hk hD hkp
         go_simp
         try rfl
       simp only [Act.put, List.setIfInBounds_toArray, List.set_cons_zero, List.set_cons_succ])
    first
    | (refine Fx.WM.skip 11 (by rfl) (by kernel_rfl) (by kernel_rfl) (by kernel_rfl) (by rfl) (fun g f w h => h) ?_; simp only [Act.put, List.setIfInBounds_toArray, List.set_cons_zero, List.set_cons_succ])
    | (refine Fx.WM.val_ 11 ?_ (by rfl) (by kernel_rfl) (by kernel_rfl) (by kernel_rfl) (by rfl) ?_ (fun g f w h => h) ?_
       rotate_left
       · intro g f w' hx hD hk
         obtain hkp := id hD
         have y0_0 := (K0_2.out.below hkp.bel l0_2).cell 0
         have y0_1 := (K0_2.out.below hkp.bel l0_2).cell 1
         have y0_2 := (K0_2.out.below hkp.bel l0_2).cell 2
         have y0_3 := (K0_2.out.below hkp.bel l0_2).cell 3
         have y0_4 := (K0_2.out.below hkp.bel l0_2).cell 4
         have y0_5 := (K0_2.out.below hkp.bel l0_2).cell 5
         have y0_6 := (K0_2.out.below hkp.bel l0_2).cell 6
         have y0_7 := (K0_2.out.below hkp.bel l0_2).cell 7
         have y0_8 := (K0_2.out.below hkp.bel l0_2).cell 8
         have y0_9 := (K0_2.out.below hkp.bel l0_2).cell 9
         clear hx hk hD hkp
         go_simp
         try rfl
       simp only [Act.put, List.setIfInBounds_toArray, List.set_cons_zero, List.set_cons_succ])
    first
    | (refine Fx.WM.skip 12 (by rfl) (by kernel_rfl) (by kernel_rfl) (by kernel_rfl) (by rfl) (fun g f w h => h) ?_; simp only [Act.put, List.setIfInBounds_toArray, List.set_cons_zero, List.set_cons_succ])
    | (refine Fx.WM.val_ 12 ?_ (by rfl) (by kernel_rfl) (by kernel_rfl) (by kernel_rfl) (by rfl) ?_ (fun g f w h => h) ?_
       rotate_left
       · intro g f w' hx hD hk
         obtain hkp := id hD
         clear hx hk hD hkp
         go_simp
         try rfl
       simp only [Act.put, List.setIfInBounds_toArray, List.set_cons_zero, List.set_cons_succ])
    first
    | (refine Fx.WM.skip 13 (by rfl) (by kernel_rfl) (by kernel_rfl) (by kernel_rfl) (by rfl) (fun g f w h => h) ?_; simp only [Act.put, List.setIfInBounds_toArray, List.set_cons_zero, List.set_cons_succ])
    | (refine Fx.WM.val_ 13 ?_ (by rfl) (by kernel_rfl) (by kernel_rfl) (by kernel_rfl) (by rfl) ?_ (fun g f w h => h) ?_
       rotate_left
       · intro g f w' hx hD hk
         obtain hkp := id hD
         clear hx hk hD hkp
         go_simp
         try rfl
       simp only [Act.put, List.setIfInBounds_toArray, List.set_cons_zero, List.set_cons_succ])
    first
    | (refine Fx.WM.skip 14 (by rfl) (by kernel_rfl) (by kernel_rfl) (by kernel_rfl) (by rfl) (fun g f w h => h) ?_; simp only [Act.put, List.setIfInBounds_toArray, List.set_cons_zero, List.set_cons_succ])
    | (refine Fx.WM.val_ 14 ?_ (by rfl) (by kernel_rfl) (by kernel_rfl) (by kernel_rfl) (by rfl) ?_ (fun g f w h => h) ?_
       rotate_left
       · intro g f w' hx hD hk
         obtain hkp := id hD
         clear hx hk hD hkp
         go_simp
         try rfl
       simp only [Act.put, List.setIfInBounds_toArray, List.set_cons_zero, List.set_cons_succ])
    refine Fx.WM.choose 2 (by rfl) (by kernel_rfl) (by rfl) ?_ ?_
    · skip
      refine Fx.Chooses.call ?_ ?_ (by rfl) ?_ ?_
      rotate_left 2
      · intro w'
        go_simp
        refine ⟨?_, ?_⟩ <;> rfl
      · intro f w' hD hk
        exact (mount_any m w' (R1_2.out.lay hD.bel) (by omega) (by omega)).mono fun e w'' ⟨A', c', B', d', he, hb, hm⟩ => ⟨((A', c'), (B', d')), he, hD.choose PfT.stb hb 2 _ ⟨fun _ => hm, fun e => absurd e (by decide), fun e => absurd e (by decide)⟩⟩
    intro x
    simp only [Act.put, List.setIfInBounds_toArray, List.set_cons_zero, List.set_cons_succ]
    refine Fx.WM.choose 5 (by rfl) (by kernel_rfl) (by rfl) ?_ ?_
    · skip
      refine Fx.Chooses.call ?_ ?_ (by rfl) ?_ ?_
      rotate_left 2
      · intro w'
        go_simp
        refine ⟨?_, ?_⟩ <;> rfl
      · intro f w' hD hk
        exact (ctargets_any A n c w'.heap.size l w' (((R0_2.out.below hD.bel).more hD.bel.size)) (Nat.le_refl _) (by omega)).mono fun e w'' ⟨A', c', he, hb, hr, ho⟩ => ⟨((A', c'), (none, 0)), he, hD.choose PfT.stb hb 5 _ ⟨fun e => absurd e (by decide), fun _ => ⟨hr, own_cap ho⟩, fun e => absurd e (by decide)⟩⟩
    intro y
    simp only [Act.put, List.setIfInBounds_toArray, List.set_cons_zero, List.set_cons_succ]
    refine Fx.WM.choose 15 (by rfl) (by kernel_rfl) (by rfl) ?_ ?_
    · skip
      refine Fx.Chooses.call ?_ ?_ (by rfl) ?_ ?_
      rotate_left 2
      · intro w'
        go_simp
        refine ⟨?_, ?_⟩ <;> rfl
      · intro f w' hD hk
        exact (copyints_any At nt ct w'.heap.size ks w' (((R2_2.out.below hD.bel).more hD.bel.size)) (Nat.le_refl _) (by omega)).mono fun e w'' ⟨A', c', he, hb, hr, ho⟩ => ⟨((A', c'), (none, 0)), he, hD.choose PfT.stb hb 15 _ ⟨fun e => absurd e (by decide), fun e => absurd e (by decide), fun _ => ⟨hr, own_cap ho⟩⟩⟩
    intro z
    simp only [Act.put, List.setIfInBounds_toArray, List.set_cons_zero, List.set_cons_succ]
    refine Fx.WM.call 16 (.tuple #[.slice none 0 0, .int .i64 0, .int .i64 E]) ?_ ?_ (by rfl) (by kernel_rfl) (by kernel_rfl) (by kernel_rfl) (by rfl) ?_ ?_ ?_
    rotate_left 2
    · intro w'
      go_simp
      refine ⟨?_, ?_⟩ <;> rfl
    · intro g f w' hx hD hk
      exact (ptimes_bad (m.to x.1.1 x.1.2 x.2.1 x.2.2) day pos mi l y.1.1 n y.1.2 z.1.1 nt z.1.2 i E HE.out h0 w' ((hD.has 2 x (hx 2 _ (by rfl))).1 rfl) ((hD.has 5 y (hx 5 _ (by rfl))).2.1 rfl).1 ((hD.has 5 y (hx 5 _ (by rfl))).2.1 rfl).2 HF.out).mono fun e w'' ⟨he, hw⟩ => ⟨he, hD.call PfT.stb hw⟩
    simp only [Act.put, List.setIfInBounds_toArray, List.set_cons_zero, List.set_cons_succ]
    first
    | (refine Fx.WM.skip 17 (by rfl) (by kernel_rfl) (by kernel_rfl) (by kernel_rfl) (by rfl) (fun g f w h => h) ?_; simp only [Act.put, List.setIfInBounds_toArray, List.set_cons_zero, List.set_cons_succ])
    | (refine Fx.WM.val_ 17 ?_ (by rfl) (by kernel_rfl) (by kernel_rfl) (by kernel_rfl) (by rfl) ?_ (fun g f w h => h) ?_
       rotate_left
       · intro g f w' hx hD hk
         obtain hkp := id hD
         clear hx hk hD hkp
         go_simp
         try rfl
       simp only [Act.put, List.setIfInBounds_toArray, List.set_cons_zero, List.set_cons_succ])
    first
    | (refine Fx.WM.skip 18 (by rfl) (by kernel_rfl) (by kernel_rfl) (by kernel_rfl) (by rfl) (fun g f w h => h) ?_; simp only [Act.put, List.setIfInBounds_toArray, List.set_cons_zero, List.set_cons_succ])
    | (refine Fx.WM.val_ 18 ?_ (by rfl) (by kernel_rfl) (by kernel_rfl) (by kernel_rfl) (by rfl) ?_ (fun g f w h => h) ?_
       rotate_left
       · intro g f w' hx hD hk
         obtain hkp := id hD
         clear hx hk hD hkp
         go_simp
         try rfl
       simp only [Act.put, List.setIfInBounds_toArray, List.set_cons_zero, List.set_cons_succ])
    first
    | (refine Fx.WM.skip 19 (by rfl) (by kernel_rfl) (by kernel_rfl) (by kernel_rfl) (by rfl) (fun g f w h => h) ?_; simp only [Act.put, List.setIfInBounds_toArray, List.set_cons_zero, List.set_cons_succ])
    | (refine Fx.WM.val_ 19 ?_ (by rfl) (by kernel_rfl) (by kernel_rfl) (by kernel_rfl) (by rfl) ?_ (fun g f w h => h) ?_
       rotate_left
       · intro g f w' hx hD hk
         obtain hkp := id hD
         clear hx hk hD hkp
         go_simp
         try rfl
       simp only [Act.put, List.setIfInBounds_toArray, List.set_cons_zero, List.set_cons_succ])
    first
    | (refine Fx.WM.skip 20 (by rfl) (by kernel_rfl) (by kernel_rfl) (by kernel_rfl) (by rfl) (fun g f w h => h) ?_; simp only [Act.put, List.setIfInBounds_toArray, List.set_cons_zero, List.set_cons_succ])
    | (refine Fx.WM.val_ 20 ?_ (by rfl) (by kernel_rfl) (by kernel_rfl) (by kernel_rfl) (by rfl) ?_ (fun g f w h => h) ?_
       rotate_left
       · intro g f w' hx hD hk
         obtain hkp := id hD
         clear hx hk hD hkp
         go_simp
         try rfl
       simp only [Act.put, List.setIfInBounds_toArray, List.set_cons_zero, List.set_cons_succ])
    first
    | (refine Fx.WM.skip 21 (by rfl) (by kernel_rfl) (by kernel_rfl) (by kernel_rfl) (by rfl) (fun g f w h => h) ?_; simp only [Act.put, List.setIfInBounds_toArray, List.set_cons_zero, List.set_cons_succ])
    | (refine Fx.WM.val_ 21 ?_ (by rfl) (by kernel_rfl) (by kernel_rfl) (by kernel_rfl) (by rfl) ?_ (fun g f w h => h) ?_
       rotate_left
       · intro g f w' hx hD hk
         obtain hkp := id hD
         clear hx hk hD hkp
         go_simp
         try rfl
       simp only [Act.put, List.setIfInBounds_toArray, List.set_cons_zero, List.set_cons_succ])
    first
    | (refine Fx.WM.skip 22 (by rfl) (by kernel_rfl) (by kernel_rfl) (by kernel_rfl) (by rfl) (fun g f w h => h) ?_; simp only [Act.put, List.setIfInBounds_toArray, List.set_cons_zero, List.set_cons_succ])
    | (refine Fx.WM.val_ 22 ?_ (by rfl) (by kernel_rfl) (by kernel_rfl) (by kernel_rfl) (by rfl) ?_ (fun g f w h => h) ?_
       rotate_left
       · intro g f w' hx hD hk
         obtain hkp := id hD
         clear hx hk hD hkp
         go_simp
         try rfl
       simp only [Act.put, List.setIfInBounds_toArray, List.set_cons_zero, List.set_cons_succ])
    first
    | (refine Fx.WM.skip 23 (by rfl) (by kernel_rfl) (by kernel_rfl) (by kernel_rfl) (by rfl) (fun g f w h => h) ?_; simp only [Act.put, List.setIfInBounds_toArray, List.set_cons_zero, List.set_cons_succ])
    | (refine Fx.WM.val_ 23 ?_ (by rfl) (by kernel_rfl) (by kernel_rfl) (by kernel_rfl) (by rfl) ?_ (fun g f w h => h) ?_
       rotate_left
       · intro g f w' hx hD hk
         obtain hkp := id hD
         clear hx hk hD hkp
         go_simp
         try rfl
       simp only [Act.put, List.setIfInBounds_toArray, List.set_cons_zero, List.set_cons_succ])
    refine Fx.WM.nil (by kernel_rfl) ?_
    intro wz hkp
    have hb := hkp.bel
    clear hkp
    obtain ⟨w3, hnm⟩ : ∃ z : World, z = wz := ⟨_, rfl⟩
    subst hnm
    have HB3 := Lib.hid (show Below w.heap.size w w3 from step_below hb (by repeat' (first | exact Below.refl _ _ | exact HB2.out | refine below_drewN ?_ _ | refine Below.drew ?_ | refine Below.alloc ?_ (by first | omega | (simp; done) | (simp; omega) | (simp [World.setCell]; omega)) _ | refine Below.setCell ?_ (by first | omega | (simp; done) | (simp; omega)) _ | assumption)))
    have K0_3 := Lib.hid (step_blk hb (show Blk _ (w.heap.size) 64 #[.int .i64 (m.ls), .int .i64 (m.ms), .int .i64 (m.lo), .int .i64 (m.hi), .int .i64 (m.sp), .slice m.A1 m.n1 m.c1, .slice m.A2 m.n2 m.c2, .slice A n c, .int .i64 (day), .int .i64 (pos)] by repeat' (first | exact K0_2.out | exact Blk.at_ _ (by first | rfl | (simp; done) | (simp; omega)) _ _ | refine Blk.drewN ?_ _ | refine Blk.drew ?_ | refine Blk.alloc ?_ _ | refine Blk.far ?_ (by first | omega | (simp; done) | (simp; omega)) _ | assumption)))
    have hL3 := Lib.hid (show Below w2.heap.size w2 _ from reads_mid hb (by repeat' (first | exact Below.refl _ _ | refine below_drewN ?_ _ | refine Below.drew ?_ | refine Below.alloc ?_ (by first | omega | (simp; done) | (simp; omega) | (simp [World.setCell]; omega)) _ | refine Below.setCell ?_ (by first | omega | (simp; done) | (simp; omega)) _)))
    have R0_3 := Lib.hid (reads_lay hb hL3.out R0_2.out)
    have R1_3 := Lib.hid (mnt_lay hb hL3.out R1_2.out)
    have R2_3 := Lib.hid (reads_lay hb hL3.out R2_2.out)
    clear hL3 R0_2 R1_2 R2_2
    have hz3 := hb.size
    try simp only [World.size_alloc, World.drewN, World.drew] at hz3
    clear hb K0_2 z0_0_2 z0_1_2 z0_2_2 z0_3_2 z0_4_2 z0_5_2 z0_6_2 z0_7_2 z0_8_2 z0_9_2 l0_2
    have l0_3 : w.heap.size < w3.heap.size := K0_3.out.lt
    have z0_0_3 : w3.cell? ⟨w.heap.size, 0, none⟩ = some (.int .i64 (m.ls)) := K0_3.out.cell 0
    have z0_1_3 : w3.cell? ⟨w.heap.size, 1, none⟩ = some (.int .i64 (m.ms)) := K0_3.out.cell 1
    have z0_2_3 : w3.cell? ⟨w.heap.size, 2, none⟩ = some (.int .i64 (m.lo)) := K0_3.out.cell 2
    have z0_3_3 : w3.cell? ⟨w.heap.size, 3, none⟩ = some (.int .i64 (m.hi)) := K0_3.out.cell 3
    have z0_4_3 : w3.cell? ⟨w.heap.size, 4, none⟩ = some (.int .i64 (m.sp)) := K0_3.out.cell 4
    have z0_5_3 : w3.cell? ⟨w.heap.size, 5, none⟩ = some (.slice m.A1 m.n1 m.c1) := K0_3.out.cell 5
    have z0_6_3 : w3.cell? ⟨w.heap.size, 6, none⟩ = some (.slice m.A2 m.n2 m.c2) := K0_3.out.cell 6
    have z0_7_3 : w3.cell? ⟨w.heap.size, 7, none⟩ = some (.slice A n c) := K0_3.out.cell 7
    have z0_8_3 : w3.cell? ⟨w.heap.size, 8, none⟩ = some (.int .i64 (day)) := K0_3.out.cell 8
    have z0_9_3 : w3.cell? ⟨w.heap.size, 9, none⟩ = some (.int .i64 (pos)) := K0_3.out.cell 9
    go_wp2_with fail
    refine (rtour_is m day pos l A n c i E HE.out _ R1_3.out R0_3.out (by omega) HF.out).mono ?_
    rintro e w4 ⟨rfl, hb⟩
    have HB4 := Lib.hid (show Below w.heap.size w w4 from step_below hb (by repeat' (first | exact Below.refl _ _ | exact HB3.out | refine below_drewN ?_ _ | refine Below.drew ?_ | refine Below.alloc ?_ (by first | omega | (simp; done) | (simp; omega) | (simp [World.setCell]; omega)) _ | refine Below.setCell ?_ (by first | omega | (simp; done) | (simp; omega)) _ | assumption)))
    have K0_4 := Lib.hid (step_blk hb (show Blk _ (w.heap.size) 64 #[.int .i64 (m.ls), .int .i64 (m.ms), .int .i64 (m.lo), .int .i64 (m.hi), .int .i64 (m.sp), .slice m.A1 m.n1 m.c1, .slice m.A2 m.n2 m.c2, .slice A n c, .int .i64 (day), .int .i64 (pos)] by repeat' (first | exact K0_3.out | exact Blk.at_ _ (by first | rfl | (simp; done) | (simp; omega)) _ _ | refine Blk.drewN ?_ _ | refine Blk.drew ?_ | refine Blk.alloc ?_ _ | refine Blk.far ?_ (by first | omega | (simp; done) | (simp; omega)) _ | assumption)))
    have hL4 := Lib.hid (show Below w3.heap.size w3 _ from reads_mid hb (by repeat' (first | exact Below.refl _ _ | refine below_drewN ?_ _ | refine Below.drew ?_ | refine Below.alloc ?_ (by first | omega | (simp; done) | (simp; omega) | (simp [World.setCell]; omega)) _ | refine Below.setCell ?_ (by first | omega | (simp; done) | (simp; omega)) _)))
    have R0_4 := Lib.hid (reads_lay hb hL4.out R0_3.out)
    have R1_4 := Lib.hid (mnt_lay hb hL4.out R1_3.out)
    have R2_4 := Lib.hid (reads_lay hb hL4.out R2_3.out)
    clear hL4 R0_3 R1_3 R2_3
    have hz4 := hb.size
    try simp only [World.size_alloc, World.drewN, World.drew] at hz4
    clear hb K0_3 z0_0_3 z0_1_3 z0_2_3 z0_3_3 z0_4_3 z0_5_3 z0_6_3 z0_7_3 z0_8_3 z0_9_3 l0_3
    have l0_4 : w.heap.size < w4.heap.size := K0_4.out.lt
    have z0_0_4 : w4.cell? ⟨w.heap.size, 0, none⟩ = some (.int .i64 (m.ls)) := K0_4.out.cell 0
    have z0_1_4 : w4.cell? ⟨w.heap.size, 1, none⟩ = some (.int .i64 (m.ms)) := K0_4.out.cell 1
    have z0_2_4 : w4.cell? ⟨w.heap.size, 2, none⟩ = some (.int .i64 (m.lo)) := K0_4.out.cell 2
    have z0_3_4 : w4.cell? ⟨w.heap.size, 3, none⟩ = some (.int .i64 (m.hi)) := K0_4.out.cell 3
    have z0_4_4 : w4.cell? ⟨w.heap.size, 4, none⟩ = some (.int .i64 (m.sp)) := K0_4.out.cell 4
    have z0_5_4 : w4.cell? ⟨w.heap.size, 5, none⟩ = some (.slice m.A1 m.n1 m.c1) := K0_4.out.cell 5
    have z0_6_4 : w4.cell? ⟨w.heap.size, 6, none⟩ = some (.slice m.A2 m.n2 m.c2) := K0_4.out.cell 6
    have z0_7_4 : w4.cell? ⟨w.heap.size, 7, none⟩ = some (.slice A n c) := K0_4.out.cell 7
    have z0_8_4 : w4.cell? ⟨w.heap.size, 8, none⟩ = some (.int .i64 (day)) := K0_4.out.cell 8
    have z0_9_4 : w4.cell? ⟨w.heap.size, 9, none⟩ = some (.int .i64 (pos)) := K0_4.out.cell 9
    go_wp2
    go_ret
    exact ⟨rfl, by repeat' (first | exact Below.refl _ _ | exact HB4.out | refine below_drewN ?_ _ | refine Below.drew ?_ | refine Below.alloc ?_ (by first | omega | (simp; done) | (simp; omega) | (simp [World.setCell]; omega)) _ | refine Below.setCell ?_ (by first | omega | (simp; done) | (simp; omega)) _ | assumption)⟩
  subst h0
  have hz0 : (tourF m l day pos).2 = 0 := by rw [hE]
  obtain rfl : i = 0 := by have := tour_zero hz0; rw [hE] at this; simpa using this
  have HE := Lib.hid hE
  have HZ0 := Lib.hid hz0
  clear hE hz0
  cases hm : withinB mi 0 10000000
  · have HM := Lib.hid hm
    clear hm
    go_enter Try.func9, Try.ntmps9
    have R0_0 := Lib.hid hrd
    clear hrd
    have R1_0 := Lib.hid hma
    clear hma
    have R2_0 := Lib.hid hrk
    clear hrk
    go_wp2_with fail
    refine (awakept_any _).mono ?_
    rintro e w1 ⟨rfl, hb⟩
    have HB1 := Lib.hid (show Below w.heap.size w w1 from step_below hb (by repeat' (first | exact Below.refl _ _ | exact HB0.out | refine below_drewN ?_ _ | refine Below.drew ?_ | refine Below.alloc ?_ (by first | omega | (simp; done) | (simp; omega) | (simp [World.setCell]; omega)) _ | refine Below.setCell ?_ (by first | omega | (simp; done) | (simp; omega)) _ | assumption)))
    have K0_1 := Lib.hid (step_blk hb (show Blk _ (w.heap.size) 64 #[.int .i64 (m.ls), .int .i64 (m.ms), .int .i64 (m.lo), .int .i64 (m.hi), .int .i64 (m.sp), .slice m.A1 m.n1 m.c1, .slice m.A2 m.n2 m.c2, .slice A n c, .int .i64 (day), .int .i64 (pos)] by repeat' (first | exact Blk.at_ _ (by first | rfl | (simp; done) | (simp; omega)) _ _ | refine Blk.drewN ?_ _ | refine Blk.drew ?_ | refine Blk.alloc ?_ _ | refine Blk.far ?_ (by first | omega | (simp; done) | (simp; omega)) _ | assumption)))
    have hL1 := Lib.hid (show Below w.heap.size w _ from reads_mid hb (by repeat' (first | exact Below.refl _ _ | refine below_drewN ?_ _ | refine Below.drew ?_ | refine Below.alloc ?_ (by first | omega | (simp; done) | (simp; omega) | (simp [World.setCell]; omega)) _ | refine Below.setCell ?_ (by first | omega | (simp; done) | (simp; omega)) _)))
    have R0_1 := Lib.hid (reads_lay hb hL1.out R0_0.out)
    have R1_1 := Lib.hid (mnt_lay hb hL1.out R1_0.out)
    have R2_1 := Lib.hid (reads_lay hb hL1.out R2_0.out)
    clear hL1 R0_0 R1_0 R2_0
    have hz1 := hb.size
    try simp only [World.size_alloc, World.drewN, World.drew] at hz1
    clear hb
    have l0_1 : w.heap.size < w1.heap.size := K0_1.out.lt
    have z0_0_1 : w1.cell? ⟨w.heap.size, 0, none⟩ = some (.int .i64 (m.ls)) := K0_1.out.cell 0
    have z0_1_1 : w1.cell? ⟨w.heap.size, 1, none⟩ = some (.int .i64 (m.ms)) := K0_1.out.cell 1
    have z0_2_1 : w1.cell? ⟨w.heap.size, 2, none⟩ = some (.int .i64 (m.lo)) := K0_1.out.cell 2
    have z0_3_1 : w1.cell? ⟨w.heap.size, 3, none⟩ = some (.int .i64 (m.hi)) := K0_1.out.cell 3
    have z0_4_1 : w1.cell? ⟨w.heap.size, 4, none⟩ = some (.int .i64 (m.sp)) := K0_1.out.cell 4
    have z0_5_1 : w1.cell? ⟨w.heap.size, 5, none⟩ = some (.slice m.A1 m.n1 m.c1) := K0_1.out.cell 5
    have z0_6_1 : w1.cell? ⟨w.heap.size, 6, none⟩ = some (.slice m.A2 m.n2 m.c2) := K0_1.out.cell 6
    have z0_7_1 : w1.cell? ⟨w.heap.size, 7, none⟩ = some (.slice A n c) := K0_1.out.cell 7
    have z0_8_1 : w1.cell? ⟨w.heap.size, 8, none⟩ = some (.int .i64 (day)) := K0_1.out.cell 8
    have z0_9_1 : w1.cell? ⟨w.heap.size, 9, none⟩ = some (.int .i64 (pos)) := K0_1.out.cell 9
    go_wp2_with fail
    refine (shortp_is m A n c _ l day pos true HL.out _ R0_1.out (Nat.le_refl _) (by omega)).mono ?_
    rintro e w2 ⟨rfl, hb⟩
    have HB2 := Lib.hid (show Below w.heap.size w w2 from step_below hb (by repeat' (first | exact Below.refl _ _ | exact HB1.out | refine below_drewN ?_ _ | refine Below.drew ?_ | refine Below.alloc ?_ (by first | omega | (simp; done) | (simp; omega) | (simp [World.setCell]; omega)) _ | refine Below.setCell ?_ (by first | omega | (simp; done) | (simp; omega)) _ | assumption)))
    have K0_2 := Lib.hid (step_blk hb (show Blk _ (w.heap.size) 64 #[.int .i64 (m.ls), .int .i64 (m.ms), .int .i64 (m.lo), .int .i64 (m.hi), .int .i64 (m.sp), .slice m.A1 m.n1 m.c1, .slice m.A2 m.n2 m.c2, .slice A n c, .int .i64 (day), .int .i64 (pos)] by repeat' (first | exact K0_1.out | exact Blk.at_ _ (by first | rfl | (simp; done) | (simp; omega)) _ _ | refine Blk.drewN ?_ _ | refine Blk.drew ?_ | refine Blk.alloc ?_ _ | refine Blk.far ?_ (by first | omega | (simp; done) | (simp; omega)) _ | assumption)))
    have hL2 := Lib.hid (show Below w1.heap.size w1 _ from reads_mid hb (by repeat' (first | exact Below.refl _ _ | refine below_drewN ?_ _ | refine Below.drew ?_ | refine Below.alloc ?_ (by first | omega | (simp; done) | (simp; omega) | (simp [World.setCell]; omega)) _ | refine Below.setCell ?_ (by first | omega | (simp; done) | (simp; omega)) _)))
    have R0_2 := Lib.hid (reads_lay hb hL2.out R0_1.out)
    have R1_2 := Lib.hid (mnt_lay hb hL2.out R1_1.out)
    have R2_2 := Lib.hid (reads_lay hb hL2.out R2_1.out)
    clear hL2 R0_1 R1_1 R2_1
    have hz2 := hb.size
    try simp only [World.size_alloc, World.drewN, World.drew] at hz2
    clear hb K0_1 z0_0_1 z0_1_1 z0_2_1 z0_3_1 z0_4_1 z0_5_1 z0_6_1 z0_7_1 z0_8_1 z0_9_1 l0_1
    have l0_2 : w.heap.size < w2.heap.size := K0_2.out.lt
    have z0_0_2 : w2.cell? ⟨w.heap.size, 0, none⟩ = some (.int .i64 (m.ls)) := K0_2.out.cell 0
    have z0_1_2 : w2.cell? ⟨w.heap.size, 1, none⟩ = some (.int .i64 (m.ms)) := K0_2.out.cell 1
    have z0_2_2 : w2.cell? ⟨w.heap.size, 2, none⟩ = some (.int .i64 (m.lo)) := K0_2.out.cell 2
    have z0_3_2 : w2.cell? ⟨w.heap.size, 3, none⟩ = some (.int .i64 (m.hi)) := K0_2.out.cell 3
    have z0_4_2 : w2.cell? ⟨w.heap.size, 4, none⟩ = some (.int .i64 (m.sp)) := K0_2.out.cell 4
    have z0_5_2 : w2.cell? ⟨w.heap.size, 5, none⟩ = some (.slice m.A1 m.n1 m.c1) := K0_2.out.cell 5
    have z0_6_2 : w2.cell? ⟨w.heap.size, 6, none⟩ = some (.slice m.A2 m.n2 m.c2) := K0_2.out.cell 6
    have z0_7_2 : w2.cell? ⟨w.heap.size, 7, none⟩ = some (.slice A n c) := K0_2.out.cell 7
    have z0_8_2 : w2.cell? ⟨w.heap.size, 8, none⟩ = some (.int .i64 (day)) := K0_2.out.cell 8
    have z0_9_2 : w2.cell? ⟨w.heap.size, 9, none⟩ = some (.int .i64 (pos)) := K0_2.out.cell 9
    go_wp2
    refine Fx.regionM (fun W g f w' => Kp (PfT m n l nt ks 2 5 15) W g w') (valT m n nt 2 5) (by kernel_rfl) ?_ ?_
    · intro f hf0
      exact Kp.start
    first
    | (refine Fx.WM.skip 0 (by rfl) (by kernel_rfl) (by kernel_rfl) (by kernel_rfl) (by rfl) (fun g f w h => h) ?_; simp only [Act.put, List.setIfInBounds_toArray, List.set_cons_zero, List.set_cons_succ])
    | (refine Fx.WM.val_ 0 ?_ (by rfl) (by kernel_rfl) (by kernel_rfl) (by kernel_rfl) (by rfl) ?_ (fun g f w h => h) ?_
       rotate_left
       · intro g f w' hx hD hk
         obtain hkp := id hD
         clear hx hk hD hkp
         go_simp
         try rfl
       simp only [Act.put, List.setIfInBounds_toArray, List.set_cons_zero, List.set_cons_succ])
    first
    | (refine Fx.WM.skip 3 (by rfl) (by kernel_rfl) (by kernel_rfl) (by kernel_rfl) (by rfl) (fun g f w h => h) ?_; simp only [Act.put, List.setIfInBounds_toArray, List.set_cons_zero, List.set_cons_succ])
    | (refine Fx.WM.val_ 3 ?_ (by rfl) (by kernel_rfl) (by kernel_rfl) (by kernel_rfl) (by rfl) ?_ (fun g f w h => h) ?_
       rotate_left
       · intro g f w' hx hD hk
         obtain hkp := id hD
         clear hx hk hD hkp
         go_simp
         try rfl
       simp only [Act.put, List.setIfInBounds_toArray, List.set_cons_zero, List.set_cons_succ])
    first
    | (refine Fx.WM.skip 6 (by rfl) (by kernel_rfl) (by kernel_rfl) (by kernel_rfl) (by rfl) (fun g f w h => h) ?_; simp only [Act.put, List.setIfInBounds_toArray, List.set_cons_zero, List.set_cons_succ])
    | (refine Fx.WM.val_ 6 ?_ (by rfl) (by kernel_rfl) (by kernel_rfl) (by kernel_rfl) (by rfl) ?_ (fun g f w h => h) ?_
       rotate_left
       · intro g f w' hx hD hk
         obtain hkp := id hD
         clear hx hk hD hkp
         go_simp
         try rfl
       simp only [Act.put, List.setIfInBounds_toArray, List.set_cons_zero, List.set_cons_succ])
    first
    | (refine Fx.WM.skip 7 (by rfl) (by kernel_rfl) (by kernel_rfl) (by kernel_rfl) (by rfl) (fun g f w h => h) ?_; simp only [Act.put, List.setIfInBounds_toArray, List.set_cons_zero, List.set_cons_succ])
    | (refine Fx.WM.val_ 7 ?_ (by rfl) (by kernel_rfl) (by kernel_rfl) (by kernel_rfl) (by rfl) ?_ (fun g f w h => h) ?_
       rotate_left
       · intro g f w' hx hD hk
         obtain hkp := id hD
         clear hx hk hD hkp
         go_simp
         try rfl
       simp only [Act.put, List.setIfInBounds_toArray, List.set_cons_zero, List.set_cons_succ])
    first
    | (refine Fx.WM.skip 9 (by rfl) (by kernel_rfl) (by kernel_rfl) (by kernel_rfl) (by rfl) (fun g f w h => h) ?_; simp only [Act.put, List.setIfInBounds_toArray, List.set_cons_zero, List.set_cons_succ])
    | (refine Fx.WM.val_ 9 ?_ (by rfl) (by kernel_rfl) (by kernel_rfl) (by kernel_rfl) (by rfl) ?_ (fun g f w h => h) ?_
       rotate_left
       · intro g f w' hx hD hk
         obtain hkp := id hD
         clear hx hk hD hkp
         go_simp
         try rfl
       simp only [Act.put, List.setIfInBounds_toArray, List.set_cons_zero, List.set_cons_succ])
    first
    | (refine Fx.WM.skip 10 (by rfl) (by kernel_rfl) (by kernel_rfl) (by kernel_rfl) (by rfl) (fun g f w h => h) ?_; simp only [Act.put, List.setIfInBounds_toArray, List.set_cons_zero, List.set_cons_succ])
    | (refine Fx.WM.val_ 10 ?_ (by rfl) (by kernel_rfl) (by kernel_rfl) (by kernel_rfl) (by rfl) ?_ (fun g f w h => h) ?_
       rotate_left
       · intro g f w' hx hD hk
         obtain hkp := id hD
         clear hx hk hD hkp
         go_simp
         try rfl
       simp only [Act.put, List.setIfInBounds_toArray, List.set_cons_zero, List.set_cons_succ])
    first
    | (refine Fx.WM.skip 1 (by rfl) (by kernel_rfl) (by kernel_rfl) (by kernel_rfl) (by rfl) (fun g f w h => h) ?_; simp only [Act.put, List.setIfInBounds_toArray, List.set_cons_zero, List.set_cons_succ])
    | (refine Fx.WM.val_ 1 ?_ (by rfl) (by kernel_rfl) (by kernel_rfl) (by kernel_rfl) (by rfl) ?_ (fun g f w h => h) ?_
       rotate_left
       · intro g f w' hx hD hk
         obtain hkp := id hD
         have y0_0 := (K0_2.out.below hkp.bel l0_2).cell 0
         have y0_1 := (K0_2.out.below hkp.bel l0_2).cell 1
         have y0_2 := (K0_2.out.below hkp.bel l0_2).cell 2
         have y0_3 := (K0_2.out.below hkp.bel l0_2).cell 3
         have y0_4 := (K0_2.out.below hkp.bel l0_2).cell 4
         have y0_5 := (K0_2.out.below hkp.bel l0_2).cell 5
         have y0_6 := (K0_2.out.below hkp.bel l0_2).cell 6
         have y0_7 := (K0_2.out.below hkp.bel l0_2).cell 7
         have y0_8 := (K0_2.out.below hkp.bel l0_2).cell 8
         have y0_9 := (K0_2.out.below hkp.bel l0_2).cell 9
         clear hx hk hD hkp
         go_simp
         try rfl
       simp only [Act.put, List.setIfInBounds_toArray, List.set_cons_zero, List.set_cons_succ])
    first
    | (refine Fx.WM.skip 4 (by rfl) (by kernel_rfl) (by kernel_rfl) (by kernel_rfl) (by rfl) (fun g f w h => h) ?_; simp only [Act.put, List.setIfInBounds_toArray, List.set_cons_zero, List.set_cons_succ])
    | (refine Fx.WM.val_ 4 ?_ (by rfl) (by kernel_rfl) (by kernel_rfl) (by kernel_rfl) (by rfl) ?_ (fun g f w h => h) ?_
       rotate_left
       · intro g f w' hx hD hk
         obtain hkp := id hD
         have y0_0 := (K0_2.out.below hkp.bel l0_2).cell 0
         have y0_1 := (K0_2.out.below hkp.bel l0_2).cell 1
         have y0_2 := (K0_2.out.below hkp.bel l0_2).cell 2
         have y0_3 := (K0_2.out.below hkp.bel l0_2).cell 3
         have y0_4 := (K0_2.out.below hkp.bel l0_2).cell 4
         have y0_5 := (K0_2.out.below hkp.bel l0_2).cell 5
         have y0_6 := (K0_2.out.below hkp.bel l0_2).cell 6
         have y0_7 := (K0_2.out.below hkp.bel l0_2).cell 7
         have y0_8 := (K0_2.out.below hkp.bel l0_2).cell 8
         have y0_9 := (K0_2.out.below hkp.bel l0_2).cell 9
         clear hx hk hD hkp
         go_simp
         try rfl
       simp only [Act.put, List.setIfInBounds_toArray, List.set_cons_zero, List.set_cons_succ])
    first
    | (refine Fx.WM.skip 8 (by rfl) (by kernel_rfl) (by kernel_rfl) (by kernel_rfl) (by rfl) (fun g f w h => h) ?_; simp only [Act.put, List.setIfInBounds_toArray, List.set_cons_zero, List.set_cons_succ])
    | (refine Fx.WM.val_ 8 ?_ (by rfl) (by kernel_rfl) (by kernel_rfl) (by kernel_rfl) (by rfl) ?_ (fun g f w h => h) ?_
       rotate_left
       · intro g f w' hx hD hk
         obtain hkp := id hD
         have y0_0 := (K0_2.out.below hkp.bel l0_2).cell 0
         have y0_1 := (K0_2.out.below hkp.bel l0_2).cell 1
         have y0_2 := (K0_2.out.below hkp.bel l0_2).cell 2
         have y0_3 := (K0_2.out.below hkp.bel l0_2).cell 3
         have y0_4 := (K0_2.out.below hkp.bel l0_2).cell 4
         have y0_5 := (K0_2.out.below hkp.bel l0_2).cell 5
         have y0_6 := (K0_2.out.below hkp.bel l0_2).cell 6
         have y0_7 := (K0_2.out.below hkp.bel l0_2).cell 7
         have y0_8 := (K0_2.out.below hkp.bel l0_2).cell 8
         have y0_9 := (K0_2.out.below hkp.bel l0_2).cell 9
         clear hx hk hD hkp
         go_simp
         try rfl
       simp only [Act.put, List.setIfInBounds_toArray, List.set_cons_zero, List.set_cons_succ])
    first
    | (refine Fx.WM.skip 11 (by rfl) (by kernel_rfl) (by kernel_rfl) (by kernel_rfl) (by rfl) (fun g f w h => h) ?_; simp only [Act.put, List.setIfInBounds_toArray, List.set_cons_zero, List.set_cons_succ])
    | (refine Fx.WM.val_ 11 ?_ (by rfl) (by kernel_rfl) (by kernel_rfl) (by kernel_rfl) (by rfl) ?_ (fun g f w h => h) ?_
       rotate_left
       · intro g f w' hx hD hk
         obtain hkp := id hD
         have y0_0 := (K0_2.out.below hkp.bel l0_2).cell 0
         have y0_1 := (K0_2.out.below hkp.bel l0_2).cell 1
         have y0_2 := (K0_2.out.below hkp.bel l0_2).cell 2
         have y0_3 := (K0_2.out.below hkp.bel l0_2).cell 3
         have y0_4 := (K0_2.out.below hkp.bel l0_2).cell 4
         have y0_5 := (K0_2.out.below hkp.bel l0_2).cell 5
         have y0_6 := (K0_2.out.below hkp.bel l0_2).cell 6
         have y0_7 := (K0_2.out.below hkp.bel l0_2).cell 7
         have y0_8 := (K0_2.out.below hkp.bel l0_2).cell 8
         have y0_9 := (K0_2.out.below hkp.bel l0_2).cell 9
         clear hx hk hD hkp
         go_simp
         try rfl
       simp only [Act.put, List.setIfInBounds_toArray, List.set_cons_zero, List.set_cons_succ])
    first
    | (refine Fx.WM.skip 12 (by rfl) (by kernel_rfl) (by kernel_rfl) (by kernel_rfl) (by rfl) (fun g f w h => h) ?_; simp only [Act.put, List.setIfInBounds_toArray, List.set_cons_zero, List.set_cons_succ])
    | (refine Fx.WM.val_ 12 ?_ (by rfl) (by kernel_rfl) (by kernel_rfl) (by kernel_rfl) (by rfl) ?_ (fun g f w h => h) ?_
       rotate_left
       · intro g f w' hx hD hk
         obtain hkp := id hD
         clear hx hk hD hkp
         go_simp
         try rfl
       simp only [Act.put, List.setIfInBounds_toArray, List.set_cons_zero, List.set_cons_succ])
    first
    | (refine Fx.WM.skip 13 (by rfl) (by kernel_rfl) (by kernel_rfl) (by kernel_rfl) (by rfl) (fun g f w h => h) ?_; simp only [Act.put, List.setIfInBounds_toArray, List.set_cons_zero, List.set_cons_succ])
    | (refine Fx.WM.val_ 13 ?_ (by rfl) (by kernel_rfl) (by kernel_rfl) (by kernel_rfl) (by rfl) ?_ (fun g f w h => h) ?_
       rotate_left
       · intro g f w' hx hD hk
         obtain hkp := id hD
         clear hx hk hD hkp
         go_simp
         try rfl
       simp only [Act.put, List.setIfInBounds_toArray, List.set_cons_zero, List.set_cons_succ])
    first
    | (refine Fx.WM.skip 14 (by rfl) (by kernel_rfl) (by kernel_rfl) (by kernel_rfl) (by rfl) (fun g f w h => h) ?_; simp only [Act.put, List.setIfInBounds_toArray, List.set_cons_zero, List.set_cons_succ])
    | (refine Fx.WM.val_ 14 ?_ (by rfl) (by kernel_rfl) (by kernel_rfl) (by kernel_rfl) (by rfl) ?_ (fun g f w h => h) ?_
       rotate_left
       · intro g f w' hx hD hk
         obtain hkp := id hD
         clear hx hk hD hkp
         go_simp
         try rfl
       simp only [Act.put, List.setIfInBounds_toArray, List.set_cons_zero, List.set_cons_succ])
    refine Fx.WM.choose 2 (by rfl) (by kernel_rfl) (by rfl) ?_ ?_
    · skip
      refine Fx.Chooses.call ?_ ?_ (by rfl) ?_ ?_
      rotate_left 2
      · intro w'
        go_simp
        refine ⟨?_, ?_⟩ <;> rfl
      · intro f w' hD hk
        exact (mount_any m w' (R1_2.out.lay hD.bel) (by omega) (by omega)).mono fun e w'' ⟨A', c', B', d', he, hb, hm⟩ => ⟨((A', c'), (B', d')), he, hD.choose PfT.stb hb 2 _ ⟨fun _ => hm, fun e => absurd e (by decide), fun e => absurd e (by decide)⟩⟩
    intro x
    simp only [Act.put, List.setIfInBounds_toArray, List.set_cons_zero, List.set_cons_succ]
    refine Fx.WM.choose 5 (by rfl) (by kernel_rfl) (by rfl) ?_ ?_
    · skip
      refine Fx.Chooses.call ?_ ?_ (by rfl) ?_ ?_
      rotate_left 2
      · intro w'
        go_simp
        refine ⟨?_, ?_⟩ <;> rfl
      · intro f w' hD hk
        exact (ctargets_any A n c w'.heap.size l w' (((R0_2.out.below hD.bel).more hD.bel.size)) (Nat.le_refl _) (by omega)).mono fun e w'' ⟨A', c', he, hb, hr, ho⟩ => ⟨((A', c'), (none, 0)), he, hD.choose PfT.stb hb 5 _ ⟨fun e => absurd e (by decide), fun _ => ⟨hr, own_cap ho⟩, fun e => absurd e (by decide)⟩⟩
    intro y
    simp only [Act.put, List.setIfInBounds_toArray, List.set_cons_zero, List.set_cons_succ]
    refine Fx.WM.choose 15 (by rfl) (by kernel_rfl) (by rfl) ?_ ?_
    · skip
      refine Fx.Chooses.call ?_ ?_ (by rfl) ?_ ?_
      rotate_left 2
      · intro w'
        go_simp
        refine ⟨?_, ?_⟩ <;> rfl
      · intro f w' hD hk
        exact (copyints_any At nt ct w'.heap.size ks w' (((R2_2.out.below hD.bel).more hD.bel.size)) (Nat.le_refl _) (by omega)).mono fun e w'' ⟨A', c', he, hb, hr, ho⟩ => ⟨((A', c'), (none, 0)), he, hD.choose PfT.stb hb 15 _ ⟨fun e => absurd e (by decide), fun e => absurd e (by decide), fun _ => ⟨hr, own_cap ho⟩⟩⟩
    intro z
    simp only [Act.put, List.setIfInBounds_toArray, List.set_cons_zero, List.set_cons_succ]
    refine Fx.WM.call 16 (.tuple #[.slice none 0 0, .int .i64 0, .int .i64 2]) ?_ ?_ (by rfl) (by kernel_rfl) (by kernel_rfl) (by kernel_rfl) (by rfl) ?_ ?_ ?_
    rotate_left 2
    · intro w'
      go_simp
      refine ⟨?_, ?_⟩ <;> rfl
    · intro g f w' hx hD hk
      exact (ptimes_rng (m.to x.1.1 x.1.2 x.2.1 x.2.2) day pos mi l y.1.1 n y.1.2 z.1.1 nt z.1.2 HZ0.out HM.out w' ((hD.has 2 x (hx 2 _ (by rfl))).1 rfl) ((hD.has 5 y (hx 5 _ (by rfl))).2.1 rfl).1 ((hD.has 5 y (hx 5 _ (by rfl))).2.1 rfl).2 HF.out).mono fun e w'' ⟨he, hw⟩ => ⟨he, hD.call PfT.stb hw⟩
    simp only [Act.put, List.setIfInBounds_toArray, List.set_cons_zero, List.set_cons_succ]
    first
    | (refine Fx.WM.skip 17 (by rfl) (by kernel_rfl) (by kernel_rfl) (by kernel_rfl) (by rfl) (fun g f w h => h) ?_; simp only [Act.put, List.setIfInBounds_toArray, List.set_cons_zero, List.set_cons_succ])
    | (refine Fx.WM.val_ 17 ?_ (by rfl) (by kernel_rfl) (by kernel_rfl) (by kernel_rfl) (by rfl) ?_ (fun g f w h => h) ?_
       rotate_left
       · intro g f w' hx hD hk
         obtain hkp := id hD
         clear hx hk hD hkp
         go_simp
         try rfl
       simp only [Act.put, List.setIfInBounds_toArray, List.set_cons_zero, List.set_cons_succ])
    first
    | (refine Fx.WM.skip 18 (by rfl) (by kernel_rfl) (by kernel_rfl) (by kernel_rfl) (by rfl) (fun g f w h => h) ?_; simp only [Act.put, List.setIfInBounds_toArray, List.set_cons_zero, List.set_cons_succ])
    | (refine Fx.WM.val_ 18 ?_ (by rfl) (by kernel_rfl) (by kernel_rfl) (by kernel_rfl) (by rfl) ?_ (fun g f w h => h) ?_
       rotate_left
       · intro g f w' hx hD hk
         obtain hkp := id hD
         clear hx hk hD hkp
         go_simp
         try rfl
       simp only [Act.put, List.setIfInBounds_toArray, List.set_cons_zero, List.set_cons_succ])
    first
    | (refine Fx.WM.skip 19 (by rfl) (by kernel_rfl) (by kernel_rfl) (by kernel_rfl) (by rfl) (fun g f w h => h) ?_; simp only [Act.put, List.setIfInBounds_toArray, List.set_cons_zero, List.set_cons_succ])
    | (refine Fx.WM.val_ 19 ?_ (by rfl) (by kernel_rfl) (by kernel_rfl) (by kernel_rfl) (by rfl) ?_ (fun g f w h => h) ?_
       rotate_left
       · intro g f w' hx hD hk
         obtain hkp := id hD
         clear hx hk hD hkp
         go_simp
         try rfl
       simp only [Act.put, List.setIfInBounds_toArray, List.set_cons_zero, List.set_cons_succ])
    first
    | (refine Fx.WM.skip 20 (by rfl) (by kernel_rfl) (by kernel_rfl) (by kernel_rfl) (by rfl) (fun g f w h => h) ?_; simp only [Act.put, List.setIfInBounds_toArray, List.set_cons_zero, List.set_cons_succ])
    | (refine Fx.WM.val_ 20 ?_ (by rfl) (by kernel_rfl) (by kernel_rfl) (by kernel_rfl) (by rfl) ?_ (fun g f w h => h) ?_
       rotate_left
       · intro g f w' hx hD hk
         obtain hkp := id hD
         clear hx hk hD hkp
         go_simp
         try rfl
       simp only [Act.put, List.setIfInBounds_toArray, List.set_cons_zero, List.set_cons_succ])
    first
    | (refine Fx.WM.skip 21 (by rfl) (by kernel_rfl) (by kernel_rfl) (by kernel_rfl) (by rfl) (fun g f w h => h) ?_; simp only [Act.put, List.setIfInBounds_toArray, List.set_cons_zero, List.set_cons_succ])
    | (refine Fx.WM.val_ 21 ?_ (by rfl) (by kernel_rfl) (by kernel_rfl) (by kernel_rfl) (by rfl) ?_ (fun g f w h => h) ?_
       rotate_left
       · intro g f w' hx hD hk
         obtain hkp := id hD
         clear hx hk hD hkp
         go_simp
         try rfl
       simp only [Act.put, List.setIfInBounds_toArray, List.set_cons_zero, List.set_cons_succ])
    first
    | (refine Fx.WM.skip 22 (by rfl) (by kernel_rfl) (by kernel_rfl) (by kernel_rfl) (by rfl) (fun g f w h => h) ?_; simp only [Act.put, List.setIfInBounds_toArray, List.set_cons_zero, List.set_cons_succ])
    | (refine Fx.WM.val_ 22 ?_ (by rfl) (by kernel_rfl) (by kernel_rfl) (by kernel_rfl) (by rfl) ?_ (fun g f w h => h) ?_
       rotate_left
       · intro g f w' hx hD hk
         obtain hkp := id hD
         clear hx hk hD hkp
         go_simp
         try rfl
       simp only [Act.put, List.setIfInBounds_toArray, List.set_cons_zero, List.set_cons_succ])
    first
    | (refine Fx.WM.skip 23 (by rfl) (by kernel_rfl) (by kernel_rfl) (by kernel_rfl) (by rfl) (fun g f w h => h) ?_; simp only [Act.put, List.setIfInBounds_toArray, List.set_cons_zero, List.set_cons_succ])
    | (refine Fx.WM.val_ 23 ?_ (by rfl) (by kernel_rfl) (by kernel_rfl) (by kernel_rfl) (by rfl) ?_ (fun g f w h => h) ?_
       rotate_left
       · intro g f w' hx hD hk
         obtain hkp := id hD
         clear hx hk hD hkp
         go_simp
         try rfl
       simp only [Act.put, List.setIfInBounds_toArray, List.set_cons_zero, List.set_cons_succ])
    refine Fx.WM.nil (by kernel_rfl) ?_
    intro wz hkp
    have hb := hkp.bel
    clear hkp
    obtain ⟨w3, hnm⟩ : ∃ z : World, z = wz := ⟨_, rfl⟩
    subst hnm
    have HB3 := Lib.hid (show Below w.heap.size w w3 from step_below hb (by repeat' (first | exact Below.refl _ _ | exact HB2.out | refine below_drewN ?_ _ | refine Below.drew ?_ | refine Below.alloc ?_ (by first | omega | (simp; done) | (simp; omega) | (simp [World.setCell]; omega)) _ | refine Below.setCell ?_ (by first | omega | (simp; done) | (simp; omega)) _ | assumption)))
    have K0_3 := Lib.hid (step_blk hb (show Blk _ (w.heap.size) 64 #[.int .i64 (m.ls), .int .i64 (m.ms), .int .i64 (m.lo), .int .i64 (m.hi), .int .i64 (m.sp), .slice m.A1 m.n1 m.c1, .slice m.A2 m.n2 m.c2, .slice A n c, .int .i64 (day), .int .i64 (pos)] by repeat' (first | exact K0_2.out | exact Blk.at_ _ (by first | rfl | (simp; done) | (simp; omega)) _ _ | refine Blk.drewN ?_ _ | refine Blk.drew ?_ | refine Blk.alloc ?_ _ | refine Blk.far ?_ (by first | omega | (simp; done) | (simp; omega)) _ | assumption)))
    have hL3 := Lib.hid (show Below w2.heap.size w2 _ from reads_mid hb (by repeat' (first | exact Below.refl _ _ | refine below_drewN ?_ _ | refine Below.drew ?_ | refine Below.alloc ?_ (by first | omega | (simp; done) | (simp; omega) | (simp [World.setCell]; omega)) _ | refine Below.setCell ?_ (by first | omega | (simp; done) | (simp; omega)) _)))
    have R0_3 := Lib.hid (reads_lay hb hL3.out R0_2.out)
    have R1_3 := Lib.hid (mnt_lay hb hL3.out R1_2.out)
    have R2_3 := Lib.hid (reads_lay hb hL3.out R2_2.out)
    clear hL3 R0_2 R1_2 R2_2
    have hz3 := hb.size
    try simp only [World.size_alloc, World.drewN, World.drew] at hz3
    clear hb K0_2 z0_0_2 z0_1_2 z0_2_2 z0_3_2 z0_4_2 z0_5_2 z0_6_2 z0_7_2 z0_8_2 z0_9_2 l0_2
    have l0_3 : w.heap.size < w3.heap.size := K0_3.out.lt
    have z0_0_3 : w3.cell? ⟨w.heap.size, 0, none⟩ = some (.int .i64 (m.ls)) := K0_3.out.cell 0
    have z0_1_3 : w3.cell? ⟨w.heap.size, 1, none⟩ = some (.int .i64 (m.ms)) := K0_3.out.cell 1
    have z0_2_3 : w3.cell? ⟨w.heap.size, 2, none⟩ = some (.int .i64 (m.lo)) := K0_3.out.cell 2
    have z0_3_3 : w3.cell? ⟨w.heap.size, 3, none⟩ = some (.int .i64 (m.hi)) := K0_3.out.cell 3
    have z0_4_3 : w3.cell? ⟨w.heap.size, 4, none⟩ = some (.int .i64 (m.sp)) := K0_3.out.cell 4
    have z0_5_3 : w3.cell? ⟨w.heap.size, 5, none⟩ = some (.slice m.A1 m.n1 m.c1) := K0_3.out.cell 5
    have z0_6_3 : w3.cell? ⟨w.heap.size, 6, none⟩ = some (.slice m.A2 m.n2 m.c2) := K0_3.out.cell 6
    have z0_7_3 : w3.cell? ⟨w.heap.size, 7, none⟩ = some (.slice A n c) := K0_3.out.cell 7
    have z0_8_3 : w3.cell? ⟨w.heap.size, 8, none⟩ = some (.int .i64 (day)) := K0_3.out.cell 8
    have z0_9_3 : w3.cell? ⟨w.heap.size, 9, none⟩ = some (.int .i64 (pos)) := K0_3.out.cell 9
    go_wp2_with fail
    refine (rtour_is m day pos l A n c 0 0 HE.out _ R1_3.out R0_3.out (by omega) HF.out).mono ?_
    rintro e w4 ⟨rfl, hb⟩
    have HB4 := Lib.hid (show Below w.heap.size w w4 from step_below hb (by repeat' (first | exact Below.refl _ _ | exact HB3.out | refine below_drewN ?_ _ | refine Below.drew ?_ | refine Below.alloc ?_ (by first | omega | (simp; done) | (simp; omega) | (simp [World.setCell]; omega)) _ | refine Below.setCell ?_ (by first | omega | (simp; done) | (simp; omega)) _ | assumption)))
    have K0_4 := Lib.hid (step_blk hb (show Blk _ (w.heap.size) 64 #[.int .i64 (m.ls), .int .i64 (m.ms), .int .i64 (m.lo), .int .i64 (m.hi), .int .i64 (m.sp), .slice m.A1 m.n1 m.c1, .slice m.A2 m.n2 m.c2, .slice A n c, .int .i64 (day), .int .i64 (pos)] by repeat' (first | exact K0_3.out | exact Blk.at_ _ (by first | rfl | (simp; done) | (simp; omega)) _ _ | refine Blk.drewN ?_ _ | refine Blk.drew ?_ | refine Blk.alloc ?_ _ | refine Blk.far ?_ (by first | omega | (simp; done) | (simp; omega)) _ | assumption)))
    have hL4 := Lib.hid (show Below w3.heap.size w3 _ from reads_mid hb (by repeat' (first | exact Below.refl _ _ | refine below_drewN ?_ _ | refine Below.drew ?_ | refine Below.alloc ?_ (by first | omega | (simp; done) | (simp; omega) | (simp [World.setCell]; omega)) _ | refine Below.setCell ?_ (by first | omega | (simp; done) | (simp; omega)) _)))
    have R0_4 := Lib.hid (reads_lay hb hL4.out R0_3.out)
    have R1_4 := Lib.hid (mnt_lay hb hL4.out R1_3.out)
    have R2_4 := Lib.hid (reads_lay hb hL4.out R2_3.out)
    clear hL4 R0_3 R1_3 R2_3
    have hz4 := hb.size
    try simp only [World.size_alloc, World.drewN, World.drew] at hz4
    clear hb K0_3 z0_0_3 z0_1_3 z0_2_3 z0_3_3 z0_4_3 z0_5_3 z0_6_3 z0_7_3 z0_8_3 z0_9_3 l0_3
    have l0_4 : w.heap.size < w4.heap.size := K0_4.out.lt
    have z0_0_4 : w4.cell? ⟨w.heap.size, 0, none⟩ = some (.int .i64 (m.ls)) := K0_4.out.cell 0
    have z0_1_4 : w4.cell? ⟨w.heap.size, 1, none⟩ = some (.int .i64 (m.ms)) := K0_4.out.cell 1
    have z0_2_4 : w4.cell? ⟨w.heap.size, 2, none⟩ = some (.int .i64 (m.lo)) := K0_4.out.cell 2
    have z0_3_4 : w4.cell? ⟨w.heap.size, 3, none⟩ = some (.int .i64 (m.hi)) := K0_4.out.cell 3
    have z0_4_4 : w4.cell? ⟨w.heap.size, 4, none⟩ = some (.int .i64 (m.sp)) := K0_4.out.cell 4
    have z0_5_4 : w4.cell? ⟨w.heap.size, 5, none⟩ = some (.slice m.A1 m.n1 m.c1) := K0_4.out.cell 5
    have z0_6_4 : w4.cell? ⟨w.heap.size, 6, none⟩ = some (.slice m.A2 m.n2 m.c2) := K0_4.out.cell 6
    have z0_7_4 : w4.cell? ⟨w.heap.size, 7, none⟩ = some (.slice A n c) := K0_4.out.cell 7
    have z0_8_4 : w4.cell? ⟨w.heap.size, 8, none⟩ = some (.int .i64 (day)) := K0_4.out.cell 8
    have z0_9_4 : w4.cell? ⟨w.heap.size, 9, none⟩ = some (.int .i64 (pos)) := K0_4.out.cell 9
    go_wp2_with fail
    refine (isminute_any mi false HM.out _).mono ?_
    rintro e w' ⟨rfl, rfl⟩
    go_wp2
    go_ret
    exact ⟨rfl, by repeat' (first | exact Below.refl _ _ | exact HB4.out | refine below_drewN ?_ _ | refine Below.drew ?_ | refine Below.alloc ?_ (by first | omega | (simp; done) | (simp; omega) | (simp [World.setCell]; omega)) _ | refine Below.setCell ?_ (by first | omega | (simp; done) | (simp; omega)) _ | assumption)⟩
  have HM := Lib.hid hm
  have hmi := (withinB_iff _ _ _).1 hm
  clear hm
  obtain ⟨p, hp⟩ : ∃ p, pathErr m day l ks = p := ⟨_, rfl⟩
  by_cases hp0 : p = 0
  rotate_left
  · have HP := Lib.hid hp
    have hch : choiceF m l day pos ks = (0, p) := by unfold choiceF; rw [hp, if_pos hp0]
    have HC := Lib.hid hch
    have q1 : (p == p) = true := by simp
    have q2 : (p == 0) = false := by simpa using hp0
    have q3 : (p != 0) = true := by simpa using hp0
    clear hp hch
    go_enter Try.func9, Try.ntmps9
    have R0_0 := Lib.hid hrd
    clear hrd
    have R1_0 := Lib.hid hma
    clear hma
    have R2_0 := Lib.hid hrk
    clear hrk
    go_wp2_with fail
    refine (awakept_any _).mono ?_
    rintro e w1 ⟨rfl, hb⟩
    have HB1 := Lib.hid (show Below w.heap.size w w1 from step_below hb (by repeat' (first | exact Below.refl _ _ | exact HB0.out | refine below_drewN ?_ _ | refine Below.drew ?_ | refine Below.alloc ?_ (by first | omega | (simp; done) | (simp; omega) | (simp [World.setCell]; omega)) _ | refine Below.setCell ?_ (by first | omega | (simp; done) | (simp; omega)) _ | assumption)))
    have K0_1 := Lib.hid (step_blk hb (show Blk _ (w.heap.size) 64 #[.int .i64 (m.ls), .int .i64 (m.ms), .int .i64 (m.lo), .int .i64 (m.hi), .int .i64 (m.sp), .slice m.A1 m.n1 m.c1, .slice m.A2 m.n2 m.c2, .slice A n c, .int .i64 (day), .int .i64 (pos)] by repeat' (first | exact Blk.at_ _ (by first | rfl | (simp; done) | (simp; omega)) _ _ | refine Blk.drewN ?_ _ | refine Blk.drew ?_ | refine Blk.alloc ?_ _ | refine Blk.far ?_ (by first | omega | (simp; done) | (simp; omega)) _ | assumption)))
    have hL1 := Lib.hid (show Below w.heap.size w _ from reads_mid hb (by repeat' (first | exact Below.refl _ _ | refine below_drewN ?_ _ | refine Below.drew ?_ | refine Below.alloc ?_ (by first | omega | (simp; done) | (simp; omega) | (simp [World.setCell]; omega)) _ | refine Below.setCell ?_ (by first | omega | (simp; done) | (simp; omega)) _)))
    have R0_1 := Lib.hid (reads_lay hb hL1.out R0_0.out)
    have R1_1 := Lib.hid (mnt_lay hb hL1.out R1_0.out)
    have R2_1 := Lib.hid (reads_lay hb hL1.out R2_0.out)
    clear hL1 R0_0 R1_0 R2_0
    have hz1 := hb.size
    try simp only [World.size_alloc, World.drewN, World.drew] at hz1
    clear hb
    have l0_1 : w.heap.size < w1.heap.size := K0_1.out.lt
    have z0_0_1 : w1.cell? ⟨w.heap.size, 0, none⟩ = some (.int .i64 (m.ls)) := K0_1.out.cell 0
    have z0_1_1 : w1.cell? ⟨w.heap.size, 1, none⟩ = some (.int .i64 (m.ms)) := K0_1.out.cell 1
    have z0_2_1 : w1.cell? ⟨w.heap.size, 2, none⟩ = some (.int .i64 (m.lo)) := K0_1.out.cell 2
    have z0_3_1 : w1.cell? ⟨w.heap.size, 3, none⟩ = some (.int .i64 (m.hi)) := K0_1.out.cell 3
    have z0_4_1 : w1.cell? ⟨w.heap.size, 4, none⟩ = some (.int .i64 (m.sp)) := K0_1.out.cell 4
    have z0_5_1 : w1.cell? ⟨w.heap.size, 5, none⟩ = some (.slice m.A1 m.n1 m.c1) := K0_1.out.cell 5
    have z0_6_1 : w1.cell? ⟨w.heap.size, 6, none⟩ = some (.slice m.A2 m.n2 m.c2) := K0_1.out.cell 6
    have z0_7_1 : w1.cell? ⟨w.heap.size, 7, none⟩ = some (.slice A n c) := K0_1.out.cell 7
    have z0_8_1 : w1.cell? ⟨w.heap.size, 8, none⟩ = some (.int .i64 (day)) := K0_1.out.cell 8
    have z0_9_1 : w1.cell? ⟨w.heap.size, 9, none⟩ = some (.int .i64 (pos)) := K0_1.out.cell 9
    go_wp2_with fail
    refine (shortp_is m A n c _ l day pos true HL.out _ R0_1.out (Nat.le_refl _) (by omega)).mono ?_
    rintro e w2 ⟨rfl, hb⟩
    have HB2 := Lib.hid (show Below w.heap.size w w2 from step_below hb (by repeat' (first | exact Below.refl _ _ | exact HB1.out | refine below_drewN ?_ _ | refine Below.drew ?_ | refine Below.alloc ?_ (by first | omega | (simp; done) | (simp; omega) | (simp [World.setCell]; omega)) _ | refine Below.setCell ?_ (by first | omega | (simp; done) | (simp; omega)) _ | assumption)))
    have K0_2 := Lib.hid (step_blk hb (show Blk _ (w.heap.size) 64 #[.int .i64 (m.ls), .int .i64 (m.ms), .int .i64 (m.lo), .int .i64 (m.hi), .int .i64 (m.sp), .slice m.A1 m.n1 m.c1, .slice m.A2 m.n2 m.c2, .slice A n c, .int .i64 (day), .int .i64 (pos)] by repeat' (first | exact K0_1.out | exact Blk.at_ _ (by first | rfl | (simp; done) | (simp; omega)) _ _ | refine Blk.drewN ?_ _ | refine Blk.drew ?_ | refine Blk.alloc ?_ _ | refine Blk.far ?_ (by first | omega | (simp; done) | (simp; omega)) _ | assumption)))
    have hL2 := Lib.hid (show Below w1.heap.size w1 _ from reads_mid hb (by repeat' (first | exact Below.refl _ _ | refine below_drewN ?_ _ | refine Below.drew ?_ | refine Below.alloc ?_ (by first | omega | (simp; done) | (simp; omega) | (simp [World.setCell]; omega)) _ | refine Below.setCell ?_ (by first | omega | (simp; done) | (simp; omega)) _)))
    have R0_2 := Lib.hid (reads_lay hb hL2.out R0_1.out)
    have R1_2 := Lib.hid (mnt_lay hb hL2.out R1_1.out)
    have R2_2 := Lib.hid (reads_lay hb hL2.out R2_1.out)
    clear hL2 R0_1 R1_1 R2_1
    have hz2 := hb.size
    try simp only [World.size_alloc, World.drewN, World.drew] at hz2
    clear hb K0_1 z0_0_1 z0_1_1 z0_2_1 z0_3_1 z0_4_1 z0_5_1 z0_6_1 z0_7_1 z0_8_1 z0_9_1 l0_1
    have l0_2 : w.heap.size < w2.heap.size := K0_2.out.lt
    have z0_0_2 : w2.cell? ⟨w.heap.size, 0, none⟩ = some (.int .i64 (m.ls)) := K0_2.out.cell 0
    have z0_1_2 : w2.cell? ⟨w.heap.size, 1, none⟩ = some (.int .i64 (m.ms)) := K0_2.out.cell 1
    have z0_2_2 : w2.cell? ⟨w.heap.size, 2, none⟩ = some (.int .i64 (m.lo)) := K0_2.out.cell 2
    have z0_3_2 : w2.cell? ⟨w.heap.size, 3, none⟩ = some (.int .i64 (m.hi)) := K0_2.out.cell 3
    have z0_4_2 : w2.cell? ⟨w.heap.size, 4, none⟩ = some (.int .i64 (m.sp)) := K0_2.out.cell 4
    have z0_5_2 : w2.cell? ⟨w.heap.size, 5, none⟩ = some (.slice m.A1 m.n1 m.c1) := K0_2.out.cell 5
    have z0_6_2 : w2.cell? ⟨w.heap.size, 6, none⟩ = some (.slice m.A2 m.n2 m.c2) := K0_2.out.cell 6
    have z0_7_2 : w2.cell? ⟨w.heap.size, 7, none⟩ = some (.slice A n c) := K0_2.out.cell 7
    have z0_8_2 : w2.cell? ⟨w.heap.size, 8, none⟩ = some (.int .i64 (day)) := K0_2.out.cell 8
    have z0_9_2 : w2.cell? ⟨w.heap.size, 9, none⟩ = some (.int .i64 (pos)) := K0_2.out.cell 9
    go_wp2
    refine Fx.regionM (fun W g f w' => Kp (PfT m n l nt ks 2 5 15) W g w') (valT m n nt 2 5) (by kernel_rfl) ?_ ?_
    · intro f hf0
      exact Kp.start
    first
    | (refine Fx.WM.skip 0 (by rfl) (by kernel_rfl) (by kernel_rfl) (by kernel_rfl) (by rfl) (fun g f w h => h) ?_; simp only [Act.put, List.setIfInBounds_toArray, List.set_cons_zero, List.set_cons_succ])
    | (refine Fx.WM.val_ 0 ?_ (by rfl) (by kernel_rfl) (by kernel_rfl) (by kernel_rfl) (by rfl) ?_ (fun g f w h => h) ?_
       rotate_left
       · intro g f w' hx hD hk
         obtain hkp := id hD
         clear hx hk hD hkp
         go_simp
         try rfl
       simp only [Act.put, List.setIfInBounds_toArray, List.set_cons_zero, List.set_cons_succ])
    first
    | (refine Fx.WM.skip 3 (by rfl) (by kernel_rfl) (by kernel_rfl) (by kernel_rfl) (by rfl) (fun g f w h => h) ?_; simp only [Act.put, List.setIfInBounds_toArray, List.set_cons_zero, List.set_cons_succ])
    | (refine Fx.WM.val_ 3 ?_ (by rfl) (by kernel_rfl) (by kernel_rfl) (by kernel_rfl) (by rfl) ?_ (fun g f w h => h) ?_
       rotate_left
       · intro g f w' hx hD hk
         obtain hkp := id hD
         clear hx hk hD hkp
         go_simp
         try rfl
       simp only [Act.put, List.setIfInBounds_toArray, List.set_cons_zero, List.set_cons_succ])
    first
    | (refine Fx.WM.skip 6 (by rfl) (by kernel_rfl) (by kernel_rfl) (by kernel_rfl) (by rfl) (fun g f w h => h) ?_; simp only [Act.put, List.setIfInBounds_toArray, List.set_cons_zero, List.set_cons_succ])
    | (refine Fx.WM.val_ 6 ?_ (by rfl) (by kernel_rfl) (by kernel_rfl) (by kernel_rfl) (by rfl) ?_ (fun g f w h => h) ?_
       rotate_left
       · intro g f w' hx hD hk
         obtain hkp := id hD
         clear hx hk hD hkp
         go_simp
         try rfl
       simp only [Act.put, List.setIfInBounds_toArray, List.set_cons_zero, List.set_cons_succ])
    first
    | (refine Fx.WM.skip 7 (by rfl) (by kernel_rfl) (by kernel_rfl) (by kernel_rfl) (by rfl) (fun g f w h => h) ?_; simp only [Act.put, List.setIfInBounds_toArray, List.set_cons_zero, List.set_cons_succ])
    | (refine Fx.WM.val_ 7 ?_ (by rfl) (by kernel_rfl) (by kernel_rfl) (by kernel_rfl) (by rfl) ?_ (fun g f w h => h) ?_
       rotate_left
       · intro g f w' hx hD hk
         obtain hkp := id hD
         clear hx hk hD hkp
         go_simp
         try rfl
       simp only [Act.put, List.setIfInBounds_toArray, List.set_cons_zero, List.set_cons_succ])
    first
    | (refine Fx.WM.skip 9 (by rfl) (by kernel_rfl) (by kernel_rfl) (by kernel_rfl) (by rfl) (fun g f w h => h) ?_; simp only [Act.put, List.setIfInBounds_toArray, List.set_cons_zero, List.set_cons_succ])
    | (refine Fx.WM.val_ 9 ?_ (by rfl) (by kernel_rfl) (by kernel_rfl) (by kernel_rfl) (by rfl) ?_ (fun g f w h => h) ?_
       rotate_left
       · intro g f w' hx hD hk
         obtain hkp := id hD
         clear hx hk hD hkp
         go_simp
         try rfl
       simp only [Act.put, List.setIfInBounds_toArray, List.set_cons_zero, List.set_cons_succ])
    first
    | (refine Fx.WM.skip 10 (by rfl) (by kernel_rfl) (by kernel_rfl) (by kernel_rfl) (by rfl) (fun g f w h => h) ?_; simp only [Act.put, List.setIfInBounds_toArray, List.set_cons_zero, List.set_cons_succ])
    | (refine Fx.WM.val_ 10 ?_ (by rfl) (by kernel_rfl) (by kernel_rfl) (by kernel_rfl) (by rfl) ?_ (fun g f w h => h) ?_
       rotate_left
       · intro g f w' hx hD hk
         obtain hkp := id hD
         clear hx hk hD hkp
         go_simp
         try rfl
       simp only [Act.put, List.setIfInBounds_toArray, List.set_cons_zero, List.set_cons_succ])
    first
    | (refine Fx.WM.skip 1 (by rfl) (by kernel_rfl) (by kernel_rfl) (by kernel_rfl) (by rfl) (fun g f w h => h) ?_; simp only [Act.put, List.setIfInBounds_toArray, List.set_cons_zero, List.set_cons_succ])
    | (refine Fx.WM.val_ 1 ?_ (by rfl) (by kernel_rfl) (by kernel_rfl) (by kernel_rfl) (by rfl) ?_ (fun g f w h => h) ?_
       rotate_left
       · intro g f w' hx hD hk
         obtain hkp := id hD
         have y0_0 := (K0_2.out.below hkp.bel l0_2).cell 0
         have y0_1 := (K0_2.out.below hkp.bel l0_2).cell 1
         have y0_2 := (K0_2.out.below hkp.bel l0_2).cell 2
         have y0_3 := (K0_2.out.below hkp.bel l0_2).cell 3
         have y0_4 := (K0_2.out.below hkp.bel l0_2).cell 4
         have y0_5 := (K0_2.out.below hkp.bel l0_2).cell 5
         have y0_6 := (K0_2.out.below hkp.bel l0_2).cell 6
         have y0_7 := (K0_2.out.below hkp.bel l0_2).cell 7
         have y0_8 := (K0_2.out.below hkp.bel l0_2).cell 8
         have y0_9 := (K0_2.out.below hkp.bel l0_2).cell 9
         clear hx hk hD hkp
         go_simp
         try rfl
       simp only [Act.put, List.setIfInBounds_toArray, List.set_cons_zero, List.set_cons_succ])
    first
    | (refine Fx.WM.skip 4 (by rfl) (by kernel_rfl) (by kernel_rfl) (by kernel_rfl) (by rfl) (fun g f w h => h) ?_; simp only [Act.put, List.setIfInBounds_toArray, List.set_cons_zero, List.set_cons_succ])
    | (refine Fx.WM.val_ 4 ?_ (by rfl) (by kernel_rfl) (by kernel_rfl) (by kernel_rfl) (by rfl) ?_ (fun g f w h => h) ?_
       rotate_left
       · intro g f w' hx hD hk
         obtain hkp := id hD
         have y0_0 := (K0_2.out.below hkp.bel l0_2).cell 0
         have y0_1 := (K0_2.out.below hkp.bel l0_2).cell 1
         have y0_2 := (K0_2.out.below hkp.bel l0_2).cell 2
         have y0_3 := (K0_2.out.below hkp.bel l0_2).cell 3
         have y0_4 := (K0_2.out.below hkp.bel l0_2).cell 4
         have y0_5 := (K0_2.out.below hkp.bel l0_2).cell 5
         have y0_6 := (K0_2.out.below hkp.bel l0_2).cell 6
         have y0_7 := (K0_2.out.below hkp.bel l0_2).cell 7
         have y0_8 := (K0_2.out.below hkp.bel l0_2).cell 8
         have y0_9 := (K0_2.out.below hkp.bel l0_2).cell 9
         clear hx hk hD hkp
         go_simp
         try rfl
       simp only [Act.put, List.setIfInBounds_toArray, List.set_cons_zero, List.set_cons_succ])
    first
    | (refine Fx.WM.skip 8 (by rfl) (by kernel_rfl) (by kernel_rfl) (by kernel_rfl) (by rfl) (fun g f w h => h) ?_; simp only [Act.put, List.setIfInBounds_toArray, List.set_cons_zero, List.set_cons_succ])
    | (refine Fx.WM.val_ 8 ?_ (by rfl) (by kernel_rfl) (by kernel_rfl) (by kernel_rfl) (by rfl) ?_ (fun g f w h => h) ?_
       rotate_left
       · intro g f w' hx hD hk
         obtain hkp := id hD
         have y0_0 := (K0_2.out.below hkp.bel l0_2).cell 0
         have y0_1 := (K0_2.out.below hkp.bel l0_2).cell 1
         have y0_2 := (K0_2.out.below hkp.bel l0_2).cell 2
         have y0_3 := (K0_2.out.below hkp.bel l0_2).cell 3
         have y0_4 := (K0_2.out.below hkp.bel l0_2).cell 4
         have y0_5 := (K0_2.out.below hkp.bel l0_2).cell 5
         have y0_6 := (K0_2.out.below hkp.bel l0_2).cell 6
         have y0_7 := (K0_2.out.below hkp.bel l0_2).cell 7
         have y0_8 := (K0_2.out.below hkp.bel l0_2).cell 8
         have y0_9 := (K0_2.out.below hkp.bel l0_2).cell 9
         clear hx hk hD hkp
         go_simp
         try rfl
       simp only [Act.put, List.setIfInBounds_toArray, List.set_cons_zero, List.set_cons_succ])
    first
    | (refine Fx.WM.skip 11 (by rfl) (by kernel_rfl) (by kernel_rfl) (by kernel_rfl) (by rfl) (fun g f w h => h) ?_; simp only [Act.put, List.setIfInBounds_toArray, List.set_cons_zero, List.set_cons_succ])
    | (refine Fx.WM.val_ 11 ?_ (by rfl) (by kernel_rfl) (by kernel_rfl) (by kernel_rfl) (by rfl) ?_ (fun g f w h => h) ?_
       rotate_left
       · intro g f w' hx hD hk
         obtain hkp := id hD
         have y0_0 := (K0_2.out.below hkp.bel l0_2).cell 0
         have y0_1 := (K0_2.out.below hkp.bel l0_2).cell 1
         have y0_2 := (K0_2.out.below hkp.bel l0_2).cell 2
         have y0_3 := (K0_2.out.below hkp.bel l0_2).cell 3
         have y0_4 := (K0_2.out.below hkp.bel l0_2).cell 4
         have y0_5 := (K0_2.out.below hkp.bel l0_2).cell 5
         have y0_6 := (K0_2.out.below hkp.bel l0_2).cell 6
         have y0_7 := (K0_2.out.below hkp.bel l0_2).cell 7
         have y0_8 := (K0_2.out.below hkp.bel l0_2).cell 8
         have y0_9 := (K0_2.out.below hkp.bel l0_2).cell 9
         clear hx hk hD hkp
         go_simp
         try rfl
       simp only [Act.put, List.setIfInBounds_toArray, List.set_cons_zero, List.set_cons_succ])
    first
    | (refine Fx.WM.skip 12 (by rfl) (by kernel_rfl) (by kernel_rfl) (by kernel_rfl) (by rfl) (fun g f w h => h) ?_; simp only [Act.put, List.setIfInBounds_toArray, List.set_cons_zero, List.set_cons_succ])
    | (refine Fx.WM.val_ 12 ?_ (by rfl) (by kernel_rfl) (by kernel_rfl) (by kernel_rfl) (by rfl) ?_ (fun g f w h => h) ?_
       rotate_left
       · intro g f w' hx hD hk
         obtain hkp := id hD
         clear hx hk hD hkp
         go_simp
         try rfl
       simp only [Act.put, List.setIfInBounds_toArray, List.set_cons_zero, List.set_cons_succ])
    first
    | (refine Fx.WM.skip 13 (by rfl) (by kernel_rfl) (by kernel_rfl) (by kernel_rfl) (by rfl) (fun g f w h => h) ?_; simp only [Act.put, List.setIfInBounds_toArray, List.set_cons_zero, List.set_cons_succ])
    | (refine Fx.WM.val_ 13 ?_ (by rfl) (by kernel_rfl) (by kernel_rfl) (by kernel_rfl) (by rfl) ?_ (fun g f w h => h) ?_
       rotate_left
       · intro g f w' hx hD hk
         obtain hkp := id hD
         clear hx hk hD hkp
         go_simp
         try rfl
       simp only [Act.put, List.setIfInBounds_toArray, List.set_cons_zero, List.set_cons_succ])
    first
    | (refine Fx.WM.skip 14 (by rfl) (by kernel_rfl) (by kernel_rfl) (by kernel_rfl) (by rfl) (fun g f w h => h) ?_; simp only [Act.put, List.setIfInBounds_toArray, List.set_cons_zero, List.set_cons_succ])
    | (refine Fx.WM.val_ 14 ?_ (by rfl) (by kernel_rfl) (by kernel_rfl) (by kernel_rfl) (by rfl) ?_ (fun g f w h => h) ?_
       rotate_left
       · intro g f w' hx hD hk
         obtain hkp := id hD
         clear hx hk hD hkp
         go_simp
         try rfl
       simp only [Act.put, List.setIfInBounds_toArray, List.set_cons_zero, List.set_cons_succ])
    refine Fx.WM.choose 2 (by rfl) (by kernel_rfl) (by rfl) ?_ ?_
    · skip
      refine Fx.Chooses.call ?_ ?_ (by rfl) ?_ ?_
      rotate_left 2
      · intro w'
        go_simp
        refine ⟨?_, ?_⟩ <;> rfl
      · intro f w' hD hk
        exact (mount_any m w' (R1_2.out.lay hD.bel) (by omega) (by omega)).mono fun e w'' ⟨A', c', B', d', he, hb, hm⟩ => ⟨((A', c'), (B', d')), he, hD.choose PfT.stb hb 2 _ ⟨fun _ => hm, fun e => absurd e (by decide), fun e => absurd e (by decide)⟩⟩
    intro x
    simp only [Act.put, List.setIfInBounds_toArray, List.set_cons_zero, List.set_cons_succ]
    refine Fx.WM.choose 5 (by rfl) (by kernel_rfl) (by rfl) ?_ ?_
    · skip
      refine Fx.Chooses.call ?_ ?_ (by rfl) ?_ ?_
      rotate_left 2
      · intro w'
        go_simp
        refine ⟨?_, ?_⟩ <;> rfl
      · intro f w' hD hk
        exact (ctargets_any A n c w'.heap.size l w' (((R0_2.out.below hD.bel).more hD.bel.size)) (Nat.le_refl _) (by omega)).mono fun e w'' ⟨A', c', he, hb, hr, ho⟩ => ⟨((A', c'), (none, 0)), he, hD.choose PfT.stb hb 5 _ ⟨fun e => absurd e (by decide), fun _ => ⟨hr, own_cap ho⟩, fun e => absurd e (by decide)⟩⟩
    intro y
    simp only [Act.put, List.setIfInBounds_toArray, List.set_cons_zero, List.set_cons_succ]
    refine Fx.WM.choose 15 (by rfl) (by kernel_rfl) (by rfl) ?_ ?_
    · skip
      refine Fx.Chooses.call ?_ ?_ (by rfl) ?_ ?_
      rotate_left 2
      · intro w'
        go_simp
        refine ⟨?_, ?_⟩ <;> rfl
      · intro f w' hD hk
        exact (copyints_any At nt ct w'.heap.size ks w' (((R2_2.out.below hD.bel).more hD.bel.size)) (Nat.le_refl _) (by omega)).mono fun e w'' ⟨A', c', he, hb, hr, ho⟩ => ⟨((A', c'), (none, 0)), he, hD.choose PfT.stb hb 15 _ ⟨fun e => absurd e (by decide), fun e => absurd e (by decide), fun _ => ⟨hr, own_cap ho⟩⟩⟩
    intro z
    simp only [Act.put, List.setIfInBounds_toArray, List.set_cons_zero, List.set_cons_succ]
    refine Fx.WM.call 16 (.tuple #[.slice none 0 0, .int .i64 0, .int .i64 p]) ?_ ?_ (by rfl) (by kernel_rfl) (by kernel_rfl) (by kernel_rfl) (by rfl) ?_ ?_ ?_
    rotate_left 2
    · intro w'
      go_simp
      refine ⟨?_, ?_⟩ <;> rfl
    · intro g f w' hx hD hk
      exact (ptimes_path (m.to x.1.1 x.1.2 x.2.1 x.2.2) day pos mi l y.1.1 n y.1.2 z.1.1 nt z.1.2 ks p HP.out hp0 HZ0.out HM.out w' ((hD.has 2 x (hx 2 _ (by rfl))).1 rfl) ((hD.has 5 y (hx 5 _ (by rfl))).2.1 rfl).1 ((hD.has 5 y (hx 5 _ (by rfl))).2.1 rfl).2 HF.out ((hD.has 15 z (hx 15 _ (by rfl))).2.2 rfl).1 ((hD.has 15 z (hx 15 _ (by rfl))).2.2 rfl).2).mono fun e w'' ⟨he, hw⟩ => ⟨he, hD.call PfT.stb hw⟩
    simp only [Act.put, List.setIfInBounds_toArray, List.set_cons_zero, List.set_cons_succ]
    first
    | (refine Fx.WM.skip 17 (by rfl) (by kernel_rfl) (by kernel_rfl) (by kernel_rfl) (by rfl) (fun g f w h => h) ?_; simp only [Act.put, List.setIfInBounds_toArray, List.set_cons_zero, List.set_cons_succ])
    | (refine Fx.WM.val_ 17 ?_ (by rfl) (by kernel_rfl) (by kernel_rfl) (by kernel_rfl) (by rfl) ?_ (fun g f w h => h) ?_
       rotate_left
       · intro g f w' hx hD hk
         obtain hkp := id hD
         clear hx hk hD hkp
         go_simp
         try rfl
       simp only [Act.put, List.setIfInBounds_toArray, List.set_cons_zero, List.set_cons_succ])
    first
    | (refine Fx.WM.skip 18 (by rfl) (by kernel_rfl) (by kernel_rfl) (by kernel_rfl) (by rfl) (fun g f w h => h) ?_; simp only [Act.put, List.setIfInBounds_toArray, List.set_cons_zero, List.set_cons_succ])
    | (refine Fx.WM.val_ 18 ?_ (by rfl) (by kernel_rfl) (by kernel_rfl) (by kernel_rfl) (by rfl) ?_ (fun g f w h => h) ?_
       rotate_left
       · intro g f w' hx hD hk
         obtain hkp := id hD
         clear hx hk hD hkp
         go_simp
         try rfl
       simp only [Act.put, List.setIfInBounds_toArray, List.set_cons_zero, List.set_cons_succ])
    first
    | (refine Fx.WM.skip 19 (by rfl) (by kernel_rfl) (by kernel_rfl) (by kernel_rfl) (by rfl) (fun g f w h => h) ?_; simp only [Act.put, List.setIfInBounds_toArray, List.set_cons_zero, List.set_cons_succ])
    | (refine Fx.WM.val_ 19 ?_ (by rfl) (by kernel_rfl) (by kernel_rfl) (by kernel_rfl) (by rfl) ?_ (fun g f w h => h) ?_
       rotate_left
       · intro g f w' hx hD hk
         obtain hkp := id hD
         clear hx hk hD hkp
         go_simp
         try rfl
       simp only [Act.put, List.setIfInBounds_toArray, List.set_cons_zero, List.set_cons_succ])
    first
    | (refine Fx.WM.skip 20 (by rfl) (by kernel_rfl) (by kernel_rfl) (by kernel_rfl) (by rfl) (fun g f w h => h) ?_; simp only [Act.put, List.setIfInBounds_toArray, List.set_cons_zero, List.set_cons_succ])
    | (refine Fx.WM.val_ 20 ?_ (by rfl) (by kernel_rfl) (by kernel_rfl) (by kernel_rfl) (by rfl) ?_ (fun g f w h => h) ?_
       rotate_left
       · intro g f w' hx hD hk
         obtain hkp := id hD
         clear hx hk hD hkp
         go_simp
         try rfl
       simp only [Act.put, List.setIfInBounds_toArray, List.set_cons_zero, List.set_cons_succ])
    first
    | (refine Fx.WM.skip 21 (by rfl) (by kernel_rfl) (by kernel_rfl) (by kernel_rfl) (by rfl) (fun g f w h => h) ?_; simp only [Act.put, List.setIfInBounds_toArray, List.set_cons_zero, List.set_cons_succ])
    | (refine Fx.WM.val_ 21 ?_ (by rfl) (by kernel_rfl) (by kernel_rfl) (by kernel_rfl) (by rfl) ?_ (fun g f w h => h) ?_
       rotate_left
       · intro g f w' hx hD hk
         obtain hkp := id hD
         clear hx hk hD hkp
         go_simp
         try rfl
       simp only [Act.put, List.setIfInBounds_toArray, List.set_cons_zero, List.set_cons_succ])
    first
    | (refine Fx.WM.skip 22 (by rfl) (by kernel_rfl) (by kernel_rfl) (by kernel_rfl) (by rfl) (fun g f w h => h) ?_; simp only [Act.put, List.setIfInBounds_toArray, List.set_cons_zero, List.set_cons_succ])
    | (refine Fx.WM.val_ 22 ?_ (by rfl) (by kernel_rfl) (by kernel_rfl) (by kernel_rfl) (by rfl) ?_ (fun g f w h => h) ?_
       rotate_left
       · intro g f w' hx hD hk
         obtain hkp := id hD
         clear hx hk hD hkp
         go_simp
         try rfl
       simp only [Act.put, List.setIfInBounds_toArray, List.set_cons_zero, List.set_cons_succ])
    first
    | (refine Fx.WM.skip 23 (by rfl) (by kernel_rfl) (by kernel_rfl) (by kernel_rfl) (by rfl) (fun g f w h => h) ?_; simp only [Act.put, List.setIfInBounds_toArray, List.set_cons_zero, List.set_cons_succ])
    | (refine Fx.WM.val_ 23 ?_ (by rfl) (by kernel_rfl) (by kernel_rfl) (by kernel_rfl) (by rfl) ?_ (fun g f w h => h) ?_
       rotate_left
       · intro g f w' hx hD hk
         obtain hkp := id hD
         clear hx hk hD hkp
         go_simp
         try rfl
       simp only [Act.put, List.setIfInBounds_toArray, List.set_cons_zero, List.set_cons_succ])
    refine Fx.WM.nil (by kernel_rfl) ?_
    intro wz hkp
    have hb := hkp.bel
    clear hkp
    obtain ⟨w3, hnm⟩ : ∃ z : World, z = wz := ⟨_, rfl⟩
    subst hnm
    have HB3 := Lib.hid (show Below w.heap.size w w3 from step_below hb (by repeat' (first | exact Below.refl _ _ | exact HB2.out | refine below_drewN ?_ _ | refine Below.drew ?_ | refine Below.alloc ?_ (by first | omega | (simp; done) | (simp; omega) | (simp [World.setCell]; omega)) _ | refine Below.setCell ?_ (by first | omega | (simp; done) | (simp; omega)) _ | assumption)))
    have K0_3 := Lib.hid (step_blk hb (show Blk _ (w.heap.size) 64 #[.int .i64 (m.ls), .int .i64 (m.ms), .int .i64 (m.lo), .int .i64 (m.hi), .int .i64 (m.sp), .slice m.A1 m.n1 m.c1, .slice m.A2 m.n2 m.c2, .slice A n c, .int .i64 (day), .int .i64 (pos)] by repeat' (first | exact K0_2.out | exact Blk.at_ _ (by first | rfl | (simp; done) | (simp; omega)) _ _ | refine Blk.drewN ?_ _ | refine Blk.drew ?_ | refine Blk.alloc ?_ _ | refine Blk.far ?_ (by first | omega | (simp; done) | (simp; omega)) _ | assumption)))
    have hL3 := Lib.hid (show Below w2.heap.size w2 _ from reads_mid hb (by repeat' (first | exact Below.refl _ _ | refine below_drewN ?_ _ | refine Below.drew ?_ | refine Below.alloc ?_ (by first | omega | (simp; done) | (simp; omega) | (simp [World.setCell]; omega)) _ | refine Below.setCell ?_ (by first | omega | (simp; done) | (simp; omega)) _)))
    have R0_3 := Lib.hid (reads_lay hb hL3.out R0_2.out)
    have R1_3 := Lib.hid (mnt_lay hb hL3.out R1_2.out)
    have R2_3 := Lib.hid (reads_lay hb hL3.out R2_2.out)
    clear hL3 R0_2 R1_2 R2_2
    have hz3 := hb.size
    try simp only [World.size_alloc, World.drewN, World.drew] at hz3
    clear hb K0_2 z0_0_2 z0_1_2 z0_2_2 z0_3_2 z0_4_2 z0_5_2 z0_6_2 z0_7_2 z0_8_2 z0_9_2 l0_2
    have l0_3 : w.heap.size < w3.heap.size := K0_3.out.lt
    have z0_0_3 : w3.cell? ⟨w.heap.size, 0, none⟩ = some (.int .i64 (m.ls)) := K0_3.out.cell 0
    have z0_1_3 : w3.cell? ⟨w.heap.size, 1, none⟩ = some (.int .i64 (m.ms)) := K0_3.out.cell 1
    have z0_2_3 : w3.cell? ⟨w.heap.size, 2, none⟩ = some (.int .i64 (m.lo)) := K0_3.out.cell 2
    have z0_3_3 : w3.cell? ⟨w.heap.size, 3, none⟩ = some (.int .i64 (m.hi)) := K0_3.out.cell 3
    have z0_4_3 : w3.cell? ⟨w.heap.size, 4, none⟩ = some (.int .i64 (m.sp)) := K0_3.out.cell 4
    have z0_5_3 : w3.cell? ⟨w.heap.size, 5, none⟩ = some (.slice m.A1 m.n1 m.c1) := K0_3.out.cell 5
    have z0_6_3 : w3.cell? ⟨w.heap.size, 6, none⟩ = some (.slice m.A2 m.n2 m.c2) := K0_3.out.cell 6
    have z0_7_3 : w3.cell? ⟨w.heap.size, 7, none⟩ = some (.slice A n c) := K0_3.out.cell 7
    have z0_8_3 : w3.cell? ⟨w.heap.size, 8, none⟩ = some (.int .i64 (day)) := K0_3.out.cell 8
    have z0_9_3 : w3.cell? ⟨w.heap.size, 9, none⟩ = some (.int .i64 (pos)) := K0_3.out.cell 9
    go_wp2_with fail
    refine (rtour_is m day pos l A n c 0 0 HE.out _ R1_3.out R0_3.out (by omega) HF.out).mono ?_
    rintro e w4 ⟨rfl, hb⟩
    have HB4 := Lib.hid (show Below w.heap.size w w4 from step_below hb (by repeat' (first | exact Below.refl _ _ | exact HB3.out | refine below_drewN ?_ _ | refine Below.drew ?_ | refine Below.alloc ?_ (by first | omega | (simp; done) | (simp; omega) | (simp [World.setCell]; omega)) _ | refine Below.setCell ?_ (by first | omega | (simp; done) | (simp; omega)) _ | assumption)))
    have K0_4 := Lib.hid (step_blk hb (show Blk _ (w.heap.size) 64 #[.int .i64 (m.ls), .int .i64 (m.ms), .int .i64 (m.lo), .int .i64 (m.hi), .int .i64 (m.sp), .slice m.A1 m.n1 m.c1, .slice m.A2 m.n2 m.c2, .slice A n c, .int .i64 (day), .int .i64 (pos)] by repeat' (first | exact K0_3.out | exact Blk.at_ _ (by first | rfl | (simp; done) | (simp; omega)) _ _ | refine Blk.drewN ?_ _ | refine Blk.drew ?_ | refine Blk.alloc ?_ _ | refine Blk.far ?_ (by first | omega | (simp; done) | (simp; omega)) _ | assumption)))
    have hL4 := Lib.hid (show Below w3.heap.size w3 _ from reads_mid hb (by repeat' (first | exact Below.refl _ _ | refine below_drewN ?_ _ | refine Below.drew ?_ | refine Below.alloc ?_ (by first | omega | (simp; done) | (simp; omega) | (simp [World.setCell]; omega)) _ | refine Below.setCell ?_ (by first | omega | (simp; done) | (simp; omega)) _)))
    have R0_4 := Lib.hid (reads_lay hb hL4.out R0_3.out)
    have R1_4 := Lib.hid (mnt_lay hb hL4.out R1_3.out)
    have R2_4 := Lib.hid (reads_lay hb hL4.out R2_3.out)
    clear hL4 R0_3 R1_3 R2_3
    have hz4 := hb.size
    try simp only [World.size_alloc, World.drewN, World.drew] at hz4
    clear hb K0_3 z0_0_3 z0_1_3 z0_2_3 z0_3_3 z0_4_3 z0_5_3 z0_6_3 z0_7_3 z0_8_3 z0_9_3 l0_3
    have l0_4 : w.heap.size < w4.heap.size := K0_4.out.lt
    have z0_0_4 : w4.cell? ⟨w.heap.size, 0, none⟩ = some (.int .i64 (m.ls)) := K0_4.out.cell 0
    have z0_1_4 : w4.cell? ⟨w.heap.size, 1, none⟩ = some (.int .i64 (m.ms)) := K0_4.out.cell 1
    have z0_2_4 : w4.cell? ⟨w.heap.size, 2, none⟩ = some (.int .i64 (m.lo)) := K0_4.out.cell 2
    have z0_3_4 : w4.cell? ⟨w.heap.size, 3, none⟩ = some (.int .i64 (m.hi)) := K0_4.out.cell 3
    have z0_4_4 : w4.cell? ⟨w.heap.size, 4, none⟩ = some (.int .i64 (m.sp)) := K0_4.out.cell 4
    have z0_5_4 : w4.cell? ⟨w.heap.size, 5, none⟩ = some (.slice m.A1 m.n1 m.c1) := K0_4.out.cell 5
    have z0_6_4 : w4.cell? ⟨w.heap.size, 6, none⟩ = some (.slice m.A2 m.n2 m.c2) := K0_4.out.cell 6
    have z0_7_4 : w4.cell? ⟨w.heap.size, 7, none⟩ = some (.slice A n c) := K0_4.out.cell 7
    have z0_8_4 : w4.cell? ⟨w.heap.size, 8, none⟩ = some (.int .i64 (day)) := K0_4.out.cell 8
    have z0_9_4 : w4.cell? ⟨w.heap.size, 9, none⟩ = some (.int .i64 (pos)) := K0_4.out.cell 9
    go_wp2_with fail
    refine (isminute_any mi true HM.out _).mono ?_
    rintro e w' ⟨rfl, rfl⟩
    go_wp2_with fail
    refine (rchoice_is m day pos l A n c At nt ct ks 0 p HC.out _ R1_4.out R0_4.out (by omega) R2_4.out (by omega) HZ0.out).mono ?_
    rintro e w5 ⟨rfl, hb⟩
    have HB5 := Lib.hid (show Below w.heap.size w w5 from step_below hb (by repeat' (first | exact Below.refl _ _ | exact HB4.out | refine below_drewN ?_ _ | refine Below.drew ?_ | refine Below.alloc ?_ (by first | omega | (simp; done) | (simp; omega) | (simp [World.setCell]; omega)) _ | refine Below.setCell ?_ (by first | omega | (simp; done) | (simp; omega)) _ | assumption)))
    have K0_5 := Lib.hid (step_blk hb (show Blk _ (w.heap.size) 64 #[.int .i64 (m.ls), .int .i64 (m.ms), .int .i64 (m.lo), .int .i64 (m.hi), .int .i64 (m.sp), .slice m.A1 m.n1 m.c1, .slice m.A2 m.n2 m.c2, .slice A n c, .int .i64 (day), .int .i64 (pos)] by repeat' (first | exact K0_4.out | exact Blk.at_ _ (by first | rfl | (simp; done) | (simp; omega)) _ _ | refine Blk.drewN ?_ _ | refine Blk.drew ?_ | refine Blk.alloc ?_ _ | refine Blk.far ?_ (by first | omega | (simp; done) | (simp; omega)) _ | assumption)))
    have hL5 := Lib.hid (show Below w4.heap.size w4 _ from reads_mid hb (by repeat' (first | exact Below.refl _ _ | refine below_drewN ?_ _ | refine Below.drew ?_ | refine Below.alloc ?_ (by first | omega | (simp; done) | (simp; omega) | (simp [World.setCell]; omega)) _ | refine Below.setCell ?_ (by first | omega | (simp; done) | (simp; omega)) _)))
    have R0_5 := Lib.hid (reads_lay hb hL5.out R0_4.out)
    have R1_5 := Lib.hid (mnt_lay hb hL5.out R1_4.out)
    have R2_5 := Lib.hid (reads_lay hb hL5.out R2_4.out)
    clear hL5 R0_4 R1_4 R2_4
    have hz5 := hb.size
    try simp only [World.size_alloc, World.drewN, World.drew] at hz5
    clear hb K0_4 z0_0_4 z0_1_4 z0_2_4 z0_3_4 z0_4_4 z0_5_4 z0_6_4 z0_7_4 z0_8_4 z0_9_4 l0_4
    have l0_5 : w.heap.size < w5.heap.size := K0_5.out.lt
    have z0_0_5 : w5.cell? ⟨w.heap.size, 0, none⟩ = some (.int .i64 (m.ls)) := K0_5.out.cell 0
    have z0_1_5 : w5.cell? ⟨w.heap.size, 1, none⟩ = some (.int .i64 (m.ms)) := K0_5.out.cell 1
    have z0_2_5 : w5.cell? ⟨w.heap.size, 2, none⟩ = some (.int .i64 (m.lo)) := K0_5.out.cell 2
    have z0_3_5 : w5.cell? ⟨w.heap.size, 3, none⟩ = some (.int .i64 (m.hi)) := K0_5.out.cell 3
    have z0_4_5 : w5.cell? ⟨w.heap.size, 4, none⟩ = some (.int .i64 (m.sp)) := K0_5.out.cell 4
    have z0_5_5 : w5.cell? ⟨w.heap.size, 5, none⟩ = some (.slice m.A1 m.n1 m.c1) := K0_5.out.cell 5
    have z0_6_5 : w5.cell? ⟨w.heap.size, 6, none⟩ = some (.slice m.A2 m.n2 m.c2) := K0_5.out.cell 6
    have z0_7_5 : w5.cell? ⟨w.heap.size, 7, none⟩ = some (.slice A n c) := K0_5.out.cell 7
    have z0_8_5 : w5.cell? ⟨w.heap.size, 8, none⟩ = some (.int .i64 (day)) := K0_5.out.cell 8
    have z0_9_5 : w5.cell? ⟨w.heap.size, 9, none⟩ = some (.int .i64 (pos)) := K0_5.out.cell 9
    go_wp2
    go_ret
    exact ⟨rfl, by repeat' (first | exact Below.refl _ _ | exact HB5.out | refine below_drewN ?_ _ | refine Below.drew ?_ | refine Below.alloc ?_ (by first | omega | (simp; done) | (simp; omega) | (simp [World.setCell]; omega)) _ | refine Below.setCell ?_ (by first | omega | (simp; done) | (simp; omega)) _ | assumption)⟩
  subst hp0
  obtain ⟨C, hC⟩ : ∃ C, choiceF m l day pos ks = (C, 0) := ⟨_, by unfold choiceF; rw [hp, if_neg (by simp)]⟩
  obtain ⟨L, j, E, hQ⟩ : ∃ L j E, timesQ m.sp (mi, pos) (tgtPos m day l ks) = ((L, j), E) := ⟨_, _, _, rfl⟩
  obtain ⟨r, hr⟩ : ∃ r, L.length = r := ⟨_, rfl⟩
  have hr23 : r ≤ 1000 := by
    rw [← hr]
    rcases times_kind hQ with ⟨-, h⟩ | ⟨h, -⟩
    · simp only at h
      rw [h]; simp
    · have e : L = begL m.sp (mi, pos) (tgtPos m day l ks) (tgtPos m day l ks).length := by simpa using congrArg (fun q => q.1.1) h
      rw [e, begL_len]
      unfold tgtPos
      rw [List.length_zip]
      omega
  have HP := Lib.hid hp
  have HC := Lib.hid hC
  have HQ := Lib.hid hQ
  have HR := Lib.hid hr
  have q1 : (E != E) = false := by simp
  have q2 : (j != j) = false := by simp
  clear hp hC hQ hr
  go_enter Try.func9, Try.ntmps9
  have R0_0 := Lib.hid hrd
  clear hrd
  have R1_0 := Lib.hid hma
  clear hma
  have R2_0 := Lib.hid hrk
  clear hrk
  go_wp2_with fail
  refine (awakept_any _).mono ?_
  rintro e w1 ⟨rfl, hb⟩
  have HB1 := Lib.hid (show Below w.heap.size w w1 from step_below hb (by repeat' (first | exact Below.refl _ _ | exact HB0.out | refine below_drewN ?_ _ | refine Below.drew ?_ | refine Below.alloc ?_ (by first | omega | (simp; done) | (simp; omega) | (simp [World.setCell]; omega)) _ | refine Below.setCell ?_ (by first | omega | (simp; done) | (simp; omega)) _ | assumption)))
  have K0_1 := Lib.hid (step_blk hb (show Blk _ (w.heap.size) 64 #[.int .i64 (m.ls), .int .i64 (m.ms), .int .i64 (m.lo), .int .i64 (m.hi), .int .i64 (m.sp), .slice m.A1 m.n1 m.c1, .slice m.A2 m.n2 m.c2, .slice A n c, .int .i64 (day), .int .i64 (pos)] by repeat' (first | exact Blk.at_ _ (by first | rfl | (simp; done) | (simp; omega)) _ _ | refine Blk.drewN ?_ _ | refine Blk.drew ?_ | refine Blk.alloc ?_ _ | refine Blk.far ?_ (by first | omega | (simp; done) | (simp; omega)) _ | assumption)))
  have hL1 := Lib.hid (show Below w.heap.size w _ from reads_mid hb (by repeat' (first | exact Below.refl _ _ | refine below_drewN ?_ _ | refine Below.drew ?_ | refine Below.alloc ?_ (by first | omega | (simp; done) | (simp; omega) | (simp [World.setCell]; omega)) _ | refine Below.setCell ?_ (by first | omega | (simp; done) | (simp; omega)) _)))
  have R0_1 := Lib.hid (reads_lay hb hL1.out R0_0.out)
  have R1_1 := Lib.hid (mnt_lay hb hL1.out R1_0.out)
  have R2_1 := Lib.hid (reads_lay hb hL1.out R2_0.out)
  clear hL1 R0_0 R1_0 R2_0
  have hz1 := hb.size
  try simp only [World.size_alloc, World.drewN, World.drew] at hz1
  clear hb
  have l0_1 : w.heap.size < w1.heap.size := K0_1.out.lt
  have z0_0_1 : w1.cell? ⟨w.heap.size, 0, none⟩ = some (.int .i64 (m.ls)) := K0_1.out.cell 0
  have z0_1_1 : w1.cell? ⟨w.heap.size, 1, none⟩ = some (.int .i64 (m.ms)) := K0_1.out.cell 1
  have z0_2_1 : w1.cell? ⟨w.heap.size, 2, none⟩ = some (.int .i64 (m.lo)) := K0_1.out.cell 2
  have z0_3_1 : w1.cell? ⟨w.heap.size, 3, none⟩ = some (.int .i64 (m.hi)) := K0_1.out.cell 3
  have z0_4_1 : w1.cell? ⟨w.heap.size, 4, none⟩ = some (.int .i64 (m.sp)) := K0_1.out.cell 4
  have z0_5_1 : w1.cell? ⟨w.heap.size, 5, none⟩ = some (.slice m.A1 m.n1 m.c1) := K0_1.out.cell 5
  have z0_6_1 : w1.cell? ⟨w.heap.size, 6, none⟩ = some (.slice m.A2 m.n2 m.c2) := K0_1.out.cell 6
  have z0_7_1 : w1.cell? ⟨w.heap.size, 7, none⟩ = some (.slice A n c) := K0_1.out.cell 7
  have z0_8_1 : w1.cell? ⟨w.heap.size, 8, none⟩ = some (.int .i64 (day)) := K0_1.out.cell 8
  have z0_9_1 : w1.cell? ⟨w.heap.size, 9, none⟩ = some (.int .i64 (pos)) := K0_1.out.cell 9
  go_wp2_with fail
  refine (shortp_is m A n c _ l day pos true HL.out _ R0_1.out (Nat.le_refl _) (by omega)).mono ?_
  rintro e w2 ⟨rfl, hb⟩
  have HB2 := Lib.hid (show Below w.heap.size w w2 from step_below hb (by repeat' (first | exact Below.refl _ _ | exact HB1.out | refine below_drewN ?_ _ | refine Below.drew ?_ | refine Below.alloc ?_ (by first | omega | (simp; done) | (simp; omega) | (simp [World.setCell]; omega)) _ | refine Below.setCell ?_ (by first | omega | (simp; done) | (simp; omega)) _ | assumption)))
  have K0_2 := Lib.hid (step_blk hb (show Blk _ (w.heap.size) 64 #[.int .i64 (m.ls), .int .i64 (m.ms), .int .i64 (m.lo), .int .i64 (m.hi), .int .i64 (m.sp), .slice m.A1 m.n1 m.c1, .slice m.A2 m.n2 m.c2, .slice A n c, .int .i64 (day), .int .i64 (pos)] by repeat' (first | exact K0_1.out | exact Blk.at_ _ (by first | rfl | (simp; done) | (simp; omega)) _ _ | refine Blk.drewN ?_ _ | refine Blk.drew ?_ | refine Blk.alloc ?_ _ | refine Blk.far ?_ (by first | omega | (simp; done) | (simp; omega)) _ | assumption)))
  have hL2 := Lib.hid (show Below w1.heap.size w1 _ from reads_mid hb (by repeat' (first | exact Below.refl _ _ | refine below_drewN ?_ _ | refine Below.drew ?_ | refine Below.alloc ?_ (by first | omega | (simp; done) | (simp; omega) | (simp [World.setCell]; omega)) _ | refine Below.setCell ?_ (by first | omega | (simp; done) | (simp; omega)) _)))
  have R0_2 := Lib.hid (reads_lay hb hL2.out R0_1.out)
  have R1_2 := Lib.hid (mnt_lay hb hL2.out R1_1.out)
  have R2_2 := Lib.hid (reads_lay hb hL2.out R2_1.out)
  clear hL2 R0_1 R1_1 R2_1
  have hz2 := hb.size
  try simp only [World.size_alloc, World.drewN, World.drew] at hz2
  clear hb K0_1 z0_0_1 z0_1_1 z0_2_1 z0_3_1 z0_4_1 z0_5_1 z0_6_1 z0_7_1 z0_8_1 z0_9_1 l0_1
  have l0_2 : w.heap.size < w2.heap.size := K0_2.out.lt
  have z0_0_2 : w2.cell? ⟨w.heap.size, 0, none⟩ = some (.int .i64 (m.ls)) := K0_2.out.cell 0
  have z0_1_2 : w2.cell? ⟨w.heap.size, 1, none⟩ = some (.int .i64 (m.ms)) := K0_2.out.cell 1
  have z0_2_2 : w2.cell? ⟨w.heap.size, 2, none⟩ = some (.int .i64 (m.lo)) := K0_2.out.cell 2
  have z0_3_2 : w2.cell? ⟨w.heap.size, 3, none⟩ = some (.int .i64 (m.hi)) := K0_2.out.cell 3
  have z0_4_2 : w2.cell? ⟨w.heap.size, 4, none⟩ = some (.int .i64 (m.sp)) := K0_2.out.cell 4
  have z0_5_2 : w2.cell? ⟨w.heap.size, 5, none⟩ = some (.slice m.A1 m.n1 m.c1) := K0_2.out.cell 5
  have z0_6_2 : w2.cell? ⟨w.heap.size, 6, none⟩ = some (.slice m.A2 m.n2 m.c2) := K0_2.out.cell 6
  have z0_7_2 : w2.cell? ⟨w.heap.size, 7, none⟩ = some (.slice A n c) := K0_2.out.cell 7
  have z0_8_2 : w2.cell? ⟨w.heap.size, 8, none⟩ = some (.int .i64 (day)) := K0_2.out.cell 8
  have z0_9_2 : w2.cell? ⟨w.heap.size, 9, none⟩ = some (.int .i64 (pos)) := K0_2.out.cell 9
  go_wp2
  refine Fx.regionM (fun W g f w' => Kp (PfM m n l nt ks 2 5 15 r L 16) W g w') (fun i (x : Pick2) => if i = 16 then .tuple #[.slice x.1.1 r x.1.2, .int .i64 j, .int .i64 E] else valT m n nt 2 5 i x) (by kernel_rfl) ?_ ?_
  · intro f hf0
    exact Kp.start
  first
  | (refine Fx.WM.skip 0 (by rfl) (by kernel_rfl) (by kernel_rfl) (by kernel_rfl) (by rfl) (fun g f w h => h) ?_; simp only [Act.put, List.setIfInBounds_toArray, List.set_cons_zero, List.set_cons_succ])
  | (refine Fx.WM.val_ 0 ?_ (by rfl) (by kernel_rfl) (by kernel_rfl) (by kernel_rfl) (by rfl) ?_ (fun g f w h => h) ?_
     rotate_left
     · intro g f w' hx hD hk
       obtain hkp := id hD
       clear hx hk hD hkp
       go_simp
       try rfl
     simp only [Act.put, List.setIfInBounds_toArray, List.set_cons_zero, List.set_cons_succ])
  first
  | (refine Fx.WM.skip 3 (by rfl) (by kernel_rfl) (by kernel_rfl) (by kernel_rfl) (by rfl) (fun g f w h => h) ?_; simp only [Act.put, List.setIfInBounds_toArray, List.set_cons_zero, List.set_cons_succ])
  | (refine Fx.WM.val_ 3 ?_ (by rfl) (by kernel_rfl) (by kernel_rfl) (by kernel_rfl) (by rfl) ?_ (fun g f w h => h) ?_
     rotate_left
     · intro g f w' hx hD hk
       obtain hkp := id hD
       clear hx hk hD hkp
       go_simp
       try rfl
     simp only [Act.put, List.setIfInBounds_toArray, List.set_cons_zero, List.set_cons_succ])
  first
  | (refine Fx.WM.skip 6 (by rfl) (by kernel_rfl) (by kernel_rfl) (by kernel_rfl) (by rfl) (fun g f w h => h) ?_; simp only [Act.put, List.setIfInBounds_toArray, List.set_cons_zero, List.set_cons_succ])
  | (refine Fx.WM.val_ 6 ?_ (by rfl) (by kernel_rfl) (by kernel_rfl) (by kernel_rfl) (by rfl) ?_ (fun g f w h => h) ?_
     rotate_left
     · intro g f w' hx hD hk
       obtain hkp := id hD
       clear hx hk hD hkp
       go_simp
       try rfl
     simp only [Act.put, List.setIfInBounds_toArray, List.set_cons_zero, List.set_cons_succ])
  first
  | (refine Fx.WM.skip 7 (by rfl) (by kernel_rfl) (by kernel_rfl) (by kernel_rfl) (by rfl) (fun g f w h => h) ?_; simp only [Act.put, List.setIfInBounds_toArray, List.set_cons_zero, List.set_cons_succ])
  | (refine Fx.WM.val_ 7 ?_ (by rfl) (by kernel_rfl) (by kernel_rfl) (by kernel_rfl) (by rfl) ?_ (fun g f w h => h) ?_
     rotate_left
     · intro g f w' hx hD hk
       obtain hkp := id hD
       clear hx hk hD hkp
       go_simp
       try rfl
     simp only [Act.put, List.setIfInBounds_toArray, List.set_cons_zero, List.set_cons_succ])
  first
  | (refine Fx.WM.skip 9 (by rfl) (by kernel_rfl) (by kernel_rfl) (by kernel_rfl) (by rfl) (fun g f w h => h) ?_; simp only [Act.put, List.setIfInBounds_toArray, List.set_cons_zero, List.set_cons_succ])
  | (refine Fx.WM.val_ 9 ?_ (by rfl) (by kernel_rfl) (by kernel_rfl) (by kernel_rfl) (by rfl) ?_ (fun g f w h => h) ?_
     rotate_left
     · intro g f w' hx hD hk
       obtain hkp := id hD
       clear hx hk hD hkp
       go_simp
       try rfl
     simp only [Act.put, List.setIfInBounds_toArray, List.set_cons_zero, List.set_cons_succ])
  first
  | (refine Fx.WM.skip 10 (by rfl) (by kernel_rfl) (by kernel_rfl) (by kernel_rfl) (by rfl) (fun g f w h => h) ?_; simp only [Act.put, List.setIfInBounds_toArray, List.set_cons_zero, List.set_cons_succ])
  | (refine Fx.WM.val_ 10 ?_ (by rfl) (by kernel_rfl) (by kernel_rfl) (by kernel_rfl) (by rfl) ?_ (fun g f w h => h) ?_
     rotate_left
     · intro g f w' hx hD hk
       obtain hkp := id hD
       clear hx hk hD hkp
       go_simp
       try rfl
     simp only [Act.put, List.setIfInBounds_toArray, List.set_cons_zero, List.set_cons_succ])
  first
  | (refine Fx.WM.skip 1 (by rfl) (by kernel_rfl) (by kernel_rfl) (by kernel_rfl) (by rfl) (fun g f w h => h) ?_; simp only [Act.put, List.setIfInBounds_toArray, List.set_cons_zero, List.set_cons_succ])
  | (refine Fx.WM.val_ 1 ?_ (by rfl) (by kernel_rfl) (by kernel_rfl) (by kernel_rfl) (by rfl) ?_ (fun g f w h => h) ?_
     rotate_left
     · intro g f w' hx hD hk
       obtain hkp := id hD
       have y0_0 := (K0_2.out.below hkp.bel l0_2).cell 0
       have y0_1 := (K0_2.out.below hkp.bel l0_2).cell 1
       have y0_2 := (K0_2.out.below hkp.bel l0_2).cell 2
       have y0_3 := (K0_2.out.below hkp.bel l0_2).cell 3
       have y0_4 := (K0_2.out.below hkp.bel l0_2).cell 4
       have y0_5 := (K0_2.out.below hkp.bel l0_2).cell 5
       have y0_6 := (K0_2.out.below hkp.bel l0_2).cell 6
       have y0_7 := (K0_2.out.below hkp.bel l0_2).cell 7
       have y0_8 := (K0_2.out.below hkp.bel l0_2).cell 8
       have y0_9 := (K0_2.out.below hkp.bel l0_2).cell 9
       clear hx hk hD hkp
       go_simp
       try rfl
     simp only [Act.put, List.setIfInBounds_toArray, List.set_cons_zero, List.set_cons_succ])
  first
  | (refine Fx.WM.skip 4 (by rfl) (by kernel_rfl) (by kernel_rfl) (by kernel_rfl) (by rfl) (fun g f w h => h) ?_; simp only [Act.put, List.setIfInBounds_toArray, List.set_cons_zero, List.set_cons_succ])
  | (refine Fx.WM.val_ 4 ?_ (by rfl) (by kernel_rfl) (by kernel_rfl) (by kernel_rfl) (by rfl) ?_ (fun g f w h => h) ?_
     rotate_left
     · intro g f w' hx hD hk
       obtain hkp := id hD
       have y0_0 := (K0_2.out.below hkp.bel l0_2).cell 0
       have y0_1 := (K0_2.out.below hkp.bel l0_2).cell 1
       have y0_2 := (K0_2.out.below hkp.bel l0_2).cell 2
       have y0_3 := (K0_2.out.below hkp.bel l0_2).cell 3
       have y0_4 := (K0_2.out.below hkp.bel l0_2).cell 4
       have y0_5 := (K0_2.out.below hkp.bel l0_2).cell 5
       have y0_6 := (K0_2.out.below hkp.bel l0_2).cell 6
       have y0_7 := (K0_2.out.below hkp.bel l0_2).cell 7
       have y0_8 := (K0_2.out.below hkp.bel l0_2).cell 8
       have y0_9 := (K0_2.out.below hkp.bel l0_2).cell 9
       clear hx hk hD hkp
       go_simp
       try rfl
     simp only [Act.put, List.setIfInBounds_toArray, List.set_cons_zero, List.set_cons_succ])
  first
  | (refine Fx.WM.skip 8 (by rfl) (by kernel_rfl) (by kernel_rfl) (by kernel_rfl) (by rfl) (fun g f w h => h) ?_; simp only [Act.put, List.setIfInBounds_toArray, List.set_cons_zero, List.set_cons_succ])
  | (refine Fx.WM.val_ 8 ?_ (by rfl) (by kernel_rfl) (by kernel_rfl) (by kernel_rfl) (by rfl) ?_ (fun g f w h => h) ?_
     rotate_left
     · intro g f w' hx hD hk
       obtain hkp := id hD
       have y0_0 := (K0_2.out.below hkp.bel l0_2).cell 0
       have y0_1 := (K0_2.out.below hkp.bel l0_2).cell 1
       have y0_2 := (K0_2.out.below hkp.bel l0_2).cell 2
       have y0_3 := (K0_2.out.below hkp.bel l0_2).cell 3
       have y0_4 := (K0_2.out.below hkp.bel l0_2).cell 4
       have y0_5 := (K0_2.out.below hkp.bel l0_2).cell 5
       have y0_6 := (K0_2.out.below hkp.bel l0_2).cell 6
       have y0_7 := (K0_2.out.below hkp.bel l0_2).cell 7
       have y0_8 := (K0_2.out.below hkp.bel l0_2).cell 8
       have y0_9 := (K0_2.out.below hkp.bel l0_2).cell 9
       clear hx hk hD hkp
       go_simp
       try rfl
     simp only [Act.put, List.setIfInBounds_toArray, List.set_cons_zero, List.set_cons_succ])
  first
  | (refine Fx.WM.skip 11 (by rfl) (by kernel_rfl) (by kernel_rfl) (by kernel_rfl) (by rfl) (fun g f w h => h) ?_; simp only [Act.put, List.setIfInBounds_toArray, List.set_cons_zero, List.set_cons_succ])
  | (refine Fx.WM.val_ 11 ?_ (by rfl) (by kernel_rfl) (by kernel_rfl) (by kernel_rfl) (by rfl) ?_ (fun g f w h => h) ?_
     rotate_left
     · intro g f w' hx hD hk
       obtain hkp := id hD
       have y0_0 := (K0_2.out.below hkp.bel l0_2).cell 0
       have y0_1 := (K0_2.out.below hkp.bel l0_2).cell 1
       have y0_2 := (K0_2.out.below hkp.bel l0_2).cell 2
       have y0_3 := (K0_2.out.below hkp.bel l0_2).cell 3
       have y0_4 := (K0_2.out.below hkp.bel l0_2).cell 4
       have y0_5 := (K0_2.out.below hkp.bel l0_2).cell 5
       have y0_6 := (K0_2.out.below hkp.bel l0_2).cell 6
       have y0_7 := (K0_2.out.below hkp.bel l0_2).cell 7
       have y0_8 := (K0_2.out.below hkp.bel l0_2).cell 8
       have y0_9 := (K0_2.out.below hkp.bel l0_2).cell 9
       clear hx hk hD hkp
       go_simp
       try rfl
     simp only [Act.put, List.setIfInBounds_toArray, List.set_cons_zero, List.set_cons_succ])
  first
  | (refine Fx.WM.skip 12 (by rfl) (by kernel_rfl) (by kernel_rfl) (by kernel_rfl) (by rfl) (fun g f w h => h) ?_; simp only [Act.put, List.setIfInBounds_toArray, List.set_cons_zero, List.set_cons_succ])
  | (refine Fx.WM.val_ 12 ?_ (by rfl) (by kernel_rfl) (by kernel_rfl) (by kernel_rfl) (by rfl) ?_ (fun g f w h => h) ?_
     rotate_left
     · intro g f w' hx hD hk
       obtain hkp := id hD
       clear hx hk hD hkp
       go_simp
       try rfl
     simp only [Act.put, List.setIfInBounds_toArray, List.set_cons_zero, List.set_cons_succ])
  first
  | (refine Fx.WM.skip 13 (by rfl) (by kernel_rfl) (by kernel_rfl) (by kernel_rfl) (by rfl) (fun g f w h => h) ?_; simp only [Act.put, List.setIfInBounds_toArray, List.set_cons_zero, List.set_cons_succ])
  | (refine Fx.WM.val_ 13 ?_ (by rfl) (by kernel_rfl) (by kernel_rfl) (by kernel_rfl) (by rfl) ?_ (fun g f w h => h) ?_
     rotate_left
     · intro g f w' hx hD hk
       obtain hkp := id hD
       clear hx hk hD hkp
       go_simp
       try rfl
     simp only [Act.put, List.setIfInBounds_toArray, List.set_cons_zero, List.set_cons_succ])
  first
  | (refine Fx.WM.skip 14 (by rfl) (by kernel_rfl) (by kernel_rfl) (by kernel_rfl) (by rfl) (fun g f w h => h) ?_; simp only [Act.put, List.setIfInBounds_toArray, List.set_cons_zero, List.set_cons_succ])
  | (refine Fx.WM.val_ 14 ?_ (by rfl) (by kernel_rfl) (by kernel_rfl) (by kernel_rfl) (by rfl) ?_ (fun g f w h => h) ?_
     rotate_left
     · intro g f w' hx hD hk
       obtain hkp := id hD
       clear hx hk hD hkp
       go_simp
       try rfl
     simp only [Act.put, List.setIfInBounds_toArray, List.set_cons_zero, List.set_cons_succ])
  refine Fx.WM.choose 2 (by rfl) (by kernel_rfl) (by rfl) ?_ ?_
  · skip
    refine Fx.Chooses.call ?_ ?_ (by rfl) ?_ ?_
    rotate_left 2
    · intro w'
      go_simp
      refine ⟨?_, ?_⟩ <;> rfl
    · intro f w' hD hk
      exact (mount_any m w' (R1_2.out.lay hD.bel) (by omega) (by omega)).mono fun e w'' ⟨A', c', B', d', he, hb, hm⟩ => ⟨((A', c'), (B', d')), he, hD.choose PfM.stb hb 2 _ ⟨⟨fun _ => hm, fun e => absurd e (by decide), fun e => absurd e (by decide)⟩, fun e => absurd e (by decide)⟩⟩
  intro x
  simp only [Act.put, List.setIfInBounds_toArray, List.set_cons_zero, List.set_cons_succ]
  refine Fx.WM.choose 5 (by rfl) (by kernel_rfl) (by rfl) ?_ ?_
  · skip
    refine Fx.Chooses.call ?_ ?_ (by rfl) ?_ ?_
    rotate_left 2
    · intro w'
      go_simp
      refine ⟨?_, ?_⟩ <;> rfl
    · intro f w' hD hk
      exact (ctargets_any A n c w'.heap.size l w' (((R0_2.out.below hD.bel).more hD.bel.size)) (Nat.le_refl _) (by omega)).mono fun e w'' ⟨A', c', he, hb, hr, ho⟩ => ⟨((A', c'), (none, 0)), he, hD.choose PfM.stb hb 5 _ ⟨⟨fun e => absurd e (by decide), fun _ => ⟨hr, own_cap ho⟩, fun e => absurd e (by decide)⟩, fun e => absurd e (by decide)⟩⟩
  intro y
  simp only [Act.put, List.setIfInBounds_toArray, List.set_cons_zero, List.set_cons_succ]
  refine Fx.WM.choose 15 (by rfl) (by kernel_rfl) (by rfl) ?_ ?_
  · skip
    refine Fx.Chooses.call ?_ ?_ (by rfl) ?_ ?_
    rotate_left 2
    · intro w'
      go_simp
      refine ⟨?_, ?_⟩ <;> rfl
    · intro f w' hD hk
      exact (copyints_any At nt ct w'.heap.size ks w' (((R2_2.out.below hD.bel).more hD.bel.size)) (Nat.le_refl _) (by omega)).mono fun e w'' ⟨A', c', he, hb, hr, ho⟩ => ⟨((A', c'), (none, 0)), he, hD.choose PfM.stb hb 15 _ ⟨⟨fun e => absurd e (by decide), fun e => absurd e (by decide), fun _ => ⟨hr, own_cap ho⟩⟩, fun e => absurd e (by decide)⟩⟩
  intro z
  simp only [Act.put, List.setIfInBounds_toArray, List.set_cons_zero, List.set_cons_succ]
  refine Fx.WM.choose 16 (by rfl) (by kernel_rfl) (by rfl) ?_ ?_
  · skip
    refine Fx.Chooses.call ?_ ?_ (by rfl) ?_ ?_
    rotate_left 2
    · intro w'
      go_simp
      refine ⟨?_, ?_⟩ <;> rfl
    · intro f w' hD hk
      exact (ptimes_ok (m.to x.1.1 x.1.2 x.2.1 x.2.2) day pos mi l y.1.1 n y.1.2 z.1.1 nt z.1.2 ks HP.out HZ0.out HM.out w' ((hD.has 2 x (by rfl)).1.1 rfl) ((hD.has 5 y (by rfl)).1.2.1 rfl).1 ((hD.has 5 y (by rfl)).1.2.1 rfl).2 HF.out ((hD.has 15 z (by rfl)).1.2.2 rfl).1 ((hD.has 15 z (by rfl)).1.2.2 rfl).2 L j E HQ.out r HR.out).mono fun e w'' ⟨A', c', he, hb, hr⟩ => ⟨((A', c'), (none, 0)), he, hD.choose PfM.stb hb 16 _ ⟨⟨fun e => absurd e (by decide), fun e => absurd e (by decide), fun e => absurd e (by decide)⟩, fun _ => hr⟩⟩
  intro v
  simp only [Act.put, List.setIfInBounds_toArray, List.set_cons_zero, List.set_cons_succ]
  first
  | (refine Fx.WM.skip 17 (by rfl) (by kernel_rfl) (by kernel_rfl) (by kernel_rfl) (by rfl) (fun g f w h => h) ?_; simp only [Act.put, List.setIfInBounds_toArray, List.set_cons_zero, List.set_cons_succ])
  | (refine Fx.WM.val_ 17 ?_ (by rfl) (by kernel_rfl) (by kernel_rfl) (by kernel_rfl) (by rfl) ?_ (fun g f w h => h) ?_
     rotate_left
     · intro g f w' hx hD hk
       obtain hkp := id hD
       clear hx hk hD hkp
       go_simp
       try rfl
     simp only [Act.put, List.setIfInBounds_toArray, List.set_cons_zero, List.set_cons_succ])
  first
  | (refine Fx.WM.skip 18 (by rfl) (by kernel_rfl) (by kernel_rfl) (by kernel_rfl) (by rfl) (fun g f w h => h) ?_; simp only [Act.put, List.setIfInBounds_toArray, List.set_cons_zero, List.set_cons_succ])
  | (refine Fx.WM.val_ 18 ?_ (by rfl) (by kernel_rfl) (by kernel_rfl) (by kernel_rfl) (by rfl) ?_ (fun g f w h => h) ?_
     rotate_left
     · intro g f w' hx hD hk
       obtain hkp := id hD
       clear hx hk hD hkp
       go_simp
       try rfl
     simp only [Act.put, List.setIfInBounds_toArray, List.set_cons_zero, List.set_cons_succ])
  first
  | (refine Fx.WM.skip 19 (by rfl) (by kernel_rfl) (by kernel_rfl) (by kernel_rfl) (by rfl) (fun g f w h => h) ?_; simp only [Act.put, List.setIfInBounds_toArray, List.set_cons_zero, List.set_cons_succ])
  | (refine Fx.WM.val_ 19 ?_ (by rfl) (by kernel_rfl) (by kernel_rfl) (by kernel_rfl) (by rfl) ?_ (fun g f w h => h) ?_
     rotate_left
     · intro g f w' hx hD hk
       obtain hkp := id hD
       clear hx hk hD hkp
       go_simp
       try rfl
     simp only [Act.put, List.setIfInBounds_toArray, List.set_cons_zero, List.set_cons_succ])
  first
  | (refine Fx.WM.skip 20 (by rfl) (by kernel_rfl) (by kernel_rfl) (by kernel_rfl) (by rfl) (fun g f w h => h) ?_; simp only [Act.put, List.setIfInBounds_toArray, List.set_cons_zero, List.set_cons_succ])
  | (refine Fx.WM.val_ 20 ?_ (by rfl) (by kernel_rfl) (by kernel_rfl) (by kernel_rfl) (by rfl) ?_ (fun g f w h => h) ?_
     rotate_left
     · intro g f w' hx hD hk
       obtain hkp := id hD
       clear hx hk hD hkp
       go_simp
       try rfl
     simp only [Act.put, List.setIfInBounds_toArray, List.set_cons_zero, List.set_cons_succ])
  first
  | (refine Fx.WM.skip 21 (by rfl) (by kernel_rfl) (by kernel_rfl) (by kernel_rfl) (by rfl) (fun g f w h => h) ?_; simp only [Act.put, List.setIfInBounds_toArray, List.set_cons_zero, List.set_cons_succ])
  | (refine Fx.WM.val_ 21 ?_ (by rfl) (by kernel_rfl) (by kernel_rfl) (by kernel_rfl) (by rfl) ?_ (fun g f w h => h) ?_
     rotate_left
     · intro g f w' hx hD hk
       obtain hkp := id hD
       clear hx hk hD hkp
       go_simp
       try rfl
     simp only [Act.put, List.setIfInBounds_toArray, List.set_cons_zero, List.set_cons_succ])
  first
  | (refine Fx.WM.skip 22 (by rfl) (by kernel_rfl) (by kernel_rfl) (by kernel_rfl) (by rfl) (fun g f w h => h) ?_; simp only [Act.put, List.setIfInBounds_toArray, List.set_cons_zero, List.set_cons_succ])
  | (refine Fx.WM.val_ 22 ?_ (by rfl) (by kernel_rfl) (by kernel_rfl) (by kernel_rfl) (by rfl) ?_ (fun g f w h => h) ?_
     rotate_left
     · intro g f w' hx hD hk
       obtain hkp := id hD
       clear hx hk hD hkp
       go_simp
       try rfl
     simp only [Act.put, List.setIfInBounds_toArray, List.set_cons_zero, List.set_cons_succ])
  first
  | (refine Fx.WM.skip 23 (by rfl) (by kernel_rfl) (by kernel_rfl) (by kernel_rfl) (by rfl) (fun g f w h => h) ?_; simp only [Act.put, List.setIfInBounds_toArray, List.set_cons_zero, List.set_cons_succ])
  | (refine Fx.WM.val_ 23 ?_ (by rfl) (by kernel_rfl) (by kernel_rfl) (by kernel_rfl) (by rfl) ?_ (fun g f w h => h) ?_
     rotate_left
     · intro g f w' hx hD hk
       obtain hkp := id hD
       clear hx hk hD hkp
       go_simp
       try rfl
     simp only [Act.put, List.setIfInBounds_toArray, List.set_cons_zero, List.set_cons_succ])
  refine Fx.WM.nil (by kernel_rfl) ?_
  intro wz hkp
  obtain ⟨⟨vA, vc⟩, v2⟩ := v
  have hb := hkp.bel
  have hrv := (hkp.has 16 _ (by rfl)).2 rfl
  clear hkp
  simp only at hrv
  obtain ⟨w3, hnm⟩ : ∃ z : World, z = wz := ⟨_, rfl⟩
  subst hnm
  have HB3 := Lib.hid (show Below w.heap.size w w3 from step_below hb (by repeat' (first | exact Below.refl _ _ | exact HB2.out | refine below_drewN ?_ _ | refine Below.drew ?_ | refine Below.alloc ?_ (by first | omega | (simp; done) | (simp; omega) | (simp [World.setCell]; omega)) _ | refine Below.setCell ?_ (by first | omega | (simp; done) | (simp; omega)) _ | assumption)))
  have K0_3 := Lib.hid (step_blk hb (show Blk _ (w.heap.size) 64 #[.int .i64 (m.ls), .int .i64 (m.ms), .int .i64 (m.lo), .int .i64 (m.hi), .int .i64 (m.sp), .slice m.A1 m.n1 m.c1, .slice m.A2 m.n2 m.c2, .slice A n c, .int .i64 (day), .int .i64 (pos)] by repeat' (first | exact K0_2.out | exact Blk.at_ _ (by first | rfl | (simp; done) | (simp; omega)) _ _ | refine Blk.drewN ?_ _ | refine Blk.drew ?_ | refine Blk.alloc ?_ _ | refine Blk.far ?_ (by first | omega | (simp; done) | (simp; omega)) _ | assumption)))
  have hL3 := Lib.hid (show Below w2.heap.size w2 _ from reads_mid hb (by repeat' (first | exact Below.refl _ _ | refine below_drewN ?_ _ | refine Below.drew ?_ | refine Below.alloc ?_ (by first | omega | (simp; done) | (simp; omega) | (simp [World.setCell]; omega)) _ | refine Below.setCell ?_ (by first | omega | (simp; done) | (simp; omega)) _)))
  have R0_3 := Lib.hid (reads_lay hb hL3.out R0_2.out)
  have R1_3 := Lib.hid (mnt_lay hb hL3.out R1_2.out)
  have R2_3 := Lib.hid (reads_lay hb hL3.out R2_2.out)
  clear hL3 R0_2 R1_2 R2_2
  have hz3 := hb.size
  try simp only [World.size_alloc, World.drewN, World.drew] at hz3
  clear hb K0_2 z0_0_2 z0_1_2 z0_2_2 z0_3_2 z0_4_2 z0_5_2 z0_6_2 z0_7_2 z0_8_2 z0_9_2 l0_2
  have l0_3 : w.heap.size < w3.heap.size := K0_3.out.lt
  have z0_0_3 : w3.cell? ⟨w.heap.size, 0, none⟩ = some (.int .i64 (m.ls)) := K0_3.out.cell 0
  have z0_1_3 : w3.cell? ⟨w.heap.size, 1, none⟩ = some (.int .i64 (m.ms)) := K0_3.out.cell 1
  have z0_2_3 : w3.cell? ⟨w.heap.size, 2, none⟩ = some (.int .i64 (m.lo)) := K0_3.out.cell 2
  have z0_3_3 : w3.cell? ⟨w.heap.size, 3, none⟩ = some (.int .i64 (m.hi)) := K0_3.out.cell 3
  have z0_4_3 : w3.cell? ⟨w.heap.size, 4, none⟩ = some (.int .i64 (m.sp)) := K0_3.out.cell 4
  have z0_5_3 : w3.cell? ⟨w.heap.size, 5, none⟩ = some (.slice m.A1 m.n1 m.c1) := K0_3.out.cell 5
  have z0_6_3 : w3.cell? ⟨w.heap.size, 6, none⟩ = some (.slice m.A2 m.n2 m.c2) := K0_3.out.cell 6
  have z0_7_3 : w3.cell? ⟨w.heap.size, 7, none⟩ = some (.slice A n c) := K0_3.out.cell 7
  have z0_8_3 : w3.cell? ⟨w.heap.size, 8, none⟩ = some (.int .i64 (day)) := K0_3.out.cell 8
  have z0_9_3 : w3.cell? ⟨w.heap.size, 9, none⟩ = some (.int .i64 (pos)) := K0_3.out.cell 9
  have R3_3 := Lib.hid hrv
  clear hrv
  go_wp2_with fail
  refine (rtour_is m day pos l A n c 0 0 HE.out _ R1_3.out R0_3.out (by omega) HF.out).mono ?_
  rintro e w4 ⟨rfl, hb⟩
  have HB4 := Lib.hid (show Below w.heap.size w w4 from step_below hb (by repeat' (first | exact Below.refl _ _ | exact HB3.out | refine below_drewN ?_ _ | refine Below.drew ?_ | refine Below.alloc ?_ (by first | omega | (simp; done) | (simp; omega) | (simp [World.setCell]; omega)) _ | refine Below.setCell ?_ (by first | omega | (simp; done) | (simp; omega)) _ | assumption)))
  have K0_4 := Lib.hid (step_blk hb (show Blk _ (w.heap.size) 64 #[.int .i64 (m.ls), .int .i64 (m.ms), .int .i64 (m.lo), .int .i64 (m.hi), .int .i64 (m.sp), .slice m.A1 m.n1 m.c1, .slice m.A2 m.n2 m.c2, .slice A n c, .int .i64 (day), .int .i64 (pos)] by repeat' (first | exact K0_3.out | exact Blk.at_ _ (by first | rfl | (simp; done) | (simp; omega)) _ _ | refine Blk.drewN ?_ _ | refine Blk.drew ?_ | refine Blk.alloc ?_ _ | refine Blk.far ?_ (by first | omega | (simp; done) | (simp; omega)) _ | assumption)))
  have hL4 := Lib.hid (show Below w3.heap.size w3 _ from reads_mid hb (by repeat' (first | exact Below.refl _ _ | refine below_drewN ?_ _ | refine Below.drew ?_ | refine Below.alloc ?_ (by first | omega | (simp; done) | (simp; omega) | (simp [World.setCell]; omega)) _ | refine Below.setCell ?_ (by first | omega | (simp; done) | (simp; omega)) _)))
  have R0_4 := Lib.hid (reads_lay hb hL4.out R0_3.out)
  have R1_4 := Lib.hid (mnt_lay hb hL4.out R1_3.out)
  have R2_4 := Lib.hid (reads_lay hb hL4.out R2_3.out)
  have R3_4 := Lib.hid (reads_lay hb hL4.out R3_3.out)
  clear hL4 R0_3 R1_3 R2_3 R3_3
  have hz4 := hb.size
  try simp only [World.size_alloc, World.drewN, World.drew] at hz4
  clear hb K0_3 z0_0_3 z0_1_3 z0_2_3 z0_3_3 z0_4_3 z0_5_3 z0_6_3 z0_7_3 z0_8_3 z0_9_3 l0_3
  have l0_4 : w.heap.size < w4.heap.size := K0_4.out.lt
  have z0_0_4 : w4.cell? ⟨w.heap.size, 0, none⟩ = some (.int .i64 (m.ls)) := K0_4.out.cell 0
  have z0_1_4 : w4.cell? ⟨w.heap.size, 1, none⟩ = some (.int .i64 (m.ms)) := K0_4.out.cell 1
  have z0_2_4 : w4.cell? ⟨w.heap.size, 2, none⟩ = some (.int .i64 (m.lo)) := K0_4.out.cell 2
  have z0_3_4 : w4.cell? ⟨w.heap.size, 3, none⟩ = some (.int .i64 (m.hi)) := K0_4.out.cell 3
  have z0_4_4 : w4.cell? ⟨w.heap.size, 4, none⟩ = some (.int .i64 (m.sp)) := K0_4.out.cell 4
  have z0_5_4 : w4.cell? ⟨w.heap.size, 5, none⟩ = some (.slice m.A1 m.n1 m.c1) := K0_4.out.cell 5
  have z0_6_4 : w4.cell? ⟨w.heap.size, 6, none⟩ = some (.slice m.A2 m.n2 m.c2) := K0_4.out.cell 6
  have z0_7_4 : w4.cell? ⟨w.heap.size, 7, none⟩ = some (.slice A n c) := K0_4.out.cell 7
  have z0_8_4 : w4.cell? ⟨w.heap.size, 8, none⟩ = some (.int .i64 (day)) := K0_4.out.cell 8
  have z0_9_4 : w4.cell? ⟨w.heap.size, 9, none⟩ = some (.int .i64 (pos)) := K0_4.out.cell 9
  go_wp2_with fail
  refine (isminute_any mi true HM.out _).mono ?_
  rintro e w' ⟨rfl, rfl⟩
  go_wp2_with fail
  refine (rchoice_is m day pos l A n c At nt ct ks C 0 HC.out _ R1_4.out R0_4.out (by omega) R2_4.out (by omega) HZ0.out).mono ?_
  rintro e w5 ⟨rfl, hb⟩
  have HB5 := Lib.hid (show Below w.heap.size w w5 from step_below hb (by repeat' (first | exact Below.refl _ _ | exact HB4.out | refine below_drewN ?_ _ | refine Below.drew ?_ | refine Below.alloc ?_ (by first | omega | (simp; done) | (simp; omega) | (simp [World.setCell]; omega)) _ | refine Below.setCell ?_ (by first | omega | (simp; done) | (simp; omega)) _ | assumption)))
  have K0_5 := Lib.hid (step_blk hb (show Blk _ (w.heap.size) 64 #[.int .i64 (m.ls), .int .i64 (m.ms), .int .i64 (m.lo), .int .i64 (m.hi), .int .i64 (m.sp), .slice m.A1 m.n1 m.c1, .slice m.A2 m.n2 m.c2, .slice A n c, .int .i64 (day), .int .i64 (pos)] by repeat' (first | exact K0_4.out | exact Blk.at_ _ (by first | rfl | (simp; done) | (simp; omega)) _ _ | refine Blk.drewN ?_ _ | refine Blk.drew ?_ | refine Blk.alloc ?_ _ | refine Blk.far ?_ (by first | omega | (simp; done) | (simp; omega)) _ | assumption)))
  have hL5 := Lib.hid (show Below w4.heap.size w4 _ from reads_mid hb (by repeat' (first | exact Below.refl _ _ | refine below_drewN ?_ _ | refine Below.drew ?_ | refine Below.alloc ?_ (by first | omega | (simp; done) | (simp; omega) | (simp [World.setCell]; omega)) _ | refine Below.setCell ?_ (by first | omega | (simp; done) | (simp; omega)) _)))
  have R0_5 := Lib.hid (reads_lay hb hL5.out R0_4.out)
  have R1_5 := Lib.hid (mnt_lay hb hL5.out R1_4.out)
  have R2_5 := Lib.hid (reads_lay hb hL5.out R2_4.out)
  have R3_5 := Lib.hid (reads_lay hb hL5.out R3_4.out)
  clear hL5 R0_4 R1_4 R2_4 R3_4
  have hz5 := hb.size
  try simp only [World.size_alloc, World.drewN, World.drew] at hz5
  clear hb K0_4 z0_0_4 z0_1_4 z0_2_4 z0_3_4 z0_4_4 z0_5_4 z0_6_4 z0_7_4 z0_8_4 z0_9_4 l0_4
  have l0_5 : w.heap.size < w5.heap.size := K0_5.out.lt
  have z0_0_5 : w5.cell? ⟨w.heap.size, 0, none⟩ = some (.int .i64 (m.ls)) := K0_5.out.cell 0
  have z0_1_5 : w5.cell? ⟨w.heap.size, 1, none⟩ = some (.int .i64 (m.ms)) := K0_5.out.cell 1
  have z0_2_5 : w5.cell? ⟨w.heap.size, 2, none⟩ = some (.int .i64 (m.lo)) := K0_5.out.cell 2
  have z0_3_5 : w5.cell? ⟨w.heap.size, 3, none⟩ = some (.int .i64 (m.hi)) := K0_5.out.cell 3
  have z0_4_5 : w5.cell? ⟨w.heap.size, 4, none⟩ = some (.int .i64 (m.sp)) := K0_5.out.cell 4
  have z0_5_5 : w5.cell? ⟨w.heap.size, 5, none⟩ = some (.slice m.A1 m.n1 m.c1) := K0_5.out.cell 5
  have z0_6_5 : w5.cell? ⟨w.heap.size, 6, none⟩ = some (.slice m.A2 m.n2 m.c2) := K0_5.out.cell 6
  have z0_7_5 : w5.cell? ⟨w.heap.size, 7, none⟩ = some (.slice A n c) := K0_5.out.cell 7
  have z0_8_5 : w5.cell? ⟨w.heap.size, 8, none⟩ = some (.int .i64 (day)) := K0_5.out.cell 8
  have z0_9_5 : w5.cell? ⟨w.heap.size, 9, none⟩ = some (.int .i64 (pos)) := K0_5.out.cell 9
  go_wp2_with fail
  refine (rtimes_is m day pos mi l A n c At nt ct ks HP.out HZ0.out HM.out _ R1_5.out R0_5.out (by omega) R2_5.out (by omega) _ HQ.out r HR.out).mono ?_
  rintro e w6 ⟨B, cB, rfl, hb, hrb⟩
  have HB6 := Lib.hid (show Below w.heap.size w w6 from step_below hb (by repeat' (first | exact Below.refl _ _ | exact HB5.out | refine below_drewN ?_ _ | refine Below.drew ?_ | refine Below.alloc ?_ (by first | omega | (simp; done) | (simp; omega) | (simp [World.setCell]; omega)) _ | refine Below.setCell ?_ (by first | omega | (simp; done) | (simp; omega)) _ | assumption)))
  have K0_6 := Lib.hid (step_blk hb (show Blk _ (w.heap.size) 64 #[.int .i64 (m.ls), .int .i64 (m.ms), .int .i64 (m.lo), .int .i64 (m.hi), .int .i64 (m.sp), .slice m.A1 m.n1 m.c1, .slice m.A2 m.n2 m.c2, .slice A n c, .int .i64 (day), .int .i64 (pos)] by repeat' (first | exact K0_5.out | exact Blk.at_ _ (by first | rfl | (simp; done) | (simp; omega)) _ _ | refine Blk.drewN ?_ _ | refine Blk.drew ?_ | refine Blk.alloc ?_ _ | refine Blk.far ?_ (by first | omega | (simp; done) | (simp; omega)) _ | assumption)))
  have hL6 := Lib.hid (show Below w5.heap.size w5 _ from reads_mid hb (by repeat' (first | exact Below.refl _ _ | refine below_drewN ?_ _ | refine Below.drew ?_ | refine Below.alloc ?_ (by first | omega | (simp; done) | (simp; omega) | (simp [World.setCell]; omega)) _ | refine Below.setCell ?_ (by first | omega | (simp; done) | (simp; omega)) _)))
  have R0_6 := Lib.hid (reads_lay hb hL6.out R0_5.out)
  have R1_6 := Lib.hid (mnt_lay hb hL6.out R1_5.out)
  have R2_6 := Lib.hid (reads_lay hb hL6.out R2_5.out)
  have R3_6 := Lib.hid (reads_lay hb hL6.out R3_5.out)
  clear hL6 R0_5 R1_5 R2_5 R3_5
  have hz6 := hb.size
  try simp only [World.size_alloc, World.drewN, World.drew] at hz6
  clear hb K0_5 z0_0_5 z0_1_5 z0_2_5 z0_3_5 z0_4_5 z0_5_5 z0_6_5 z0_7_5 z0_8_5 z0_9_5 l0_5
  have l0_6 : w.heap.size < w6.heap.size := K0_6.out.lt
  have z0_0_6 : w6.cell? ⟨w.heap.size, 0, none⟩ = some (.int .i64 (m.ls)) := K0_6.out.cell 0
  have z0_1_6 : w6.cell? ⟨w.heap.size, 1, none⟩ = some (.int .i64 (m.ms)) := K0_6.out.cell 1
  have z0_2_6 : w6.cell? ⟨w.heap.size, 2, none⟩ = some (.int .i64 (m.lo)) := K0_6.out.cell 2
  have z0_3_6 : w6.cell? ⟨w.heap.size, 3, none⟩ = some (.int .i64 (m.hi)) := K0_6.out.cell 3
  have z0_4_6 : w6.cell? ⟨w.heap.size, 4, none⟩ = some (.int .i64 (m.sp)) := K0_6.out.cell 4
  have z0_5_6 : w6.cell? ⟨w.heap.size, 5, none⟩ = some (.slice m.A1 m.n1 m.c1) := K0_6.out.cell 5
  have z0_6_6 : w6.cell? ⟨w.heap.size, 6, none⟩ = some (.slice m.A2 m.n2 m.c2) := K0_6.out.cell 6
  have z0_7_6 : w6.cell? ⟨w.heap.size, 7, none⟩ = some (.slice A n c) := K0_6.out.cell 7
  have z0_8_6 : w6.cell? ⟨w.heap.size, 8, none⟩ = some (.int .i64 (day)) := K0_6.out.cell 8
  have z0_9_6 : w6.cell? ⟨w.heap.size, 9, none⟩ = some (.int .i64 (pos)) := K0_6.out.cell 9
  have R4_6 := Lib.hid hrb
  clear hrb
  go_wp2_with fail
  refine (low (ints_eqd vA B vc cB r r L L true (by simp) _ _ _ R3_6.out R4_6.out (by omega) (by omega))).mono ?_
  rintro e w7 ⟨rfl, hb⟩
  have HB7 := Lib.hid (show Below w.heap.size w w7 from step_below hb (by repeat' (first | exact Below.refl _ _ | exact HB6.out | refine below_drewN ?_ _ | refine Below.drew ?_ | refine Below.alloc ?_ (by first | omega | (simp; done) | (simp; omega) | (simp [World.setCell]; omega)) _ | refine Below.setCell ?_ (by first | omega | (simp; done) | (simp; omega)) _ | assumption)))
  have K0_7 := Lib.hid (step_blk hb (show Blk _ (w.heap.size) 64 #[.int .i64 (m.ls), .int .i64 (m.ms), .int .i64 (m.lo), .int .i64 (m.hi), .int .i64 (m.sp), .slice m.A1 m.n1 m.c1, .slice m.A2 m.n2 m.c2, .slice A n c, .int .i64 (day), .int .i64 (pos)] by repeat' (first | exact K0_6.out | exact Blk.at_ _ (by first | rfl | (simp; done) | (simp; omega)) _ _ | refine Blk.drewN ?_ _ | refine Blk.drew ?_ | refine Blk.alloc ?_ _ | refine Blk.far ?_ (by first | omega | (simp; done) | (simp; omega)) _ | assumption)))
  have hL7 := Lib.hid (show Below w6.heap.size w6 _ from reads_mid hb (by repeat' (first | exact Below.refl _ _ | refine below_drewN ?_ _ | refine Below.drew ?_ | refine Below.alloc ?_ (by first | omega | (simp; done) | (simp; omega) | (simp [World.setCell]; omega)) _ | refine Below.setCell ?_ (by first | omega | (simp; done) | (simp; omega)) _)))
  have R0_7 := Lib.hid (reads_lay hb hL7.out R0_6.out)
  have R1_7 := Lib.hid (mnt_lay hb hL7.out R1_6.out)
  have R2_7 := Lib.hid (reads_lay hb hL7.out R2_6.out)
  have R3_7 := Lib.hid (reads_lay hb hL7.out R3_6.out)
  have R4_7 := Lib.hid (reads_lay hb hL7.out R4_6.out)
  clear hL7 R0_6 R1_6 R2_6 R3_6 R4_6
  have hz7 := hb.size
  try simp only [World.size_alloc, World.drewN, World.drew] at hz7
  clear hb K0_6 z0_0_6 z0_1_6 z0_2_6 z0_3_6 z0_4_6 z0_5_6 z0_6_6 z0_7_6 z0_8_6 z0_9_6 l0_6
  have l0_7 : w.heap.size < w7.heap.size := K0_7.out.lt
  have z0_0_7 : w7.cell? ⟨w.heap.size, 0, none⟩ = some (.int .i64 (m.ls)) := K0_7.out.cell 0
  have z0_1_7 : w7.cell? ⟨w.heap.size, 1, none⟩ = some (.int .i64 (m.ms)) := K0_7.out.cell 1
  have z0_2_7 : w7.cell? ⟨w.heap.size, 2, none⟩ = some (.int .i64 (m.lo)) := K0_7.out.cell 2
  have z0_3_7 : w7.cell? ⟨w.heap.size, 3, none⟩ = some (.int .i64 (m.hi)) := K0_7.out.cell 3
  have z0_4_7 : w7.cell? ⟨w.heap.size, 4, none⟩ = some (.int .i64 (m.sp)) := K0_7.out.cell 4
  have z0_5_7 : w7.cell? ⟨w.heap.size, 5, none⟩ = some (.slice m.A1 m.n1 m.c1) := K0_7.out.cell 5
  have z0_6_7 : w7.cell? ⟨w.heap.size, 6, none⟩ = some (.slice m.A2 m.n2 m.c2) := K0_7.out.cell 6
  have z0_7_7 : w7.cell? ⟨w.heap.size, 7, none⟩ = some (.slice A n c) := K0_7.out.cell 7
  have z0_8_7 : w7.cell? ⟨w.heap.size, 8, none⟩ = some (.int .i64 (day)) := K0_7.out.cell 8
  have z0_9_7 : w7.cell? ⟨w.heap.size, 9, none⟩ = some (.int .i64 (pos)) := K0_7.out.cell 9
  by_cases hE0 : E = 0
  rotate_left
  · have q3 : (E != 0) = true := by simpa using hE0
    go_wp2
    go_ret
    exact ⟨rfl, by repeat' (first | exact Below.refl _ _ | exact HB7.out | refine below_drewN ?_ _ | refine Below.drew ?_ | refine Below.alloc ?_ (by first | omega | (simp; done) | (simp; omega) | (simp [World.setCell]; omega)) _ | refine Below.setCell ?_ (by first | omega | (simp; done) | (simp; omega)) _ | assumption)⟩
  subst hE0
  by_cases hmx : mi = 10000000
  · have q4 : (mi == 10000000) = true := by simpa using hmx
    go_wp2
    go_ret
    exact ⟨rfl, by repeat' (first | exact Below.refl _ _ | exact HB7.out | refine below_drewN ?_ _ | refine Below.drew ?_ | refine Below.alloc ?_ (by first | omega | (simp; done) | (simp; omega) | (simp [World.setCell]; omega)) _ | refine Below.setCell ?_ (by first | omega | (simp; done) | (simp; omega)) _ | assumption)⟩
  have q4 : (mi == 10000000) = false := by simpa using hmx
  have hm1 : withinB (mi + 1) 0 10000000 = true := (withinB_iff _ _ _).2 (by omega)
  have e1 := IntWalk.i64_in (mi + 1) ⟨by omega, by omega⟩
  obtain ⟨L', j', E', hQ'⟩ : ∃ L' j' E', timesQ m.sp (mi + 1, pos) (tgtPos m day l ks) = ((L', j'), E') := ⟨_, _, _, rfl⟩
  obtain ⟨r', hr'⟩ : ∃ r', L'.length = r' := ⟨_, rfl⟩
  have HM1 := Lib.hid hm1
  have HQ' := Lib.hid hQ'
  have HR' := Lib.hid hr'
  clear hm1 hQ' hr'
  go_wp2
  refine Fx.regionM (fun W g f w' => Kp (PfM m n l nt ks 2 5 16 r' L' 17) W g w') (fun i (x : Pick2) => if i = 17 then .tuple #[.slice x.1.1 r' x.1.2, .int .i64 j', .int .i64 E'] else valT m n nt 2 5 i x) (by kernel_rfl) ?_ ?_
  · intro f hf0
    exact Kp.start
  first
  | (refine Fx.WM.skip 0 (by rfl) (by kernel_rfl) (by kernel_rfl) (by kernel_rfl) (by rfl) (fun g f w h => h) ?_; simp only [Act.put, List.setIfInBounds_toArray, List.set_cons_zero, List.set_cons_succ])
  | (refine Fx.WM.val_ 0 ?_ (by rfl) (by kernel_rfl) (by kernel_rfl) (by kernel_rfl) (by rfl) ?_ (fun g f w h => h) ?_
     rotate_left
     · intro g f w' hx hD hk
       obtain hkp := id hD
       clear hx hk hD hkp
       go_simp
       try rfl
     simp only [Act.put, List.setIfInBounds_toArray, List.set_cons_zero, List.set_cons_succ])
  first
  | (refine Fx.WM.skip 3 (by rfl) (by kernel_rfl) (by kernel_rfl) (by kernel_rfl) (by rfl) (fun g f w h => h) ?_; simp only [Act.put, List.setIfInBounds_toArray, List.set_cons_zero, List.set_cons_succ])
  | (refine Fx.WM.val_ 3 ?_ (by rfl) (by kernel_rfl) (by kernel_rfl) (by kernel_rfl) (by rfl) ?_ (fun g f w h => h) ?_
     rotate_left
     · intro g f w' hx hD hk
       obtain hkp := id hD
       clear hx hk hD hkp
       go_simp
       try rfl
     simp only [Act.put, List.setIfInBounds_toArray, List.set_cons_zero, List.set_cons_succ])
  first
  | (refine Fx.WM.skip 6 (by rfl) (by kernel_rfl) (by kernel_rfl) (by kernel_rfl) (by rfl) (fun g f w h => h) ?_; simp only [Act.put, List.setIfInBounds_toArray, List.set_cons_zero, List.set_cons_succ])
  | (refine Fx.WM.val_ 6 ?_ (by rfl) (by kernel_rfl) (by kernel_rfl) (by kernel_rfl) (by rfl) ?_ (fun g f w h => h) ?_
     rotate_left
     · intro g f w' hx hD hk
       obtain hkp := id hD
       clear hx hk hD hkp
       go_simp
       try rfl
     simp only [Act.put, List.setIfInBounds_toArray, List.set_cons_zero, List.set_cons_succ])
  first
  | (refine Fx.WM.skip 7 (by rfl) (by kernel_rfl) (by kernel_rfl) (by kernel_rfl) (by rfl) (fun g f w h => h) ?_; simp only [Act.put, List.setIfInBounds_toArray, List.set_cons_zero, List.set_cons_succ])
  | (refine Fx.WM.val_ 7 ?_ (by rfl) (by kernel_rfl) (by kernel_rfl) (by kernel_rfl) (by rfl) ?_ (fun g f w h => h) ?_
     rotate_left
     · intro g f w' hx hD hk
       obtain hkp := id hD
       clear hx hk hD hkp
       go_simp
       try rfl
     simp only [Act.put, List.setIfInBounds_toArray, List.set_cons_zero, List.set_cons_succ])
  first
  | (refine Fx.WM.skip 9 (by rfl) (by kernel_rfl) (by kernel_rfl) (by kernel_rfl) (by rfl) (fun g f w h => h) ?_; simp only [Act.put, List.setIfInBounds_toArray, List.set_cons_zero, List.set_cons_succ])
  | (refine Fx.WM.val_ 9 ?_ (by rfl) (by kernel_rfl) (by kernel_rfl) (by kernel_rfl) (by rfl) ?_ (fun g f w h => h) ?_
     rotate_left
     · intro g f w' hx hD hk
       obtain hkp := id hD
       clear hx hk hD hkp
       go_simp
       try rfl
     simp only [Act.put, List.setIfInBounds_toArray, List.set_cons_zero, List.set_cons_succ])
  first
  | (refine Fx.WM.skip 10 (by rfl) (by kernel_rfl) (by kernel_rfl) (by kernel_rfl) (by rfl) (fun g f w h => h) ?_; simp only [Act.put, List.setIfInBounds_toArray, List.set_cons_zero, List.set_cons_succ])
  | (refine Fx.WM.val_ 10 ?_ (by rfl) (by kernel_rfl) (by kernel_rfl) (by kernel_rfl) (by rfl) ?_ (fun g f w h => h) ?_
     rotate_left
     · intro g f w' hx hD hk
       obtain hkp := id hD
       clear hx hk hD hkp
       go_simp
       try rfl
     simp only [Act.put, List.setIfInBounds_toArray, List.set_cons_zero, List.set_cons_succ])
  first
  | (refine Fx.WM.skip 1 (by rfl) (by kernel_rfl) (by kernel_rfl) (by kernel_rfl) (by rfl) (fun g f w h => h) ?_; simp only [Act.put, List.setIfInBounds_toArray, List.set_cons_zero, List.set_cons_succ])
  | (refine Fx.WM.val_ 1 ?_ (by rfl) (by kernel_rfl) (by kernel_rfl) (by kernel_rfl) (by rfl) ?_ (fun g f w h => h) ?_
     rotate_left
     · intro g f w' hx hD hk
       obtain hkp := id hD
       have y0_0 := (K0_7.out.below hkp.bel l0_7).cell 0
       have y0_1 := (K0_7.out.below hkp.bel l0_7).cell 1
       have y0_2 := (K0_7.out.below hkp.bel l0_7).cell 2
       have y0_3 := (K0_7.out.below hkp.bel l0_7).cell 3
       have y0_4 := (K0_7.out.below hkp.bel l0_7).cell 4
       have y0_5 := (K0_7.out.below hkp.bel l0_7).cell 5
       have y0_6 := (K0_7.out.below hkp.bel l0_7).cell 6
       have y0_7 := (K0_7.out.below hkp.bel l0_7).cell 7
       have y0_8 := (K0_7.out.below hkp.bel l0_7).cell 8
       have y0_9 := (K0_7.out.below hkp.bel l0_7).cell 9
       clear hx hk hD hkp
       go_simp
       try rfl
     simp only [Act.put, List.setIfInBounds_toArray, List.set_cons_zero, List.set_cons_succ])
  first
  | (refine Fx.WM.skip 4 (by rfl) (by kernel_rfl) (by kernel_rfl) (by kernel_rfl) (by rfl) (fun g f w h => h) ?_; simp only [Act.put, List.setIfInBounds_toArray, List.set_cons_zero, List.set_cons_succ])
  | (refine Fx.WM.val_ 4 ?_ (by rfl) (by kernel_rfl) (by kernel_rfl) (by kernel_rfl) (by rfl) ?_ (fun g f w h => h) ?_
     rotate_left
     · intro g f w' hx hD hk
       obtain hkp := id hD
       have y0_0 := (K0_7.out.below hkp.bel l0_7).cell 0
       have y0_1 := (K0_7.out.below hkp.bel l0_7).cell 1
       have y0_2 := (K0_7.out.below hkp.bel l0_7).cell 2
       have y0_3 := (K0_7.out.below hkp.bel l0_7).cell 3
       have y0_4 := (K0_7.out.below hkp.bel l0_7).cell 4
       have y0_5 := (K0_7.out.below hkp.bel l0_7).cell 5
       have y0_6 := (K0_7.out.below hkp.bel l0_7).cell 6
       have y0_7 := (K0_7.out.below hkp.bel l0_7).cell 7
       have y0_8 := (K0_7.out.below hkp.bel l0_7).cell 8
       have y0_9 := (K0_7.out.below hkp.bel l0_7).cell 9
       clear hx hk hD hkp
       go_simp
       try rfl
     simp only [Act.put, List.setIfInBounds_toArray, List.set_cons_zero, List.set_cons_succ])
  first
  | (refine Fx.WM.skip 8 (by rfl) (by kernel_rfl) (by kernel_rfl) (by kernel_rfl) (by rfl) (fun g f w h => h) ?_; simp only [Act.put, List.setIfInBounds_toArray, List.set_cons_zero, List.set_cons_succ])
  | (refine Fx.WM.val_ 8 ?_ (by rfl) (by kernel_rfl) (by kernel_rfl) (by kernel_rfl) (by rfl) ?_ (fun g f w h => h) ?_
     rotate_left
     · intro g f w' hx hD hk
       obtain hkp := id hD
       have y0_0 := (K0_7.out.below hkp.bel l0_7).cell 0
       have y0_1 := (K0_7.out.below hkp.bel l0_7).cell 1
       have y0_2 := (K0_7.out.below hkp.bel l0_7).cell 2
       have y0_3 := (K0_7.out.below hkp.bel l0_7).cell 3
       have y0_4 := (K0_7.out.below hkp.bel l0_7).cell 4
       have y0_5 := (K0_7.out.below hkp.bel l0_7).cell 5
       have y0_6 := (K0_7.out.below hkp.bel l0_7).cell 6
       have y0_7 := (K0_7.out.below hkp.bel l0_7).cell 7
       have y0_8 := (K0_7.out.below hkp.bel l0_7).cell 8
       have y0_9 := (K0_7.out.below hkp.bel l0_7).cell 9
       clear hx hk hD hkp
       go_simp
       try rfl
     simp only [Act.put, List.setIfInBounds_toArray, List.set_cons_zero, List.set_cons_succ])
  first
  | (refine Fx.WM.skip 11 (by rfl) (by kernel_rfl) (by kernel_rfl) (by kernel_rfl) (by rfl) (fun g f w h => h) ?_; simp only [Act.put, List.setIfInBounds_toArray, List.set_cons_zero, List.set_cons_succ])
  | (refine Fx.WM.val_ 11 ?_ (by rfl) (by kernel_rfl) (by kernel_rfl) (by kernel_rfl) (by rfl) ?_ (fun g f w h => h) ?_
     rotate_left
     · intro g f w' hx hD hk
       obtain hkp := id hD
       have y0_0 := (K0_7.out.below hkp.bel l0_7).cell 0
       have y0_1 := (K0_7.out.below hkp.bel l0_7).cell 1
       have y0_2 := (K0_7.out.below hkp.bel l0_7).cell 2
       have y0_3 := (K0_7.out.below hkp.bel l0_7).cell 3
       have y0_4 := (K0_7.out.below hkp.bel l0_7).cell 4
       have y0_5 := (K0_7.out.below hkp.bel l0_7).cell 5
       have y0_6 := (K0_7.out.below hkp.bel l0_7).cell 6
       have y0_7 := (K0_7.out.below hkp.bel l0_7).cell 7
       have y0_8 := (K0_7.out.below hkp.bel l0_7).cell 8
       have y0_9 := (K0_7.out.below hkp.bel l0_7).cell 9
       clear hx hk hD hkp
       go_simp
       try rfl
     simp only [Act.put, List.setIfInBounds_toArray, List.set_cons_zero, List.set_cons_succ])
  first
  | (refine Fx.WM.skip 12 (by rfl) (by kernel_rfl) (by kernel_rfl) (by kernel_rfl) (by rfl) (fun g f w h => h) ?_; simp only [Act.put, List.setIfInBounds_toArray, List.set_cons_zero, List.set_cons_succ])
  | (refine Fx.WM.val_ 12 ?_ (by rfl) (by kernel_rfl) (by kernel_rfl) (by kernel_rfl) (by rfl) ?_ (fun g f w h => h) ?_
     rotate_left
     · intro g f w' hx hD hk
       obtain hkp := id hD
       clear hx hk hD hkp
       go_simp
       try rfl
     simp only [Act.put, List.setIfInBounds_toArray, List.set_cons_zero, List.set_cons_succ])
  first
  | (refine Fx.WM.skip 13 (by rfl) (by kernel_rfl) (by kernel_rfl) (by kernel_rfl) (by rfl) (fun g f w h => h) ?_; simp only [Act.put, List.setIfInBounds_toArray, List.set_cons_zero, List.set_cons_succ])
  | (refine Fx.WM.val_ 13 ?_ (by rfl) (by kernel_rfl) (by kernel_rfl) (by kernel_rfl) (by rfl) ?_ (fun g f w h => h) ?_
     rotate_left
     · intro g f w' hx hD hk
       obtain hkp := id hD
       clear hx hk hD hkp
       go_simp
       try rfl
     simp only [Act.put, List.setIfInBounds_toArray, List.set_cons_zero, List.set_cons_succ])
  first
  | (refine Fx.WM.skip 14 (by rfl) (by kernel_rfl) (by kernel_rfl) (by kernel_rfl) (by rfl) (fun g f w h => h) ?_; simp only [Act.put, List.setIfInBounds_toArray, List.set_cons_zero, List.set_cons_succ])
  | (refine Fx.WM.val_ 14 ?_ (by rfl) (by kernel_rfl) (by kernel_rfl) (by kernel_rfl) (by rfl) ?_ (fun g f w h => h) ?_
     rotate_left
     · intro g f w' hx hD hk
       obtain hkp := id hD
       clear hx hk hD hkp
       go_simp
       try rfl
     simp only [Act.put, List.setIfInBounds_toArray, List.set_cons_zero, List.set_cons_succ])
  first
  | (refine Fx.WM.skip 15 (by rfl) (by kernel_rfl) (by kernel_rfl) (by kernel_rfl) (by rfl) (fun g f w h => h) ?_; simp only [Act.put, List.setIfInBounds_toArray, List.set_cons_zero, List.set_cons_succ])
  | (refine Fx.WM.val_ 15 ?_ (by rfl) (by kernel_rfl) (by kernel_rfl) (by kernel_rfl) (by rfl) ?_ (fun g f w h => h) ?_
     rotate_left
     · intro g f w' hx hD hk
       obtain hkp := id hD
       clear hx hk hD hkp
       go_simp
       try rfl
     simp only [Act.put, List.setIfInBounds_toArray, List.set_cons_zero, List.set_cons_succ])
  refine Fx.WM.choose 2 (by rfl) (by kernel_rfl) (by rfl) ?_ ?_
  · skip
    refine Fx.Chooses.call ?_ ?_ (by rfl) ?_ ?_
    rotate_left 2
    · intro w'
      go_simp
      refine ⟨?_, ?_⟩ <;> rfl
    · intro f w' hD hk
      exact (mount_any m w' (R1_7.out.lay hD.bel) (by omega) (by omega)).mono fun e w'' ⟨A', c', B', d', he, hb, hm⟩ => ⟨((A', c'), (B', d')), he, hD.choose PfM.stb hb 2 _ ⟨⟨fun _ => hm, fun e => absurd e (by decide), fun e => absurd e (by decide)⟩, fun e => absurd e (by decide)⟩⟩
  intro x
  simp only [Act.put, List.setIfInBounds_toArray, List.set_cons_zero, List.set_cons_succ]
  refine Fx.WM.choose 5 (by rfl) (by kernel_rfl) (by rfl) ?_ ?_
  · skip
    refine Fx.Chooses.call ?_ ?_ (by rfl) ?_ ?_
    rotate_left 2
    · intro w'
      go_simp
      refine ⟨?_, ?_⟩ <;> rfl
    · intro f w' hD hk
      exact (ctargets_any A n c w'.heap.size l w' (((R0_7.out.below hD.bel).more hD.bel.size)) (Nat.le_refl _) (by omega)).mono fun e w'' ⟨A', c', he, hb, hr, ho⟩ => ⟨((A', c'), (none, 0)), he, hD.choose PfM.stb hb 5 _ ⟨⟨fun e => absurd e (by decide), fun _ => ⟨hr, own_cap ho⟩, fun e => absurd e (by decide)⟩, fun e => absurd e (by decide)⟩⟩
  intro y
  simp only [Act.put, List.setIfInBounds_toArray, List.set_cons_zero, List.set_cons_succ]
  refine Fx.WM.choose 16 (by rfl) (by kernel_rfl) (by rfl) ?_ ?_
  · skip
    refine Fx.Chooses.call ?_ ?_ (by rfl) ?_ ?_
    rotate_left 2
    · intro w'
      go_simp
      refine ⟨?_, ?_⟩ <;> rfl
    · intro f w' hD hk
      exact (copyints_any At nt ct w'.heap.size ks w' (((R2_7.out.below hD.bel).more hD.bel.size)) (Nat.le_refl _) (by omega)).mono fun e w'' ⟨A', c', he, hb, hr, ho⟩ => ⟨((A', c'), (none, 0)), he, hD.choose PfM.stb hb 16 _ ⟨⟨fun e => absurd e (by decide), fun e => absurd e (by decide), fun _ => ⟨hr, own_cap ho⟩⟩, fun e => absurd e (by decide)⟩⟩
  intro z
  simp only [Act.put, List.setIfInBounds_toArray, List.set_cons_zero, List.set_cons_succ]
  refine Fx.WM.choose 17 (by rfl) (by kernel_rfl) (by rfl) ?_ ?_
  · skip
    refine Fx.Chooses.call ?_ ?_ (by rfl) ?_ ?_
    rotate_left 2
    · intro w'
      go_simp
      refine ⟨?_, ?_⟩ <;> rfl
    · intro f w' hD hk
      exact (ptimes_ok (m.to x.1.1 x.1.2 x.2.1 x.2.2) day pos (mi + 1) l y.1.1 n y.1.2 z.1.1 nt z.1.2 ks HP.out HZ0.out HM1.out w' ((hD.has 2 x (by rfl)).1.1 rfl) ((hD.has 5 y (by rfl)).1.2.1 rfl).1 ((hD.has 5 y (by rfl)).1.2.1 rfl).2 HF.out ((hD.has 16 z (by rfl)).1.2.2 rfl).1 ((hD.has 16 z (by rfl)).1.2.2 rfl).2 L' j' E' HQ'.out r' HR'.out).mono fun e w'' ⟨A', c', he, hb, hr⟩ => ⟨((A', c'), (none, 0)), he, hD.choose PfM.stb hb 17 _ ⟨⟨fun e => absurd e (by decide), fun e => absurd e (by decide), fun e => absurd e (by decide)⟩, fun _ => hr⟩⟩
  intro u
  simp only [Act.put, List.setIfInBounds_toArray, List.set_cons_zero, List.set_cons_succ]
  first
  | (refine Fx.WM.skip 18 (by rfl) (by kernel_rfl) (by kernel_rfl) (by kernel_rfl) (by rfl) (fun g f w h => h) ?_; simp only [Act.put, List.setIfInBounds_toArray, List.set_cons_zero, List.set_cons_succ])
  | (refine Fx.WM.val_ 18 ?_ (by rfl) (by kernel_rfl) (by kernel_rfl) (by kernel_rfl) (by rfl) ?_ (fun g f w h => h) ?_
     rotate_left
     · intro g f w' hx hD hk
       obtain hkp := id hD
       clear hx hk hD hkp
       go_simp
       try rfl
     simp only [Act.put, List.setIfInBounds_toArray, List.set_cons_zero, List.set_cons_succ])
  first
  | (refine Fx.WM.skip 19 (by rfl) (by kernel_rfl) (by kernel_rfl) (by kernel_rfl) (by rfl) (fun g f w h => h) ?_; simp only [Act.put, List.setIfInBounds_toArray, List.set_cons_zero, List.set_cons_succ])
  | (refine Fx.WM.val_ 19 ?_ (by rfl) (by kernel_rfl) (by kernel_rfl) (by kernel_rfl) (by rfl) ?_ (fun g f w h => h) ?_
     rotate_left
     · intro g f w' hx hD hk
       obtain hkp := id hD
       clear hx hk hD hkp
       go_simp
       try rfl
     simp only [Act.put, List.setIfInBounds_toArray, List.set_cons_zero, List.set_cons_succ])
  first
  | (refine Fx.WM.skip 20 (by rfl) (by kernel_rfl) (by kernel_rfl) (by kernel_rfl) (by rfl) (fun g f w h => h) ?_; simp only [Act.put, List.setIfInBounds_toArray, List.set_cons_zero, List.set_cons_succ])
  | (refine Fx.WM.val_ 20 ?_ (by rfl) (by kernel_rfl) (by kernel_rfl) (by kernel_rfl) (by rfl) ?_ (fun g f w h => h) ?_
     rotate_left
     · intro g f w' hx hD hk
       obtain hkp := id hD
       clear hx hk hD hkp
       go_simp
       try rfl
     simp only [Act.put, List.setIfInBounds_toArray, List.set_cons_zero, List.set_cons_succ])
  first
  | (refine Fx.WM.skip 21 (by rfl) (by kernel_rfl) (by kernel_rfl) (by kernel_rfl) (by rfl) (fun g f w h => h) ?_; simp only [Act.put, List.setIfInBounds_toArray, List.set_cons_zero, List.set_cons_succ])
  | (refine Fx.WM.val_ 21 ?_ (by rfl) (by kernel_rfl) (by kernel_rfl) (by kernel_rfl) (by rfl) ?_ (fun g f w h => h) ?_
     rotate_left
     · intro g f w' hx hD hk
       obtain hkp := id hD
       clear hx hk hD hkp
       go_simp
       try rfl
     simp only [Act.put, List.setIfInBounds_toArray, List.set_cons_zero, List.set_cons_succ])
  first
  | (refine Fx.WM.skip 22 (by rfl) (by kernel_rfl) (by kernel_rfl) (by kernel_rfl) (by rfl) (fun g f w h => h) ?_; simp only [Act.put, List.setIfInBounds_toArray, List.set_cons_zero, List.set_cons_succ])
  | (refine Fx.WM.val_ 22 ?_ (by rfl) (by kernel_rfl) (by kernel_rfl) (by kernel_rfl) (by rfl) ?_ (fun g f w h => h) ?_
     rotate_left
     · intro g f w' hx hD hk
       obtain hkp := id hD
       clear hx hk hD hkp
       go_simp
       try rfl
     simp only [Act.put, List.setIfInBounds_toArray, List.set_cons_zero, List.set_cons_succ])
  first
  | (refine Fx.WM.skip 23 (by rfl) (by kernel_rfl) (by kernel_rfl) (by kernel_rfl) (by rfl) (fun g f w h => h) ?_; simp only [Act.put, List.setIfInBounds_toArray, List.set_cons_zero, List.set_cons_succ])
  | (refine Fx.WM.val_ 23 ?_ (by rfl) (by kernel_rfl) (by kernel_rfl) (by kernel_rfl) (by rfl) ?_ (fun g f w h => h) ?_
     rotate_left
     · intro g f w' hx hD hk
       obtain hkp := id hD
       clear hx hk hD hkp
       go_simp
       try rfl
     simp only [Act.put, List.setIfInBounds_toArray, List.set_cons_zero, List.set_cons_succ])
  first
  | (refine Fx.WM.skip 24 (by rfl) (by kernel_rfl) (by kernel_rfl) (by kernel_rfl) (by rfl) (fun g f w h => h) ?_; simp only [Act.put, List.setIfInBounds_toArray, List.set_cons_zero, List.set_cons_succ])
  | (refine Fx.WM.val_ 24 ?_ (by rfl) (by kernel_rfl) (by kernel_rfl) (by kernel_rfl) (by rfl) ?_ (fun g f w h => h) ?_
     rotate_left
     · intro g f w' hx hD hk
       obtain hkp := id hD
       clear hx hk hD hkp
       go_simp
       try rfl
     simp only [Act.put, List.setIfInBounds_toArray, List.set_cons_zero, List.set_cons_succ])
  refine Fx.WM.nil (by kernel_rfl) ?_
  intro wz hkp
  obtain ⟨⟨uA, uc⟩, u2⟩ := u
  have hb := hkp.bel
  have hru := (hkp.has 17 _ (by rfl)).2 rfl
  clear hkp
  simp only at hru
  obtain ⟨w8, hnm⟩ : ∃ z : World, z = wz := ⟨_, rfl⟩
  subst hnm
  have HB8 := Lib.hid (show Below w.heap.size w w8 from step_below hb (by repeat' (first | exact Below.refl _ _ | exact HB7.out | refine below_drewN ?_ _ | refine Below.drew ?_ | refine Below.alloc ?_ (by first | omega | (simp; done) | (simp; omega) | (simp [World.setCell]; omega)) _ | refine Below.setCell ?_ (by first | omega | (simp; done) | (simp; omega)) _ | assumption)))
  have K0_8 := Lib.hid (step_blk hb (show Blk _ (w.heap.size) 64 #[.int .i64 (m.ls), .int .i64 (m.ms), .int .i64 (m.lo), .int .i64 (m.hi), .int .i64 (m.sp), .slice m.A1 m.n1 m.c1, .slice m.A2 m.n2 m.c2, .slice A n c, .int .i64 (day), .int .i64 (pos)] by repeat' (first | exact K0_7.out | exact Blk.at_ _ (by first | rfl | (simp; done) | (simp; omega)) _ _ | refine Blk.drewN ?_ _ | refine Blk.drew ?_ | refine Blk.alloc ?_ _ | refine Blk.far ?_ (by first | omega | (simp; done) | (simp; omega)) _ | assumption)))
  have hL8 := Lib.hid (show Below w7.heap.size w7 _ from reads_mid hb (by repeat' (first | exact Below.refl _ _ | refine below_drewN ?_ _ | refine Below.drew ?_ | refine Below.alloc ?_ (by first | omega | (simp; done) | (simp; omega) | (simp [World.setCell]; omega)) _ | refine Below.setCell ?_ (by first | omega | (simp; done) | (simp; omega)) _)))
  have R0_8 := Lib.hid (reads_lay hb hL8.out R0_7.out)
  have R1_8 := Lib.hid (mnt_lay hb hL8.out R1_7.out)
  have R2_8 := Lib.hid (reads_lay hb hL8.out R2_7.out)
  have R3_8 := Lib.hid (reads_lay hb hL8.out R3_7.out)
  have R4_8 := Lib.hid (reads_lay hb hL8.out R4_7.out)
  clear hL8 R0_7 R1_7 R2_7 R3_7 R4_7
  have hz8 := hb.size
  try simp only [World.size_alloc, World.drewN, World.drew] at hz8
  clear hb K0_7 z0_0_7 z0_1_7 z0_2_7 z0_3_7 z0_4_7 z0_5_7 z0_6_7 z0_7_7 z0_8_7 z0_9_7 l0_7
  have l0_8 : w.heap.size < w8.heap.size := K0_8.out.lt
  have z0_0_8 : w8.cell? ⟨w.heap.size, 0, none⟩ = some (.int .i64 (m.ls)) := K0_8.out.cell 0
  have z0_1_8 : w8.cell? ⟨w.heap.size, 1, none⟩ = some (.int .i64 (m.ms)) := K0_8.out.cell 1
  have z0_2_8 : w8.cell? ⟨w.heap.size, 2, none⟩ = some (.int .i64 (m.lo)) := K0_8.out.cell 2
  have z0_3_8 : w8.cell? ⟨w.heap.size, 3, none⟩ = some (.int .i64 (m.hi)) := K0_8.out.cell 3
  have z0_4_8 : w8.cell? ⟨w.heap.size, 4, none⟩ = some (.int .i64 (m.sp)) := K0_8.out.cell 4
  have z0_5_8 : w8.cell? ⟨w.heap.size, 5, none⟩ = some (.slice m.A1 m.n1 m.c1) := K0_8.out.cell 5
  have z0_6_8 : w8.cell? ⟨w.heap.size, 6, none⟩ = some (.slice m.A2 m.n2 m.c2) := K0_8.out.cell 6
  have z0_7_8 : w8.cell? ⟨w.heap.size, 7, none⟩ = some (.slice A n c) := K0_8.out.cell 7
  have z0_8_8 : w8.cell? ⟨w.heap.size, 8, none⟩ = some (.int .i64 (day)) := K0_8.out.cell 8
  have z0_9_8 : w8.cell? ⟨w.heap.size, 9, none⟩ = some (.int .i64 (pos)) := K0_8.out.cell 9
  have R5_8 := Lib.hid hru
  clear hru
  have hk1 := times_kind HQ.out
  have hk2 := times_kind HQ'.out
  by_cases hE' : E' = 0
  rotate_left
  · have q5 : (E' != 0) = true := by simpa using hE'
    obtain rfl : E' = 18 := by
      rcases hk2 with ⟨h, -⟩ | ⟨h, -⟩
      · exact h
      · exact absurd (by simpa using congrArg (fun q => q.2) h) hE'
    clear hk1 hk2
    go_wp2
    go_ret
    exact ⟨rfl, by repeat' (first | exact Below.refl _ _ | exact HB8.out | refine below_drewN ?_ _ | refine Below.drew ?_ | refine Below.alloc ?_ (by first | omega | (simp; done) | (simp; omega) | (simp [World.setCell]; omega)) _ | refine Below.setCell ?_ (by first | omega | (simp; done) | (simp; omega)) _ | assumption)⟩
  subst hE'
  obtain ⟨hL, hno⟩ : L = begL m.sp (mi, pos) (tgtPos m day l ks) (tgtPos m day l ks).length ∧ ∀ j q, j < (tgtPos m day l ks).length → (tgtPos m day l ks)[j]? = some q → lateE m.sp (mi, pos) (tgtPos m day l ks) j q = 0 := by
    rcases hk1 with ⟨h, -⟩ | ⟨h, h2⟩
    · exact absurd h (by show (0 : Int) ≠ 18; decide)
    · exact ⟨by simpa using congrArg (fun q => q.1.1) h, h2⟩
  have hL' : L' = begL m.sp (mi + 1, pos) (tgtPos m day l ks) (tgtPos m day l ks).length := by
    rcases hk2 with ⟨h, -⟩ | ⟨h, h2⟩
    · exact absurd h (by show (0 : Int) ≠ 18; decide)
    · simpa using congrArg (fun q => q.1.1) h
  obtain rfl : r = r' := by rw [← HR.out, ← HR'.out, hL, hL', begL_len, begL_len]
  have hle : ∀ j a b, L[j]? = some a → L'[j]? = some b → a ≤ b := fun j a b ha hb => begL_le (by rw [← hL]; exact ha) (by rw [← hL']; exact hb)
  obtain ⟨t1, t2, ⟨t3, t4⟩, -⟩ := tour_right HZ0.out
  obtain ⟨⟨p1, p2, p3, p4⟩, ⟨-, -, sp1, sp2⟩, -⟩ := mnt_right t1
  have hup : ∀ j a b, L[j]? = some a → L[j + 1]? = some b → a ≤ b := fun j a b ha hb => begL_up sp1 hmi (by unfold PosR; omega) (zip_mem HZ0.out (pathErr_ok HP.out).2) hno (by rw [← hL]; exact ha) (by rw [← hL]; exact hb)
  have HLE := Lib.hid hle
  have HUP := Lib.hid hup
  clear hk1 hk2 hL hL' hno hle hup t1 t2 t3 t4 p1 p2 p3 p4 sp1 sp2
  go_wp2
  go_loopw [17] (fun i wr => ∃ k : Nat, k ≤ r ∧ i = .int .i64 k ∧ Below w8.heap.size w8 wr) (fun i _ => r - (intOf i).toNat)
  case atStart => exact ⟨0, by omega, rfl, by repeat' (first | exact Below.refl _ _ | refine below_drewN ?_ _ | refine Below.drew ?_ | refine Below.alloc ?_ (by first | omega | (simp; done) | (simp; omega) | (simp [World.setCell]; omega)) _ | refine Below.setCell ?_ (by first | omega | (simp; done) | (simp; omega)) _)⟩
  case round =>
    obtain ⟨k, hk, rfl, hb⟩ := hrel
    have HB9 := Lib.hid hb
    have HBE := Lib.hid (HB8.out.trans (hb.mono HB8.out.size))
    have hrv := (R3_8.out.below hb).more hb.size
    have hru := (R5_8.out.below hb).more hb.size
    have HRV := Lib.hid hrv
    have HRU := Lib.hid hru
    clear hb hrv hru
    by_cases hlt : k < r
    rotate_left
    · obtain rfl : r = k := by omega
      go_wp2
      go_ret
      exact ⟨rfl, HBE.out⟩
    obtain ⟨xb, xo, a, hxA, hxb, ha, c0⟩ := HRV.out.int_ hlt
    obtain ⟨yb, yo, b, hyA, hyb, hbb, d0⟩ := HRU.out.int_ hlt
    have hab := HLE.out k a b ha hbb
    have g1 : decide (r ≤ k) = false := decide_eq_false (by omega)
    have g2 : decide (b < a) = false := decide_eq_false (by omega)
    have hkk : (k : Int) < (r : Int) := by omega
    subst hxA hyA
    have hs9 := HB9.out.size
    obtain ⟨w9, hnm⟩ : ∃ z : World, z = wr := ⟨_, rfl⟩
    subst hnm
    rcases Nat.eq_zero_or_pos k with hk0 | hk0
    · have G4 : Hid (decide (0 < k) = false) := decide_eq_false (by omega)
      clear ha hbb hk0
      go_wp2
      refine Fx.regionM (fun W g f w' => Kp (PfT m 0 [] 0 [] 97 99 98) W g w') (fun i (x : Pick2) => undef) (by kernel_rfl) ?_ ?_
      · intro f hf0
        exact Kp.start
      first
      | (refine Fx.WM.skip 0 (by rfl) (by kernel_rfl) (by kernel_rfl) (by kernel_rfl) (by rfl) (fun g f w h => h) ?_; simp only [Act.put, List.setIfInBounds_toArray, List.set_cons_zero, List.set_cons_succ])
      | (refine Fx.WM.val_ 0 ?_ (by rfl) (by kernel_rfl) (by kernel_rfl) (by kernel_rfl) (by rfl) ?_ (fun g f w h => h) ?_
         rotate_left
         · intro g f w' hx hD hk
           obtain hkp := id hD
           have y0 := (hkp.bel.cell (p := ⟨xb, xo + k, none⟩) hxb).trans c0
           have y1 := (hkp.bel.cell (p := ⟨yb, yo + k, none⟩) hyb).trans d0
           clear hx hk hD hkp
           go_simp
           try rfl
         simp only [Act.put, List.setIfInBounds_toArray, List.set_cons_zero, List.set_cons_succ])
      first
      | (refine Fx.WM.skip 1 (by rfl) (by kernel_rfl) (by kernel_rfl) (by kernel_rfl) (by rfl) (fun g f w h => h) ?_; simp only [Act.put, List.setIfInBounds_toArray, List.set_cons_zero, List.set_cons_succ])
      | (refine Fx.WM.val_ 1 ?_ (by rfl) (by kernel_rfl) (by kernel_rfl) (by kernel_rfl) (by rfl) ?_ (fun g f w h => h) ?_
         rotate_left
         · intro g f w' hx hD hk
           obtain hkp := id hD
           have y0 := (hkp.bel.cell (p := ⟨xb, xo + k, none⟩) hxb).trans c0
           have y1 := (hkp.bel.cell (p := ⟨yb, yo + k, none⟩) hyb).trans d0
           clear hx hk hD hkp
           go_simp
           try rfl
         simp only [Act.put, List.setIfInBounds_toArray, List.set_cons_zero, List.set_cons_succ])
      first
      | (refine Fx.WM.skip 2 (by rfl) (by kernel_rfl) (by kernel_rfl) (by kernel_rfl) (by rfl) (fun g f w h => h) ?_; simp only [Act.put, List.setIfInBounds_toArray, List.set_cons_zero, List.set_cons_succ])
      | (refine Fx.WM.val_ 2 ?_ (by rfl) (by kernel_rfl) (by kernel_rfl) (by kernel_rfl) (by rfl) ?_ (fun g f w h => h) ?_
         rotate_left
         · intro g f w' hx hD hk
           obtain hkp := id hD
           have y0 := (hkp.bel.cell (p := ⟨xb, xo + k, none⟩) hxb).trans c0
           have y1 := (hkp.bel.cell (p := ⟨yb, yo + k, none⟩) hyb).trans d0
           clear hx hk hD hkp
           go_simp
           try rfl
         simp only [Act.put, List.setIfInBounds_toArray, List.set_cons_zero, List.set_cons_succ])
      first
      | (refine Fx.WM.skip 3 (by rfl) (by kernel_rfl) (by kernel_rfl) (by kernel_rfl) (by rfl) (fun g f w h => h) ?_; simp only [Act.put, List.setIfInBounds_toArray, List.set_cons_zero, List.set_cons_succ])
      | (refine Fx.WM.val_ 3 ?_ (by rfl) (by kernel_rfl) (by kernel_rfl) (by kernel_rfl) (by rfl) ?_ (fun g f w h => h) ?_
         rotate_left
         · intro g f w' hx hD hk
           obtain hkp := id hD
           have y0 := (hkp.bel.cell (p := ⟨xb, xo + k, none⟩) hxb).trans c0
           have y1 := (hkp.bel.cell (p := ⟨yb, yo + k, none⟩) hyb).trans d0
           clear hx hk hD hkp
           go_simp
           try rfl
         simp only [Act.put, List.setIfInBounds_toArray, List.set_cons_zero, List.set_cons_succ])
      first
      | (refine Fx.WM.skip 4 (by rfl) (by kernel_rfl) (by kernel_rfl) (by kernel_rfl) (by rfl) (fun g f w h => h) ?_; simp only [Act.put, List.setIfInBounds_toArray, List.set_cons_zero, List.set_cons_succ])
      | (refine Fx.WM.val_ 4 ?_ (by rfl) (by kernel_rfl) (by kernel_rfl) (by kernel_rfl) (by rfl) ?_ (fun g f w h => h) ?_
         rotate_left
         · intro g f w' hx hD hk
           obtain hkp := id hD
           have y0 := (hkp.bel.cell (p := ⟨xb, xo + k, none⟩) hxb).trans c0
           have y1 := (hkp.bel.cell (p := ⟨yb, yo + k, none⟩) hyb).trans d0
           clear hx hk hD hkp
           go_simp
           try rfl
         simp only [Act.put, List.setIfInBounds_toArray, List.set_cons_zero, List.set_cons_succ])
      first
      | (refine Fx.WM.skip 5 (by rfl) (by kernel_rfl) (by kernel_rfl) (by kernel_rfl) (by rfl) (fun g f w h => h) ?_; simp only [Act.put, List.setIfInBounds_toArray, List.set_cons_zero, List.set_cons_succ])
      | (refine Fx.WM.val_ 5 ?_ (by rfl) (by kernel_rfl) (by kernel_rfl) (by kernel_rfl) (by rfl) ?_ (fun g f w h => h) ?_
         rotate_left
         · intro g f w' hx hD hk
           obtain hkp := id hD
           have y0 := (hkp.bel.cell (p := ⟨xb, xo + k, none⟩) hxb).trans c0
           have y1 := (hkp.bel.cell (p := ⟨yb, yo + k, none⟩) hyb).trans d0
           clear hx hk hD hkp
           go_simp
           try rfl
         simp only [Act.put, List.setIfInBounds_toArray, List.set_cons_zero, List.set_cons_succ])
      first
      | (refine Fx.WM.skip 6 (by rfl) (by kernel_rfl) (by kernel_rfl) (by kernel_rfl) (by rfl) (fun g f w h => h) ?_; simp only [Act.put, List.setIfInBounds_toArray, List.set_cons_zero, List.set_cons_succ])
      | (refine Fx.WM.val_ 6 ?_ (by rfl) (by kernel_rfl) (by kernel_rfl) (by kernel_rfl) (by rfl) ?_ (fun g f w h => h) ?_
         rotate_left
         · intro g f w' hx hD hk
           obtain hkp := id hD
           have y0 := (hkp.bel.cell (p := ⟨xb, xo + k, none⟩) hxb).trans c0
           have y1 := (hkp.bel.cell (p := ⟨yb, yo + k, none⟩) hyb).trans d0
           clear hx hk hD hkp
           go_simp
           try rfl
         simp only [Act.put, List.setIfInBounds_toArray, List.set_cons_zero, List.set_cons_succ])
      first
      | (refine Fx.WM.skip 7 (by rfl) (by kernel_rfl) (by kernel_rfl) (by kernel_rfl) (by rfl) (fun g f w h => h) ?_; simp only [Act.put, List.setIfInBounds_toArray, List.set_cons_zero, List.set_cons_succ])
      | (refine Fx.WM.val_ 7 ?_ (by rfl) (by kernel_rfl) (by kernel_rfl) (by kernel_rfl) (by rfl) ?_ (fun g f w h => h) ?_
         rotate_left
         · intro g f w' hx hD hk
           obtain hkp := id hD
           have y0 := (hkp.bel.cell (p := ⟨xb, xo + k, none⟩) hxb).trans c0
           have y1 := (hkp.bel.cell (p := ⟨yb, yo + k, none⟩) hyb).trans d0
           clear hx hk hD hkp
           go_simp
           try rfl
         simp only [Act.put, List.setIfInBounds_toArray, List.set_cons_zero, List.set_cons_succ])
      first
      | (refine Fx.WM.skip 8 (by rfl) (by kernel_rfl) (by kernel_rfl) (by kernel_rfl) (by rfl) (fun g f w h => h) ?_; simp only [Act.put, List.setIfInBounds_toArray, List.set_cons_zero, List.set_cons_succ])
      | (refine Fx.WM.val_ 8 ?_ (by rfl) (by kernel_rfl) (by kernel_rfl) (by kernel_rfl) (by rfl) ?_ (fun g f w h => h) ?_
         rotate_left
         · intro g f w' hx hD hk
           obtain hkp := id hD
           have y0 := (hkp.bel.cell (p := ⟨xb, xo + k, none⟩) hxb).trans c0
           have y1 := (hkp.bel.cell (p := ⟨yb, yo + k, none⟩) hyb).trans d0
           clear hx hk hD hkp
           go_simp
           try rfl
         simp only [Act.put, List.setIfInBounds_toArray, List.set_cons_zero, List.set_cons_succ])
      first
      | (refine Fx.WM.skip 9 (by rfl) (by kernel_rfl) (by kernel_rfl) (by kernel_rfl) (by rfl) (fun g f w h => h) ?_; simp only [Act.put, List.setIfInBounds_toArray, List.set_cons_zero, List.set_cons_succ])
      | (refine Fx.WM.val_ 9 ?_ (by rfl) (by kernel_rfl) (by kernel_rfl) (by kernel_rfl) (by rfl) ?_ (fun g f w h => h) ?_
         rotate_left
         · intro g f w' hx hD hk
           obtain hkp := id hD
           have y0 := (hkp.bel.cell (p := ⟨xb, xo + k, none⟩) hxb).trans c0
           have y1 := (hkp.bel.cell (p := ⟨yb, yo + k, none⟩) hyb).trans d0
           clear hx hk hD hkp
           go_simp
           try rfl
         simp only [Act.put, List.setIfInBounds_toArray, List.set_cons_zero, List.set_cons_succ])
      first
      | (refine Fx.WM.skip 10 (by rfl) (by kernel_rfl) (by kernel_rfl) (by kernel_rfl) (by rfl) (fun g f w h => h) ?_; simp only [Act.put, List.setIfInBounds_toArray, List.set_cons_zero, List.set_cons_succ])
      | (refine Fx.WM.val_ 10 ?_ (by rfl) (by kernel_rfl) (by kernel_rfl) (by kernel_rfl) (by rfl) ?_ (fun g f w h => h) ?_
         rotate_left
         · intro g f w' hx hD hk
           obtain hkp := id hD
           have y0 := (hkp.bel.cell (p := ⟨xb, xo + k, none⟩) hxb).trans c0
           have y1 := (hkp.bel.cell (p := ⟨yb, yo + k, none⟩) hyb).trans d0
           clear hx hk hD hkp
           go_simp
           try rfl
         simp only [Act.put, List.setIfInBounds_toArray, List.set_cons_zero, List.set_cons_succ])
      first
      | (refine Fx.WM.skip 11 (by rfl) (by kernel_rfl) (by kernel_rfl) (by kernel_rfl) (by rfl) (fun g f w h => h) ?_; simp only [Act.put, List.setIfInBounds_toArray, List.set_cons_zero, List.set_cons_succ])
      | (refine Fx.WM.val_ 11 ?_ (by rfl) (by kernel_rfl) (by kernel_rfl) (by kernel_rfl) (by rfl) ?_ (fun g f w h => h) ?_
         rotate_left
         · intro g f w' hx hD hk
           obtain hkp := id hD
           have y0 := (hkp.bel.cell (p := ⟨xb, xo + k, none⟩) hxb).trans c0
           have y1 := (hkp.bel.cell (p := ⟨yb, yo + k, none⟩) hyb).trans d0
           clear hx hk hD hkp
           go_simp
           try rfl
         simp only [Act.put, List.setIfInBounds_toArray, List.set_cons_zero, List.set_cons_succ])
      first
      | (refine Fx.WM.skip 12 (by rfl) (by kernel_rfl) (by kernel_rfl) (by kernel_rfl) (by rfl) (fun g f w h => h) ?_; simp only [Act.put, List.setIfInBounds_toArray, List.set_cons_zero, List.set_cons_succ])
      | (refine Fx.WM.val_ 12 ?_ (by rfl) (by kernel_rfl) (by kernel_rfl) (by kernel_rfl) (by rfl) ?_ (fun g f w h => h) ?_
         rotate_left
         · intro g f w' hx hD hk
           obtain hkp := id hD
           have y0 := (hkp.bel.cell (p := ⟨xb, xo + k, none⟩) hxb).trans c0
           have y1 := (hkp.bel.cell (p := ⟨yb, yo + k, none⟩) hyb).trans d0
           clear hx hk hD hkp
           go_simp
           try rfl
         simp only [Act.put, List.setIfInBounds_toArray, List.set_cons_zero, List.set_cons_succ])
      first
      | (refine Fx.WM.skip 13 (by rfl) (by kernel_rfl) (by kernel_rfl) (by kernel_rfl) (by rfl) (fun g f w h => h) ?_; simp only [Act.put, List.setIfInBounds_toArray, List.set_cons_zero, List.set_cons_succ])
      | (refine Fx.WM.val_ 13 ?_ (by rfl) (by kernel_rfl) (by kernel_rfl) (by kernel_rfl) (by rfl) ?_ (fun g f w h => h) ?_
         rotate_left
         · intro g f w' hx hD hk
           obtain hkp := id hD
           have y0 := (hkp.bel.cell (p := ⟨xb, xo + k, none⟩) hxb).trans c0
           have y1 := (hkp.bel.cell (p := ⟨yb, yo + k, none⟩) hyb).trans d0
           clear hx hk hD hkp
           go_simp
           try rfl
         simp only [Act.put, List.setIfInBounds_toArray, List.set_cons_zero, List.set_cons_succ])
      first
      | (refine Fx.WM.skip 14 (by rfl) (by kernel_rfl) (by kernel_rfl) (by kernel_rfl) (by rfl) (fun g f w h => h) ?_; simp only [Act.put, List.setIfInBounds_toArray, List.set_cons_zero, List.set_cons_succ])
      | (refine Fx.WM.val_ 14 ?_ (by rfl) (by kernel_rfl) (by kernel_rfl) (by kernel_rfl) (by rfl) ?_ (fun g f w h => h) ?_
         rotate_left
         · intro g f w' hx hD hk
           obtain hkp := id hD
           have y0 := (hkp.bel.cell (p := ⟨xb, xo + k, none⟩) hxb).trans c0
           have y1 := (hkp.bel.cell (p := ⟨yb, yo + k, none⟩) hyb).trans d0
           clear hx hk hD hkp
           go_simp
           try rfl
         simp only [Act.put, List.setIfInBounds_toArray, List.set_cons_zero, List.set_cons_succ])
      first
      | (refine Fx.WM.skip 15 (by rfl) (by kernel_rfl) (by kernel_rfl) (by kernel_rfl) (by rfl) (fun g f w h => h) ?_; simp only [Act.put, List.setIfInBounds_toArray, List.set_cons_zero, List.set_cons_succ])
      | (refine Fx.WM.val_ 15 ?_ (by rfl) (by kernel_rfl) (by kernel_rfl) (by kernel_rfl) (by rfl) ?_ (fun g f w h => h) ?_
         rotate_left
         · intro g f w' hx hD hk
           obtain hkp := id hD
           have y0 := (hkp.bel.cell (p := ⟨xb, xo + k, none⟩) hxb).trans c0
           have y1 := (hkp.bel.cell (p := ⟨yb, yo + k, none⟩) hyb).trans d0
           clear hx hk hD hkp
           go_simp
           try rfl
         simp only [Act.put, List.setIfInBounds_toArray, List.set_cons_zero, List.set_cons_succ])
      first
      | (refine Fx.WM.skip 16 (by rfl) (by kernel_rfl) (by kernel_rfl) (by kernel_rfl) (by rfl) (fun g f w h => h) ?_; simp only [Act.put, List.setIfInBounds_toArray, List.set_cons_zero, List.set_cons_succ])
      | (refine Fx.WM.val_ 16 ?_ (by rfl) (by kernel_rfl) (by kernel_rfl) (by kernel_rfl) (by rfl) ?_ (fun g f w h => h) ?_
         rotate_left
         · intro g f w' hx hD hk
           obtain hkp := id hD
           have y0 := (hkp.bel.cell (p := ⟨xb, xo + k, none⟩) hxb).trans c0
           have y1 := (hkp.bel.cell (p := ⟨yb, yo + k, none⟩) hyb).trans d0
           clear hx hk hD hkp
           go_simp
           try rfl
         simp only [Act.put, List.setIfInBounds_toArray, List.set_cons_zero, List.set_cons_succ])
      first
      | (refine Fx.WM.skip 17 (by rfl) (by kernel_rfl) (by kernel_rfl) (by kernel_rfl) (by rfl) (fun g f w h => h) ?_; simp only [Act.put, List.setIfInBounds_toArray, List.set_cons_zero, List.set_cons_succ])
      | (refine Fx.WM.val_ 17 ?_ (by rfl) (by kernel_rfl) (by kernel_rfl) (by kernel_rfl) (by rfl) ?_ (fun g f w h => h) ?_
         rotate_left
         · intro g f w' hx hD hk
           obtain hkp := id hD
           have g4 := G4.out
           clear hx hk hD hkp
           go_simp
           try rfl
         simp only [Act.put, List.setIfInBounds_toArray, List.set_cons_zero, List.set_cons_succ])
      first
      | (refine Fx.WM.skip 18 (by rfl) (by kernel_rfl) (by kernel_rfl) (by kernel_rfl) (by rfl) (fun g f w h => h) ?_; simp only [Act.put, List.setIfInBounds_toArray, List.set_cons_zero, List.set_cons_succ])
      | (refine Fx.WM.val_ 18 ?_ (by rfl) (by kernel_rfl) (by kernel_rfl) (by kernel_rfl) (by rfl) ?_ (fun g f w h => h) ?_
         rotate_left
         · intro g f w' hx hD hk
           obtain hkp := id hD
           clear hx hk hD hkp
           go_simp
           try rfl
         simp only [Act.put, List.setIfInBounds_toArray, List.set_cons_zero, List.set_cons_succ])
      first
      | (refine Fx.WM.skip 19 (by rfl) (by kernel_rfl) (by kernel_rfl) (by kernel_rfl) (by rfl) (fun g f w h => h) ?_; simp only [Act.put, List.setIfInBounds_toArray, List.set_cons_zero, List.set_cons_succ])
      | (refine Fx.WM.val_ 19 ?_ (by rfl) (by kernel_rfl) (by kernel_rfl) (by kernel_rfl) (by rfl) ?_ (fun g f w h => h) ?_
         rotate_left
         · intro g f w' hx hD hk
           obtain hkp := id hD
           clear hx hk hD hkp
           go_simp
           try rfl
         simp only [Act.put, List.setIfInBounds_toArray, List.set_cons_zero, List.set_cons_succ])
      first
      | (refine Fx.WM.skip 20 (by rfl) (by kernel_rfl) (by kernel_rfl) (by kernel_rfl) (by rfl) (fun g f w h => h) ?_; simp only [Act.put, List.setIfInBounds_toArray, List.set_cons_zero, List.set_cons_succ])
      | (refine Fx.WM.val_ 20 ?_ (by rfl) (by kernel_rfl) (by kernel_rfl) (by kernel_rfl) (by rfl) ?_ (fun g f w h => h) ?_
         rotate_left
         · intro g f w' hx hD hk
           obtain hkp := id hD
           clear hx hk hD hkp
           go_simp
           try rfl
         simp only [Act.put, List.setIfInBounds_toArray, List.set_cons_zero, List.set_cons_succ])
      first
      | (refine Fx.WM.skip 21 (by rfl) (by kernel_rfl) (by kernel_rfl) (by kernel_rfl) (by rfl) (fun g f w h => h) ?_; simp only [Act.put, List.setIfInBounds_toArray, List.set_cons_zero, List.set_cons_succ])
      | (refine Fx.WM.val_ 21 ?_ (by rfl) (by kernel_rfl) (by kernel_rfl) (by kernel_rfl) (by rfl) ?_ (fun g f w h => h) ?_
         rotate_left
         · intro g f w' hx hD hk
           obtain hkp := id hD
           clear hx hk hD hkp
           go_simp
           try rfl
         simp only [Act.put, List.setIfInBounds_toArray, List.set_cons_zero, List.set_cons_succ])
      first
      | (refine Fx.WM.skip 22 (by rfl) (by kernel_rfl) (by kernel_rfl) (by kernel_rfl) (by rfl) (fun g f w h => h) ?_; simp only [Act.put, List.setIfInBounds_toArray, List.set_cons_zero, List.set_cons_succ])
      | (refine Fx.WM.val_ 22 ?_ (by rfl) (by kernel_rfl) (by kernel_rfl) (by kernel_rfl) (by rfl) ?_ (fun g f w h => h) ?_
         rotate_left
         · intro g f w' hx hD hk
           obtain hkp := id hD
           clear hx hk hD hkp
           go_simp
           try rfl
         simp only [Act.put, List.setIfInBounds_toArray, List.set_cons_zero, List.set_cons_succ])
      first
      | (refine Fx.WM.skip 23 (by rfl) (by kernel_rfl) (by kernel_rfl) (by kernel_rfl) (by rfl) (fun g f w h => h) ?_; simp only [Act.put, List.setIfInBounds_toArray, List.set_cons_zero, List.set_cons_succ])
      | (refine Fx.WM.val_ 23 ?_ (by rfl) (by kernel_rfl) (by kernel_rfl) (by kernel_rfl) (by rfl) ?_ (fun g f w h => h) ?_
         rotate_left
         · intro g f w' hx hD hk
           obtain hkp := id hD
           clear hx hk hD hkp
           go_simp
           try rfl
         simp only [Act.put, List.setIfInBounds_toArray, List.set_cons_zero, List.set_cons_succ])
      first
      | (refine Fx.WM.skip 24 (by rfl) (by kernel_rfl) (by kernel_rfl) (by kernel_rfl) (by rfl) (fun g f w h => h) ?_; simp only [Act.put, List.setIfInBounds_toArray, List.set_cons_zero, List.set_cons_succ])
      | (refine Fx.WM.val_ 24 ?_ (by rfl) (by kernel_rfl) (by kernel_rfl) (by kernel_rfl) (by rfl) ?_ (fun g f w h => h) ?_
         rotate_left
         · intro g f w' hx hD hk
           obtain hkp := id hD
           clear hx hk hD hkp
           go_simp
           try rfl
         simp only [Act.put, List.setIfInBounds_toArray, List.set_cons_zero, List.set_cons_succ])
      first
      | (refine Fx.WM.skip 25 (by rfl) (by kernel_rfl) (by kernel_rfl) (by kernel_rfl) (by rfl) (fun g f w h => h) ?_; simp only [Act.put, List.setIfInBounds_toArray, List.set_cons_zero, List.set_cons_succ])
      | (refine Fx.WM.val_ 25 ?_ (by rfl) (by kernel_rfl) (by kernel_rfl) (by kernel_rfl) (by rfl) ?_ (fun g f w h => h) ?_
         rotate_left
         · intro g f w' hx hD hk
           obtain hkp := id hD
           clear hx hk hD hkp
           go_simp
           try rfl
         simp only [Act.put, List.setIfInBounds_toArray, List.set_cons_zero, List.set_cons_succ])
      first
      | (refine Fx.WM.skip 26 (by rfl) (by kernel_rfl) (by kernel_rfl) (by kernel_rfl) (by rfl) (fun g f w h => h) ?_; simp only [Act.put, List.setIfInBounds_toArray, List.set_cons_zero, List.set_cons_succ])
      | (refine Fx.WM.val_ 26 ?_ (by rfl) (by kernel_rfl) (by kernel_rfl) (by kernel_rfl) (by rfl) ?_ (fun g f w h => h) ?_
         rotate_left
         · intro g f w' hx hD hk
           obtain hkp := id hD
           clear hx hk hD hkp
           go_simp
           try rfl
         simp only [Act.put, List.setIfInBounds_toArray, List.set_cons_zero, List.set_cons_succ])
      first
      | (refine Fx.WM.skip 27 (by rfl) (by kernel_rfl) (by kernel_rfl) (by kernel_rfl) (by rfl) (fun g f w h => h) ?_; simp only [Act.put, List.setIfInBounds_toArray, List.set_cons_zero, List.set_cons_succ])
      | (refine Fx.WM.val_ 27 ?_ (by rfl) (by kernel_rfl) (by kernel_rfl) (by kernel_rfl) (by rfl) ?_ (fun g f w h => h) ?_
         rotate_left
         · intro g f w' hx hD hk
           obtain hkp := id hD
           clear hx hk hD hkp
           go_simp
           try rfl
         simp only [Act.put, List.setIfInBounds_toArray, List.set_cons_zero, List.set_cons_succ])
      first
      | (refine Fx.WM.skip 28 (by rfl) (by kernel_rfl) (by kernel_rfl) (by kernel_rfl) (by rfl) (fun g f w h => h) ?_; simp only [Act.put, List.setIfInBounds_toArray, List.set_cons_zero, List.set_cons_succ])
      | (refine Fx.WM.val_ 28 ?_ (by rfl) (by kernel_rfl) (by kernel_rfl) (by kernel_rfl) (by rfl) ?_ (fun g f w h => h) ?_
         rotate_left
         · intro g f w' hx hD hk
           obtain hkp := id hD
           clear hx hk hD hkp
           go_simp
           try rfl
         simp only [Act.put, List.setIfInBounds_toArray, List.set_cons_zero, List.set_cons_succ])
      first
      | (refine Fx.WM.skip 29 (by rfl) (by kernel_rfl) (by kernel_rfl) (by kernel_rfl) (by rfl) (fun g f w h => h) ?_; simp only [Act.put, List.setIfInBounds_toArray, List.set_cons_zero, List.set_cons_succ])
      | (refine Fx.WM.val_ 29 ?_ (by rfl) (by kernel_rfl) (by kernel_rfl) (by kernel_rfl) (by rfl) ?_ (fun g f w h => h) ?_
         rotate_left
         · intro g f w' hx hD hk
           obtain hkp := id hD
           clear hx hk hD hkp
           go_simp
           try rfl
         simp only [Act.put, List.setIfInBounds_toArray, List.set_cons_zero, List.set_cons_succ])
      first
      | (refine Fx.WM.skip 30 (by rfl) (by kernel_rfl) (by kernel_rfl) (by kernel_rfl) (by rfl) (fun g f w h => h) ?_; simp only [Act.put, List.setIfInBounds_toArray, List.set_cons_zero, List.set_cons_succ])
      | (refine Fx.WM.val_ 30 ?_ (by rfl) (by kernel_rfl) (by kernel_rfl) (by kernel_rfl) (by rfl) ?_ (fun g f w h => h) ?_
         rotate_left
         · intro g f w' hx hD hk
           obtain hkp := id hD
           clear hx hk hD hkp
           go_simp
           try rfl
         simp only [Act.put, List.setIfInBounds_toArray, List.set_cons_zero, List.set_cons_succ])
      refine Fx.WM.nil (by kernel_rfl) ?_
      intro wz hkp
      have hbe := HBE.out.trans (hkp.bel.mono HBE.out.size)
      have hbl := HB9.out.trans (hkp.bel.mono HB9.out.size)
      clear hkp
      go_wp2
      go_roundw
      case rel => exact ⟨k + 1, by omega, by go_num, hbl⟩
      case measure => simp [intOf]; omega
    · obtain ⟨j, hj⟩ : ∃ j, k = j + 1 := ⟨k - 1, by omega⟩
      obtain ⟨xb', xo', a', hxA', hxb', ha', c1⟩ := HRV.out.int_ (show j < r by omega)
      obtain ⟨rfl, rfl⟩ : xb = xb' ∧ xo = xo' := by simpa using hxA'
      have haa := HUP.out j a' a ha' (by rw [← hj]; exact ha)
      have g3 : decide (a < a') = false := decide_eq_false (by omega)
      have g4 : decide (0 < k) = true := decide_eq_true (by omega)
      have g5 : (k : Int) - 1 = (j : Int) := by omega
      have g6 := IntWalk.i64_in ((k : Int) - 1) ⟨by omega, by omega⟩
      have g7 := IntWalk.i64_in (j : Int) ⟨by omega, by omega⟩
      have g8 : ¬ (j : Int) < 0 := by omega
      have hjj : (j : Int) < (r : Int) := by omega
      clear ha hbb ha' hxA' hj
      go_wp2
      refine Fx.regionM (fun W g f w' => Kp (PfT m 0 [] 0 [] 97 99 98) W g w') (fun i (x : Pick2) => undef) (by kernel_rfl) ?_ ?_
      · intro f hf0
        exact Kp.start
      first
      | (refine Fx.WM.skip 0 (by rfl) (by kernel_rfl) (by kernel_rfl) (by kernel_rfl) (by rfl) (fun g f w h => h) ?_; simp only [Act.put, List.setIfInBounds_toArray, List.set_cons_zero, List.set_cons_succ])
      | (refine Fx.WM.val_ 0 ?_ (by rfl) (by kernel_rfl) (by kernel_rfl) (by kernel_rfl) (by rfl) ?_ (fun g f w h => h) ?_
         rotate_left
         · intro g f w' hx hD hk
           obtain hkp := id hD
           have y0 := (hkp.bel.cell (p := ⟨xb, xo + k, none⟩) hxb).trans c0
           have y1 := (hkp.bel.cell (p := ⟨yb, yo + k, none⟩) hyb).trans d0
           have y2 := (hkp.bel.cell (p := ⟨xb, xo + j, none⟩) hxb).trans c1
           clear hx hk hD hkp
           go_simp
           try rfl
         simp only [Act.put, List.setIfInBounds_toArray, List.set_cons_zero, List.set_cons_succ])
      first
      | (refine Fx.WM.skip 1 (by rfl) (by kernel_rfl) (by kernel_rfl) (by kernel_rfl) (by rfl) (fun g f w h => h) ?_; simp only [Act.put, List.setIfInBounds_toArray, List.set_cons_zero, List.set_cons_succ])
      | (refine Fx.WM.val_ 1 ?_ (by rfl) (by kernel_rfl) (by kernel_rfl) (by kernel_rfl) (by rfl) ?_ (fun g f w h => h) ?_
         rotate_left
         · intro g f w' hx hD hk
           obtain hkp := id hD
           have y0 := (hkp.bel.cell (p := ⟨xb, xo + k, none⟩) hxb).trans c0
           have y1 := (hkp.bel.cell (p := ⟨yb, yo + k, none⟩) hyb).trans d0
           have y2 := (hkp.bel.cell (p := ⟨xb, xo + j, none⟩) hxb).trans c1
           clear hx hk hD hkp
           go_simp
           try rfl
         simp only [Act.put, List.setIfInBounds_toArray, List.set_cons_zero, List.set_cons_succ])
      first
      | (refine Fx.WM.skip 2 (by rfl) (by kernel_rfl) (by kernel_rfl) (by kernel_rfl) (by rfl) (fun g f w h => h) ?_; simp only [Act.put, List.setIfInBounds_toArray, List.set_cons_zero, List.set_cons_succ])
      | (refine Fx.WM.val_ 2 ?_ (by rfl) (by kernel_rfl) (by kernel_rfl) (by kernel_rfl) (by rfl) ?_ (fun g f w h => h) ?_
         rotate_left
         · intro g f w' hx hD hk
           obtain hkp := id hD
           have y0 := (hkp.bel.cell (p := ⟨xb, xo + k, none⟩) hxb).trans c0
           have y1 := (hkp.bel.cell (p := ⟨yb, yo + k, none⟩) hyb).trans d0
           have y2 := (hkp.bel.cell (p := ⟨xb, xo + j, none⟩) hxb).trans c1
           clear hx hk hD hkp
           go_simp
           try rfl
         simp only [Act.put, List.setIfInBounds_toArray, List.set_cons_zero, List.set_cons_succ])
      first
      | (refine Fx.WM.skip 3 (by rfl) (by kernel_rfl) (by kernel_rfl) (by kernel_rfl) (by rfl) (fun g f w h => h) ?_; simp only [Act.put, List.setIfInBounds_toArray, List.set_cons_zero, List.set_cons_succ])
      | (refine Fx.WM.val_ 3 ?_ (by rfl) (by kernel_rfl) (by kernel_rfl) (by kernel_rfl) (by rfl) ?_ (fun g f w h => h) ?_
         rotate_left
         · intro g f w' hx hD hk
           obtain hkp := id hD
           have y0 := (hkp.bel.cell (p := ⟨xb, xo + k, none⟩) hxb).trans c0
           have y1 := (hkp.bel.cell (p := ⟨yb, yo + k, none⟩) hyb).trans d0
           have y2 := (hkp.bel.cell (p := ⟨xb, xo + j, none⟩) hxb).trans c1
           clear hx hk hD hkp
           go_simp
           try rfl
         simp only [Act.put, List.setIfInBounds_toArray, List.set_cons_zero, List.set_cons_succ])
      first
      | (refine Fx.WM.skip 4 (by rfl) (by kernel_rfl) (by kernel_rfl) (by kernel_rfl) (by rfl) (fun g f w h => h) ?_; simp only [Act.put, List.setIfInBounds_toArray, List.set_cons_zero, List.set_cons_succ])
      | (refine Fx.WM.val_ 4 ?_ (by rfl) (by kernel_rfl) (by kernel_rfl) (by kernel_rfl) (by rfl) ?_ (fun g f w h => h) ?_
         rotate_left
         · intro g f w' hx hD hk
           obtain hkp := id hD
           have y0 := (hkp.bel.cell (p := ⟨xb, xo + k, none⟩) hxb).trans c0
           have y1 := (hkp.bel.cell (p := ⟨yb, yo + k, none⟩) hyb).trans d0
           have y2 := (hkp.bel.cell (p := ⟨xb, xo + j, none⟩) hxb).trans c1
           clear hx hk hD hkp
           go_simp
           try rfl
         simp only [Act.put, List.setIfInBounds_toArray, List.set_cons_zero, List.set_cons_succ])
      first
      | (refine Fx.WM.skip 5 (by rfl) (by kernel_rfl) (by kernel_rfl) (by kernel_rfl) (by rfl) (fun g f w h => h) ?_; simp only [Act.put, List.setIfInBounds_toArray, List.set_cons_zero, List.set_cons_succ])
      | (refine Fx.WM.val_ 5 ?_ (by rfl) (by kernel_rfl) (by kernel_rfl) (by kernel_rfl) (by rfl) ?_ (fun g f w h => h) ?_
         rotate_left
         · intro g f w' hx hD hk
           obtain hkp := id hD
           have y0 := (hkp.bel.cell (p := ⟨xb, xo + k, none⟩) hxb).trans c0
           have y1 := (hkp.bel.cell (p := ⟨yb, yo + k, none⟩) hyb).trans d0
           have y2 := (hkp.bel.cell (p := ⟨xb, xo + j, none⟩) hxb).trans c1
           clear hx hk hD hkp
           go_simp
           try rfl
         simp only [Act.put, List.setIfInBounds_toArray, List.set_cons_zero, List.set_cons_succ])
      first
      | (refine Fx.WM.skip 6 (by rfl) (by kernel_rfl) (by kernel_rfl) (by kernel_rfl) (by rfl) (fun g f w h => h) ?_; simp only [Act.put, List.setIfInBounds_toArray, List.set_cons_zero, List.set_cons_succ])
      | (refine Fx.WM.val_ 6 ?_ (by rfl) (by kernel_rfl) (by kernel_rfl) (by kernel_rfl) (by rfl) ?_ (fun g f w h => h) ?_
         rotate_left
         · intro g f w' hx hD hk
           obtain hkp := id hD
           have y0 := (hkp.bel.cell (p := ⟨xb, xo + k, none⟩) hxb).trans c0
           have y1 := (hkp.bel.cell (p := ⟨yb, yo + k, none⟩) hyb).trans d0
           have y2 := (hkp.bel.cell (p := ⟨xb, xo + j, none⟩) hxb).trans c1
           clear hx hk hD hkp
           go_simp
           try rfl
         simp only [Act.put, List.setIfInBounds_toArray, List.set_cons_zero, List.set_cons_succ])
      first
      | (refine Fx.WM.skip 7 (by rfl) (by kernel_rfl) (by kernel_rfl) (by kernel_rfl) (by rfl) (fun g f w h => h) ?_; simp only [Act.put, List.setIfInBounds_toArray, List.set_cons_zero, List.set_cons_succ])
      | (refine Fx.WM.val_ 7 ?_ (by rfl) (by kernel_rfl) (by kernel_rfl) (by kernel_rfl) (by rfl) ?_ (fun g f w h => h) ?_
         rotate_left
         · intro g f w' hx hD hk
           obtain hkp := id hD
           have y0 := (hkp.bel.cell (p := ⟨xb, xo + k, none⟩) hxb).trans c0
           have y1 := (hkp.bel.cell (p := ⟨yb, yo + k, none⟩) hyb).trans d0
           have y2 := (hkp.bel.cell (p := ⟨xb, xo + j, none⟩) hxb).trans c1
           clear hx hk hD hkp
           go_simp
           try rfl
         simp only [Act.put, List.setIfInBounds_toArray, List.set_cons_zero, List.set_cons_succ])
      first
      | (refine Fx.WM.skip 8 (by rfl) (by kernel_rfl) (by kernel_rfl) (by kernel_rfl) (by rfl) (fun g f w h => h) ?_; simp only [Act.put, List.setIfInBounds_toArray, List.set_cons_zero, List.set_cons_succ])
      | (refine Fx.WM.val_ 8 ?_ (by rfl) (by kernel_rfl) (by kernel_rfl) (by kernel_rfl) (by rfl) ?_ (fun g f w h => h) ?_
         rotate_left
         · intro g f w' hx hD hk
           obtain hkp := id hD
           have y0 := (hkp.bel.cell (p := ⟨xb, xo + k, none⟩) hxb).trans c0
           have y1 := (hkp.bel.cell (p := ⟨yb, yo + k, none⟩) hyb).trans d0
           have y2 := (hkp.bel.cell (p := ⟨xb, xo + j, none⟩) hxb).trans c1
           clear hx hk hD hkp
           go_simp
           try rfl
         simp only [Act.put, List.setIfInBounds_toArray, List.set_cons_zero, List.set_cons_succ])
      first
      | (refine Fx.WM.skip 9 (by rfl) (by kernel_rfl) (by kernel_rfl) (by kernel_rfl) (by rfl) (fun g f w h => h) ?_; simp only [Act.put, List.setIfInBounds_toArray, List.set_cons_zero, List.set_cons_succ])
      | (refine Fx.WM.val_ 9 ?_ (by rfl) (by kernel_rfl) (by kernel_rfl) (by kernel_rfl) (by rfl) ?_ (fun g f w h => h) ?_
         rotate_left
         · intro g f w' hx hD hk
           obtain hkp := id hD
           have y0 := (hkp.bel.cell (p := ⟨xb, xo + k, none⟩) hxb).trans c0
           have y1 := (hkp.bel.cell (p := ⟨yb, yo + k, none⟩) hyb).trans d0
           have y2 := (hkp.bel.cell (p := ⟨xb, xo + j, none⟩) hxb).trans c1
           clear hx hk hD hkp
           go_simp
           try rfl
         simp only [Act.put, List.setIfInBounds_toArray, List.set_cons_zero, List.set_cons_succ])
      first
      | (refine Fx.WM.skip 10 (by rfl) (by kernel_rfl) (by kernel_rfl) (by kernel_rfl) (by rfl) (fun g f w h => h) ?_; simp only [Act.put, List.setIfInBounds_toArray, List.set_cons_zero, List.set_cons_succ])
      | (refine Fx.WM.val_ 10 ?_ (by rfl) (by kernel_rfl) (by kernel_rfl) (by kernel_rfl) (by rfl) ?_ (fun g f w h => h) ?_
         rotate_left
         · intro g f w' hx hD hk
           obtain hkp := id hD
           have y0 := (hkp.bel.cell (p := ⟨xb, xo + k, none⟩) hxb).trans c0
           have y1 := (hkp.bel.cell (p := ⟨yb, yo + k, none⟩) hyb).trans d0
           have y2 := (hkp.bel.cell (p := ⟨xb, xo + j, none⟩) hxb).trans c1
           clear hx hk hD hkp
           go_simp
           try rfl
         simp only [Act.put, List.setIfInBounds_toArray, List.set_cons_zero, List.set_cons_succ])
      first
      | (refine Fx.WM.skip 11 (by rfl) (by kernel_rfl) (by kernel_rfl) (by kernel_rfl) (by rfl) (fun g f w h => h) ?_; simp only [Act.put, List.setIfInBounds_toArray, List.set_cons_zero, List.set_cons_succ])
      | (refine Fx.WM.val_ 11 ?_ (by rfl) (by kernel_rfl) (by kernel_rfl) (by kernel_rfl) (by rfl) ?_ (fun g f w h => h) ?_
         rotate_left
         · intro g f w' hx hD hk
           obtain hkp := id hD
           have y0 := (hkp.bel.cell (p := ⟨xb, xo + k, none⟩) hxb).trans c0
           have y1 := (hkp.bel.cell (p := ⟨yb, yo + k, none⟩) hyb).trans d0
           have y2 := (hkp.bel.cell (p := ⟨xb, xo + j, none⟩) hxb).trans c1
           clear hx hk hD hkp
           go_simp
           try rfl
         simp only [Act.put, List.setIfInBounds_toArray, List.set_cons_zero, List.set_cons_succ])
      first
      | (refine Fx.WM.skip 12 (by rfl) (by kernel_rfl) (by kernel_rfl) (by kernel_rfl) (by rfl) (fun g f w h => h) ?_; simp only [Act.put, List.setIfInBounds_toArray, List.set_cons_zero, List.set_cons_succ])
      | (refine Fx.WM.val_ 12 ?_ (by rfl) (by kernel_rfl) (by kernel_rfl) (by kernel_rfl) (by rfl) ?_ (fun g f w h => h) ?_
         rotate_left
         · intro g f w' hx hD hk
           obtain hkp := id hD
           have y0 := (hkp.bel.cell (p := ⟨xb, xo + k, none⟩) hxb).trans c0
           have y1 := (hkp.bel.cell (p := ⟨yb, yo + k, none⟩) hyb).trans d0
           have y2 := (hkp.bel.cell (p := ⟨xb, xo + j, none⟩) hxb).trans c1
           clear hx hk hD hkp
           go_simp
           try rfl
         simp only [Act.put, List.setIfInBounds_toArray, List.set_cons_zero, List.set_cons_succ])
      first
      | (refine Fx.WM.skip 13 (by rfl) (by kernel_rfl) (by kernel_rfl) (by kernel_rfl) (by rfl) (fun g f w h => h) ?_; simp only [Act.put, List.setIfInBounds_toArray, List.set_cons_zero, List.set_cons_succ])
      | (refine Fx.WM.val_ 13 ?_ (by rfl) (by kernel_rfl) (by kernel_rfl) (by kernel_rfl) (by rfl) ?_ (fun g f w h => h) ?_
         rotate_left
         · intro g f w' hx hD hk
           obtain hkp := id hD
           have y0 := (hkp.bel.cell (p := ⟨xb, xo + k, none⟩) hxb).trans c0
           have y1 := (hkp.bel.cell (p := ⟨yb, yo + k, none⟩) hyb).trans d0
           have y2 := (hkp.bel.cell (p := ⟨xb, xo + j, none⟩) hxb).trans c1
           clear hx hk hD hkp
           go_simp
           try rfl
         simp only [Act.put, List.setIfInBounds_toArray, List.set_cons_zero, List.set_cons_succ])
      first
      | (refine Fx.WM.skip 14 (by rfl) (by kernel_rfl) (by kernel_rfl) (by kernel_rfl) (by rfl) (fun g f w h => h) ?_; simp only [Act.put, List.setIfInBounds_toArray, List.set_cons_zero, List.set_cons_succ])
      | (refine Fx.WM.val_ 14 ?_ (by rfl) (by kernel_rfl) (by kernel_rfl) (by kernel_rfl) (by rfl) ?_ (fun g f w h => h) ?_
         rotate_left
         · intro g f w' hx hD hk
           obtain hkp := id hD
           have y0 := (hkp.bel.cell (p := ⟨xb, xo + k, none⟩) hxb).trans c0
           have y1 := (hkp.bel.cell (p := ⟨yb, yo + k, none⟩) hyb).trans d0
           have y2 := (hkp.bel.cell (p := ⟨xb, xo + j, none⟩) hxb).trans c1
           clear hx hk hD hkp
           go_simp
           try rfl
         simp only [Act.put, List.setIfInBounds_toArray, List.set_cons_zero, List.set_cons_succ])
      first
      | (refine Fx.WM.skip 15 (by rfl) (by kernel_rfl) (by kernel_rfl) (by kernel_rfl) (by rfl) (fun g f w h => h) ?_; simp only [Act.put, List.setIfInBounds_toArray, List.set_cons_zero, List.set_cons_succ])
      | (refine Fx.WM.val_ 15 ?_ (by rfl) (by kernel_rfl) (by kernel_rfl) (by kernel_rfl) (by rfl) ?_ (fun g f w h => h) ?_
         rotate_left
         · intro g f w' hx hD hk
           obtain hkp := id hD
           have y0 := (hkp.bel.cell (p := ⟨xb, xo + k, none⟩) hxb).trans c0
           have y1 := (hkp.bel.cell (p := ⟨yb, yo + k, none⟩) hyb).trans d0
           have y2 := (hkp.bel.cell (p := ⟨xb, xo + j, none⟩) hxb).trans c1
           clear hx hk hD hkp
           go_simp
           try rfl
         simp only [Act.put, List.setIfInBounds_toArray, List.set_cons_zero, List.set_cons_succ])
      first
      | (refine Fx.WM.skip 16 (by rfl) (by kernel_rfl) (by kernel_rfl) (by kernel_rfl) (by rfl) (fun g f w h => h) ?_; simp only [Act.put, List.setIfInBounds_toArray, List.set_cons_zero, List.set_cons_succ])
      | (refine Fx.WM.val_ 16 ?_ (by rfl) (by kernel_rfl) (by kernel_rfl) (by kernel_rfl) (by rfl) ?_ (fun g f w h => h) ?_
         rotate_left
         · intro g f w' hx hD hk
           obtain hkp := id hD
           have y0 := (hkp.bel.cell (p := ⟨xb, xo + k, none⟩) hxb).trans c0
           have y1 := (hkp.bel.cell (p := ⟨yb, yo + k, none⟩) hyb).trans d0
           have y2 := (hkp.bel.cell (p := ⟨xb, xo + j, none⟩) hxb).trans c1
           clear hx hk hD hkp
           go_simp
           try rfl
         simp only [Act.put, List.setIfInBounds_toArray, List.set_cons_zero, List.set_cons_succ])
      first
      | (refine Fx.WM.skip 17 (by rfl) (by kernel_rfl) (by kernel_rfl) (by kernel_rfl) (by rfl) (fun g f w h => h) ?_; simp only [Act.put, List.setIfInBounds_toArray, List.set_cons_zero, List.set_cons_succ])
      | (refine Fx.WM.val_ 17 ?_ (by rfl) (by kernel_rfl) (by kernel_rfl) (by kernel_rfl) (by rfl) ?_ (fun g f w h => h) ?_
         rotate_left
         · intro g f w' hx hD hk
           obtain hkp := id hD
           have y0 := (hkp.bel.cell (p := ⟨xb, xo + k, none⟩) hxb).trans c0
           have y1 := (hkp.bel.cell (p := ⟨yb, yo + k, none⟩) hyb).trans d0
           have y2 := (hkp.bel.cell (p := ⟨xb, xo + j, none⟩) hxb).trans c1
           clear hx hk hD hkp
           go_simp
           try rfl
         simp only [Act.put, List.setIfInBounds_toArray, List.set_cons_zero, List.set_cons_succ])
      first
      | (refine Fx.WM.skip 18 (by rfl) (by kernel_rfl) (by kernel_rfl) (by kernel_rfl) (by rfl) (fun g f w h => h) ?_; simp only [Act.put, List.setIfInBounds_toArray, List.set_cons_zero, List.set_cons_succ])
      | (refine Fx.WM.val_ 18 ?_ (by rfl) (by kernel_rfl) (by kernel_rfl) (by kernel_rfl) (by rfl) ?_ (fun g f w h => h) ?_
         rotate_left
         · intro g f w' hx hD hk
           obtain hkp := id hD
           have y0 := (hkp.bel.cell (p := ⟨xb, xo + k, none⟩) hxb).trans c0
           have y1 := (hkp.bel.cell (p := ⟨yb, yo + k, none⟩) hyb).trans d0
           have y2 := (hkp.bel.cell (p := ⟨xb, xo + j, none⟩) hxb).trans c1
           clear hx hk hD hkp
           go_simp
           try rfl
         simp only [Act.put, List.setIfInBounds_toArray, List.set_cons_zero, List.set_cons_succ])
      first
      | (refine Fx.WM.skip 19 (by rfl) (by kernel_rfl) (by kernel_rfl) (by kernel_rfl) (by rfl) (fun g f w h => h) ?_; simp only [Act.put, List.setIfInBounds_toArray, List.set_cons_zero, List.set_cons_succ])
      | (refine Fx.WM.val_ 19 ?_ (by rfl) (by kernel_rfl) (by kernel_rfl) (by kernel_rfl) (by rfl) ?_ (fun g f w h => h) ?_
         rotate_left
         · intro g f w' hx hD hk
           obtain hkp := id hD
           have y0 := (hkp.bel.cell (p := ⟨xb, xo + k, none⟩) hxb).trans c0
           have y1 := (hkp.bel.cell (p := ⟨yb, yo + k, none⟩) hyb).trans d0
           have y2 := (hkp.bel.cell (p := ⟨xb, xo + j, none⟩) hxb).trans c1
           clear hx hk hD hkp
           go_simp
           try rfl
         simp only [Act.put, List.setIfInBounds_toArray, List.set_cons_zero, List.set_cons_succ])
      first
      | (refine Fx.WM.skip 20 (by rfl) (by kernel_rfl) (by kernel_rfl) (by kernel_rfl) (by rfl) (fun g f w h => h) ?_; simp only [Act.put, List.setIfInBounds_toArray, List.set_cons_zero, List.set_cons_succ])
      | (refine Fx.WM.val_ 20 ?_ (by rfl) (by kernel_rfl) (by kernel_rfl) (by kernel_rfl) (by rfl) ?_ (fun g f w h => h) ?_
         rotate_left
         · intro g f w' hx hD hk
           obtain hkp := id hD
           have y0 := (hkp.bel.cell (p := ⟨xb, xo + k, none⟩) hxb).trans c0
           have y1 := (hkp.bel.cell (p := ⟨yb, yo + k, none⟩) hyb).trans d0
           have y2 := (hkp.bel.cell (p := ⟨xb, xo + j, none⟩) hxb).trans c1
           clear hx hk hD hkp
           go_simp
           try rfl
         simp only [Act.put, List.setIfInBounds_toArray, List.set_cons_zero, List.set_cons_succ])
      first
      | (refine Fx.WM.skip 21 (by rfl) (by kernel_rfl) (by kernel_rfl) (by kernel_rfl) (by rfl) (fun g f w h => h) ?_; simp only [Act.put, List.setIfInBounds_toArray, List.set_cons_zero, List.set_cons_succ])
      | (refine Fx.WM.val_ 21 ?_ (by rfl) (by kernel_rfl) (by kernel_rfl) (by kernel_rfl) (by rfl) ?_ (fun g f w h => h) ?_
         rotate_left
         · intro g f w' hx hD hk
           obtain hkp := id hD
           have y0 := (hkp.bel.cell (p := ⟨xb, xo + k, none⟩) hxb).trans c0
           have y1 := (hkp.bel.cell (p := ⟨yb, yo + k, none⟩) hyb).trans d0
           have y2 := (hkp.bel.cell (p := ⟨xb, xo + j, none⟩) hxb).trans c1
           clear hx hk hD hkp
           go_simp
           try rfl
         simp only [Act.put, List.setIfInBounds_toArray, List.set_cons_zero, List.set_cons_succ])
      first
      | (refine Fx.WM.skip 22 (by rfl) (by kernel_rfl) (by kernel_rfl) (by kernel_rfl) (by rfl) (fun g f w h => h) ?_; simp only [Act.put, List.setIfInBounds_toArray, List.set_cons_zero, List.set_cons_succ])
      | (refine Fx.WM.val_ 22 ?_ (by rfl) (by kernel_rfl) (by kernel_rfl) (by kernel_rfl) (by rfl) ?_ (fun g f w h => h) ?_
         rotate_left
         · intro g f w' hx hD hk
           obtain hkp := id hD
           have y0 := (hkp.bel.cell (p := ⟨xb, xo + k, none⟩) hxb).trans c0
           have y1 := (hkp.bel.cell (p := ⟨yb, yo + k, none⟩) hyb).trans d0
           have y2 := (hkp.bel.cell (p := ⟨xb, xo + j, none⟩) hxb).trans c1
           clear hx hk hD hkp
           go_simp
           try rfl
         simp only [Act.put, List.setIfInBounds_toArray, List.set_cons_zero, List.set_cons_succ])
      first
      | (refine Fx.WM.skip 23 (by rfl) (by kernel_rfl) (by kernel_rfl) (by kernel_rfl) (by rfl) (fun g f w h => h) ?_; simp only [Act.put, List.setIfInBounds_toArray, List.set_cons_zero, List.set_cons_succ])
      | (refine Fx.WM.val_ 23 ?_ (by rfl) (by kernel_rfl) (by kernel_rfl) (by kernel_rfl) (by rfl) ?_ (fun g f w h => h) ?_
         rotate_left
         · intro g f w' hx hD hk
           obtain hkp := id hD
           have y0 := (hkp.bel.cell (p := ⟨xb, xo + k, none⟩) hxb).trans c0
           have y1 := (hkp.bel.cell (p := ⟨yb, yo + k, none⟩) hyb).trans d0
           have y2 := (hkp.bel.cell (p := ⟨xb, xo + j, none⟩) hxb).trans c1
           clear hx hk hD hkp
           go_simp
           try rfl
         simp only [Act.put, List.setIfInBounds_toArray, List.set_cons_zero, List.set_cons_succ])
      first
      | (refine Fx.WM.skip 24 (by rfl) (by kernel_rfl) (by kernel_rfl) (by kernel_rfl) (by rfl) (fun g f w h => h) ?_; simp only [Act.put, List.setIfInBounds_toArray, List.set_cons_zero, List.set_cons_succ])
      | (refine Fx.WM.val_ 24 ?_ (by rfl) (by kernel_rfl) (by kernel_rfl) (by kernel_rfl) (by rfl) ?_ (fun g f w h => h) ?_
         rotate_left
         · intro g f w' hx hD hk
           obtain hkp := id hD
           have y0 := (hkp.bel.cell (p := ⟨xb, xo + k, none⟩) hxb).trans c0
           have y1 := (hkp.bel.cell (p := ⟨yb, yo + k, none⟩) hyb).trans d0
           have y2 := (hkp.bel.cell (p := ⟨xb, xo + j, none⟩) hxb).trans c1
           clear hx hk hD hkp
           go_simp
           try rfl
         simp only [Act.put, List.setIfInBounds_toArray, List.set_cons_zero, List.set_cons_succ])
      first
      | (refine Fx.WM.skip 25 (by rfl) (by kernel_rfl) (by kernel_rfl) (by kernel_rfl) (by rfl) (fun g f w h => h) ?_; simp only [Act.put, List.setIfInBounds_toArray, List.set_cons_zero, List.set_cons_succ])
      | (refine Fx.WM.val_ 25 ?_ (by rfl) (by kernel_rfl) (by kernel_rfl) (by kernel_rfl) (by rfl) ?_ (fun g f w h => h) ?_
         rotate_left
         · intro g f w' hx hD hk
           obtain hkp := id hD
           have y0 := (hkp.bel.cell (p := ⟨xb, xo + k, none⟩) hxb).trans c0
           have y1 := (hkp.bel.cell (p := ⟨yb, yo + k, none⟩) hyb).trans d0
           have y2 := (hkp.bel.cell (p := ⟨xb, xo + j, none⟩) hxb).trans c1
           clear hx hk hD hkp
           go_simp
           try rfl
         simp only [Act.put, List.setIfInBounds_toArray, List.set_cons_zero, List.set_cons_succ])
      first
      | (refine Fx.WM.skip 26 (by rfl) (by kernel_rfl) (by kernel_rfl) (by kernel_rfl) (by rfl) (fun g f w h => h) ?_; simp only [Act.put, List.setIfInBounds_toArray, List.set_cons_zero, List.set_cons_succ])
      | (refine Fx.WM.val_ 26 ?_ (by rfl) (by kernel_rfl) (by kernel_rfl) (by kernel_rfl) (by rfl) ?_ (fun g f w h => h) ?_
         rotate_left
         · intro g f w' hx hD hk
           obtain hkp := id hD
           have y0 := (hkp.bel.cell (p := ⟨xb, xo + k, none⟩) hxb).trans c0
           have y1 := (hkp.bel.cell (p := ⟨yb, yo + k, none⟩) hyb).trans d0
           have y2 := (hkp.bel.cell (p := ⟨xb, xo + j, none⟩) hxb).trans c1
           clear hx hk hD hkp
           go_simp
           try rfl
         simp only [Act.put, List.setIfInBounds_toArray, List.set_cons_zero, List.set_cons_succ])
      first
      | (refine Fx.WM.skip 27 (by rfl) (by kernel_rfl) (by kernel_rfl) (by kernel_rfl) (by rfl) (fun g f w h => h) ?_; simp only [Act.put, List.setIfInBounds_toArray, List.set_cons_zero, List.set_cons_succ])
      | (refine Fx.WM.val_ 27 ?_ (by rfl) (by kernel_rfl) (by kernel_rfl) (by kernel_rfl) (by rfl) ?_ (fun g f w h => h) ?_
         rotate_left
         · intro g f w' hx hD hk
           obtain hkp := id hD
           have y0 := (hkp.bel.cell (p := ⟨xb, xo + k, none⟩) hxb).trans c0
           have y1 := (hkp.bel.cell (p := ⟨yb, yo + k, none⟩) hyb).trans d0
           have y2 := (hkp.bel.cell (p := ⟨xb, xo + j, none⟩) hxb).trans c1
           clear hx hk hD hkp
           go_simp
           try rfl
         simp only [Act.put, List.setIfInBounds_toArray, List.set_cons_zero, List.set_cons_succ])
      first
      | (refine Fx.WM.skip 28 (by rfl) (by kernel_rfl) (by kernel_rfl) (by kernel_rfl) (by rfl) (fun g f w h => h) ?_; simp only [Act.put, List.setIfInBounds_toArray, List.set_cons_zero, List.set_cons_succ])
      | (refine Fx.WM.val_ 28 ?_ (by rfl) (by kernel_rfl) (by kernel_rfl) (by kernel_rfl) (by rfl) ?_ (fun g f w h => h) ?_
         rotate_left
         · intro g f w' hx hD hk
           obtain hkp := id hD
           have y0 := (hkp.bel.cell (p := ⟨xb, xo + k, none⟩) hxb).trans c0
           have y1 := (hkp.bel.cell (p := ⟨yb, yo + k, none⟩) hyb).trans d0
           have y2 := (hkp.bel.cell (p := ⟨xb, xo + j, none⟩) hxb).trans c1
           clear hx hk hD hkp
           go_simp
           try rfl
         simp only [Act.put, List.setIfInBounds_toArray, List.set_cons_zero, List.set_cons_succ])
      first
      | (refine Fx.WM.skip 29 (by rfl) (by kernel_rfl) (by kernel_rfl) (by kernel_rfl) (by rfl) (fun g f w h => h) ?_; simp only [Act.put, List.setIfInBounds_toArray, List.set_cons_zero, List.set_cons_succ])
      | (refine Fx.WM.val_ 29 ?_ (by rfl) (by kernel_rfl) (by kernel_rfl) (by kernel_rfl) (by rfl) ?_ (fun g f w h => h) ?_
         rotate_left
         · intro g f w' hx hD hk
           obtain hkp := id hD
           have y0 := (hkp.bel.cell (p := ⟨xb, xo + k, none⟩) hxb).trans c0
           have y1 := (hkp.bel.cell (p := ⟨yb, yo + k, none⟩) hyb).trans d0
           have y2 := (hkp.bel.cell (p := ⟨xb, xo + j, none⟩) hxb).trans c1
           clear hx hk hD hkp
           go_simp
           try rfl
         simp only [Act.put, List.setIfInBounds_toArray, List.set_cons_zero, List.set_cons_succ])
      first
      | (refine Fx.WM.skip 30 (by rfl) (by kernel_rfl) (by kernel_rfl) (by kernel_rfl) (by rfl) (fun g f w h => h) ?_; simp only [Act.put, List.setIfInBounds_toArray, List.set_cons_zero, List.set_cons_succ])
      | (refine Fx.WM.val_ 30 ?_ (by rfl) (by kernel_rfl) (by kernel_rfl) (by kernel_rfl) (by rfl) ?_ (fun g f w h => h) ?_
         rotate_left
         · intro g f w' hx hD hk
           obtain hkp := id hD
           have y0 := (hkp.bel.cell (p := ⟨xb, xo + k, none⟩) hxb).trans c0
           have y1 := (hkp.bel.cell (p := ⟨yb, yo + k, none⟩) hyb).trans d0
           have y2 := (hkp.bel.cell (p := ⟨xb, xo + j, none⟩) hxb).trans c1
           clear hx hk hD hkp
           go_simp
           try rfl
         simp only [Act.put, List.setIfInBounds_toArray, List.set_cons_zero, List.set_cons_succ])
      refine Fx.WM.nil (by kernel_rfl) ?_
      intro wz hkp
      have hbe := HBE.out.trans (hkp.bel.mono HBE.out.size)
      have hbl := HB9.out.trans (hkp.bel.mono HB9.out.size)
      clear hkp
      go_wp2
      go_roundw
      case rel => exact ⟨k + 1, by omega, by go_num, hbl⟩
      case measure => simp [intOf]; omega
end Go.Proofs.Ytgamepmipoociaa

end
