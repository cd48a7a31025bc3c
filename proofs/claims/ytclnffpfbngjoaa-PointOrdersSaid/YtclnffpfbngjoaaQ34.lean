import Derived.Test.YtclnffpfbngjoaaQ27
import Derived.Test.YtclnffpfbngjoaaQ19
import Derived.Test.YtclnffpfbngjoaaQ31
import Derived.Test.YtclnffpfbngjoaaQ33

section
/- The walk of the statement on the order with the least cost. -/
namespace Go.Proofs.Ytclnffpfbngjoaa
open Go Go.RowKit

theorem costO_to {m : Mnt} {A1 A2 : Option Addr} {c1 c2 : Nat} {day pos : Int} {l : List Tgt} : costO (m.to A1 c1 A2 c2) day pos l = costO m day pos l := by
  funext o
  exact leastC_to
theorem porder_like {m : Mnt} {day pos : Int} {l : List Tgt} {n : Nat} (A1 A2 : Option Addr) (c1 c2 : Nat) (A : Option Addr) (c : Nat) (o : List Nat) (v : Int) (hF : foldO (costO m day pos l) none (leavesT n n []) = some (o, v)) (hol : o.length = n) (h6 : n ≤ 6) (hT0 : (tourF m l day pos).2 = 0) (w : World) (hx : MntAt (m.to A1 c1 A2 c2) w) (hl : Reads w w.heap.size 6 A n (tgtCells l)) (hnc : n ≤ c ∧ c ≤ 9223372036854775807) (hfit : ∀ t ∈ l, t.name.size ≤ maxLen) :
    Calls Try.prog 6 #[(m.to A1 c1 A2 c2).val, .slice A n c, .agg #[.int .i64 day, .int .i64 pos]] w (POrdPost n o v w) :=
  porder_ok (m.to A1 c1 A2 c2) day pos l A n c hT0 h6 o v (by rw [costO_to]; exact hF) hol w hx hl hnc hfit
theorem few_short {m : Mnt} {l : List Tgt} (h : shortB m l = true) (h20 : l.length ≤ 20) : l.length ≤ 5 := by
  unfold shortB fewT at h
  simp only [Bool.and_eq_true, Bool.or_eq_true, decide_eq_true_eq] at h
  omega

set_option maxRecDepth 100000 in
set_option maxHeartbeats 4000000 in
theorem lawOR_no (m : Mnt) (A : Option Addr) (n c : Nat) (l : List Tgt) (day pos : Int) (w : World) (hx : TourIn m A n c l day pos w) (b : Bool) (hl : shortB m l = b) (h5 : b = false ∨ n = 5) :
    Calls Try.prog 3 #[tourV m A n c day pos] w fun e w' => e = .returned (.bool true) ∧ Below w.heap.size w w' := by
  have hma := hx.mnt.at_
  have hrd := hx.rd
  have hfit := hx.fit
  have hlen := hx.len
  have hnc := hx.hn.1
  have hcc := hx.hn.2
  unfold tourV
  clear hx
  have HL := Lib.hid hl
  have H5 := Lib.hid h5
  clear hl h5
  go_enter Try.func3, Try.ntmps3
  have R0_0 := Lib.hid hrd
  clear hrd
  have R1_0 := Lib.hid hma
  clear hma
  go_wp2_with fail
  refine (awakept_any _).mono ?_
  rintro e w1 ⟨rfl, hb⟩
  have HB1 := Lib.hid (show Below w.heap.size w w1 from step_below hb (by repeat' (first | exact Below.refl _ _ | exact HB0.out | refine below_drewN ?_ _ | refine Below.drew ?_ | refine Below.alloc ?_ (by first | omega | (simp; done) | (simp; omega) | (simp [World.setCell]; omega)) _ | refine Below.setCell ?_ (by first | omega | (simp; done) | (simp; omega)) _ | assumption)))
  have K0_1 := Lib.hid (step_blk hb (show Blk _ (w.heap.size) 28 #[.int .i64 (m.ls), .int .i64 (m.ms), .int .i64 (m.lo), .int .i64 (m.hi), .int .i64 (m.sp), .slice m.A1 m.n1 m.c1, .slice m.A2 m.n2 m.c2, .slice A n c, .int .i64 (day), .int .i64 (pos)] by repeat' (first | exact Blk.at_ _ (by first | rfl | (simp; done) | (simp; omega)) _ _ | refine Blk.drewN ?_ _ | refine Blk.drew ?_ | refine Blk.alloc ?_ _ | refine Blk.far ?_ (by first | omega | (simp; done) | (simp; omega)) _ | assumption)))
  have hL1 := Lib.hid (show Below w.heap.size w _ from reads_mid hb (by repeat' (first | exact Below.refl _ _ | refine below_drewN ?_ _ | refine Below.drew ?_ | refine Below.alloc ?_ (by first | omega | (simp; done) | (simp; omega) | (simp [World.setCell]; omega)) _ | refine Below.setCell ?_ (by first | omega | (simp; done) | (simp; omega)) _)))
  have R0_1 := Lib.hid (reads_lay hb hL1.out R0_0.out)
  have R1_1 := Lib.hid (mnt_lay hb hL1.out R1_0.out)
  clear hL1 R0_0 R1_0
  have hz1 := hb.size
  try simp only [World.size_alloc, World.drewN, World.drew] at hz1
  clear hb
  have l0_1 : w.heap.size < w1.heap.size := K0_1.out.lt
  have z0_0_1 : w1.cell? ⟨w.heap.size, 0, none⟩ = some (.int .i64 (m.ls)) := K0_1.out.cell 0
  have z0_1_1 : w1.cell? ⟨w.heap.size, 1, none⟩ = some (.int .i64 (m.ms)) := K0_1.out.cell 1
  have z0_2_1 : w1.cell? ⟨w.heap.size, 2, none⟩ = some (.int .i64 (m.lo)) := K0_1.out.cell 2
  have z0_3_1 : w1.cell? ⟨w.heap.size, 3, none⟩ = some (.int .i64 (m.hi)) := K0_1.out.cell 3
  have z0_4_1 : w1.cell? ⟨w.heap.size, 4, none⟩ = some (.int .i64 (m.sp)) := K0_1.out.cell 4
  have z0_5_1 : w1.cell? ⟨w.heap.size, 5, none⟩ = some (.slice m.A1 m.n1 m.c1) := K0_1.out.cell 5
  have z0_6_1 : w1.cell? ⟨w.heap.size, 6, none⟩ = some (.slice m.A2 m.n2 m.c2) := K0_1.out.cell 6
  have z0_7_1 : w1.cell? ⟨w.heap.size, 7, none⟩ = some (.slice A n c) := K0_1.out.cell 7
  have z0_8_1 : w1.cell? ⟨w.heap.size, 8, none⟩ = some (.int .i64 (day)) := K0_1.out.cell 8
  have z0_9_1 : w1.cell? ⟨w.heap.size, 9, none⟩ = some (.int .i64 (pos)) := K0_1.out.cell 9
  go_wp2_with fail
  refine (shortp_is m A n c _ l day pos b HL.out _ R0_1.out (Nat.le_refl _) (by omega)).mono ?_
  rintro e w2 ⟨rfl, hb⟩
  have HB2 := Lib.hid (show Below w.heap.size w w2 from step_below hb (by repeat' (first | exact Below.refl _ _ | exact HB1.out | refine below_drewN ?_ _ | refine Below.drew ?_ | refine Below.alloc ?_ (by first | omega | (simp; done) | (simp; omega) | (simp [World.setCell]; omega)) _ | refine Below.setCell ?_ (by first | omega | (simp; done) | (simp; omega)) _ | assumption)))
  have K0_2 := Lib.hid (step_blk hb (show Blk _ (w.heap.size) 28 #[.int .i64 (m.ls), .int .i64 (m.ms), .int .i64 (m.lo), .int .i64 (m.hi), .int .i64 (m.sp), .slice m.A1 m.n1 m.c1, .slice m.A2 m.n2 m.c2, .slice A n c, .int .i64 (day), .int .i64 (pos)] by repeat' (first | exact K0_1.out | exact Blk.at_ _ (by first | rfl | (simp; done) | (simp; omega)) _ _ | refine Blk.drewN ?_ _ | refine Blk.drew ?_ | refine Blk.alloc ?_ _ | refine Blk.far ?_ (by first | omega | (simp; done) | (simp; omega)) _ | assumption)))
  have hL2 := Lib.hid (show Below w1.heap.size w1 _ from reads_mid hb (by repeat' (first | exact Below.refl _ _ | refine below_drewN ?_ _ | refine Below.drew ?_ | refine Below.alloc ?_ (by first | omega | (simp; done) | (simp; omega) | (simp [World.setCell]; omega)) _ | refine Below.setCell ?_ (by first | omega | (simp; done) | (simp; omega)) _)))
  have R0_2 := Lib.hid (reads_lay hb hL2.out R0_1.out)
  have R1_2 := Lib.hid (mnt_lay hb hL2.out R1_1.out)
  clear hL2 R0_1 R1_1
  have hz2 := hb.size
  try simp only [World.size_alloc, World.drewN, World.drew] at hz2
  clear hb K0_1 z0_0_1 z0_1_1 z0_2_1 z0_3_1 z0_4_1 z0_5_1 z0_6_1 z0_7_1 z0_8_1 z0_9_1 l0_1
  have l0_2 : w.heap.size < w2.heap.size := K0_2.out.lt
  have z0_0_2 : w2.cell? ⟨w.heap.size, 0, none⟩ = some (.int .i64 (m.ls)) := K0_2.out.cell 0
  have z0_1_2 : w2.cell? ⟨w.heap.size, 1, none⟩ = some (.int .i64 (m.ms)) := K0_2.out.cell 1
  have z0_2_2 : w2.cell? ⟨w.heap.size, 2, none⟩ = some (.int .i64 (m.lo)) := K0_2.out.cell 2
  have z0_3_2 : w2.cell? ⟨w.heap.size, 3, none⟩ = some (.int .i64 (m.hi)) := K0_2.out.cell 3
  have z0_4_2 : w2.cell? ⟨w.heap.size, 4, none⟩ = some (.int .i64 (m.sp)) := K0_2.out.cell 4
  have z0_5_2 : w2.cell? ⟨w.heap.size, 5, none⟩ = some (.slice m.A1 m.n1 m.c1) := K0_2.out.cell 5
  have z0_6_2 : w2.cell? ⟨w.heap.size, 6, none⟩ = some (.slice m.A2 m.n2 m.c2) := K0_2.out.cell 6
  have z0_7_2 : w2.cell? ⟨w.heap.size, 7, none⟩ = some (.slice A n c) := K0_2.out.cell 7
  have z0_8_2 : w2.cell? ⟨w.heap.size, 8, none⟩ = some (.int .i64 (day)) := K0_2.out.cell 8
  have z0_9_2 : w2.cell? ⟨w.heap.size, 9, none⟩ = some (.int .i64 (pos)) := K0_2.out.cell 9
  cases b
  · go_wp2
    go_ret
    exact ⟨rfl, by repeat' (first | exact Below.refl _ _ | exact HB2.out | refine below_drewN ?_ _ | refine Below.drew ?_ | refine Below.alloc ?_ (by first | omega | (simp; done) | (simp; omega) | (simp [World.setCell]; omega)) _ | refine Below.setCell ?_ (by first | omega | (simp; done) | (simp; omega)) _ | assumption)⟩
  · have e5 : ((n : Int) == 5) = true := by
      have h : n = 5 := by rcases H5.out with h | h; cases h; exact h
      rw [h]; rfl
    go_wp2
    go_ret
    exact ⟨rfl, by repeat' (first | exact Below.refl _ _ | exact HB2.out | refine below_drewN ?_ _ | refine Below.drew ?_ | refine Below.alloc ?_ (by first | omega | (simp; done) | (simp; omega) | (simp [World.setCell]; omega)) _ | refine Below.setCell ?_ (by first | omega | (simp; done) | (simp; omega)) _ | assumption)⟩

set_option maxRecDepth 100000 in
set_option maxHeartbeats 4000000 in
theorem lawOR_bad (m : Mnt) (A : Option Addr) (n c : Nat) (l : List Tgt) (day pos : Int) (w : World) (hx : TourIn m A n c l day pos w) (hl : shortB m l = true) (h5 : n ≠ 5) (hT : (tourF m l day pos).2 ≠ 0) :
    Calls Try.prog 3 #[tourV m A n c day pos] w fun e w' => e = .returned (.bool true) ∧ Below w.heap.size w w' := by
  have hma := hx.mnt.at_
  have hrd := hx.rd
  have hfit := hx.fit
  have hlen := hx.len
  have hnc := hx.hn.1
  have hcc := hx.hn.2
  unfold tourV
  clear hx
  obtain ⟨-, hn1, hn2, hn23⟩ := short_parts hl
  obtain ⟨i, E, hE⟩ : ∃ i E, tourF m l day pos = (i, E) := ⟨_, _, rfl⟩
  rw [hE] at hT
  simp only at hT
  have HL := Lib.hid hl
  have HF := Lib.hid hfit
  have HE := Lib.hid hE
  have HE0 := Lib.hid hT
  have e5 : ((n : Int) == 5) = false := by rw [beq_eq_false_iff_ne]; omega
  have q1 : (E == E) = true := by simp
  have q3 : (E != 0) = true := by simpa using hT
  clear hl hfit hE hT h5
  go_enter Try.func3, Try.ntmps3
  have R0_0 := Lib.hid hrd
  clear hrd
  have R1_0 := Lib.hid hma
  clear hma
  go_wp2_with fail
  refine (awakept_any _).mono ?_
  rintro e w1 ⟨rfl, hb⟩
  have HB1 := Lib.hid (show Below w.heap.size w w1 from step_below hb (by repeat' (first | exact Below.refl _ _ | exact HB0.out | refine below_drewN ?_ _ | refine Below.drew ?_ | refine Below.alloc ?_ (by first | omega | (simp; done) | (simp; omega) | (simp [World.setCell]; omega)) _ | refine Below.setCell ?_ (by first | omega | (simp; done) | (simp; omega)) _ | assumption)))
  have K0_1 := Lib.hid (step_blk hb (show Blk _ (w.heap.size) 28 #[.int .i64 (m.ls), .int .i64 (m.ms), .int .i64 (m.lo), .int .i64 (m.hi), .int .i64 (m.sp), .slice m.A1 m.n1 m.c1, .slice m.A2 m.n2 m.c2, .slice A n c, .int .i64 (day), .int .i64 (pos)] by repeat' (first | exact Blk.at_ _ (by first | rfl | (simp; done) | (simp; omega)) _ _ | refine Blk.drewN ?_ _ | refine Blk.drew ?_ | refine Blk.alloc ?_ _ | refine Blk.far ?_ (by first | omega | (simp; done) | (simp; omega)) _ | assumption)))
  have hL1 := Lib.hid (show Below w.heap.size w _ from reads_mid hb (by repeat' (first | exact Below.refl _ _ | refine below_drewN ?_ _ | refine Below.drew ?_ | refine Below.alloc ?_ (by first | omega | (simp; done) | (simp; omega) | (simp [World.setCell]; omega)) _ | refine Below.setCell ?_ (by first | omega | (simp; done) | (simp; omega)) _)))
  have R0_1 := Lib.hid (reads_lay hb hL1.out R0_0.out)
  have R1_1 := Lib.hid (mnt_lay hb hL1.out R1_0.out)
  clear hL1 R0_0 R1_0
  have hz1 := hb.size
  try simp only [World.size_alloc, World.drewN, World.drew] at hz1
  clear hb
  have l0_1 : w.heap.size < w1.heap.size := K0_1.out.lt
  have z0_0_1 : w1.cell? ⟨w.heap.size, 0, none⟩ = some (.int .i64 (m.ls)) := K0_1.out.cell 0
  have z0_1_1 : w1.cell? ⟨w.heap.size, 1, none⟩ = some (.int .i64 (m.ms)) := K0_1.out.cell 1
  have z0_2_1 : w1.cell? ⟨w.heap.size, 2, none⟩ = some (.int .i64 (m.lo)) := K0_1.out.cell 2
  have z0_3_1 : w1.cell? ⟨w.heap.size, 3, none⟩ = some (.int .i64 (m.hi)) := K0_1.out.cell 3
  have z0_4_1 : w1.cell? ⟨w.heap.size, 4, none⟩ = some (.int .i64 (m.sp)) := K0_1.out.cell 4
  have z0_5_1 : w1.cell? ⟨w.heap.size, 5, none⟩ = some (.slice m.A1 m.n1 m.c1) := K0_1.out.cell 5
  have z0_6_1 : w1.cell? ⟨w.heap.size, 6, none⟩ = some (.slice m.A2 m.n2 m.c2) := K0_1.out.cell 6
  have z0_7_1 : w1.cell? ⟨w.heap.size, 7, none⟩ = some (.slice A n c) := K0_1.out.cell 7
  have z0_8_1 : w1.cell? ⟨w.heap.size, 8, none⟩ = some (.int .i64 (day)) := K0_1.out.cell 8
  have z0_9_1 : w1.cell? ⟨w.heap.size, 9, none⟩ = some (.int .i64 (pos)) := K0_1.out.cell 9
  go_wp2_with fail
  refine (shortp_is m A n c _ l day pos true HL.out _ R0_1.out (Nat.le_refl _) (by omega)).mono ?_
  rintro e w2 ⟨rfl, hb⟩
  have HB2 := Lib.hid (show Below w.heap.size w w2 from step_below hb (by repeat' (first | exact Below.refl _ _ | exact HB1.out | refine below_drewN ?_ _ | refine Below.drew ?_ | refine Below.alloc ?_ (by first | omega | (simp; done) | (simp; omega) | (simp [World.setCell]; omega)) _ | refine Below.setCell ?_ (by first | omega | (simp; done) | (simp; omega)) _ | assumption)))
  have K0_2 := Lib.hid (step_blk hb (show Blk _ (w.heap.size) 28 #[.int .i64 (m.ls), .int .i64 (m.ms), .int .i64 (m.lo), .int .i64 (m.hi), .int .i64 (m.sp), .slice m.A1 m.n1 m.c1, .slice m.A2 m.n2 m.c2, .slice A n c, .int .i64 (day), .int .i64 (pos)] by repeat' (first | exact K0_1.out | exact Blk.at_ _ (by first | rfl | (simp; done) | (simp; omega)) _ _ | refine Blk.drewN ?_ _ | refine Blk.drew ?_ | refine Blk.alloc ?_ _ | refine Blk.far ?_ (by first | omega | (simp; done) | (simp; omega)) _ | assumption)))
  have hL2 := Lib.hid (show Below w1.heap.size w1 _ from reads_mid hb (by repeat' (first | exact Below.refl _ _ | refine below_drewN ?_ _ | refine Below.drew ?_ | refine Below.alloc ?_ (by first | omega | (simp; done) | (simp; omega) | (simp [World.setCell]; omega)) _ | refine Below.setCell ?_ (by first | omega | (simp; done) | (simp; omega)) _)))
  have R0_2 := Lib.hid (reads_lay hb hL2.out R0_1.out)
  have R1_2 := Lib.hid (mnt_lay hb hL2.out R1_1.out)
  clear hL2 R0_1 R1_1
  have hz2 := hb.size
  try simp only [World.size_alloc, World.drewN, World.drew] at hz2
  clear hb K0_1 z0_0_1 z0_1_1 z0_2_1 z0_3_1 z0_4_1 z0_5_1 z0_6_1 z0_7_1 z0_8_1 z0_9_1 l0_1
  have l0_2 : w.heap.size < w2.heap.size := K0_2.out.lt
  have z0_0_2 : w2.cell? ⟨w.heap.size, 0, none⟩ = some (.int .i64 (m.ls)) := K0_2.out.cell 0
  have z0_1_2 : w2.cell? ⟨w.heap.size, 1, none⟩ = some (.int .i64 (m.ms)) := K0_2.out.cell 1
  have z0_2_2 : w2.cell? ⟨w.heap.size, 2, none⟩ = some (.int .i64 (m.lo)) := K0_2.out.cell 2
  have z0_3_2 : w2.cell? ⟨w.heap.size, 3, none⟩ = some (.int .i64 (m.hi)) := K0_2.out.cell 3
  have z0_4_2 : w2.cell? ⟨w.heap.size, 4, none⟩ = some (.int .i64 (m.sp)) := K0_2.out.cell 4
  have z0_5_2 : w2.cell? ⟨w.heap.size, 5, none⟩ = some (.slice m.A1 m.n1 m.c1) := K0_2.out.cell 5
  have z0_6_2 : w2.cell? ⟨w.heap.size, 6, none⟩ = some (.slice m.A2 m.n2 m.c2) := K0_2.out.cell 6
  have z0_7_2 : w2.cell? ⟨w.heap.size, 7, none⟩ = some (.slice A n c) := K0_2.out.cell 7
  have z0_8_2 : w2.cell? ⟨w.heap.size, 8, none⟩ = some (.int .i64 (day)) := K0_2.out.cell 8
  have z0_9_2 : w2.cell? ⟨w.heap.size, 9, none⟩ = some (.int .i64 (pos)) := K0_2.out.cell 9
  go_wp2
  refine Fx.regionM (fun W g f w' => Kp (PfT m n l 0 [] 2 5 98) W g w') (valT m n 0 2 5) (by kernel_rfl) ?_ ?_
  · intro f hf0
    exact Kp.start
  first
  | (refine Fx.WM.skip 0 (by rfl) (by kernel_rfl) (by kernel_rfl) (by kernel_rfl) (by rfl) (fun g f w h => h) ?_; simp only [Act.put, List.setIfInBounds_toArray, List.set_cons_zero, List.set_cons_succ])
  | (refine Fx.WM.val_ 0 ?_ (by rfl) (by kernel_rfl) (by kernel_rfl) (by kernel_rfl) (by rfl) ?_ (fun g f w h => h) ?_
     rotate_left
     · intro g f w' hx hD hk
       obtain hkp := id hD
       have y0_0 := (K0_2.out.below hkp.bel l0_2).cell 0
       have y0_1 := (K0_2.out.below hkp.bel l0_2).cell 1
       have y0_2 := (K0_2.out.below hkp.bel l0_2).cell 2
       have y0_3 := (K0_2.out.below hkp.bel l0_2).cell 3
       have y0_4 := (K0_2.out.below hkp.bel l0_2).cell 4
       have y0_5 := (K0_2.out.below hkp.bel l0_2).cell 5
       have y0_6 := (K0_2.out.below hkp.bel l0_2).cell 6
       have y0_7 := (K0_2.out.below hkp.bel l0_2).cell 7
       have y0_8 := (K0_2.out.below hkp.bel l0_2).cell 8
       have y0_9 := (K0_2.out.below hkp.bel l0_2).cell 9
       clear hx hk hD hkp
       go_simp
       try rfl
     simp only [Act.put, List.setIfInBounds_toArray, List.set_cons_zero, List.set_cons_succ])
  first
  | (refine Fx.WM.skip 1 (by rfl) (by kernel_rfl) (by kernel_rfl) (by kernel_rfl) (by rfl) (fun g f w h => h) ?_; simp only [Act.put, List.setIfInBounds_toArray, List.set_cons_zero, List.set_cons_succ])
  | (refine Fx.WM.val_ 1 ?_ (by rfl) (by kernel_rfl) (by kernel_rfl) (by kernel_rfl) (by rfl) ?_ (fun g f w h => h) ?_
     rotate_left
     · intro g f w' hx hD hk
       obtain hkp := id hD
       have y0_0 := (K0_2.out.below hkp.bel l0_2).cell 0
       have y0_1 := (K0_2.out.below hkp.bel l0_2).cell 1
       have y0_2 := (K0_2.out.below hkp.bel l0_2).cell 2
       have y0_3 := (K0_2.out.below hkp.bel l0_2).cell 3
       have y0_4 := (K0_2.out.below hkp.bel l0_2).cell 4
       have y0_5 := (K0_2.out.below hkp.bel l0_2).cell 5
       have y0_6 := (K0_2.out.below hkp.bel l0_2).cell 6
       have y0_7 := (K0_2.out.below hkp.bel l0_2).cell 7
       have y0_8 := (K0_2.out.below hkp.bel l0_2).cell 8
       have y0_9 := (K0_2.out.below hkp.bel l0_2).cell 9
       clear hx hk hD hkp
       go_simp
       try rfl
     simp only [Act.put, List.setIfInBounds_toArray, List.set_cons_zero, List.set_cons_succ])
  first
  | (refine Fx.WM.skip 3 (by rfl) (by kernel_rfl) (by kernel_rfl) (by kernel_rfl) (by rfl) (fun g f w h => h) ?_; simp only [Act.put, List.setIfInBounds_toArray, List.set_cons_zero, List.set_cons_succ])
  | (refine Fx.WM.val_ 3 ?_ (by rfl) (by kernel_rfl) (by kernel_rfl) (by kernel_rfl) (by rfl) ?_ (fun g f w h => h) ?_
     rotate_left
     · intro g f w' hx hD hk
       obtain hkp := id hD
       have y0_0 := (K0_2.out.below hkp.bel l0_2).cell 0
       have y0_1 := (K0_2.out.below hkp.bel l0_2).cell 1
       have y0_2 := (K0_2.out.below hkp.bel l0_2).cell 2
       have y0_3 := (K0_2.out.below hkp.bel l0_2).cell 3
       have y0_4 := (K0_2.out.below hkp.bel l0_2).cell 4
       have y0_5 := (K0_2.out.below hkp.bel l0_2).cell 5
       have y0_6 := (K0_2.out.below hkp.bel l0_2).cell 6
       have y0_7 := (K0_2.out.below hkp.bel l0_2).cell 7
       have y0_8 := (K0_2.out.below hkp.bel l0_2).cell 8
       have y0_9 := (K0_2.out.below hkp.bel l0_2).cell 9
       clear hx hk hD hkp
       go_simp
       try rfl
     simp only [Act.put, List.setIfInBounds_toArray, List.set_cons_zero, List.set_cons_succ])
  first
  | (refine Fx.WM.skip 4 (by rfl) (by kernel_rfl) (by kernel_rfl) (by kernel_rfl) (by rfl) (fun g f w h => h) ?_; simp only [Act.put, List.setIfInBounds_toArray, List.set_cons_zero, List.set_cons_succ])
  | (refine Fx.WM.val_ 4 ?_ (by rfl) (by kernel_rfl) (by kernel_rfl) (by kernel_rfl) (by rfl) ?_ (fun g f w h => h) ?_
     rotate_left
     · intro g f w' hx hD hk
       obtain hkp := id hD
       have y0_0 := (K0_2.out.below hkp.bel l0_2).cell 0
       have y0_1 := (K0_2.out.below hkp.bel l0_2).cell 1
       have y0_2 := (K0_2.out.below hkp.bel l0_2).cell 2
       have y0_3 := (K0_2.out.below hkp.bel l0_2).cell 3
       have y0_4 := (K0_2.out.below hkp.bel l0_2).cell 4
       have y0_5 := (K0_2.out.below hkp.bel l0_2).cell 5
       have y0_6 := (K0_2.out.below hkp.bel l0_2).cell 6
       have y0_7 := (K0_2.out.below hkp.bel l0_2).cell 7
       have y0_8 := (K0_2.out.below hkp.bel l0_2).cell 8
       have y0_9 := (K0_2.out.below hkp.bel l0_2).cell 9
       clear hx hk hD hkp
       go_simp
       try rfl
     simp only [Act.put, List.setIfInBounds_toArray, List.set_cons_zero, List.set_cons_succ])
  first
  | (refine Fx.WM.skip 6 (by rfl) (by kernel_rfl) (by kernel_rfl) (by kernel_rfl) (by rfl) (fun g f w h => h) ?_; simp only [Act.put, List.setIfInBounds_toArray, List.set_cons_zero, List.set_cons_succ])
  | (refine Fx.WM.val_ 6 ?_ (by rfl) (by kernel_rfl) (by kernel_rfl) (by kernel_rfl) (by rfl) ?_ (fun g f w h => h) ?_
     rotate_left
     · intro g f w' hx hD hk
       obtain hkp := id hD
       have y0_0 := (K0_2.out.below hkp.bel l0_2).cell 0
       have y0_1 := (K0_2.out.below hkp.bel l0_2).cell 1
       have y0_2 := (K0_2.out.below hkp.bel l0_2).cell 2
       have y0_3 := (K0_2.out.below hkp.bel l0_2).cell 3
       have y0_4 := (K0_2.out.below hkp.bel l0_2).cell 4
       have y0_5 := (K0_2.out.below hkp.bel l0_2).cell 5
       have y0_6 := (K0_2.out.below hkp.bel l0_2).cell 6
       have y0_7 := (K0_2.out.below hkp.bel l0_2).cell 7
       have y0_8 := (K0_2.out.below hkp.bel l0_2).cell 8
       have y0_9 := (K0_2.out.below hkp.bel l0_2).cell 9
       clear hx hk hD hkp
       go_simp
       try rfl
     simp only [Act.put, List.setIfInBounds_toArray, List.set_cons_zero, List.set_cons_succ])
  first
  | (refine Fx.WM.skip 7 (by rfl) (by kernel_rfl) (by kernel_rfl) (by kernel_rfl) (by rfl) (fun g f w h => h) ?_; simp only [Act.put, List.setIfInBounds_toArray, List.set_cons_zero, List.set_cons_succ])
  | (refine Fx.WM.val_ 7 ?_ (by rfl) (by kernel_rfl) (by kernel_rfl) (by kernel_rfl) (by rfl) ?_ (fun g f w h => h) ?_
     rotate_left
     · intro g f w' hx hD hk
       obtain hkp := id hD
       have y0_0 := (K0_2.out.below hkp.bel l0_2).cell 0
       have y0_1 := (K0_2.out.below hkp.bel l0_2).cell 1
       have y0_2 := (K0_2.out.below hkp.bel l0_2).cell 2
       have y0_3 := (K0_2.out.below hkp.bel l0_2).cell 3
       have y0_4 := (K0_2.out.below hkp.bel l0_2).cell 4
       have y0_5 := (K0_2.out.below hkp.bel l0_2).cell 5
       have y0_6 := (K0_2.out.below hkp.bel l0_2).cell 6
       have y0_7 := (K0_2.out.below hkp.bel l0_2).cell 7
       have y0_8 := (K0_2.out.below hkp.bel l0_2).cell 8
       have y0_9 := (K0_2.out.below hkp.bel l0_2).cell 9
       clear hx hk hD hkp
       go_simp
       try rfl
     simp only [Act.put, List.setIfInBounds_toArray, List.set_cons_zero, List.set_cons_succ])
  refine Fx.WM.choose 2 (by rfl) (by kernel_rfl) (by rfl) ?_ ?_
  · skip
    refine Fx.Chooses.call ?_ ?_ (by rfl) ?_ ?_
    rotate_left 2
    · intro w'
      go_simp
      refine ⟨?_, ?_⟩ <;> rfl
    · intro f w' hD hk
      exact (mount_any m w' (R1_2.out.lay hD.bel) (by omega) (by omega)).mono fun e w'' ⟨A', c', B', d', he, hb, hm⟩ => ⟨((A', c'), (B', d')), he, hD.choose PfT.stb hb 2 _ ⟨fun _ => hm, fun e => absurd e (by decide), fun e => absurd e (by decide)⟩⟩
  intro x
  simp only [Act.put, List.setIfInBounds_toArray, List.set_cons_zero, List.set_cons_succ]
  refine Fx.WM.choose 5 (by rfl) (by kernel_rfl) (by rfl) ?_ ?_
  · skip
    refine Fx.Chooses.call ?_ ?_ (by rfl) ?_ ?_
    rotate_left 2
    · intro w'
      go_simp
      refine ⟨?_, ?_⟩ <;> rfl
    · intro f w' hD hk
      exact (ctargets_any A n c w'.heap.size l w' (((R0_2.out.below hD.bel).more hD.bel.size)) (Nat.le_refl _) (by omega)).mono fun e w'' ⟨A', c', he, hb, hr, ho⟩ => ⟨((A', c'), (none, 0)), he, hD.choose PfT.stb hb 5 _ ⟨fun e => absurd e (by decide), fun _ => ⟨hr, own_cap ho⟩, fun e => absurd e (by decide)⟩⟩
  intro y
  simp only [Act.put, List.setIfInBounds_toArray, List.set_cons_zero, List.set_cons_succ]
  refine Fx.WM.call 8 (.tuple #[.slice none 0 0, .int .i64 (0), .int .i64 (E)]) ?_ ?_ (by rfl) (by kernel_rfl) (by kernel_rfl) (by kernel_rfl) (by rfl) ?_ ?_ ?_
  rotate_left 2
  · intro w'
    go_simp
    refine ⟨?_, ?_⟩ <;> rfl
  · intro g f w' hx hD hk
    exact (porder_bad (m.to x.1.1 x.1.2 x.2.1 x.2.2) day pos l y.1.1 n y.1.2 E (congrArg Prod.snd HE.out) HE0.out w' ((hD.has 2 x (hx 2 _ (by rfl))).1 rfl) ((hD.has 5 y (hx 5 _ (by rfl))).2.1 rfl).1 ((hD.has 5 y (hx 5 _ (by rfl))).2.1 rfl).2 HF.out).mono fun e w'' ⟨he, hw⟩ => ⟨he, hD.call PfT.stb hw⟩
  simp only [Act.put, List.setIfInBounds_toArray, List.set_cons_zero, List.set_cons_succ]
  first
  | (refine Fx.WM.skip 9 (by rfl) (by kernel_rfl) (by kernel_rfl) (by kernel_rfl) (by rfl) (fun g f w h => h) ?_; simp only [Act.put, List.setIfInBounds_toArray, List.set_cons_zero, List.set_cons_succ])
  | (refine Fx.WM.val_ 9 ?_ (by rfl) (by kernel_rfl) (by kernel_rfl) (by kernel_rfl) (by rfl) ?_ (fun g f w h => h) ?_
     rotate_left
     · intro g f w' hx hD hk
       obtain hkp := id hD
       clear hx hk hD hkp
       go_simp
       try rfl
     simp only [Act.put, List.setIfInBounds_toArray, List.set_cons_zero, List.set_cons_succ])
  first
  | (refine Fx.WM.skip 10 (by rfl) (by kernel_rfl) (by kernel_rfl) (by kernel_rfl) (by rfl) (fun g f w h => h) ?_; simp only [Act.put, List.setIfInBounds_toArray, List.set_cons_zero, List.set_cons_succ])
  | (refine Fx.WM.val_ 10 ?_ (by rfl) (by kernel_rfl) (by kernel_rfl) (by kernel_rfl) (by rfl) ?_ (fun g f w h => h) ?_
     rotate_left
     · intro g f w' hx hD hk
       obtain hkp := id hD
       clear hx hk hD hkp
       go_simp
       try rfl
     simp only [Act.put, List.setIfInBounds_toArray, List.set_cons_zero, List.set_cons_succ])
  first
  | (refine Fx.WM.skip 11 (by rfl) (by kernel_rfl) (by kernel_rfl) (by kernel_rfl) (by rfl) (fun g f w h => h) ?_; simp only [Act.put, List.setIfInBounds_toArray, List.set_cons_zero, List.set_cons_succ])
  | (refine Fx.WM.val_ 11 ?_ (by rfl) (by kernel_rfl) (by kernel_rfl) (by kernel_rfl) (by rfl) ?_ (fun g f w h => h) ?_
     rotate_left
     · intro g f w' hx hD hk
       obtain hkp := id hD
       clear hx hk hD hkp
       go_simp
       try rfl
     simp only [Act.put, List.setIfInBounds_toArray, List.set_cons_zero, List.set_cons_succ])
  first
  | (refine Fx.WM.skip 12 (by rfl) (by kernel_rfl) (by kernel_rfl) (by kernel_rfl) (by rfl) (fun g f w h => h) ?_; simp only [Act.put, List.setIfInBounds_toArray, List.set_cons_zero, List.set_cons_succ])
  | (refine Fx.WM.val_ 12 ?_ (by rfl) (by kernel_rfl) (by kernel_rfl) (by kernel_rfl) (by rfl) ?_ (fun g f w h => h) ?_
     rotate_left
     · intro g f w' hx hD hk
       obtain hkp := id hD
       clear hx hk hD hkp
       go_simp
       try rfl
     simp only [Act.put, List.setIfInBounds_toArray, List.set_cons_zero, List.set_cons_succ])
  first
  | (refine Fx.WM.skip 13 (by rfl) (by kernel_rfl) (by kernel_rfl) (by kernel_rfl) (by rfl) (fun g f w h => h) ?_; simp only [Act.put, List.setIfInBounds_toArray, List.set_cons_zero, List.set_cons_succ])
  | (refine Fx.WM.val_ 13 ?_ (by rfl) (by kernel_rfl) (by kernel_rfl) (by kernel_rfl) (by rfl) ?_ (fun g f w h => h) ?_
     rotate_left
     · intro g f w' hx hD hk
       obtain hkp := id hD
       clear hx hk hD hkp
       go_simp
       try rfl
     simp only [Act.put, List.setIfInBounds_toArray, List.set_cons_zero, List.set_cons_succ])
  first
  | (refine Fx.WM.skip 14 (by rfl) (by kernel_rfl) (by kernel_rfl) (by kernel_rfl) (by rfl) (fun g f w h => h) ?_; simp only [Act.put, List.setIfInBounds_toArray, List.set_cons_zero, List.set_cons_succ])
  | (refine Fx.WM.val_ 14 ?_ (by rfl) (by kernel_rfl) (by kernel_rfl) (by kernel_rfl) (by rfl) ?_ (fun g f w h => h) ?_
     rotate_left
     · intro g f w' hx hD hk
       obtain hkp := id hD
       clear hx hk hD hkp
       go_simp
       try rfl
     simp only [Act.put, List.setIfInBounds_toArray, List.set_cons_zero, List.set_cons_succ])
  first
  | (refine Fx.WM.skip 15 (by rfl) (by kernel_rfl) (by kernel_rfl) (by kernel_rfl) (by rfl) (fun g f w h => h) ?_; simp only [Act.put, List.setIfInBounds_toArray, List.set_cons_zero, List.set_cons_succ])
  | (refine Fx.WM.val_ 15 ?_ (by rfl) (by kernel_rfl) (by kernel_rfl) (by kernel_rfl) (by rfl) ?_ (fun g f w h => h) ?_
     rotate_left
     · intro g f w' hx hD hk
       obtain hkp := id hD
       clear hx hk hD hkp
       go_simp
       try rfl
     simp only [Act.put, List.setIfInBounds_toArray, List.set_cons_zero, List.set_cons_succ])
  refine Fx.WM.nil (by kernel_rfl) ?_
  intro wz hkp
  have hb := hkp.bel
  clear hkp
  obtain ⟨w3, hnm⟩ : ∃ z : World, z = wz := ⟨_, rfl⟩
  subst hnm
  have HB3 := Lib.hid (show Below w.heap.size w w3 from step_below hb (by repeat' (first | exact Below.refl _ _ | exact HB2.out | refine below_drewN ?_ _ | refine Below.drew ?_ | refine Below.alloc ?_ (by first | omega | (simp; done) | (simp; omega) | (simp [World.setCell]; omega)) _ | refine Below.setCell ?_ (by first | omega | (simp; done) | (simp; omega)) _ | assumption)))
  have K0_3 := Lib.hid (step_blk hb (show Blk _ (w.heap.size) 28 #[.int .i64 (m.ls), .int .i64 (m.ms), .int .i64 (m.lo), .int .i64 (m.hi), .int .i64 (m.sp), .slice m.A1 m.n1 m.c1, .slice m.A2 m.n2 m.c2, .slice A n c, .int .i64 (day), .int .i64 (pos)] by repeat' (first | exact K0_2.out | exact Blk.at_ _ (by first | rfl | (simp; done) | (simp; omega)) _ _ | refine Blk.drewN ?_ _ | refine Blk.drew ?_ | refine Blk.alloc ?_ _ | refine Blk.far ?_ (by first | omega | (simp; done) | (simp; omega)) _ | assumption)))
  have hL3 := Lib.hid (show Below w2.heap.size w2 _ from reads_mid hb (by repeat' (first | exact Below.refl _ _ | refine below_drewN ?_ _ | refine Below.drew ?_ | refine Below.alloc ?_ (by first | omega | (simp; done) | (simp; omega) | (simp [World.setCell]; omega)) _ | refine Below.setCell ?_ (by first | omega | (simp; done) | (simp; omega)) _)))
  have R0_3 := Lib.hid (reads_lay hb hL3.out R0_2.out)
  have R1_3 := Lib.hid (mnt_lay hb hL3.out R1_2.out)
  clear hL3 R0_2 R1_2
  have hz3 := hb.size
  try simp only [World.size_alloc, World.drewN, World.drew] at hz3
  clear hb K0_2 z0_0_2 z0_1_2 z0_2_2 z0_3_2 z0_4_2 z0_5_2 z0_6_2 z0_7_2 z0_8_2 z0_9_2 l0_2
  have l0_3 : w.heap.size < w3.heap.size := K0_3.out.lt
  have z0_0_3 : w3.cell? ⟨w.heap.size, 0, none⟩ = some (.int .i64 (m.ls)) := K0_3.out.cell 0
  have z0_1_3 : w3.cell? ⟨w.heap.size, 1, none⟩ = some (.int .i64 (m.ms)) := K0_3.out.cell 1
  have z0_2_3 : w3.cell? ⟨w.heap.size, 2, none⟩ = some (.int .i64 (m.lo)) := K0_3.out.cell 2
  have z0_3_3 : w3.cell? ⟨w.heap.size, 3, none⟩ = some (.int .i64 (m.hi)) := K0_3.out.cell 3
  have z0_4_3 : w3.cell? ⟨w.heap.size, 4, none⟩ = some (.int .i64 (m.sp)) := K0_3.out.cell 4
  have z0_5_3 : w3.cell? ⟨w.heap.size, 5, none⟩ = some (.slice m.A1 m.n1 m.c1) := K0_3.out.cell 5
  have z0_6_3 : w3.cell? ⟨w.heap.size, 6, none⟩ = some (.slice m.A2 m.n2 m.c2) := K0_3.out.cell 6
  have z0_7_3 : w3.cell? ⟨w.heap.size, 7, none⟩ = some (.slice A n c) := K0_3.out.cell 7
  have z0_8_3 : w3.cell? ⟨w.heap.size, 8, none⟩ = some (.int .i64 (day)) := K0_3.out.cell 8
  have z0_9_3 : w3.cell? ⟨w.heap.size, 9, none⟩ = some (.int .i64 (pos)) := K0_3.out.cell 9
  go_wp2_with fail
  refine (rtour_is m day pos l A n c i E HE.out _ R1_3.out R0_3.out (by omega) HF.out).mono ?_
  rintro e w4 ⟨rfl, hb⟩
  have HB4 := Lib.hid (show Below w.heap.size w w4 from step_below hb (by repeat' (first | exact Below.refl _ _ | exact HB3.out | refine below_drewN ?_ _ | refine Below.drew ?_ | refine Below.alloc ?_ (by first | omega | (simp; done) | (simp; omega) | (simp [World.setCell]; omega)) _ | refine Below.setCell ?_ (by first | omega | (simp; done) | (simp; omega)) _ | assumption)))
  have K0_4 := Lib.hid (step_blk hb (show Blk _ (w.heap.size) 28 #[.int .i64 (m.ls), .int .i64 (m.ms), .int .i64 (m.lo), .int .i64 (m.hi), .int .i64 (m.sp), .slice m.A1 m.n1 m.c1, .slice m.A2 m.n2 m.c2, .slice A n c, .int .i64 (day), .int .i64 (pos)] by repeat' (first | exact K0_3.out | exact Blk.at_ _ (by first | rfl | (simp; done) | (simp; omega)) _ _ | refine Blk.drewN ?_ _ | refine Blk.drew ?_ | refine Blk.alloc ?_ _ | refine Blk.far ?_ (by first | omega | (simp; done) | (simp; omega)) _ | assumption)))
  have hL4 := Lib.hid (show Below w3.heap.size w3 _ from reads_mid hb (by repeat' (first | exact Below.refl _ _ | refine below_drewN ?_ _ | refine Below.drew ?_ | refine Below.alloc ?_ (by first | omega | (simp; done) | (simp; omega) | (simp [World.setCell]; omega)) _ | refine Below.setCell ?_ (by first | omega | (simp; done) | (simp; omega)) _)))
  have R0_4 := Lib.hid (reads_lay hb hL4.out R0_3.out)
  have R1_4 := Lib.hid (mnt_lay hb hL4.out R1_3.out)
  clear hL4 R0_3 R1_3
  have hz4 := hb.size
  try simp only [World.size_alloc, World.drewN, World.drew] at hz4
  clear hb K0_3 z0_0_3 z0_1_3 z0_2_3 z0_3_3 z0_4_3 z0_5_3 z0_6_3 z0_7_3 z0_8_3 z0_9_3 l0_3
  have l0_4 : w.heap.size < w4.heap.size := K0_4.out.lt
  have z0_0_4 : w4.cell? ⟨w.heap.size, 0, none⟩ = some (.int .i64 (m.ls)) := K0_4.out.cell 0
  have z0_1_4 : w4.cell? ⟨w.heap.size, 1, none⟩ = some (.int .i64 (m.ms)) := K0_4.out.cell 1
  have z0_2_4 : w4.cell? ⟨w.heap.size, 2, none⟩ = some (.int .i64 (m.lo)) := K0_4.out.cell 2
  have z0_3_4 : w4.cell? ⟨w.heap.size, 3, none⟩ = some (.int .i64 (m.hi)) := K0_4.out.cell 3
  have z0_4_4 : w4.cell? ⟨w.heap.size, 4, none⟩ = some (.int .i64 (m.sp)) := K0_4.out.cell 4
  have z0_5_4 : w4.cell? ⟨w.heap.size, 5, none⟩ = some (.slice m.A1 m.n1 m.c1) := K0_4.out.cell 5
  have z0_6_4 : w4.cell? ⟨w.heap.size, 6, none⟩ = some (.slice m.A2 m.n2 m.c2) := K0_4.out.cell 6
  have z0_7_4 : w4.cell? ⟨w.heap.size, 7, none⟩ = some (.slice A n c) := K0_4.out.cell 7
  have z0_8_4 : w4.cell? ⟨w.heap.size, 8, none⟩ = some (.int .i64 (day)) := K0_4.out.cell 8
  have z0_9_4 : w4.cell? ⟨w.heap.size, 9, none⟩ = some (.int .i64 (pos)) := K0_4.out.cell 9
  go_wp2
  go_ret
  exact ⟨rfl, by repeat' (first | exact Below.refl _ _ | exact HB4.out | refine below_drewN ?_ _ | refine Below.drew ?_ | refine Below.alloc ?_ (by first | omega | (simp; done) | (simp; omega) | (simp [World.setCell]; omega)) _ | refine Below.setCell ?_ (by first | omega | (simp; done) | (simp; omega)) _ | assumption)⟩

set_option maxRecDepth 100000 in
set_option maxHeartbeats 4000000 in
theorem lawOR_ok (m : Mnt) (A : Option Addr) (n c : Nat) (l : List Tgt) (day pos : Int) (w : World) (hx : TourIn m A n c l day pos w) (hl : shortB m l = true) (h5 : n ≠ 5) (hT : (tourF m l day pos).2 = 0) :
    Calls Try.prog 3 #[tourV m A n c day pos] w fun e w' => e = .returned (.bool true) ∧ Below w.heap.size w w' := by
  have hma := hx.mnt.at_
  have hrd := hx.rd
  have hfit := hx.fit
  have hlen := hx.len
  have hnc := hx.hn.1
  have hcc := hx.hn.2
  unfold tourV
  clear hx
  obtain ⟨-, hn1, hn2, hn23⟩ := short_parts hl
  obtain ⟨-, -, -, hl20, -⟩ := tour_right hT
  have hln : l.length = n := hrd.tlen
  have hn5 : n ≤ 5 := by rw [← hln]; exact few_short hl hl20
  obtain ⟨V, hV⟩ : ∃ V, leastC m day pos l = V := ⟨_, rfl⟩
  obtain ⟨⟨o, v⟩, hF, hy1, hy2, hy3⟩ := best_is (costO m day pos l) (n := n)
  have hol : o.length = n := by have := (leaves_ord (n := n) (f := n) (o := []) ⟨by simp, by simp⟩ _ hy2).1; simpa using this
  have hvV : v ≤ V := by
    have h1 : costO m day pos l (List.range n) = V := by rw [← hV, ← hln]; show leastC m day pos (permT l (List.range l.length)) = _; rw [perm_range]
    rw [h1] at hy3
    exact hy3
  have HL := Lib.hid hl
  have HFI := Lib.hid hfit
  have HF := Lib.hid hfit
  have HE := Lib.hid (tour_zero hT)
  have HZ0 := Lib.hid hT
  have HV := Lib.hid hV
  have HN := Lib.hid hln
  have HFO := Lib.hid hF
  have HOL := Lib.hid hol
  have HRL := Lib.hid (RightL.of hT)
  have e5 : ((n : Int) == 5) = false := by rw [beq_eq_false_iff_ne]; omega
  have hn20 : n ≤ 20 := by omega
  have q0 : ((0 : Int) != 0) = false := by decide
  have q1 : (v == v) = true := by simp
  have q2 : decide (v ≤ V) = true := decide_eq_true hvV
  clear hl hfit hT hV hln hF hy1 hy2 hy3 hol h5 hvV
  go_enter Try.func3, Try.ntmps3
  have R0_0 := Lib.hid hrd
  clear hrd
  have R1_0 := Lib.hid hma
  clear hma
  go_wp2_with fail
  refine (awakept_any _).mono ?_
  rintro e w1 ⟨rfl, hb⟩
  have HB1 := Lib.hid (show Below w.heap.size w w1 from step_below hb (by repeat' (first | exact Below.refl _ _ | exact HB0.out | refine below_drewN ?_ _ | refine Below.drew ?_ | refine Below.alloc ?_ (by first | omega | (simp; done) | (simp; omega) | (simp [World.setCell]; omega)) _ | refine Below.setCell ?_ (by first | omega | (simp; done) | (simp; omega)) _ | assumption)))
  have K0_1 := Lib.hid (step_blk hb (show Blk _ (w.heap.size) 28 #[.int .i64 (m.ls), .int .i64 (m.ms), .int .i64 (m.lo), .int .i64 (m.hi), .int .i64 (m.sp), .slice m.A1 m.n1 m.c1, .slice m.A2 m.n2 m.c2, .slice A n c, .int .i64 (day), .int .i64 (pos)] by repeat' (first | exact Blk.at_ _ (by first | rfl | (simp; done) | (simp; omega)) _ _ | refine Blk.drewN ?_ _ | refine Blk.drew ?_ | refine Blk.alloc ?_ _ | refine Blk.far ?_ (by first | omega | (simp; done) | (simp; omega)) _ | assumption)))
  have hL1 := Lib.hid (show Below w.heap.size w _ from reads_mid hb (by repeat' (first | exact Below.refl _ _ | refine below_drewN ?_ _ | refine Below.drew ?_ | refine Below.alloc ?_ (by first | omega | (simp; done) | (simp; omega) | (simp [World.setCell]; omega)) _ | refine Below.setCell ?_ (by first | omega | (simp; done) | (simp; omega)) _)))
  have R0_1 := Lib.hid (reads_lay hb hL1.out R0_0.out)
  have R1_1 := Lib.hid (mnt_lay hb hL1.out R1_0.out)
  clear hL1 R0_0 R1_0
  have hz1 := hb.size
  try simp only [World.size_alloc, World.drewN, World.drew] at hz1
  clear hb
  have l0_1 : w.heap.size < w1.heap.size := K0_1.out.lt
  have z0_0_1 : w1.cell? ⟨w.heap.size, 0, none⟩ = some (.int .i64 (m.ls)) := K0_1.out.cell 0
  have z0_1_1 : w1.cell? ⟨w.heap.size, 1, none⟩ = some (.int .i64 (m.ms)) := K0_1.out.cell 1
  have z0_2_1 : w1.cell? ⟨w.heap.size, 2, none⟩ = some (.int .i64 (m.lo)) := K0_1.out.cell 2
  have z0_3_1 : w1.cell? ⟨w.heap.size, 3, none⟩ = some (.int .i64 (m.hi)) := K0_1.out.cell 3
  have z0_4_1 : w1.cell? ⟨w.heap.size, 4, none⟩ = some (.int .i64 (m.sp)) := K0_1.out.cell 4
  have z0_5_1 : w1.cell? ⟨w.heap.size, 5, none⟩ = some (.slice m.A1 m.n1 m.c1) := K0_1.out.cell 5
  have z0_6_1 : w1.cell? ⟨w.heap.size, 6, none⟩ = some (.slice m.A2 m.n2 m.c2) := K0_1.out.cell 6
  have z0_7_1 : w1.cell? ⟨w.heap.size, 7, none⟩ = some (.slice A n c) := K0_1.out.cell 7
  have z0_8_1 : w1.cell? ⟨w.heap.size, 8, none⟩ = some (.int .i64 (day)) := K0_1.out.cell 8
  have z0_9_1 : w1.cell? ⟨w.heap.size, 9, none⟩ = some (.int .i64 (pos)) := K0_1.out.cell 9
  go_wp2_with fail
  refine (shortp_is m A n c _ l day pos true HL.out _ R0_1.out (Nat.le_refl _) (by omega)).mono ?_
  rintro e w2 ⟨rfl, hb⟩
  have HB2 := Lib.hid (show Below w.heap.size w w2 from step_below hb (by repeat' (first | exact Below.refl _ _ | exact HB1.out | refine below_drewN ?_ _ | refine Below.drew ?_ | refine Below.alloc ?_ (by first | omega | (simp; done) | (simp; omega) | (simp [World.setCell]; omega)) _ | refine Below.setCell ?_ (by first | omega | (simp; done) | (simp; omega)) _ | assumption)))
  have K0_2 := Lib.hid (step_blk hb (show Blk _ (w.heap.size) 28 #[.int .i64 (m.ls), .int .i64 (m.ms), .int .i64 (m.lo), .int .i64 (m.hi), .int .i64 (m.sp), .slice m.A1 m.n1 m.c1, .slice m.A2 m.n2 m.c2, .slice A n c, .int .i64 (day), .int .i64 (pos)] by repeat' (first | exact K0_1.out | exact Blk.at_ _ (by first | rfl | (simp; done) | (simp; omega)) _ _ | refine Blk.drewN ?_ _ | refine Blk.drew ?_ | refine Blk.alloc ?_ _ | refine Blk.far ?_ (by first | omega | (simp; done) | (simp; omega)) _ | assumption)))
  have hL2 := Lib.hid (show Below w1.heap.size w1 _ from reads_mid hb (by repeat' (first | exact Below.refl _ _ | refine below_drewN ?_ _ | refine Below.drew ?_ | refine Below.alloc ?_ (by first | omega | (simp; done) | (simp; omega) | (simp [World.setCell]; omega)) _ | refine Below.setCell ?_ (by first | omega | (simp; done) | (simp; omega)) _)))
  have R0_2 := Lib.hid (reads_lay hb hL2.out R0_1.out)
  have R1_2 := Lib.hid (mnt_lay hb hL2.out R1_1.out)
  clear hL2 R0_1 R1_1
  have hz2 := hb.size
  try simp only [World.size_alloc, World.drewN, World.drew] at hz2
  clear hb K0_1 z0_0_1 z0_1_1 z0_2_1 z0_3_1 z0_4_1 z0_5_1 z0_6_1 z0_7_1 z0_8_1 z0_9_1 l0_1
  have l0_2 : w.heap.size < w2.heap.size := K0_2.out.lt
  have z0_0_2 : w2.cell? ⟨w.heap.size, 0, none⟩ = some (.int .i64 (m.ls)) := K0_2.out.cell 0
  have z0_1_2 : w2.cell? ⟨w.heap.size, 1, none⟩ = some (.int .i64 (m.ms)) := K0_2.out.cell 1
  have z0_2_2 : w2.cell? ⟨w.heap.size, 2, none⟩ = some (.int .i64 (m.lo)) := K0_2.out.cell 2
  have z0_3_2 : w2.cell? ⟨w.heap.size, 3, none⟩ = some (.int .i64 (m.hi)) := K0_2.out.cell 3
  have z0_4_2 : w2.cell? ⟨w.heap.size, 4, none⟩ = some (.int .i64 (m.sp)) := K0_2.out.cell 4
  have z0_5_2 : w2.cell? ⟨w.heap.size, 5, none⟩ = some (.slice m.A1 m.n1 m.c1) := K0_2.out.cell 5
  have z0_6_2 : w2.cell? ⟨w.heap.size, 6, none⟩ = some (.slice m.A2 m.n2 m.c2) := K0_2.out.cell 6
  have z0_7_2 : w2.cell? ⟨w.heap.size, 7, none⟩ = some (.slice A n c) := K0_2.out.cell 7
  have z0_8_2 : w2.cell? ⟨w.heap.size, 8, none⟩ = some (.int .i64 (day)) := K0_2.out.cell 8
  have z0_9_2 : w2.cell? ⟨w.heap.size, 9, none⟩ = some (.int .i64 (pos)) := K0_2.out.cell 9
  go_wp2
  refine Fx.regionM (fun W g f w' => Kp (PfT m n l n (ordI o) 2 5 8) W g w') (fun i (x : Pick2) => if i = 8 then .tuple #[.slice x.1.1 n x.1.2, .int .i64 v, .int .i64 0] else valT m n 0 2 5 i x) (by kernel_rfl) ?_ ?_
  · intro f hf0
    exact Kp.start
  first
  | (refine Fx.WM.skip 0 (by rfl) (by kernel_rfl) (by kernel_rfl) (by kernel_rfl) (by rfl) (fun g f w h => h) ?_; simp only [Act.put, List.setIfInBounds_toArray, List.set_cons_zero, List.set_cons_succ])
  | (refine Fx.WM.val_ 0 ?_ (by rfl) (by kernel_rfl) (by kernel_rfl) (by kernel_rfl) (by rfl) ?_ (fun g f w h => h) ?_
     rotate_left
     · intro g f w' hx hD hk
       obtain hkp := id hD
       have y0_0 := (K0_2.out.below hkp.bel l0_2).cell 0
       have y0_1 := (K0_2.out.below hkp.bel l0_2).cell 1
       have y0_2 := (K0_2.out.below hkp.bel l0_2).cell 2
       have y0_3 := (K0_2.out.below hkp.bel l0_2).cell 3
       have y0_4 := (K0_2.out.below hkp.bel l0_2).cell 4
       have y0_5 := (K0_2.out.below hkp.bel l0_2).cell 5
       have y0_6 := (K0_2.out.below hkp.bel l0_2).cell 6
       have y0_7 := (K0_2.out.below hkp.bel l0_2).cell 7
       have y0_8 := (K0_2.out.below hkp.bel l0_2).cell 8
       have y0_9 := (K0_2.out.below hkp.bel l0_2).cell 9
       clear hx hk hD hkp
       go_simp
       try rfl
     simp only [Act.put, List.setIfInBounds_toArray, List.set_cons_zero, List.set_cons_succ])
  first
  | (refine Fx.WM.skip 1 (by rfl) (by kernel_rfl) (by kernel_rfl) (by kernel_rfl) (by rfl) (fun g f w h => h) ?_; simp only [Act.put, List.setIfInBounds_toArray, List.set_cons_zero, List.set_cons_succ])
  | (refine Fx.WM.val_ 1 ?_ (by rfl) (by kernel_rfl) (by kernel_rfl) (by kernel_rfl) (by rfl) ?_ (fun g f w h => h) ?_
     rotate_left
     · intro g f w' hx hD hk
       obtain hkp := id hD
       have y0_0 := (K0_2.out.below hkp.bel l0_2).cell 0
       have y0_1 := (K0_2.out.below hkp.bel l0_2).cell 1
       have y0_2 := (K0_2.out.below hkp.bel l0_2).cell 2
       have y0_3 := (K0_2.out.below hkp.bel l0_2).cell 3
       have y0_4 := (K0_2.out.below hkp.bel l0_2).cell 4
       have y0_5 := (K0_2.out.below hkp.bel l0_2).cell 5
       have y0_6 := (K0_2.out.below hkp.bel l0_2).cell 6
       have y0_7 := (K0_2.out.below hkp.bel l0_2).cell 7
       have y0_8 := (K0_2.out.below hkp.bel l0_2).cell 8
       have y0_9 := (K0_2.out.below hkp.bel l0_2).cell 9
       clear hx hk hD hkp
       go_simp
       try rfl
     simp only [Act.put, List.setIfInBounds_toArray, List.set_cons_zero, List.set_cons_succ])
  first
  | (refine Fx.WM.skip 3 (by rfl) (by kernel_rfl) (by kernel_rfl) (by kernel_rfl) (by rfl) (fun g f w h => h) ?_; simp only [Act.put, List.setIfInBounds_toArray, List.set_cons_zero, List.set_cons_succ])
  | (refine Fx.WM.val_ 3 ?_ (by rfl) (by kernel_rfl) (by kernel_rfl) (by kernel_rfl) (by rfl) ?_ (fun g f w h => h) ?_
     rotate_left
     · intro g f w' hx hD hk
       obtain hkp := id hD
       have y0_0 := (K0_2.out.below hkp.bel l0_2).cell 0
       have y0_1 := (K0_2.out.below hkp.bel l0_2).cell 1
       have y0_2 := (K0_2.out.below hkp.bel l0_2).cell 2
       have y0_3 := (K0_2.out.below hkp.bel l0_2).cell 3
       have y0_4 := (K0_2.out.below hkp.bel l0_2).cell 4
       have y0_5 := (K0_2.out.below hkp.bel l0_2).cell 5
       have y0_6 := (K0_2.out.below hkp.bel l0_2).cell 6
       have y0_7 := (K0_2.out.below hkp.bel l0_2).cell 7
       have y0_8 := (K0_2.out.below hkp.bel l0_2).cell 8
       have y0_9 := (K0_2.out.below hkp.bel l0_2).cell 9
       clear hx hk hD hkp
       go_simp
       try rfl
     simp only [Act.put, List.setIfInBounds_toArray, List.set_cons_zero, List.set_cons_succ])
  first
  | (refine Fx.WM.skip 4 (by rfl) (by kernel_rfl) (by kernel_rfl) (by kernel_rfl) (by rfl) (fun g f w h => h) ?_; simp only [Act.put, List.setIfInBounds_toArray, List.set_cons_zero, List.set_cons_succ])
  | (refine Fx.WM.val_ 4 ?_ (by rfl) (by kernel_rfl) (by kernel_rfl) (by kernel_rfl) (by rfl) ?_ (fun g f w h => h) ?_
     rotate_left
     · intro g f w' hx hD hk
       obtain hkp := id hD
       have y0_0 := (K0_2.out.below hkp.bel l0_2).cell 0
       have y0_1 := (K0_2.out.below hkp.bel l0_2).cell 1
       have y0_2 := (K0_2.out.below hkp.bel l0_2).cell 2
       have y0_3 := (K0_2.out.below hkp.bel l0_2).cell 3
       have y0_4 := (K0_2.out.below hkp.bel l0_2).cell 4
       have y0_5 := (K0_2.out.below hkp.bel l0_2).cell 5
       have y0_6 := (K0_2.out.below hkp.bel l0_2).cell 6
       have y0_7 := (K0_2.out.below hkp.bel l0_2).cell 7
       have y0_8 := (K0_2.out.below hkp.bel l0_2).cell 8
       have y0_9 := (K0_2.out.below hkp.bel l0_2).cell 9
       clear hx hk hD hkp
       go_simp
       try rfl
     simp only [Act.put, List.setIfInBounds_toArray, List.set_cons_zero, List.set_cons_succ])
  first
  | (refine Fx.WM.skip 6 (by rfl) (by kernel_rfl) (by kernel_rfl) (by kernel_rfl) (by rfl) (fun g f w h => h) ?_; simp only [Act.put, List.setIfInBounds_toArray, List.set_cons_zero, List.set_cons_succ])
  | (refine Fx.WM.val_ 6 ?_ (by rfl) (by kernel_rfl) (by kernel_rfl) (by kernel_rfl) (by rfl) ?_ (fun g f w h => h) ?_
     rotate_left
     · intro g f w' hx hD hk
       obtain hkp := id hD
       have y0_0 := (K0_2.out.below hkp.bel l0_2).cell 0
       have y0_1 := (K0_2.out.below hkp.bel l0_2).cell 1
       have y0_2 := (K0_2.out.below hkp.bel l0_2).cell 2
       have y0_3 := (K0_2.out.below hkp.bel l0_2).cell 3
       have y0_4 := (K0_2.out.below hkp.bel l0_2).cell 4
       have y0_5 := (K0_2.out.below hkp.bel l0_2).cell 5
       have y0_6 := (K0_2.out.below hkp.bel l0_2).cell 6
       have y0_7 := (K0_2.out.below hkp.bel l0_2).cell 7
       have y0_8 := (K0_2.out.below hkp.bel l0_2).cell 8
       have y0_9 := (K0_2.out.below hkp.bel l0_2).cell 9
       clear hx hk hD hkp
       go_simp
       try rfl
     simp only [Act.put, List.setIfInBounds_toArray, List.set_cons_zero, List.set_cons_succ])
  first
  | (refine Fx.WM.skip 7 (by rfl) (by kernel_rfl) (by kernel_rfl) (by kernel_rfl) (by rfl) (fun g f w h => h) ?_; simp only [Act.put, List.setIfInBounds_toArray, List.set_cons_zero, List.set_cons_succ])
  | (refine Fx.WM.val_ 7 ?_ (by rfl) (by kernel_rfl) (by kernel_rfl) (by kernel_rfl) (by rfl) ?_ (fun g f w h => h) ?_
     rotate_left
     · intro g f w' hx hD hk
       obtain hkp := id hD
       have y0_0 := (K0_2.out.below hkp.bel l0_2).cell 0
       have y0_1 := (K0_2.out.below hkp.bel l0_2).cell 1
       have y0_2 := (K0_2.out.below hkp.bel l0_2).cell 2
       have y0_3 := (K0_2.out.below hkp.bel l0_2).cell 3
       have y0_4 := (K0_2.out.below hkp.bel l0_2).cell 4
       have y0_5 := (K0_2.out.below hkp.bel l0_2).cell 5
       have y0_6 := (K0_2.out.below hkp.bel l0_2).cell 6
       have y0_7 := (K0_2.out.below hkp.bel l0_2).cell 7
       have y0_8 := (K0_2.out.below hkp.bel l0_2).cell 8
       have y0_9 := (K0_2.out.below hkp.bel l0_2).cell 9
       clear hx hk hD hkp
       go_simp
       try rfl
     simp only [Act.put, List.setIfInBounds_toArray, List.set_cons_zero, List.set_cons_succ])
  refine Fx.WM.choose 2 (by rfl) (by kernel_rfl) (by rfl) ?_ ?_
  · skip
    refine Fx.Chooses.call ?_ ?_ (by rfl) ?_ ?_
    rotate_left 2
    · intro w'
      go_simp
      refine ⟨?_, ?_⟩ <;> rfl
    · intro f w' hD hk
      exact (mount_any m w' (R1_2.out.lay hD.bel) (by omega) (by omega)).mono fun e w'' ⟨A', c', B', d', he, hb, hm⟩ => ⟨((A', c'), (B', d')), he, hD.choose PfT.stb hb 2 _ ⟨fun _ => hm, fun e => absurd e (by decide), fun e => absurd e (by decide)⟩⟩
  intro x
  simp only [Act.put, List.setIfInBounds_toArray, List.set_cons_zero, List.set_cons_succ]
  refine Fx.WM.choose 5 (by rfl) (by kernel_rfl) (by rfl) ?_ ?_
  · skip
    refine Fx.Chooses.call ?_ ?_ (by rfl) ?_ ?_
    rotate_left 2
    · intro w'
      go_simp
      refine ⟨?_, ?_⟩ <;> rfl
    · intro f w' hD hk
      exact (ctargets_any A n c w'.heap.size l w' (((R0_2.out.below hD.bel).more hD.bel.size)) (Nat.le_refl _) (by omega)).mono fun e w'' ⟨A', c', he, hb, hr, ho⟩ => ⟨((A', c'), (none, 0)), he, hD.choose PfT.stb hb 5 _ ⟨fun e => absurd e (by decide), fun _ => ⟨hr, own_cap ho⟩, fun e => absurd e (by decide)⟩⟩
  intro y
  simp only [Act.put, List.setIfInBounds_toArray, List.set_cons_zero, List.set_cons_succ]
  refine Fx.WM.choose 8 (by rfl) (by kernel_rfl) (by rfl) ?_ ?_
  · skip
    refine Fx.Chooses.call ?_ ?_ (by rfl) ?_ ?_
    rotate_left 2
    · intro w'
      go_simp
      refine ⟨?_, ?_⟩ <;> rfl
    · intro f w' hD hk
      exact (porder_like x.1.1 x.2.1 x.1.2 x.2.2 y.1.1 y.1.2 o v HFO.out HOL.out (by omega) HZ0.out w' ((hD.has 2 x (by rfl)).1 rfl) ((hD.has 5 y (by rfl)).2.1 rfl).1 ((hD.has 5 y (by rfl)).2.1 rfl).2 HF.out).mono fun e w'' ⟨A', c', he, hb, hr, ho⟩ => ⟨((A', c'), (none, 0)), he, hD.choose PfT.stb hb 8 _ ⟨fun e => absurd e (by decide), fun e => absurd e (by decide), fun _ => ⟨hr, ho⟩⟩⟩
  intro z
  simp only [Act.put, List.setIfInBounds_toArray, List.set_cons_zero, List.set_cons_succ]
  first
  | (refine Fx.WM.skip 9 (by rfl) (by kernel_rfl) (by kernel_rfl) (by kernel_rfl) (by rfl) (fun g f w h => h) ?_; simp only [Act.put, List.setIfInBounds_toArray, List.set_cons_zero, List.set_cons_succ])
  | (refine Fx.WM.val_ 9 ?_ (by rfl) (by kernel_rfl) (by kernel_rfl) (by kernel_rfl) (by rfl) ?_ (fun g f w h => h) ?_
     rotate_left
     · intro g f w' hx hD hk
       obtain hkp := id hD
       clear hx hk hD hkp
       go_simp
       try rfl
     simp only [Act.put, List.setIfInBounds_toArray, List.set_cons_zero, List.set_cons_succ])
  first
  | (refine Fx.WM.skip 10 (by rfl) (by kernel_rfl) (by kernel_rfl) (by kernel_rfl) (by rfl) (fun g f w h => h) ?_; simp only [Act.put, List.setIfInBounds_toArray, List.set_cons_zero, List.set_cons_succ])
  | (refine Fx.WM.val_ 10 ?_ (by rfl) (by kernel_rfl) (by kernel_rfl) (by kernel_rfl) (by rfl) ?_ (fun g f w h => h) ?_
     rotate_left
     · intro g f w' hx hD hk
       obtain hkp := id hD
       clear hx hk hD hkp
       go_simp
       try rfl
     simp only [Act.put, List.setIfInBounds_toArray, List.set_cons_zero, List.set_cons_succ])
  first
  | (refine Fx.WM.skip 11 (by rfl) (by kernel_rfl) (by kernel_rfl) (by kernel_rfl) (by rfl) (fun g f w h => h) ?_; simp only [Act.put, List.setIfInBounds_toArray, List.set_cons_zero, List.set_cons_succ])
  | (refine Fx.WM.val_ 11 ?_ (by rfl) (by kernel_rfl) (by kernel_rfl) (by kernel_rfl) (by rfl) ?_ (fun g f w h => h) ?_
     rotate_left
     · intro g f w' hx hD hk
       obtain hkp := id hD
       clear hx hk hD hkp
       go_simp
       try rfl
     simp only [Act.put, List.setIfInBounds_toArray, List.set_cons_zero, List.set_cons_succ])
  first
  | (refine Fx.WM.skip 12 (by rfl) (by kernel_rfl) (by kernel_rfl) (by kernel_rfl) (by rfl) (fun g f w h => h) ?_; simp only [Act.put, List.setIfInBounds_toArray, List.set_cons_zero, List.set_cons_succ])
  | (refine Fx.WM.val_ 12 ?_ (by rfl) (by kernel_rfl) (by kernel_rfl) (by kernel_rfl) (by rfl) ?_ (fun g f w h => h) ?_
     rotate_left
     · intro g f w' hx hD hk
       obtain hkp := id hD
       clear hx hk hD hkp
       go_simp
       try rfl
     simp only [Act.put, List.setIfInBounds_toArray, List.set_cons_zero, List.set_cons_succ])
  first
  | (refine Fx.WM.skip 13 (by rfl) (by kernel_rfl) (by kernel_rfl) (by kernel_rfl) (by rfl) (fun g f w h => h) ?_; simp only [Act.put, List.setIfInBounds_toArray, List.set_cons_zero, List.set_cons_succ])
  | (refine Fx.WM.val_ 13 ?_ (by rfl) (by kernel_rfl) (by kernel_rfl) (by kernel_rfl) (by rfl) ?_ (fun g f w h => h) ?_
     rotate_left
     · intro g f w' hx hD hk
       obtain hkp := id hD
       clear hx hk hD hkp
       go_simp
       try rfl
     simp only [Act.put, List.setIfInBounds_toArray, List.set_cons_zero, List.set_cons_succ])
  first
  | (refine Fx.WM.skip 14 (by rfl) (by kernel_rfl) (by kernel_rfl) (by kernel_rfl) (by rfl) (fun g f w h => h) ?_; simp only [Act.put, List.setIfInBounds_toArray, List.set_cons_zero, List.set_cons_succ])
  | (refine Fx.WM.val_ 14 ?_ (by rfl) (by kernel_rfl) (by kernel_rfl) (by kernel_rfl) (by rfl) ?_ (fun g f w h => h) ?_
     rotate_left
     · intro g f w' hx hD hk
       obtain hkp := id hD
       clear hx hk hD hkp
       go_simp
       try rfl
     simp only [Act.put, List.setIfInBounds_toArray, List.set_cons_zero, List.set_cons_succ])
  first
  | (refine Fx.WM.skip 15 (by rfl) (by kernel_rfl) (by kernel_rfl) (by kernel_rfl) (by rfl) (fun g f w h => h) ?_; simp only [Act.put, List.setIfInBounds_toArray, List.set_cons_zero, List.set_cons_succ])
  | (refine Fx.WM.val_ 15 ?_ (by rfl) (by kernel_rfl) (by kernel_rfl) (by kernel_rfl) (by rfl) ?_ (fun g f w h => h) ?_
     rotate_left
     · intro g f w' hx hD hk
       obtain hkp := id hD
       clear hx hk hD hkp
       go_simp
       try rfl
     simp only [Act.put, List.setIfInBounds_toArray, List.set_cons_zero, List.set_cons_succ])
  refine Fx.WM.nil (by kernel_rfl) ?_
  intro wz hkp
  obtain ⟨⟨zA, zc⟩, z2⟩ := z
  have hb := hkp.bel
  have hrz := ((hkp.has 8 _ (by rfl)).2.2 rfl).1
  clear hkp
  simp only at hrz
  obtain ⟨w3, hnm⟩ : ∃ z : World, z = wz := ⟨_, rfl⟩
  subst hnm
  have HB3 := Lib.hid (show Below w.heap.size w w3 from step_below hb (by repeat' (first | exact Below.refl _ _ | exact HB2.out | refine below_drewN ?_ _ | refine Below.drew ?_ | refine Below.alloc ?_ (by first | omega | (simp; done) | (simp; omega) | (simp [World.setCell]; omega)) _ | refine Below.setCell ?_ (by first | omega | (simp; done) | (simp; omega)) _ | assumption)))
  have K0_3 := Lib.hid (step_blk hb (show Blk _ (w.heap.size) 28 #[.int .i64 (m.ls), .int .i64 (m.ms), .int .i64 (m.lo), .int .i64 (m.hi), .int .i64 (m.sp), .slice m.A1 m.n1 m.c1, .slice m.A2 m.n2 m.c2, .slice A n c, .int .i64 (day), .int .i64 (pos)] by repeat' (first | exact K0_2.out | exact Blk.at_ _ (by first | rfl | (simp; done) | (simp; omega)) _ _ | refine Blk.drewN ?_ _ | refine Blk.drew ?_ | refine Blk.alloc ?_ _ | refine Blk.far ?_ (by first | omega | (simp; done) | (simp; omega)) _ | assumption)))
  have hL3 := Lib.hid (show Below w2.heap.size w2 _ from reads_mid hb (by repeat' (first | exact Below.refl _ _ | refine below_drewN ?_ _ | refine Below.drew ?_ | refine Below.alloc ?_ (by first | omega | (simp; done) | (simp; omega) | (simp [World.setCell]; omega)) _ | refine Below.setCell ?_ (by first | omega | (simp; done) | (simp; omega)) _)))
  have R0_3 := Lib.hid (reads_lay hb hL3.out R0_2.out)
  have R1_3 := Lib.hid (mnt_lay hb hL3.out R1_2.out)
  clear hL3 R0_2 R1_2
  have hz3 := hb.size
  try simp only [World.size_alloc, World.drewN, World.drew] at hz3
  clear hb K0_2 z0_0_2 z0_1_2 z0_2_2 z0_3_2 z0_4_2 z0_5_2 z0_6_2 z0_7_2 z0_8_2 z0_9_2 l0_2
  have l0_3 : w.heap.size < w3.heap.size := K0_3.out.lt
  have z0_0_3 : w3.cell? ⟨w.heap.size, 0, none⟩ = some (.int .i64 (m.ls)) := K0_3.out.cell 0
  have z0_1_3 : w3.cell? ⟨w.heap.size, 1, none⟩ = some (.int .i64 (m.ms)) := K0_3.out.cell 1
  have z0_2_3 : w3.cell? ⟨w.heap.size, 2, none⟩ = some (.int .i64 (m.lo)) := K0_3.out.cell 2
  have z0_3_3 : w3.cell? ⟨w.heap.size, 3, none⟩ = some (.int .i64 (m.hi)) := K0_3.out.cell 3
  have z0_4_3 : w3.cell? ⟨w.heap.size, 4, none⟩ = some (.int .i64 (m.sp)) := K0_3.out.cell 4
  have z0_5_3 : w3.cell? ⟨w.heap.size, 5, none⟩ = some (.slice m.A1 m.n1 m.c1) := K0_3.out.cell 5
  have z0_6_3 : w3.cell? ⟨w.heap.size, 6, none⟩ = some (.slice m.A2 m.n2 m.c2) := K0_3.out.cell 6
  have z0_7_3 : w3.cell? ⟨w.heap.size, 7, none⟩ = some (.slice A n c) := K0_3.out.cell 7
  have z0_8_3 : w3.cell? ⟨w.heap.size, 8, none⟩ = some (.int .i64 (day)) := K0_3.out.cell 8
  have z0_9_3 : w3.cell? ⟨w.heap.size, 9, none⟩ = some (.int .i64 (pos)) := K0_3.out.cell 9
  have R2_3 := Lib.hid hrz
  clear hrz
  go_wp2_with fail
  refine (rtour_is m day pos l A n c 0 0 HE.out _ R1_3.out R0_3.out (by omega) HF.out).mono ?_
  rintro e w4 ⟨rfl, hb⟩
  have HB4 := Lib.hid (show Below w.heap.size w w4 from step_below hb (by repeat' (first | exact Below.refl _ _ | exact HB3.out | refine below_drewN ?_ _ | refine Below.drew ?_ | refine Below.alloc ?_ (by first | omega | (simp; done) | (simp; omega) | (simp [World.setCell]; omega)) _ | refine Below.setCell ?_ (by first | omega | (simp; done) | (simp; omega)) _ | assumption)))
  have K0_4 := Lib.hid (step_blk hb (show Blk _ (w.heap.size) 28 #[.int .i64 (m.ls), .int .i64 (m.ms), .int .i64 (m.lo), .int .i64 (m.hi), .int .i64 (m.sp), .slice m.A1 m.n1 m.c1, .slice m.A2 m.n2 m.c2, .slice A n c, .int .i64 (day), .int .i64 (pos)] by repeat' (first | exact K0_3.out | exact Blk.at_ _ (by first | rfl | (simp; done) | (simp; omega)) _ _ | refine Blk.drewN ?_ _ | refine Blk.drew ?_ | refine Blk.alloc ?_ _ | refine Blk.far ?_ (by first | omega | (simp; done) | (simp; omega)) _ | assumption)))
  have hL4 := Lib.hid (show Below w3.heap.size w3 _ from reads_mid hb (by repeat' (first | exact Below.refl _ _ | refine below_drewN ?_ _ | refine Below.drew ?_ | refine Below.alloc ?_ (by first | omega | (simp; done) | (simp; omega) | (simp [World.setCell]; omega)) _ | refine Below.setCell ?_ (by first | omega | (simp; done) | (simp; omega)) _)))
  have R0_4 := Lib.hid (reads_lay hb hL4.out R0_3.out)
  have R1_4 := Lib.hid (mnt_lay hb hL4.out R1_3.out)
  have R2_4 := Lib.hid (reads_lay hb hL4.out R2_3.out)
  clear hL4 R0_3 R1_3 R2_3
  have hz4 := hb.size
  try simp only [World.size_alloc, World.drewN, World.drew] at hz4
  clear hb K0_3 z0_0_3 z0_1_3 z0_2_3 z0_3_3 z0_4_3 z0_5_3 z0_6_3 z0_7_3 z0_8_3 z0_9_3 l0_3
  have l0_4 : w.heap.size < w4.heap.size := K0_4.out.lt
  have z0_0_4 : w4.cell? ⟨w.heap.size, 0, none⟩ = some (.int .i64 (m.ls)) := K0_4.out.cell 0
  have z0_1_4 : w4.cell? ⟨w.heap.size, 1, none⟩ = some (.int .i64 (m.ms)) := K0_4.out.cell 1
  have z0_2_4 : w4.cell? ⟨w.heap.size, 2, none⟩ = some (.int .i64 (m.lo)) := K0_4.out.cell 2
  have z0_3_4 : w4.cell? ⟨w.heap.size, 3, none⟩ = some (.int .i64 (m.hi)) := K0_4.out.cell 3
  have z0_4_4 : w4.cell? ⟨w.heap.size, 4, none⟩ = some (.int .i64 (m.sp)) := K0_4.out.cell 4
  have z0_5_4 : w4.cell? ⟨w.heap.size, 5, none⟩ = some (.slice m.A1 m.n1 m.c1) := K0_4.out.cell 5
  have z0_6_4 : w4.cell? ⟨w.heap.size, 6, none⟩ = some (.slice m.A2 m.n2 m.c2) := K0_4.out.cell 6
  have z0_7_4 : w4.cell? ⟨w.heap.size, 7, none⟩ = some (.slice A n c) := K0_4.out.cell 7
  have z0_8_4 : w4.cell? ⟨w.heap.size, 8, none⟩ = some (.int .i64 (day)) := K0_4.out.cell 8
  have z0_9_4 : w4.cell? ⟨w.heap.size, 9, none⟩ = some (.int .i64 (pos)) := K0_4.out.cell 9
  go_wp2_with fail
  refine (rbesto_is m day pos l A n c HRL.out HN.out o v HFO.out HOL.out _ R1_4.out R0_4.out).mono ?_
  rintro e w5 ⟨rA, rc, rfl, hb, hrr⟩
  have HB5 := Lib.hid (show Below w.heap.size w w5 from step_below hb (by repeat' (first | exact Below.refl _ _ | exact HB4.out | refine below_drewN ?_ _ | refine Below.drew ?_ | refine Below.alloc ?_ (by first | omega | (simp; done) | (simp; omega) | (simp [World.setCell]; omega)) _ | refine Below.setCell ?_ (by first | omega | (simp; done) | (simp; omega)) _ | assumption)))
  have K0_5 := Lib.hid (step_blk hb (show Blk _ (w.heap.size) 28 #[.int .i64 (m.ls), .int .i64 (m.ms), .int .i64 (m.lo), .int .i64 (m.hi), .int .i64 (m.sp), .slice m.A1 m.n1 m.c1, .slice m.A2 m.n2 m.c2, .slice A n c, .int .i64 (day), .int .i64 (pos)] by repeat' (first | exact K0_4.out | exact Blk.at_ _ (by first | rfl | (simp; done) | (simp; omega)) _ _ | refine Blk.drewN ?_ _ | refine Blk.drew ?_ | refine Blk.alloc ?_ _ | refine Blk.far ?_ (by first | omega | (simp; done) | (simp; omega)) _ | assumption)))
  have hL5 := Lib.hid (show Below w4.heap.size w4 _ from reads_mid hb (by repeat' (first | exact Below.refl _ _ | refine below_drewN ?_ _ | refine Below.drew ?_ | refine Below.alloc ?_ (by first | omega | (simp; done) | (simp; omega) | (simp [World.setCell]; omega)) _ | refine Below.setCell ?_ (by first | omega | (simp; done) | (simp; omega)) _)))
  have R0_5 := Lib.hid (reads_lay hb hL5.out R0_4.out)
  have R1_5 := Lib.hid (mnt_lay hb hL5.out R1_4.out)
  have R2_5 := Lib.hid (reads_lay hb hL5.out R2_4.out)
  clear hL5 R0_4 R1_4 R2_4
  have hz5 := hb.size
  try simp only [World.size_alloc, World.drewN, World.drew] at hz5
  clear hb K0_4 z0_0_4 z0_1_4 z0_2_4 z0_3_4 z0_4_4 z0_5_4 z0_6_4 z0_7_4 z0_8_4 z0_9_4 l0_4
  have l0_5 : w.heap.size < w5.heap.size := K0_5.out.lt
  have z0_0_5 : w5.cell? ⟨w.heap.size, 0, none⟩ = some (.int .i64 (m.ls)) := K0_5.out.cell 0
  have z0_1_5 : w5.cell? ⟨w.heap.size, 1, none⟩ = some (.int .i64 (m.ms)) := K0_5.out.cell 1
  have z0_2_5 : w5.cell? ⟨w.heap.size, 2, none⟩ = some (.int .i64 (m.lo)) := K0_5.out.cell 2
  have z0_3_5 : w5.cell? ⟨w.heap.size, 3, none⟩ = some (.int .i64 (m.hi)) := K0_5.out.cell 3
  have z0_4_5 : w5.cell? ⟨w.heap.size, 4, none⟩ = some (.int .i64 (m.sp)) := K0_5.out.cell 4
  have z0_5_5 : w5.cell? ⟨w.heap.size, 5, none⟩ = some (.slice m.A1 m.n1 m.c1) := K0_5.out.cell 5
  have z0_6_5 : w5.cell? ⟨w.heap.size, 6, none⟩ = some (.slice m.A2 m.n2 m.c2) := K0_5.out.cell 6
  have z0_7_5 : w5.cell? ⟨w.heap.size, 7, none⟩ = some (.slice A n c) := K0_5.out.cell 7
  have z0_8_5 : w5.cell? ⟨w.heap.size, 8, none⟩ = some (.int .i64 (day)) := K0_5.out.cell 8
  have z0_9_5 : w5.cell? ⟨w.heap.size, 9, none⟩ = some (.int .i64 (pos)) := K0_5.out.cell 9
  have R3_5 := Lib.hid hrr
  clear hrr
  go_wp2
  apply share5 (Fact := fun (_ _ u z : Pick2) (wz : World) => ∃ bx, z.1.1 = some ⟨bx, 0, none⟩ ∧ w5.heap.size ≤ bx ∧ Below w5.heap.size w5 wz ∧ Blk wz bx 43 #[.slice u.1.1 n u.1.2, .slice u.2.1 n u.2.2] ∧ ChQ m day pos l u wz)
  · intro key
    refine Fx.regionM (fun W g f w' => KpG (PfT m n l 0 [] 2 5 98) (ChQ m day pos l) 43 (fun z => .slice z.1.1 n z.1.2) (fun z => .slice z.2.1 n z.2.2) 13 14 8 W g f w') (fun i (x : Pick2) => if i = 8 then .tuple #[.agg #[.slice x.1.1 n x.1.2, .slice x.2.1 n x.2.2], .int .i64 V, .int .i64 0] else if i = 13 then .pointer x.1.1 else valT m n 0 2 5 i x) (by kernel_rfl) ?_ ?_
    · intro f hf0
      exact KpG.start
    first
    | (refine Fx.WM.skip 0 (by rfl) (by kernel_rfl) (by kernel_rfl) (by kernel_rfl) (by rfl) (fun g f w h => h.same (by decide)) ?_; simp only [Act.put, List.setIfInBounds_toArray, List.set_cons_zero, List.set_cons_succ])
    | (refine Fx.WM.val_ 0 ?_ (by rfl) (by kernel_rfl) (by kernel_rfl) (by kernel_rfl) (by rfl) ?_ (fun g f w h => h.same (by decide)) ?_
       rotate_left
       · intro g f w' hx hD hk
         obtain hkp := id hD
         have y0_0 := (K0_5.out.below hkp.bel l0_5).cell 0
         have y0_1 := (K0_5.out.below hkp.bel l0_5).cell 1
         have y0_2 := (K0_5.out.below hkp.bel l0_5).cell 2
         have y0_3 := (K0_5.out.below hkp.bel l0_5).cell 3
         have y0_4 := (K0_5.out.below hkp.bel l0_5).cell 4
         have y0_5 := (K0_5.out.below hkp.bel l0_5).cell 5
         have y0_6 := (K0_5.out.below hkp.bel l0_5).cell 6
         have y0_7 := (K0_5.out.below hkp.bel l0_5).cell 7
         have y0_8 := (K0_5.out.below hkp.bel l0_5).cell 8
         have y0_9 := (K0_5.out.below hkp.bel l0_5).cell 9
         clear hx hk hD hkp
         go_simp
         try rfl
       simp only [Act.put, List.setIfInBounds_toArray, List.set_cons_zero, List.set_cons_succ])
    first
    | (refine Fx.WM.skip 1 (by rfl) (by kernel_rfl) (by kernel_rfl) (by kernel_rfl) (by rfl) (fun g f w h => h.same (by decide)) ?_; simp only [Act.put, List.setIfInBounds_toArray, List.set_cons_zero, List.set_cons_succ])
    | (refine Fx.WM.val_ 1 ?_ (by rfl) (by kernel_rfl) (by kernel_rfl) (by kernel_rfl) (by rfl) ?_ (fun g f w h => h.same (by decide)) ?_
       rotate_left
       · intro g f w' hx hD hk
         obtain hkp := id hD
         have y0_0 := (K0_5.out.below hkp.bel l0_5).cell 0
         have y0_1 := (K0_5.out.below hkp.bel l0_5).cell 1
         have y0_2 := (K0_5.out.below hkp.bel l0_5).cell 2
         have y0_3 := (K0_5.out.below hkp.bel l0_5).cell 3
         have y0_4 := (K0_5.out.below hkp.bel l0_5).cell 4
         have y0_5 := (K0_5.out.below hkp.bel l0_5).cell 5
         have y0_6 := (K0_5.out.below hkp.bel l0_5).cell 6
         have y0_7 := (K0_5.out.below hkp.bel l0_5).cell 7
         have y0_8 := (K0_5.out.below hkp.bel l0_5).cell 8
         have y0_9 := (K0_5.out.below hkp.bel l0_5).cell 9
         clear hx hk hD hkp
         go_simp
         try rfl
       simp only [Act.put, List.setIfInBounds_toArray, List.set_cons_zero, List.set_cons_succ])
    first
    | (refine Fx.WM.skip 3 (by rfl) (by kernel_rfl) (by kernel_rfl) (by kernel_rfl) (by rfl) (fun g f w h => h.same (by decide)) ?_; simp only [Act.put, List.setIfInBounds_toArray, List.set_cons_zero, List.set_cons_succ])
    | (refine Fx.WM.val_ 3 ?_ (by rfl) (by kernel_rfl) (by kernel_rfl) (by kernel_rfl) (by rfl) ?_ (fun g f w h => h.same (by decide)) ?_
       rotate_left
       · intro g f w' hx hD hk
         obtain hkp := id hD
         have y0_0 := (K0_5.out.below hkp.bel l0_5).cell 0
         have y0_1 := (K0_5.out.below hkp.bel l0_5).cell 1
         have y0_2 := (K0_5.out.below hkp.bel l0_5).cell 2
         have y0_3 := (K0_5.out.below hkp.bel l0_5).cell 3
         have y0_4 := (K0_5.out.below hkp.bel l0_5).cell 4
         have y0_5 := (K0_5.out.below hkp.bel l0_5).cell 5
         have y0_6 := (K0_5.out.below hkp.bel l0_5).cell 6
         have y0_7 := (K0_5.out.below hkp.bel l0_5).cell 7
         have y0_8 := (K0_5.out.below hkp.bel l0_5).cell 8
         have y0_9 := (K0_5.out.below hkp.bel l0_5).cell 9
         clear hx hk hD hkp
         go_simp
         try rfl
       simp only [Act.put, List.setIfInBounds_toArray, List.set_cons_zero, List.set_cons_succ])
    first
    | (refine Fx.WM.skip 4 (by rfl) (by kernel_rfl) (by kernel_rfl) (by kernel_rfl) (by rfl) (fun g f w h => h.same (by decide)) ?_; simp only [Act.put, List.setIfInBounds_toArray, List.set_cons_zero, List.set_cons_succ])
    | (refine Fx.WM.val_ 4 ?_ (by rfl) (by kernel_rfl) (by kernel_rfl) (by kernel_rfl) (by rfl) ?_ (fun g f w h => h.same (by decide)) ?_
       rotate_left
       · intro g f w' hx hD hk
         obtain hkp := id hD
         have y0_0 := (K0_5.out.below hkp.bel l0_5).cell 0
         have y0_1 := (K0_5.out.below hkp.bel l0_5).cell 1
         have y0_2 := (K0_5.out.below hkp.bel l0_5).cell 2
         have y0_3 := (K0_5.out.below hkp.bel l0_5).cell 3
         have y0_4 := (K0_5.out.below hkp.bel l0_5).cell 4
         have y0_5 := (K0_5.out.below hkp.bel l0_5).cell 5
         have y0_6 := (K0_5.out.below hkp.bel l0_5).cell 6
         have y0_7 := (K0_5.out.below hkp.bel l0_5).cell 7
         have y0_8 := (K0_5.out.below hkp.bel l0_5).cell 8
         have y0_9 := (K0_5.out.below hkp.bel l0_5).cell 9
         clear hx hk hD hkp
         go_simp
         try rfl
       simp only [Act.put, List.setIfInBounds_toArray, List.set_cons_zero, List.set_cons_succ])
    first
    | (refine Fx.WM.skip 6 (by rfl) (by kernel_rfl) (by kernel_rfl) (by kernel_rfl) (by rfl) (fun g f w h => h.same (by decide)) ?_; simp only [Act.put, List.setIfInBounds_toArray, List.set_cons_zero, List.set_cons_succ])
    | (refine Fx.WM.val_ 6 ?_ (by rfl) (by kernel_rfl) (by kernel_rfl) (by kernel_rfl) (by rfl) ?_ (fun g f w h => h.same (by decide)) ?_
       rotate_left
       · intro g f w' hx hD hk
         obtain hkp := id hD
         have y0_0 := (K0_5.out.below hkp.bel l0_5).cell 0
         have y0_1 := (K0_5.out.below hkp.bel l0_5).cell 1
         have y0_2 := (K0_5.out.below hkp.bel l0_5).cell 2
         have y0_3 := (K0_5.out.below hkp.bel l0_5).cell 3
         have y0_4 := (K0_5.out.below hkp.bel l0_5).cell 4
         have y0_5 := (K0_5.out.below hkp.bel l0_5).cell 5
         have y0_6 := (K0_5.out.below hkp.bel l0_5).cell 6
         have y0_7 := (K0_5.out.below hkp.bel l0_5).cell 7
         have y0_8 := (K0_5.out.below hkp.bel l0_5).cell 8
         have y0_9 := (K0_5.out.below hkp.bel l0_5).cell 9
         clear hx hk hD hkp
         go_simp
         try rfl
       simp only [Act.put, List.setIfInBounds_toArray, List.set_cons_zero, List.set_cons_succ])
    first
    | (refine Fx.WM.skip 7 (by rfl) (by kernel_rfl) (by kernel_rfl) (by kernel_rfl) (by rfl) (fun g f w h => h.same (by decide)) ?_; simp only [Act.put, List.setIfInBounds_toArray, List.set_cons_zero, List.set_cons_succ])
    | (refine Fx.WM.val_ 7 ?_ (by rfl) (by kernel_rfl) (by kernel_rfl) (by kernel_rfl) (by rfl) ?_ (fun g f w h => h.same (by decide)) ?_
       rotate_left
       · intro g f w' hx hD hk
         obtain hkp := id hD
         have y0_0 := (K0_5.out.below hkp.bel l0_5).cell 0
         have y0_1 := (K0_5.out.below hkp.bel l0_5).cell 1
         have y0_2 := (K0_5.out.below hkp.bel l0_5).cell 2
         have y0_3 := (K0_5.out.below hkp.bel l0_5).cell 3
         have y0_4 := (K0_5.out.below hkp.bel l0_5).cell 4
         have y0_5 := (K0_5.out.below hkp.bel l0_5).cell 5
         have y0_6 := (K0_5.out.below hkp.bel l0_5).cell 6
         have y0_7 := (K0_5.out.below hkp.bel l0_5).cell 7
         have y0_8 := (K0_5.out.below hkp.bel l0_5).cell 8
         have y0_9 := (K0_5.out.below hkp.bel l0_5).cell 9
         clear hx hk hD hkp
         go_simp
         try rfl
       simp only [Act.put, List.setIfInBounds_toArray, List.set_cons_zero, List.set_cons_succ])
    refine Fx.WM.choose2 2 13 (by rfl) (by rfl) (by kernel_rfl) (by rfl) (by rfl) ?_ ?_ ?_ ?_
    · skip
      refine Fx.Chooses.call ?_ ?_ (by rfl) ?_ ?_
      rotate_left 2
      · intro w'
        go_simp
        refine ⟨?_, ?_⟩ <;> rfl
      · intro f w' hD hk
        exact (mount_any m w' (R1_5.out.lay hD.bel) (by omega) (by omega)).mono fun e w'' ⟨A', c', B', d', he, hb, hm⟩ => ⟨((A', c'), (B', d')), he, hD.choose PfT.stb ChQ.stb hb 2 _ (by decide) (by decide) (hk.2.1 14 (by kernel_rfl)) ⟨fun _ => hm, fun e => absurd e (by decide), fun e => absurd e (by decide)⟩ (fun e => absurd e (by decide))⟩
    · skip
      refine Fx.Chooses.make (by rfl) ?_
      intro f w' hD hk
      refine ⟨((some ⟨w'.heap.size, 0, none⟩, 0), (none, 0)), w'.alloc (.cells #[.slice none 0 0, .slice none 0 0] 43), ?_, ?_⟩
      · clear hk hD
        go_simp
        try rfl
      · exact hD.make PfT.stb ChQ.stb (hk.2.1 14 (by kernel_rfl)) (by decide) (by decide)
    · skip
      intro x
      simp only [Act.put, List.setIfInBounds_toArray, List.set_cons_zero, List.set_cons_succ]
      refine Fx.WM.choose2 5 13 (by rfl) (by rfl) (by kernel_rfl) (by rfl) (by rfl) ?_ ?_ ?_ ?_
      · skip
        refine Fx.Chooses.call ?_ ?_ (by rfl) ?_ ?_
        rotate_left 2
        · intro w'
          go_simp
          refine ⟨?_, ?_⟩ <;> rfl
        · intro f w' hD hk
          exact (ctargets_any A n c w'.heap.size l w' ((R0_5.out.below hD.bel).more hD.bel.size) (Nat.le_refl _) (by omega)).mono fun e w'' ⟨A', c', he, hb, hr, ho⟩ => ⟨((A', c'), (none, 0)), he, hD.choose PfT.stb ChQ.stb hb 5 _ (by decide) (by decide) (hk.2.1 14 (by kernel_rfl)) ⟨fun e => absurd e (by decide), fun _ => ⟨hr, own_cap ho⟩, fun e => absurd e (by decide)⟩ (fun e => absurd e (by decide))⟩
      · skip
        refine Fx.Chooses.make (by rfl) ?_
        intro f w' hD hk
        refine ⟨((some ⟨w'.heap.size, 0, none⟩, 0), (none, 0)), w'.alloc (.cells #[.slice none 0 0, .slice none 0 0] 43), ?_, ?_⟩
        · clear hk hD
          go_simp
          try rfl
        · exact hD.make PfT.stb ChQ.stb (hk.2.1 14 (by kernel_rfl)) (by decide) (by decide)
      · skip
        intro y
        simp only [Act.put, List.setIfInBounds_toArray, List.set_cons_zero, List.set_cons_succ]
        refine Fx.WM.choose2 8 13 (by rfl) (by rfl) (by kernel_rfl) (by rfl) (by rfl) ?_ ?_ ?_ ?_
        · skip
          refine Fx.Chooses.call ?_ ?_ (by rfl) ?_ ?_
          rotate_left 2
          · intro w'
            go_simp
            refine ⟨?_, ?_⟩ <;> rfl
          · intro f w' hD hk
            exact (pchoosef_like HN.out HV.out x.1.1 x.2.1 x.1.2 x.2.2 y.1.1 y.1.2 HZ0.out w' ((hD.has (hk.2.1 14 (by kernel_rfl)) 2 x (by rfl) (by decide)).1 rfl) ((hD.has (hk.2.1 14 (by kernel_rfl)) 5 y (by rfl) (by decide)).2.1 rfl).1 ((hD.has (hk.2.1 14 (by kernel_rfl)) 5 y (by rfl) (by decide)).2.1 rfl).2 HF.out).mono fun e w'' ⟨u, he, hb, hq⟩ => ⟨u, he, hD.choose PfT.stb ChQ.stb hb 8 _ (by decide) (by decide) (hk.2.1 14 (by kernel_rfl)) ⟨fun e => absurd e (by decide), fun e => absurd e (by decide), fun e => absurd e (by decide)⟩ (fun _ => hq)⟩
        · skip
          refine Fx.Chooses.make (by rfl) ?_
          intro f w' hD hk
          refine ⟨((some ⟨w'.heap.size, 0, none⟩, 0), (none, 0)), w'.alloc (.cells #[.slice none 0 0, .slice none 0 0] 43), ?_, ?_⟩
          · clear hk hD
            go_simp
            try rfl
          · exact hD.make PfT.stb ChQ.stb (hk.2.1 14 (by kernel_rfl)) (by decide) (by decide)
        · skip
          intro u
          simp only [Act.put, List.setIfInBounds_toArray, List.set_cons_zero, List.set_cons_succ]
          first
          | (refine Fx.WM.skip 9 (by rfl) (by kernel_rfl) (by kernel_rfl) (by kernel_rfl) (by rfl) (fun g f w h => h.same (by decide)) ?_; simp only [Act.put, List.setIfInBounds_toArray, List.set_cons_zero, List.set_cons_succ])
          | (refine Fx.WM.val_ 9 ?_ (by rfl) (by kernel_rfl) (by kernel_rfl) (by kernel_rfl) (by rfl) ?_ (fun g f w h => h.same (by decide)) ?_
             rotate_left
             · intro g f w' hx hD hk
               obtain hkp := id hD
               clear hx hk hD hkp
               go_simp
               try rfl
             simp only [Act.put, List.setIfInBounds_toArray, List.set_cons_zero, List.set_cons_succ])
          first
          | (refine Fx.WM.skip 10 (by rfl) (by kernel_rfl) (by kernel_rfl) (by kernel_rfl) (by rfl) (fun g f w h => h.same (by decide)) ?_; simp only [Act.put, List.setIfInBounds_toArray, List.set_cons_zero, List.set_cons_succ])
          | (refine Fx.WM.val_ 10 ?_ (by rfl) (by kernel_rfl) (by kernel_rfl) (by kernel_rfl) (by rfl) ?_ (fun g f w h => h.same (by decide)) ?_
             rotate_left
             · intro g f w' hx hD hk
               obtain hkp := id hD
               clear hx hk hD hkp
               go_simp
               try rfl
             simp only [Act.put, List.setIfInBounds_toArray, List.set_cons_zero, List.set_cons_succ])
          first
          | (refine Fx.WM.skip 11 (by rfl) (by kernel_rfl) (by kernel_rfl) (by kernel_rfl) (by rfl) (fun g f w h => h.same (by decide)) ?_; simp only [Act.put, List.setIfInBounds_toArray, List.set_cons_zero, List.set_cons_succ])
          | (refine Fx.WM.val_ 11 ?_ (by rfl) (by kernel_rfl) (by kernel_rfl) (by kernel_rfl) (by rfl) ?_ (fun g f w h => h.same (by decide)) ?_
             rotate_left
             · intro g f w' hx hD hk
               obtain hkp := id hD
               clear hx hk hD hkp
               go_simp
               try rfl
             simp only [Act.put, List.setIfInBounds_toArray, List.set_cons_zero, List.set_cons_succ])
          first
          | (refine Fx.WM.skip 12 (by rfl) (by kernel_rfl) (by kernel_rfl) (by kernel_rfl) (by rfl) (fun g f w h => h.same (by decide)) ?_; simp only [Act.put, List.setIfInBounds_toArray, List.set_cons_zero, List.set_cons_succ])
          | (refine Fx.WM.val_ 12 ?_ (by rfl) (by kernel_rfl) (by kernel_rfl) (by kernel_rfl) (by rfl) ?_ (fun g f w h => h.same (by decide)) ?_
             rotate_left
             · intro g f w' hx hD hk
               obtain hkp := id hD
               clear hx hk hD hkp
               go_simp
               try rfl
             simp only [Act.put, List.setIfInBounds_toArray, List.set_cons_zero, List.set_cons_succ])
          refine Fx.WM.choose 13 (by rfl) (by kernel_rfl) (by rfl) ?_ ?_
          · skip
            refine Fx.Chooses.make (by rfl) ?_
            intro f w' hD hk
            refine ⟨((some ⟨w'.heap.size, 0, none⟩, 0), (none, 0)), w'.alloc (.cells #[.slice none 0 0, .slice none 0 0] 43), ?_, ?_⟩
            · clear hk hD
              go_simp
              try rfl
            · exact hD.make PfT.stb ChQ.stb (hk.2.1 14 (by kernel_rfl)) (by decide) (by decide)
          intro z
          simp only [Act.put, List.setIfInBounds_toArray, List.set_cons_zero, List.set_cons_succ]
          refine Fx.WM.eff 14 undef (by rfl) (by kernel_rfl) (by kernel_rfl) (by kernel_rfl) (by rfl) ?_ ?_
          · intro g f w' hx hD hk
            obtain ⟨bx, e0, e1, r0, r1, r2, r3, r4, r5⟩ := KpG.cells hD (hx 13 _ (by rfl))
            refine Fx.gives_skip (w' := ((w'.setCell ⟨bx, 0, none⟩ (.slice u.1.1 n u.1.2)).setCell ⟨bx, 1, none⟩ (.slice u.2.1 n u.2.2))) ?_ ?_
            · clear hx hk hD
              go_simp
              try rfl
            · exact KpG.store hD ChQ.stb (hx 13 _ (by rfl)) r0 (hx 8 _ (by rfl))
          simp only [Act.put, List.setIfInBounds_toArray, List.set_cons_zero, List.set_cons_succ]
          first
          | (refine Fx.WM.skip 15 (by rfl) (by kernel_rfl) (by kernel_rfl) (by kernel_rfl) (by rfl) (fun g f w h => h.same (by decide)) ?_; simp only [Act.put, List.setIfInBounds_toArray, List.set_cons_zero, List.set_cons_succ])
          | (refine Fx.WM.val_ 15 ?_ (by rfl) (by kernel_rfl) (by kernel_rfl) (by kernel_rfl) (by rfl) ?_ (fun g f w h => h.same (by decide)) ?_
             rotate_left
             · intro g f w' hx hD hk
               obtain hkp := id hD
               clear hx hk hD hkp
               go_simp
               try rfl
             simp only [Act.put, List.setIfInBounds_toArray, List.set_cons_zero, List.set_cons_succ])
          first
          | (refine Fx.WM.skip 16 (by rfl) (by kernel_rfl) (by kernel_rfl) (by kernel_rfl) (by rfl) (fun g f w h => h.same (by decide)) ?_; simp only [Act.put, List.setIfInBounds_toArray, List.set_cons_zero, List.set_cons_succ])
          | (refine Fx.WM.val_ 16 ?_ (by rfl) (by kernel_rfl) (by kernel_rfl) (by kernel_rfl) (by rfl) ?_ (fun g f w h => h.same (by decide)) ?_
             rotate_left
             · intro g f w' hx hD hk
               obtain hkp := id hD
               clear hx hk hD hkp
               go_simp
               try rfl
             simp only [Act.put, List.setIfInBounds_toArray, List.set_cons_zero, List.set_cons_succ])
          refine Fx.WM.nil (by kernel_rfl) ?_
          intro wz hkp
          obtain ⟨bx, h1, h2, h3, h4⟩ := KpG.end_ hkp (x := z) (z := u) (by rfl) (by rfl) (by rfl)
          exact key x y u z wz ⟨bx, h1, h2, hkp.bel, h3, h4⟩
        · skip
          intro z
          simp only [Act.put, List.setIfInBounds_toArray, List.set_cons_zero, List.set_cons_succ]
          refine Fx.WM.choose 8 (by rfl) (by kernel_rfl) (by rfl) ?_ ?_
          · skip
            refine Fx.Chooses.call ?_ ?_ (by rfl) ?_ ?_
            rotate_left 2
            · intro w'
              go_simp
              refine ⟨?_, ?_⟩ <;> rfl
            · intro f w' hD hk
              exact (pchoosef_like HN.out HV.out x.1.1 x.2.1 x.1.2 x.2.2 y.1.1 y.1.2 HZ0.out w' ((hD.has (hk.2.1 14 (by kernel_rfl)) 2 x (by rfl) (by decide)).1 rfl) ((hD.has (hk.2.1 14 (by kernel_rfl)) 5 y (by rfl) (by decide)).2.1 rfl).1 ((hD.has (hk.2.1 14 (by kernel_rfl)) 5 y (by rfl) (by decide)).2.1 rfl).2 HF.out).mono fun e w'' ⟨u, he, hb, hq⟩ => ⟨u, he, hD.choose PfT.stb ChQ.stb hb 8 _ (by decide) (by decide) (hk.2.1 14 (by kernel_rfl)) ⟨fun e => absurd e (by decide), fun e => absurd e (by decide), fun e => absurd e (by decide)⟩ (fun _ => hq)⟩
          intro u
          simp only [Act.put, List.setIfInBounds_toArray, List.set_cons_zero, List.set_cons_succ]
          first
          | (refine Fx.WM.skip 9 (by rfl) (by kernel_rfl) (by kernel_rfl) (by kernel_rfl) (by rfl) (fun g f w h => h.same (by decide)) ?_; simp only [Act.put, List.setIfInBounds_toArray, List.set_cons_zero, List.set_cons_succ])
          | (refine Fx.WM.val_ 9 ?_ (by rfl) (by kernel_rfl) (by kernel_rfl) (by kernel_rfl) (by rfl) ?_ (fun g f w h => h.same (by decide)) ?_
             rotate_left
             · intro g f w' hx hD hk
               obtain hkp := id hD
               clear hx hk hD hkp
               go_simp
               try rfl
             simp only [Act.put, List.setIfInBounds_toArray, List.set_cons_zero, List.set_cons_succ])
          first
          | (refine Fx.WM.skip 10 (by rfl) (by kernel_rfl) (by kernel_rfl) (by kernel_rfl) (by rfl) (fun g f w h => h.same (by decide)) ?_; simp only [Act.put, List.setIfInBounds_toArray, List.set_cons_zero, List.set_cons_succ])
          | (refine Fx.WM.val_ 10 ?_ (by rfl) (by kernel_rfl) (by kernel_rfl) (by kernel_rfl) (by rfl) ?_ (fun g f w h => h.same (by decide)) ?_
             rotate_left
             · intro g f w' hx hD hk
               obtain hkp := id hD
               clear hx hk hD hkp
               go_simp
               try rfl
             simp only [Act.put, List.setIfInBounds_toArray, List.set_cons_zero, List.set_cons_succ])
          first
          | (refine Fx.WM.skip 11 (by rfl) (by kernel_rfl) (by kernel_rfl) (by kernel_rfl) (by rfl) (fun g f w h => h.same (by decide)) ?_; simp only [Act.put, List.setIfInBounds_toArray, List.set_cons_zero, List.set_cons_succ])
          | (refine Fx.WM.val_ 11 ?_ (by rfl) (by kernel_rfl) (by kernel_rfl) (by kernel_rfl) (by rfl) ?_ (fun g f w h => h.same (by decide)) ?_
             rotate_left
             · intro g f w' hx hD hk
               obtain hkp := id hD
               clear hx hk hD hkp
               go_simp
               try rfl
             simp only [Act.put, List.setIfInBounds_toArray, List.set_cons_zero, List.set_cons_succ])
          first
          | (refine Fx.WM.skip 12 (by rfl) (by kernel_rfl) (by kernel_rfl) (by kernel_rfl) (by rfl) (fun g f w h => h.same (by decide)) ?_; simp only [Act.put, List.setIfInBounds_toArray, List.set_cons_zero, List.set_cons_succ])
          | (refine Fx.WM.val_ 12 ?_ (by rfl) (by kernel_rfl) (by kernel_rfl) (by kernel_rfl) (by rfl) ?_ (fun g f w h => h.same (by decide)) ?_
             rotate_left
             · intro g f w' hx hD hk
               obtain hkp := id hD
               clear hx hk hD hkp
               go_simp
               try rfl
             simp only [Act.put, List.setIfInBounds_toArray, List.set_cons_zero, List.set_cons_succ])
          refine Fx.WM.eff 14 undef (by rfl) (by kernel_rfl) (by kernel_rfl) (by kernel_rfl) (by rfl) ?_ ?_
          · intro g f w' hx hD hk
            obtain ⟨bx, e0, e1, r0, r1, r2, r3, r4, r5⟩ := KpG.cells hD (hx 13 _ (by rfl))
            refine Fx.gives_skip (w' := ((w'.setCell ⟨bx, 0, none⟩ (.slice u.1.1 n u.1.2)).setCell ⟨bx, 1, none⟩ (.slice u.2.1 n u.2.2))) ?_ ?_
            · clear hx hk hD
              go_simp
              try rfl
            · exact KpG.store hD ChQ.stb (hx 13 _ (by rfl)) r0 (hx 8 _ (by rfl))
          simp only [Act.put, List.setIfInBounds_toArray, List.set_cons_zero, List.set_cons_succ]
          first
          | (refine Fx.WM.skip 15 (by rfl) (by kernel_rfl) (by kernel_rfl) (by kernel_rfl) (by rfl) (fun g f w h => h.same (by decide)) ?_; simp only [Act.put, List.setIfInBounds_toArray, List.set_cons_zero, List.set_cons_succ])
          | (refine Fx.WM.val_ 15 ?_ (by rfl) (by kernel_rfl) (by kernel_rfl) (by kernel_rfl) (by rfl) ?_ (fun g f w h => h.same (by decide)) ?_
             rotate_left
             · intro g f w' hx hD hk
               obtain hkp := id hD
               clear hx hk hD hkp
               go_simp
               try rfl
             simp only [Act.put, List.setIfInBounds_toArray, List.set_cons_zero, List.set_cons_succ])
          first
          | (refine Fx.WM.skip 16 (by rfl) (by kernel_rfl) (by kernel_rfl) (by kernel_rfl) (by rfl) (fun g f w h => h.same (by decide)) ?_; simp only [Act.put, List.setIfInBounds_toArray, List.set_cons_zero, List.set_cons_succ])
          | (refine Fx.WM.val_ 16 ?_ (by rfl) (by kernel_rfl) (by kernel_rfl) (by kernel_rfl) (by rfl) ?_ (fun g f w h => h.same (by decide)) ?_
             rotate_left
             · intro g f w' hx hD hk
               obtain hkp := id hD
               clear hx hk hD hkp
               go_simp
               try rfl
             simp only [Act.put, List.setIfInBounds_toArray, List.set_cons_zero, List.set_cons_succ])
          refine Fx.WM.nil (by kernel_rfl) ?_
          intro wz hkp
          obtain ⟨bx, h1, h2, h3, h4⟩ := KpG.end_ hkp (x := z) (z := u) (by rfl) (by rfl) (by rfl)
          exact key x y u z wz ⟨bx, h1, h2, hkp.bel, h3, h4⟩
      · skip
        intro z
        simp only [Act.put, List.setIfInBounds_toArray, List.set_cons_zero, List.set_cons_succ]
        refine Fx.WM.choose 5 (by rfl) (by kernel_rfl) (by rfl) ?_ ?_
        · skip
          refine Fx.Chooses.call ?_ ?_ (by rfl) ?_ ?_
          rotate_left 2
          · intro w'
            go_simp
            refine ⟨?_, ?_⟩ <;> rfl
          · intro f w' hD hk
            exact (ctargets_any A n c w'.heap.size l w' ((R0_5.out.below hD.bel).more hD.bel.size) (Nat.le_refl _) (by omega)).mono fun e w'' ⟨A', c', he, hb, hr, ho⟩ => ⟨((A', c'), (none, 0)), he, hD.choose PfT.stb ChQ.stb hb 5 _ (by decide) (by decide) (hk.2.1 14 (by kernel_rfl)) ⟨fun e => absurd e (by decide), fun _ => ⟨hr, own_cap ho⟩, fun e => absurd e (by decide)⟩ (fun e => absurd e (by decide))⟩
        intro y
        simp only [Act.put, List.setIfInBounds_toArray, List.set_cons_zero, List.set_cons_succ]
        refine Fx.WM.choose 8 (by rfl) (by kernel_rfl) (by rfl) ?_ ?_
        · skip
          refine Fx.Chooses.call ?_ ?_ (by rfl) ?_ ?_
          rotate_left 2
          · intro w'
            go_simp
            refine ⟨?_, ?_⟩ <;> rfl
          · intro f w' hD hk
            exact (pchoosef_like HN.out HV.out x.1.1 x.2.1 x.1.2 x.2.2 y.1.1 y.1.2 HZ0.out w' ((hD.has (hk.2.1 14 (by kernel_rfl)) 2 x (by rfl) (by decide)).1 rfl) ((hD.has (hk.2.1 14 (by kernel_rfl)) 5 y (by rfl) (by decide)).2.1 rfl).1 ((hD.has (hk.2.1 14 (by kernel_rfl)) 5 y (by rfl) (by decide)).2.1 rfl).2 HF.out).mono fun e w'' ⟨u, he, hb, hq⟩ => ⟨u, he, hD.choose PfT.stb ChQ.stb hb 8 _ (by decide) (by decide) (hk.2.1 14 (by kernel_rfl)) ⟨fun e => absurd e (by decide), fun e => absurd e (by decide), fun e => absurd e (by decide)⟩ (fun _ => hq)⟩
        intro u
        simp only [Act.put, List.setIfInBounds_toArray, List.set_cons_zero, List.set_cons_succ]
        first
        | (refine Fx.WM.skip 9 (by rfl) (by kernel_rfl) (by kernel_rfl) (by kernel_rfl) (by rfl) (fun g f w h => h.same (by decide)) ?_; simp only [Act.put, List.setIfInBounds_toArray, List.set_cons_zero, List.set_cons_succ])
        | (refine Fx.WM.val_ 9 ?_ (by rfl) (by kernel_rfl) (by kernel_rfl) (by kernel_rfl) (by rfl) ?_ (fun g f w h => h.same (by decide)) ?_
           rotate_left
           · intro g f w' hx hD hk
             obtain hkp := id hD
             clear hx hk hD hkp
             go_simp
             try rfl
           simp only [Act.put, List.setIfInBounds_toArray, List.set_cons_zero, List.set_cons_succ])
        first
        | (refine Fx.WM.skip 10 (by rfl) (by kernel_rfl) (by kernel_rfl) (by kernel_rfl) (by rfl) (fun g f w h => h.same (by decide)) ?_; simp only [Act.put, List.setIfInBounds_toArray, List.set_cons_zero, List.set_cons_succ])
        | (refine Fx.WM.val_ 10 ?_ (by rfl) (by kernel_rfl) (by kernel_rfl) (by kernel_rfl) (by rfl) ?_ (fun g f w h => h.same (by decide)) ?_
           rotate_left
           · intro g f w' hx hD hk
             obtain hkp := id hD
             clear hx hk hD hkp
             go_simp
             try rfl
           simp only [Act.put, List.setIfInBounds_toArray, List.set_cons_zero, List.set_cons_succ])
        first
        | (refine Fx.WM.skip 11 (by rfl) (by kernel_rfl) (by kernel_rfl) (by kernel_rfl) (by rfl) (fun g f w h => h.same (by decide)) ?_; simp only [Act.put, List.setIfInBounds_toArray, List.set_cons_zero, List.set_cons_succ])
        | (refine Fx.WM.val_ 11 ?_ (by rfl) (by kernel_rfl) (by kernel_rfl) (by kernel_rfl) (by rfl) ?_ (fun g f w h => h.same (by decide)) ?_
           rotate_left
           · intro g f w' hx hD hk
             obtain hkp := id hD
             clear hx hk hD hkp
             go_simp
             try rfl
           simp only [Act.put, List.setIfInBounds_toArray, List.set_cons_zero, List.set_cons_succ])
        first
        | (refine Fx.WM.skip 12 (by rfl) (by kernel_rfl) (by kernel_rfl) (by kernel_rfl) (by rfl) (fun g f w h => h.same (by decide)) ?_; simp only [Act.put, List.setIfInBounds_toArray, List.set_cons_zero, List.set_cons_succ])
        | (refine Fx.WM.val_ 12 ?_ (by rfl) (by kernel_rfl) (by kernel_rfl) (by kernel_rfl) (by rfl) ?_ (fun g f w h => h.same (by decide)) ?_
           rotate_left
           · intro g f w' hx hD hk
             obtain hkp := id hD
             clear hx hk hD hkp
             go_simp
             try rfl
           simp only [Act.put, List.setIfInBounds_toArray, List.set_cons_zero, List.set_cons_succ])
        refine Fx.WM.eff 14 undef (by rfl) (by kernel_rfl) (by kernel_rfl) (by kernel_rfl) (by rfl) ?_ ?_
        · intro g f w' hx hD hk
          obtain ⟨bx, e0, e1, r0, r1, r2, r3, r4, r5⟩ := KpG.cells hD (hx 13 _ (by rfl))
          refine Fx.gives_skip (w' := ((w'.setCell ⟨bx, 0, none⟩ (.slice u.1.1 n u.1.2)).setCell ⟨bx, 1, none⟩ (.slice u.2.1 n u.2.2))) ?_ ?_
          · clear hx hk hD
            go_simp
            try rfl
          · exact KpG.store hD ChQ.stb (hx 13 _ (by rfl)) r0 (hx 8 _ (by rfl))
        simp only [Act.put, List.setIfInBounds_toArray, List.set_cons_zero, List.set_cons_succ]
        first
        | (refine Fx.WM.skip 15 (by rfl) (by kernel_rfl) (by kernel_rfl) (by kernel_rfl) (by rfl) (fun g f w h => h.same (by decide)) ?_; simp only [Act.put, List.setIfInBounds_toArray, List.set_cons_zero, List.set_cons_succ])
        | (refine Fx.WM.val_ 15 ?_ (by rfl) (by kernel_rfl) (by kernel_rfl) (by kernel_rfl) (by rfl) ?_ (fun g f w h => h.same (by decide)) ?_
           rotate_left
           · intro g f w' hx hD hk
             obtain hkp := id hD
             clear hx hk hD hkp
             go_simp
             try rfl
           simp only [Act.put, List.setIfInBounds_toArray, List.set_cons_zero, List.set_cons_succ])
        first
        | (refine Fx.WM.skip 16 (by rfl) (by kernel_rfl) (by kernel_rfl) (by kernel_rfl) (by rfl) (fun g f w h => h.same (by decide)) ?_; simp only [Act.put, List.setIfInBounds_toArray, List.set_cons_zero, List.set_cons_succ])
        | (refine Fx.WM.val_ 16 ?_ (by rfl) (by kernel_rfl) (by kernel_rfl) (by kernel_rfl) (by rfl) ?_ (fun g f w h => h.same (by decide)) ?_
           rotate_left
           · intro g f w' hx hD hk
             obtain hkp := id hD
             clear hx hk hD hkp
             go_simp
             try rfl
           simp only [Act.put, List.setIfInBounds_toArray, List.set_cons_zero, List.set_cons_succ])
        refine Fx.WM.nil (by kernel_rfl) ?_
        intro wz hkp
        obtain ⟨bx, h1, h2, h3, h4⟩ := KpG.end_ hkp (x := z) (z := u) (by rfl) (by rfl) (by rfl)
        exact key x y u z wz ⟨bx, h1, h2, hkp.bel, h3, h4⟩
    · skip
      intro z
      simp only [Act.put, List.setIfInBounds_toArray, List.set_cons_zero, List.set_cons_succ]
      refine Fx.WM.choose 2 (by rfl) (by kernel_rfl) (by rfl) ?_ ?_
      · skip
        refine Fx.Chooses.call ?_ ?_ (by rfl) ?_ ?_
        rotate_left 2
        · intro w'
          go_simp
          refine ⟨?_, ?_⟩ <;> rfl
        · intro f w' hD hk
          exact (mount_any m w' (R1_5.out.lay hD.bel) (by omega) (by omega)).mono fun e w'' ⟨A', c', B', d', he, hb, hm⟩ => ⟨((A', c'), (B', d')), he, hD.choose PfT.stb ChQ.stb hb 2 _ (by decide) (by decide) (hk.2.1 14 (by kernel_rfl)) ⟨fun _ => hm, fun e => absurd e (by decide), fun e => absurd e (by decide)⟩ (fun e => absurd e (by decide))⟩
      intro x
      simp only [Act.put, List.setIfInBounds_toArray, List.set_cons_zero, List.set_cons_succ]
      refine Fx.WM.choose 5 (by rfl) (by kernel_rfl) (by rfl) ?_ ?_
      · skip
        refine Fx.Chooses.call ?_ ?_ (by rfl) ?_ ?_
        rotate_left 2
        · intro w'
          go_simp
          refine ⟨?_, ?_⟩ <;> rfl
        · intro f w' hD hk
          exact (ctargets_any A n c w'.heap.size l w' ((R0_5.out.below hD.bel).more hD.bel.size) (Nat.le_refl _) (by omega)).mono fun e w'' ⟨A', c', he, hb, hr, ho⟩ => ⟨((A', c'), (none, 0)), he, hD.choose PfT.stb ChQ.stb hb 5 _ (by decide) (by decide) (hk.2.1 14 (by kernel_rfl)) ⟨fun e => absurd e (by decide), fun _ => ⟨hr, own_cap ho⟩, fun e => absurd e (by decide)⟩ (fun e => absurd e (by decide))⟩
      intro y
      simp only [Act.put, List.setIfInBounds_toArray, List.set_cons_zero, List.set_cons_succ]
      refine Fx.WM.choose 8 (by rfl) (by kernel_rfl) (by rfl) ?_ ?_
      · skip
        refine Fx.Chooses.call ?_ ?_ (by rfl) ?_ ?_
        rotate_left 2
        · intro w'
          go_simp
          refine ⟨?_, ?_⟩ <;> rfl
        · intro f w' hD hk
          exact (pchoosef_like HN.out HV.out x.1.1 x.2.1 x.1.2 x.2.2 y.1.1 y.1.2 HZ0.out w' ((hD.has (hk.2.1 14 (by kernel_rfl)) 2 x (by rfl) (by decide)).1 rfl) ((hD.has (hk.2.1 14 (by kernel_rfl)) 5 y (by rfl) (by decide)).2.1 rfl).1 ((hD.has (hk.2.1 14 (by kernel_rfl)) 5 y (by rfl) (by decide)).2.1 rfl).2 HF.out).mono fun e w'' ⟨u, he, hb, hq⟩ => ⟨u, he, hD.choose PfT.stb ChQ.stb hb 8 _ (by decide) (by decide) (hk.2.1 14 (by kernel_rfl)) ⟨fun e => absurd e (by decide), fun e => absurd e (by decide), fun e => absurd e (by decide)⟩ (fun _ => hq)⟩
      intro u
      simp only [Act.put, List.setIfInBounds_toArray, List.set_cons_zero, List.set_cons_succ]
      first
      | (refine Fx.WM.skip 9 (by rfl) (by kernel_rfl) (by kernel_rfl) (by kernel_rfl) (by rfl) (fun g f w h => h.same (by decide)) ?_; simp only [Act.put, List.setIfInBounds_toArray, List.set_cons_zero, List.set_cons_succ])
      | (refine Fx.WM.val_ 9 ?_ (by rfl) (by kernel_rfl) (by kernel_rfl) (by kernel_rfl) (by rfl) ?_ (fun g f w h => h.same (by decide)) ?_
         rotate_left
         · intro g f w' hx hD hk
           obtain hkp := id hD
           clear hx hk hD hkp
           go_simp
           try rfl
         simp only [Act.put, List.setIfInBounds_toArray, List.set_cons_zero, List.set_cons_succ])
      first
      | (refine Fx.WM.skip 10 (by rfl) (by kernel_rfl) (by kernel_rfl) (by kernel_rfl) (by rfl) (fun g f w h => h.same (by decide)) ?_; simp only [Act.put, List.setIfInBounds_toArray, List.set_cons_zero, List.set_cons_succ])
      | (refine Fx.WM.val_ 10 ?_ (by rfl) (by kernel_rfl) (by kernel_rfl) (by kernel_rfl) (by rfl) ?_ (fun g f w h => h.same (by decide)) ?_
         rotate_left
         · intro g f w' hx hD hk
           obtain hkp := id hD
           clear hx hk hD hkp
           go_simp
           try rfl
         simp only [Act.put, List.setIfInBounds_toArray, List.set_cons_zero, List.set_cons_succ])
      first
      | (refine Fx.WM.skip 11 (by rfl) (by kernel_rfl) (by kernel_rfl) (by kernel_rfl) (by rfl) (fun g f w h => h.same (by decide)) ?_; simp only [Act.put, List.setIfInBounds_toArray, List.set_cons_zero, List.set_cons_succ])
      | (refine Fx.WM.val_ 11 ?_ (by rfl) (by kernel_rfl) (by kernel_rfl) (by kernel_rfl) (by rfl) ?_ (fun g f w h => h.same (by decide)) ?_
         rotate_left
         · intro g f w' hx hD hk
           obtain hkp := id hD
           clear hx hk hD hkp
           go_simp
           try rfl
         simp only [Act.put, List.setIfInBounds_toArray, List.set_cons_zero, List.set_cons_succ])
      first
      | (refine Fx.WM.skip 12 (by rfl) (by kernel_rfl) (by kernel_rfl) (by kernel_rfl) (by rfl) (fun g f w h => h.same (by decide)) ?_; simp only [Act.put, List.setIfInBounds_toArray, List.set_cons_zero, List.set_cons_succ])
      | (refine Fx.WM.val_ 12 ?_ (by rfl) (by kernel_rfl) (by kernel_rfl) (by kernel_rfl) (by rfl) ?_ (fun g f w h => h.same (by decide)) ?_
         rotate_left
         · intro g f w' hx hD hk
           obtain hkp := id hD
           clear hx hk hD hkp
           go_simp
           try rfl
         simp only [Act.put, List.setIfInBounds_toArray, List.set_cons_zero, List.set_cons_succ])
      refine Fx.WM.eff 14 undef (by rfl) (by kernel_rfl) (by kernel_rfl) (by kernel_rfl) (by rfl) ?_ ?_
      · intro g f w' hx hD hk
        obtain ⟨bx, e0, e1, r0, r1, r2, r3, r4, r5⟩ := KpG.cells hD (hx 13 _ (by rfl))
        refine Fx.gives_skip (w' := ((w'.setCell ⟨bx, 0, none⟩ (.slice u.1.1 n u.1.2)).setCell ⟨bx, 1, none⟩ (.slice u.2.1 n u.2.2))) ?_ ?_
        · clear hx hk hD
          go_simp
          try rfl
        · exact KpG.store hD ChQ.stb (hx 13 _ (by rfl)) r0 (hx 8 _ (by rfl))
      simp only [Act.put, List.setIfInBounds_toArray, List.set_cons_zero, List.set_cons_succ]
      first
      | (refine Fx.WM.skip 15 (by rfl) (by kernel_rfl) (by kernel_rfl) (by kernel_rfl) (by rfl) (fun g f w h => h.same (by decide)) ?_; simp only [Act.put, List.setIfInBounds_toArray, List.set_cons_zero, List.set_cons_succ])
      | (refine Fx.WM.val_ 15 ?_ (by rfl) (by kernel_rfl) (by kernel_rfl) (by kernel_rfl) (by rfl) ?_ (fun g f w h => h.same (by decide)) ?_
         rotate_left
         · intro g f w' hx hD hk
           obtain hkp := id hD
           clear hx hk hD hkp
           go_simp
           try rfl
         simp only [Act.put, List.setIfInBounds_toArray, List.set_cons_zero, List.set_cons_succ])
      first
      | (refine Fx.WM.skip 16 (by rfl) (by kernel_rfl) (by kernel_rfl) (by kernel_rfl) (by rfl) (fun g f w h => h.same (by decide)) ?_; simp only [Act.put, List.setIfInBounds_toArray, List.set_cons_zero, List.set_cons_succ])
      | (refine Fx.WM.val_ 16 ?_ (by rfl) (by kernel_rfl) (by kernel_rfl) (by kernel_rfl) (by rfl) ?_ (fun g f w h => h.same (by decide)) ?_
         rotate_left
         · intro g f w' hx hD hk
           obtain hkp := id hD
           clear hx hk hD hkp
           go_simp
           try rfl
         simp only [Act.put, List.setIfInBounds_toArray, List.set_cons_zero, List.set_cons_succ])
      refine Fx.WM.nil (by kernel_rfl) ?_
      intro wz hkp
      obtain ⟨bx, h1, h2, h3, h4⟩ := KpG.end_ hkp (x := z) (z := u) (by rfl) (by rfl) (by rfl)
      exact key x y u z wz ⟨bx, h1, h2, hkp.bel, h3, h4⟩
  rintro x y ⟨⟨At, ct⟩, ⟨Xp, cp⟩⟩ ⟨⟨z1, z2⟩, z3⟩ w6 ⟨bx, hz, hbx, hb, hblk, hq⟩
  simp only at hz hblk
  subst hz
  clear hq
  have HB6 := Lib.hid (show Below w.heap.size w w6 from step_below hb (by repeat' (first | exact Below.refl _ _ | exact HB5.out | refine below_drewN ?_ _ | refine Below.drew ?_ | refine Below.alloc ?_ (by first | omega | (simp; done) | (simp; omega) | (simp [World.setCell]; omega)) _ | refine Below.setCell ?_ (by first | omega | (simp; done) | (simp; omega)) _ | assumption)))
  have K0_6 := Lib.hid (step_blk hb (show Blk _ (w.heap.size) 28 #[.int .i64 (m.ls), .int .i64 (m.ms), .int .i64 (m.lo), .int .i64 (m.hi), .int .i64 (m.sp), .slice m.A1 m.n1 m.c1, .slice m.A2 m.n2 m.c2, .slice A n c, .int .i64 (day), .int .i64 (pos)] by repeat' (first | exact K0_5.out | exact Blk.at_ _ (by first | rfl | (simp; done) | (simp; omega)) _ _ | refine Blk.drewN ?_ _ | refine Blk.drew ?_ | refine Blk.alloc ?_ _ | refine Blk.far ?_ (by first | omega | (simp; done) | (simp; omega)) _ | assumption)))
  have hL6 := Lib.hid (show Below w5.heap.size w5 _ from reads_mid hb (by repeat' (first | exact Below.refl _ _ | refine below_drewN ?_ _ | refine Below.drew ?_ | refine Below.alloc ?_ (by first | omega | (simp; done) | (simp; omega) | (simp [World.setCell]; omega)) _ | refine Below.setCell ?_ (by first | omega | (simp; done) | (simp; omega)) _)))
  have R0_6 := Lib.hid (reads_lay hb hL6.out R0_5.out)
  have R1_6 := Lib.hid (mnt_lay hb hL6.out R1_5.out)
  have R2_6 := Lib.hid (reads_lay hb hL6.out R2_5.out)
  have R3_6 := Lib.hid (reads_lay hb hL6.out R3_5.out)
  clear hL6 R0_5 R1_5 R2_5 R3_5
  have hz6 := hb.size
  try simp only [World.size_alloc, World.drewN, World.drew] at hz6
  clear hb K0_5 z0_0_5 z0_1_5 z0_2_5 z0_3_5 z0_4_5 z0_5_5 z0_6_5 z0_7_5 z0_8_5 z0_9_5 l0_5
  have l0_6 : w.heap.size < w6.heap.size := K0_6.out.lt
  have z0_0_6 : w6.cell? ⟨w.heap.size, 0, none⟩ = some (.int .i64 (m.ls)) := K0_6.out.cell 0
  have z0_1_6 : w6.cell? ⟨w.heap.size, 1, none⟩ = some (.int .i64 (m.ms)) := K0_6.out.cell 1
  have z0_2_6 : w6.cell? ⟨w.heap.size, 2, none⟩ = some (.int .i64 (m.lo)) := K0_6.out.cell 2
  have z0_3_6 : w6.cell? ⟨w.heap.size, 3, none⟩ = some (.int .i64 (m.hi)) := K0_6.out.cell 3
  have z0_4_6 : w6.cell? ⟨w.heap.size, 4, none⟩ = some (.int .i64 (m.sp)) := K0_6.out.cell 4
  have z0_5_6 : w6.cell? ⟨w.heap.size, 5, none⟩ = some (.slice m.A1 m.n1 m.c1) := K0_6.out.cell 5
  have z0_6_6 : w6.cell? ⟨w.heap.size, 6, none⟩ = some (.slice m.A2 m.n2 m.c2) := K0_6.out.cell 6
  have z0_7_6 : w6.cell? ⟨w.heap.size, 7, none⟩ = some (.slice A n c) := K0_6.out.cell 7
  have z0_8_6 : w6.cell? ⟨w.heap.size, 8, none⟩ = some (.int .i64 (day)) := K0_6.out.cell 8
  have z0_9_6 : w6.cell? ⟨w.heap.size, 9, none⟩ = some (.int .i64 (pos)) := K0_6.out.cell 9
  go_wp2_with fail
  refine (low (ints_eqd zA rA zc rc n n (ordI o) (ordI o) true (by simp) _ _ _ R2_6.out R3_6.out (by omega) (by omega))).mono ?_
  rintro e w7 ⟨rfl, hb⟩
  have HB7 := Lib.hid (show Below w.heap.size w w7 from step_below hb (by repeat' (first | exact Below.refl _ _ | exact HB6.out | refine below_drewN ?_ _ | refine Below.drew ?_ | refine Below.alloc ?_ (by first | omega | (simp; done) | (simp; omega) | (simp [World.setCell]; omega)) _ | refine Below.setCell ?_ (by first | omega | (simp; done) | (simp; omega)) _ | assumption)))
  have K0_7 := Lib.hid (step_blk hb (show Blk _ (w.heap.size) 28 #[.int .i64 (m.ls), .int .i64 (m.ms), .int .i64 (m.lo), .int .i64 (m.hi), .int .i64 (m.sp), .slice m.A1 m.n1 m.c1, .slice m.A2 m.n2 m.c2, .slice A n c, .int .i64 (day), .int .i64 (pos)] by repeat' (first | exact K0_6.out | exact Blk.at_ _ (by first | rfl | (simp; done) | (simp; omega)) _ _ | refine Blk.drewN ?_ _ | refine Blk.drew ?_ | refine Blk.alloc ?_ _ | refine Blk.far ?_ (by first | omega | (simp; done) | (simp; omega)) _ | assumption)))
  have hL7 := Lib.hid (show Below w6.heap.size w6 _ from reads_mid hb (by repeat' (first | exact Below.refl _ _ | refine below_drewN ?_ _ | refine Below.drew ?_ | refine Below.alloc ?_ (by first | omega | (simp; done) | (simp; omega) | (simp [World.setCell]; omega)) _ | refine Below.setCell ?_ (by first | omega | (simp; done) | (simp; omega)) _)))
  have R0_7 := Lib.hid (reads_lay hb hL7.out R0_6.out)
  have R1_7 := Lib.hid (mnt_lay hb hL7.out R1_6.out)
  have R2_7 := Lib.hid (reads_lay hb hL7.out R2_6.out)
  have R3_7 := Lib.hid (reads_lay hb hL7.out R3_6.out)
  clear hL7 R0_6 R1_6 R2_6 R3_6
  have hz7 := hb.size
  try simp only [World.size_alloc, World.drewN, World.drew] at hz7
  clear hb K0_6 z0_0_6 z0_1_6 z0_2_6 z0_3_6 z0_4_6 z0_5_6 z0_6_6 z0_7_6 z0_8_6 z0_9_6 l0_6
  have l0_7 : w.heap.size < w7.heap.size := K0_7.out.lt
  have z0_0_7 : w7.cell? ⟨w.heap.size, 0, none⟩ = some (.int .i64 (m.ls)) := K0_7.out.cell 0
  have z0_1_7 : w7.cell? ⟨w.heap.size, 1, none⟩ = some (.int .i64 (m.ms)) := K0_7.out.cell 1
  have z0_2_7 : w7.cell? ⟨w.heap.size, 2, none⟩ = some (.int .i64 (m.lo)) := K0_7.out.cell 2
  have z0_3_7 : w7.cell? ⟨w.heap.size, 3, none⟩ = some (.int .i64 (m.hi)) := K0_7.out.cell 3
  have z0_4_7 : w7.cell? ⟨w.heap.size, 4, none⟩ = some (.int .i64 (m.sp)) := K0_7.out.cell 4
  have z0_5_7 : w7.cell? ⟨w.heap.size, 5, none⟩ = some (.slice m.A1 m.n1 m.c1) := K0_7.out.cell 5
  have z0_6_7 : w7.cell? ⟨w.heap.size, 6, none⟩ = some (.slice m.A2 m.n2 m.c2) := K0_7.out.cell 6
  have z0_7_7 : w7.cell? ⟨w.heap.size, 7, none⟩ = some (.slice A n c) := K0_7.out.cell 7
  have z0_8_7 : w7.cell? ⟨w.heap.size, 8, none⟩ = some (.int .i64 (day)) := K0_7.out.cell 8
  have z0_9_7 : w7.cell? ⟨w.heap.size, 9, none⟩ = some (.int .i64 (pos)) := K0_7.out.cell 9
  go_wp2
  go_ret
  exact ⟨rfl, by repeat' (first | exact Below.refl _ _ | exact HB7.out | refine below_drewN ?_ _ | refine Below.drew ?_ | refine Below.alloc ?_ (by first | omega | (simp; done) | (simp; omega) | (simp [World.setCell]; omega)) _ | refine Below.setCell ?_ (by first | omega | (simp; done) | (simp; omega)) _ | assumption)⟩

theorem lawOR_any (m : Mnt) (A : Option Addr) (n c : Nat) (l : List Tgt) (day pos : Int) (w : World) (hx : TourIn m A n c l day pos w) :
    Calls Try.prog 3 #[tourV m A n c day pos] w fun e w' => e = .returned (.bool true) ∧ Below w.heap.size w w' := by
  cases hl : shortB m l
  · exact lawOR_no m A n c l day pos w hx false hl (.inl rfl)
  · by_cases h5 : n = 5
    · exact lawOR_no m A n c l day pos w hx true hl (.inr h5)
    · by_cases hT : (tourF m l day pos).2 = 0
      · exact lawOR_ok m A n c l day pos w hx hl h5 hT
      · exact lawOR_bad m A n c l day pos w hx hl h5 hT
end Go.Proofs.Ytclnffpfbngjoaa

end
