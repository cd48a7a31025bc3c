import Derived.Test.YtdidcpealabaiaaQ25

section
/- The walk of the statement on wider cables, behind its first cases. -/
namespace Go.Proofs.Ytdidcpealabaiaa
open Go Go.RowKit

set_option maxRecDepth 100000 in
set_option maxHeartbeats 8000000 in
theorem lawPV_ok (m : Mnt) (A : Option Addr) (n c : Nat) (l : List Tgt) (day pos : Int) (a b : Int) (w : World) (hx : TourIn m A n c l day pos w) (hl : shortB m l = true) (ht1 : withinB a 0 3000000 = true) (ht2 : withinB b 0 3000000 = true) (hT : (tourF m l day pos).2 = 0) :
    Calls Try.prog 5 #[tourV m A n c day pos, .agg #[.int .i64 a, .int .i64 b]] w fun e w' => e = .returned (.bool true) ∧ Below w.heap.size w w' := by
  have hma := hx.mnt.at_
  have hrd := hx.rd
  have hfit := hx.fit
  have hlen := hx.len
  have hnc := hx.hn.1
  have hcc := hx.hn.2
  unfold tourV
  clear hx
  obtain ⟨-, hn1, hn2, hn23⟩ := short_parts hl
  obtain ⟨r1, r2, ⟨r3, r4⟩, hl20, -⟩ := tour_right hT
  obtain ⟨⟨q1, q2, q3, q4⟩, -⟩ := mnt_right r1
  obtain ⟨a1, a2⟩ := (withinB_iff _ _ _).1 ht1
  obtain ⟨b1, b2⟩ := (withinB_iff _ _ _).1 ht2
  have hln : l.length = n := hrd.tlen
  have hn20 : n ≤ 20 := by omega
  obtain ⟨V, hV⟩ : ∃ V, leastC m day pos l = V := ⟨_, rfl⟩
  obtain ⟨LS, hLS⟩ : ∃ z, (if -25920000 < m.ls - a then m.ls - a else -25920000) = z := ⟨_, rfl⟩
  obtain ⟨MS, hMS⟩ : ∃ z, (if m.ms + b < 25920000 then m.ms + b else 25920000) = z := ⟨_, rfl⟩
  have hwt : ∀ A1 c1 A2 c2, (tourF ({ m with ls := LS, ms := MS, A1 := A1, c1 := c1, A2 := A2, c2 := c2 } : Mnt) l day pos).2 = 0 := fun A1 c1 A2 c2 => by
    have h := wide_tour (A1 := A1) (c1 := c1) (A2 := A2) (c2 := c2) a1 b1 hT
    unfold wideM at h
    rwa [hLS, hMS] at h
  have hwl : ∀ A1 c1 A2 c2 ks, pathErr m day l ks = 0 → costL pos (pathL m day l ks) = leastC m day pos l → leastC ({ m with ls := LS, ms := MS, A1 := A1, c1 := c1, A2 := A2, c2 := c2 } : Mnt) day pos l ≤ V := fun A1 c1 A2 c2 ks h1 h2 => by
    have h := wide_least (A1 := A1) (c1 := c1) (A2 := A2) (c2 := c2) a1 b1 hT h1 h2
    unfold wideM at h
    rwa [hLS, hMS, hV] at h
  have HL := Lib.hid hl
  have HT1 := Lib.hid ht1
  have HT2 := Lib.hid ht2
  have HF := Lib.hid hfit
  have HZ0 := Lib.hid hT
  have HV := Lib.hid hV
  have HN := Lib.hid hln
  have HM := Lib.hid r1
  have HD := Lib.hid r2
  have HLS := Lib.hid hLS
  have HMS := Lib.hid hMS
  have HWT := Lib.hid hwt
  have HWL := Lib.hid hwl
  have x1 := IntWalk.i64_in (m.ls - a) ⟨by omega, by omega⟩
  have x2 := IntWalk.i64_in (m.ms + b) ⟨by omega, by omega⟩
  have q0 : ((0 : Int) != 0) = false := by decide
  clear hl hfit hT hV hln ht1 ht2 r1 r2 hLS hMS hwt hwl
  go_enter Try.func5, Try.ntmps5
  have R0_0 := Lib.hid hrd
  clear hrd
  have R1_0 := Lib.hid hma
  clear hma
  go_wp2_with fail
  refine (awakept_any _).mono ?_
  rintro e w1 ⟨rfl, hb⟩
  have HB1 := Lib.hid (show Below w.heap.size w w1 from step_below hb (by repeat' (first | exact Below.refl _ _ | exact HB0.out | refine below_drewN ?_ _ | refine Below.drew ?_ | refine Below.alloc ?_ (by first | omega | (simp; done) | (simp; omega) | (simp [World.setCell]; omega)) _ | refine Below.setCell ?_ (by first | omega | (simp; done) | (simp; omega)) _ | assumption)))
  have K0_1 := Lib.hid (step_blk hb (show Blk _ (w.heap.size) 62 #[.int .i64 (m.ls), .int .i64 (m.ms), .int .i64 (m.lo), .int .i64 (m.hi), .int .i64 (m.sp), .slice m.A1 m.n1 m.c1, .slice m.A2 m.n2 m.c2, .slice (A) n c, .int .i64 (day), .int .i64 (pos)] by repeat' (first | exact Blk.at_ _ (by first | rfl | (simp; done) | (simp; omega)) _ _ | refine Blk.drewN ?_ _ | refine Blk.drew ?_ | refine Blk.alloc ?_ _ | refine Blk.far ?_ (by first | omega | (simp; done) | (simp; omega)) _ | assumption)))
  have K1_1 := Lib.hid (step_blk hb (show Blk _ (w.heap.size + 1) 60 #[.int .i64 (a), .int .i64 (b)] by repeat' (first | exact Blk.at_ _ (by first | rfl | (simp; done) | (simp; omega)) _ _ | refine Blk.drewN ?_ _ | refine Blk.drew ?_ | refine Blk.alloc ?_ _ | refine Blk.far ?_ (by first | omega | (simp; done) | (simp; omega)) _ | assumption)))
  have hL1 := Lib.hid (show Below w.heap.size w _ from reads_mid hb (by repeat' (first | exact Below.refl _ _ | refine below_drewN ?_ _ | refine Below.drew ?_ | refine Below.alloc ?_ (by first | omega | (simp; done) | (simp; omega) | (simp [World.setCell]; omega)) _ | refine Below.setCell ?_ (by first | omega | (simp; done) | (simp; omega)) _)))
  have R0_1 := Lib.hid (reads_lay hb hL1.out R0_0.out)
  have R1_1 := Lib.hid (mnt_lay hb hL1.out R1_0.out)
  clear hL1 R0_0 R1_0
  have hz1 := hb.size
  try simp only [World.size_alloc, World.drewN, World.drew] at hz1
  clear hb
  have l0_1 : w.heap.size < w1.heap.size := K0_1.out.lt
  have z0_0_1 : w1.cell? ⟨w.heap.size, 0, none⟩ = some (.int .i64 (m.ls)) := K0_1.out.cell 0
  have z0_1_1 : w1.cell? ⟨w.heap.size, 1, none⟩ = some (.int .i64 (m.ms)) := K0_1.out.cell 1
  have z0_2_1 : w1.cell? ⟨w.heap.size, 2, none⟩ = some (.int .i64 (m.lo)) := K0_1.out.cell 2
  have z0_3_1 : w1.cell? ⟨w.heap.size, 3, none⟩ = some (.int .i64 (m.hi)) := K0_1.out.cell 3
  have z0_4_1 : w1.cell? ⟨w.heap.size, 4, none⟩ = some (.int .i64 (m.sp)) := K0_1.out.cell 4
  have z0_5_1 : w1.cell? ⟨w.heap.size, 5, none⟩ = some (.slice m.A1 m.n1 m.c1) := K0_1.out.cell 5
  have z0_6_1 : w1.cell? ⟨w.heap.size, 6, none⟩ = some (.slice m.A2 m.n2 m.c2) := K0_1.out.cell 6
  have z0_7_1 : w1.cell? ⟨w.heap.size, 7, none⟩ = some (.slice (A) n c) := K0_1.out.cell 7
  have z0_8_1 : w1.cell? ⟨w.heap.size, 8, none⟩ = some (.int .i64 (day)) := K0_1.out.cell 8
  have z0_9_1 : w1.cell? ⟨w.heap.size, 9, none⟩ = some (.int .i64 (pos)) := K0_1.out.cell 9
  have l1_1 : w.heap.size + 1 < w1.heap.size := K1_1.out.lt
  have z1_0_1 : w1.cell? ⟨w.heap.size + 1, 0, none⟩ = some (.int .i64 (a)) := K1_1.out.cell 0
  have z1_1_1 : w1.cell? ⟨w.heap.size + 1, 1, none⟩ = some (.int .i64 (b)) := K1_1.out.cell 1
  go_wp2_with fail
  refine (shortp_is m A n c _ l day pos true HL.out _ R0_1.out (Nat.le_refl _) (by omega)).mono ?_
  rintro e w2 ⟨rfl, hb⟩
  have HB2 := Lib.hid (show Below w.heap.size w w2 from step_below hb (by repeat' (first | exact Below.refl _ _ | exact HB1.out | refine below_drewN ?_ _ | refine Below.drew ?_ | refine Below.alloc ?_ (by first | omega | (simp; done) | (simp; omega) | (simp [World.setCell]; omega)) _ | refine Below.setCell ?_ (by first | omega | (simp; done) | (simp; omega)) _ | assumption)))
  have K0_2 := Lib.hid (step_blk hb (show Blk _ (w.heap.size) 62 #[.int .i64 (m.ls), .int .i64 (m.ms), .int .i64 (m.lo), .int .i64 (m.hi), .int .i64 (m.sp), .slice m.A1 m.n1 m.c1, .slice m.A2 m.n2 m.c2, .slice (A) n c, .int .i64 (day), .int .i64 (pos)] by repeat' (first | exact K0_1.out | exact K1_1.out | exact Blk.at_ _ (by first | rfl | (simp; done) | (simp; omega)) _ _ | refine Blk.drewN ?_ _ | refine Blk.drew ?_ | refine Blk.alloc ?_ _ | refine Blk.far ?_ (by first | omega | (simp; done) | (simp; omega)) _ | assumption)))
  have K1_2 := Lib.hid (step_blk hb (show Blk _ (w.heap.size + 1) 60 #[.int .i64 (a), .int .i64 (b)] by repeat' (first | exact K0_1.out | exact K1_1.out | exact Blk.at_ _ (by first | rfl | (simp; done) | (simp; omega)) _ _ | refine Blk.drewN ?_ _ | refine Blk.drew ?_ | refine Blk.alloc ?_ _ | refine Blk.far ?_ (by first | omega | (simp; done) | (simp; omega)) _ | assumption)))
  have hL2 := Lib.hid (show Below w1.heap.size w1 _ from reads_mid hb (by repeat' (first | exact Below.refl _ _ | refine below_drewN ?_ _ | refine Below.drew ?_ | refine Below.alloc ?_ (by first | omega | (simp; done) | (simp; omega) | (simp [World.setCell]; omega)) _ | refine Below.setCell ?_ (by first | omega | (simp; done) | (simp; omega)) _)))
  have R0_2 := Lib.hid (reads_lay hb hL2.out R0_1.out)
  have R1_2 := Lib.hid (mnt_lay hb hL2.out R1_1.out)
  clear hL2 R0_1 R1_1
  have hz2 := hb.size
  try simp only [World.size_alloc, World.drewN, World.drew] at hz2
  clear hb K0_1 K1_1 z0_0_1 z0_1_1 z0_2_1 z0_3_1 z0_4_1 z0_5_1 z0_6_1 z0_7_1 z0_8_1 z0_9_1 l0_1 z1_0_1 z1_1_1 l1_1
  have l0_2 : w.heap.size < w2.heap.size := K0_2.out.lt
  have z0_0_2 : w2.cell? ⟨w.heap.size, 0, none⟩ = some (.int .i64 (m.ls)) := K0_2.out.cell 0
  have z0_1_2 : w2.cell? ⟨w.heap.size, 1, none⟩ = some (.int .i64 (m.ms)) := K0_2.out.cell 1
  have z0_2_2 : w2.cell? ⟨w.heap.size, 2, none⟩ = some (.int .i64 (m.lo)) := K0_2.out.cell 2
  have z0_3_2 : w2.cell? ⟨w.heap.size, 3, none⟩ = some (.int .i64 (m.hi)) := K0_2.out.cell 3
  have z0_4_2 : w2.cell? ⟨w.heap.size, 4, none⟩ = some (.int .i64 (m.sp)) := K0_2.out.cell 4
  have z0_5_2 : w2.cell? ⟨w.heap.size, 5, none⟩ = some (.slice m.A1 m.n1 m.c1) := K0_2.out.cell 5
  have z0_6_2 : w2.cell? ⟨w.heap.size, 6, none⟩ = some (.slice m.A2 m.n2 m.c2) := K0_2.out.cell 6
  have z0_7_2 : w2.cell? ⟨w.heap.size, 7, none⟩ = some (.slice (A) n c) := K0_2.out.cell 7
  have z0_8_2 : w2.cell? ⟨w.heap.size, 8, none⟩ = some (.int .i64 (day)) := K0_2.out.cell 8
  have z0_9_2 : w2.cell? ⟨w.heap.size, 9, none⟩ = some (.int .i64 (pos)) := K0_2.out.cell 9
  have l1_2 : w.heap.size + 1 < w2.heap.size := K1_2.out.lt
  have z1_0_2 : w2.cell? ⟨w.heap.size + 1, 0, none⟩ = some (.int .i64 (a)) := K1_2.out.cell 0
  have z1_1_2 : w2.cell? ⟨w.heap.size + 1, 1, none⟩ = some (.int .i64 (b)) := K1_2.out.cell 1
  go_wp2_with fail
  refine (withinref_is _ _ _ _ HT1.out _).mono ?_
  rintro e w' ⟨rfl, rfl⟩
  go_wp2_with fail
  refine (withinref_is _ _ _ _ HT2.out _).mono ?_
  rintro e w' ⟨rfl, rfl⟩
  go_wp2
  apply share5 (Fact := fun (_ _ u z : Pick2) (wz : World) => ∃ bx, z.1.1 = some ⟨bx, 0, none⟩ ∧ w2.heap.size ≤ bx ∧ Below w2.heap.size w2 wz ∧ Blk wz bx 67 #[.slice u.1.1 n u.1.2, .slice u.2.1 n u.2.2] ∧ ChQ m day pos l u wz)
  · intro key
    refine Fx.regionM (fun W g f w' => KpG (PfT m n l 0 [] 2 5 98) (ChQ m day pos l) 67 (fun z => .slice z.1.1 n z.1.2) (fun z => .slice z.2.1 n z.2.2) 13 14 8 W g f w') (fun i (x : Pick2) => if i = 8 then .tuple #[.agg #[.slice x.1.1 n x.1.2, .slice x.2.1 n x.2.2], .int .i64 V, .int .i64 0] else if i = 13 then .pointer x.1.1 else valT m n 0 2 5 i x) (by kernel_rfl) ?_ ?_
    · intro f hf0
      exact KpG.start
    first
    | (refine Fx.WM.skip 0 (by rfl) (by kernel_rfl) (by kernel_rfl) (by kernel_rfl) (by rfl) (fun g f w h => h.same (by decide)) ?_; simp only [Act.put, List.setIfInBounds_toArray, List.set_cons_zero, List.set_cons_succ])
    | (refine Fx.WM.val_ 0 ?_ (by rfl) (by kernel_rfl) (by kernel_rfl) (by kernel_rfl) (by rfl) ?_ (fun g f w h => h.same (by decide)) ?_
       rotate_left
       · intro g f w' hx hD hk
         obtain hkp := id hD
         have y0_0 := (K0_2.out.below hkp.bel l0_2).cell 0
         have y0_1 := (K0_2.out.below hkp.bel l0_2).cell 1
         have y0_2 := (K0_2.out.below hkp.bel l0_2).cell 2
         have y0_3 := (K0_2.out.below hkp.bel l0_2).cell 3
         have y0_4 := (K0_2.out.below hkp.bel l0_2).cell 4
         have y0_5 := (K0_2.out.below hkp.bel l0_2).cell 5
         have y0_6 := (K0_2.out.below hkp.bel l0_2).cell 6
         have y0_7 := (K0_2.out.below hkp.bel l0_2).cell 7
         have y0_8 := (K0_2.out.below hkp.bel l0_2).cell 8
         have y0_9 := (K0_2.out.below hkp.bel l0_2).cell 9
         clear hx hk hD hkp
         go_simp
         try rfl
       simp only [Act.put, List.setIfInBounds_toArray, List.set_cons_zero, List.set_cons_succ])
    first
    | (refine Fx.WM.skip 1 (by rfl) (by kernel_rfl) (by kernel_rfl) (by kernel_rfl) (by rfl) (fun g f w h => h.same (by decide)) ?_; simp only [Act.put, List.setIfInBounds_toArray, List.set_cons_zero, List.set_cons_succ])
    | (refine Fx.WM.val_ 1 ?_ (by rfl) (by kernel_rfl) (by kernel_rfl) (by kernel_rfl) (by rfl) ?_ (fun g f w h => h.same (by decide)) ?_
       rotate_left
       · intro g f w' hx hD hk
         obtain hkp := id hD
         have y0_0 := (K0_2.out.below hkp.bel l0_2).cell 0
         have y0_1 := (K0_2.out.below hkp.bel l0_2).cell 1
         have y0_2 := (K0_2.out.below hkp.bel l0_2).cell 2
         have y0_3 := (K0_2.out.below hkp.bel l0_2).cell 3
         have y0_4 := (K0_2.out.below hkp.bel l0_2).cell 4
         have y0_5 := (K0_2.out.below hkp.bel l0_2).cell 5
         have y0_6 := (K0_2.out.below hkp.bel l0_2).cell 6
         have y0_7 := (K0_2.out.below hkp.bel l0_2).cell 7
         have y0_8 := (K0_2.out.below hkp.bel l0_2).cell 8
         have y0_9 := (K0_2.out.below hkp.bel l0_2).cell 9
         clear hx hk hD hkp
         go_simp
         try rfl
       simp only [Act.put, List.setIfInBounds_toArray, List.set_cons_zero, List.set_cons_succ])
    first
    | (refine Fx.WM.skip 3 (by rfl) (by kernel_rfl) (by kernel_rfl) (by kernel_rfl) (by rfl) (fun g f w h => h.same (by decide)) ?_; simp only [Act.put, List.setIfInBounds_toArray, List.set_cons_zero, List.set_cons_succ])
    | (refine Fx.WM.val_ 3 ?_ (by rfl) (by kernel_rfl) (by kernel_rfl) (by kernel_rfl) (by rfl) ?_ (fun g f w h => h.same (by decide)) ?_
       rotate_left
       · intro g f w' hx hD hk
         obtain hkp := id hD
         have y0_0 := (K0_2.out.below hkp.bel l0_2).cell 0
         have y0_1 := (K0_2.out.below hkp.bel l0_2).cell 1
         have y0_2 := (K0_2.out.below hkp.bel l0_2).cell 2
         have y0_3 := (K0_2.out.below hkp.bel l0_2).cell 3
         have y0_4 := (K0_2.out.below hkp.bel l0_2).cell 4
         have y0_5 := (K0_2.out.below hkp.bel l0_2).cell 5
         have y0_6 := (K0_2.out.below hkp.bel l0_2).cell 6
         have y0_7 := (K0_2.out.below hkp.bel l0_2).cell 7
         have y0_8 := (K0_2.out.below hkp.bel l0_2).cell 8
         have y0_9 := (K0_2.out.below hkp.bel l0_2).cell 9
         clear hx hk hD hkp
         go_simp
         try rfl
       simp only [Act.put, List.setIfInBounds_toArray, List.set_cons_zero, List.set_cons_succ])
    first
    | (refine Fx.WM.skip 4 (by rfl) (by kernel_rfl) (by kernel_rfl) (by kernel_rfl) (by rfl) (fun g f w h => h.same (by decide)) ?_; simp only [Act.put, List.setIfInBounds_toArray, List.set_cons_zero, List.set_cons_succ])
    | (refine Fx.WM.val_ 4 ?_ (by rfl) (by kernel_rfl) (by kernel_rfl) (by kernel_rfl) (by rfl) ?_ (fun g f w h => h.same (by decide)) ?_
       rotate_left
       · intro g f w' hx hD hk
         obtain hkp := id hD
         have y0_0 := (K0_2.out.below hkp.bel l0_2).cell 0
         have y0_1 := (K0_2.out.below hkp.bel l0_2).cell 1
         have y0_2 := (K0_2.out.below hkp.bel l0_2).cell 2
         have y0_3 := (K0_2.out.below hkp.bel l0_2).cell 3
         have y0_4 := (K0_2.out.below hkp.bel l0_2).cell 4
         have y0_5 := (K0_2.out.below hkp.bel l0_2).cell 5
         have y0_6 := (K0_2.out.below hkp.bel l0_2).cell 6
         have y0_7 := (K0_2.out.below hkp.bel l0_2).cell 7
         have y0_8 := (K0_2.out.below hkp.bel l0_2).cell 8
         have y0_9 := (K0_2.out.below hkp.bel l0_2).cell 9
         clear hx hk hD hkp
         go_simp
         try rfl
       simp only [Act.put, List.setIfInBounds_toArray, List.set_cons_zero, List.set_cons_succ])
    first
    | (refine Fx.WM.skip 6 (by rfl) (by kernel_rfl) (by kernel_rfl) (by kernel_rfl) (by rfl) (fun g f w h => h.same (by decide)) ?_; simp only [Act.put, List.setIfInBounds_toArray, List.set_cons_zero, List.set_cons_succ])
    | (refine Fx.WM.val_ 6 ?_ (by rfl) (by kernel_rfl) (by kernel_rfl) (by kernel_rfl) (by rfl) ?_ (fun g f w h => h.same (by decide)) ?_
       rotate_left
       · intro g f w' hx hD hk
         obtain hkp := id hD
         have y0_0 := (K0_2.out.below hkp.bel l0_2).cell 0
         have y0_1 := (K0_2.out.below hkp.bel l0_2).cell 1
         have y0_2 := (K0_2.out.below hkp.bel l0_2).cell 2
         have y0_3 := (K0_2.out.below hkp.bel l0_2).cell 3
         have y0_4 := (K0_2.out.below hkp.bel l0_2).cell 4
         have y0_5 := (K0_2.out.below hkp.bel l0_2).cell 5
         have y0_6 := (K0_2.out.below hkp.bel l0_2).cell 6
         have y0_7 := (K0_2.out.below hkp.bel l0_2).cell 7
         have y0_8 := (K0_2.out.below hkp.bel l0_2).cell 8
         have y0_9 := (K0_2.out.below hkp.bel l0_2).cell 9
         clear hx hk hD hkp
         go_simp
         try rfl
       simp only [Act.put, List.setIfInBounds_toArray, List.set_cons_zero, List.set_cons_succ])
    first
    | (refine Fx.WM.skip 7 (by rfl) (by kernel_rfl) (by kernel_rfl) (by kernel_rfl) (by rfl) (fun g f w h => h.same (by decide)) ?_; simp only [Act.put, List.setIfInBounds_toArray, List.set_cons_zero, List.set_cons_succ])
    | (refine Fx.WM.val_ 7 ?_ (by rfl) (by kernel_rfl) (by kernel_rfl) (by kernel_rfl) (by rfl) ?_ (fun g f w h => h.same (by decide)) ?_
       rotate_left
       · intro g f w' hx hD hk
         obtain hkp := id hD
         have y0_0 := (K0_2.out.below hkp.bel l0_2).cell 0
         have y0_1 := (K0_2.out.below hkp.bel l0_2).cell 1
         have y0_2 := (K0_2.out.below hkp.bel l0_2).cell 2
         have y0_3 := (K0_2.out.below hkp.bel l0_2).cell 3
         have y0_4 := (K0_2.out.below hkp.bel l0_2).cell 4
         have y0_5 := (K0_2.out.below hkp.bel l0_2).cell 5
         have y0_6 := (K0_2.out.below hkp.bel l0_2).cell 6
         have y0_7 := (K0_2.out.below hkp.bel l0_2).cell 7
         have y0_8 := (K0_2.out.below hkp.bel l0_2).cell 8
         have y0_9 := (K0_2.out.below hkp.bel l0_2).cell 9
         clear hx hk hD hkp
         go_simp
         try rfl
       simp only [Act.put, List.setIfInBounds_toArray, List.set_cons_zero, List.set_cons_succ])
    refine Fx.WM.choose2 2 13 (by rfl) (by rfl) (by kernel_rfl) (by rfl) (by rfl) ?_ ?_ ?_ ?_
    · skip
      refine Fx.Chooses.call ?_ ?_ (by rfl) ?_ ?_
      rotate_left 2
      · intro w'
        go_simp
        refine ⟨?_, ?_⟩ <;> rfl
      · intro f w' hD hk
        exact (mount_any m w' (R1_2.out.lay hD.bel) (by omega) (by omega)).mono fun e w'' ⟨A', c', B', d', he, hb, hm⟩ => ⟨((A', c'), (B', d')), he, hD.choose PfT.stb ChQ.stb hb 2 _ (by decide) (by decide) (hk.2.1 14 (by kernel_rfl)) ⟨fun _ => hm, fun e => absurd e (by decide), fun e => absurd e (by decide)⟩ (fun e => absurd e (by decide))⟩
    · skip
      refine Fx.Chooses.make (by rfl) ?_
      intro f w' hD hk
      refine ⟨((some ⟨w'.heap.size, 0, none⟩, 0), (none, 0)), w'.alloc (.cells #[.slice none 0 0, .slice none 0 0] 67), ?_, ?_⟩
      · clear hk hD
        go_simp
        try rfl
      · exact hD.make PfT.stb ChQ.stb (hk.2.1 14 (by kernel_rfl)) (by decide) (by decide)
    · skip
      intro x
      simp only [Act.put, List.setIfInBounds_toArray, List.set_cons_zero, List.set_cons_succ]
      refine Fx.WM.choose2 5 13 (by rfl) (by rfl) (by kernel_rfl) (by rfl) (by rfl) ?_ ?_ ?_ ?_
      · skip
        refine Fx.Chooses.call ?_ ?_ (by rfl) ?_ ?_
        rotate_left 2
        · intro w'
          go_simp
          refine ⟨?_, ?_⟩ <;> rfl
        · intro f w' hD hk
          exact (ctargets_any A n c w'.heap.size l w' ((R0_2.out.below hD.bel).more hD.bel.size) (Nat.le_refl _) (by omega)).mono fun e w'' ⟨A', c', he, hb, hr, ho⟩ => ⟨((A', c'), (none, 0)), he, hD.choose PfT.stb ChQ.stb hb 5 _ (by decide) (by decide) (hk.2.1 14 (by kernel_rfl)) ⟨fun e => absurd e (by decide), fun _ => ⟨hr, own_cap ho⟩, fun e => absurd e (by decide)⟩ (fun e => absurd e (by decide))⟩
      · skip
        refine Fx.Chooses.make (by rfl) ?_
        intro f w' hD hk
        refine ⟨((some ⟨w'.heap.size, 0, none⟩, 0), (none, 0)), w'.alloc (.cells #[.slice none 0 0, .slice none 0 0] 67), ?_, ?_⟩
        · clear hk hD
          go_simp
          try rfl
        · exact hD.make PfT.stb ChQ.stb (hk.2.1 14 (by kernel_rfl)) (by decide) (by decide)
      · skip
        intro y
        simp only [Act.put, List.setIfInBounds_toArray, List.set_cons_zero, List.set_cons_succ]
        refine Fx.WM.choose2 8 13 (by rfl) (by rfl) (by kernel_rfl) (by rfl) (by rfl) ?_ ?_ ?_ ?_
        · skip
          refine Fx.Chooses.call ?_ ?_ (by rfl) ?_ ?_
          rotate_left 2
          · intro w'
            go_simp
            refine ⟨?_, ?_⟩ <;> rfl
          · intro f w' hD hk
            exact (pchoosef_like HN.out HV.out x.1.1 x.2.1 x.1.2 x.2.2 y.1.1 y.1.2 HZ0.out w' ((hD.has (hk.2.1 14 (by kernel_rfl)) 2 x (by rfl) (by decide)).1 rfl) ((hD.has (hk.2.1 14 (by kernel_rfl)) 5 y (by rfl) (by decide)).2.1 rfl).1 ((hD.has (hk.2.1 14 (by kernel_rfl)) 5 y (by rfl) (by decide)).2.1 rfl).2 HF.out).mono fun e w'' ⟨u, he, hb, hq⟩ => ⟨u, he, hD.choose PfT.stb ChQ.stb hb 8 _ (by decide) (by decide) (hk.2.1 14 (by kernel_rfl)) ⟨fun e => absurd e (by decide), fun e => absurd e (by decide), fun e => absurd e (by decide)⟩ (fun _ => hq)⟩
        · skip
          refine Fx.Chooses.make (by rfl) ?_
          intro f w' hD hk
          refine ⟨((some ⟨w'.heap.size, 0, none⟩, 0), (none, 0)), w'.alloc (.cells #[.slice none 0 0, .slice none 0 0] 67), ?_, ?_⟩
          · clear hk hD
            go_simp
            try rfl
          · exact hD.make PfT.stb ChQ.stb (hk.2.1 14 (by kernel_rfl)) (by decide) (by decide)
        · skip
          intro u
          simp only [Act.put, List.setIfInBounds_toArray, List.set_cons_zero, List.set_cons_succ]
          first
          | (refine Fx.WM.skip 9 (by rfl) (by kernel_rfl) (by kernel_rfl) (by kernel_rfl) (by rfl) (fun g f w h => h.same (by decide)) ?_; simp only [Act.put, List.setIfInBounds_toArray, List.set_cons_zero, List.set_cons_succ])
          | (refine Fx.WM.val_ 9 ?_ (by rfl) (by kernel_rfl) (by kernel_rfl) (by kernel_rfl) (by rfl) ?_ (fun g f w h => h.same (by decide)) ?_
             rotate_left
             · intro g f w' hx hD hk
               obtain hkp := id hD
               clear hx hk hD hkp
               go_simp
               try rfl
             simp only [Act.put, List.setIfInBounds_toArray, List.set_cons_zero, List.set_cons_succ])
          first
          | (refine Fx.WM.skip 10 (by rfl) (by kernel_rfl) (by kernel_rfl) (by kernel_rfl) (by rfl) (fun g f w h => h.same (by decide)) ?_; simp only [Act.put, List.setIfInBounds_toArray, List.set_cons_zero, List.set_cons_succ])
          | (refine Fx.WM.val_ 10 ?_ (by rfl) (by kernel_rfl) (by kernel_rfl) (by kernel_rfl) (by rfl) ?_ (fun g f w h => h.same (by decide)) ?_
             rotate_left
             · intro g f w' hx hD hk
               obtain hkp := id hD
               clear hx hk hD hkp
               go_simp
               try rfl
             simp only [Act.put, List.setIfInBounds_toArray, List.set_cons_zero, List.set_cons_succ])
          first
          | (refine Fx.WM.skip 11 (by rfl) (by kernel_rfl) (by kernel_rfl) (by kernel_rfl) (by rfl) (fun g f w h => h.same (by decide)) ?_; simp only [Act.put, List.setIfInBounds_toArray, List.set_cons_zero, List.set_cons_succ])
          | (refine Fx.WM.val_ 11 ?_ (by rfl) (by kernel_rfl) (by kernel_rfl) (by kernel_rfl) (by rfl) ?_ (fun g f w h => h.same (by decide)) ?_
             rotate_left
             · intro g f w' hx hD hk
               obtain hkp := id hD
               clear hx hk hD hkp
               go_simp
               try rfl
             simp only [Act.put, List.setIfInBounds_toArray, List.set_cons_zero, List.set_cons_succ])
          first
          | (refine Fx.WM.skip 12 (by rfl) (by kernel_rfl) (by kernel_rfl) (by kernel_rfl) (by rfl) (fun g f w h => h.same (by decide)) ?_; simp only [Act.put, List.setIfInBounds_toArray, List.set_cons_zero, List.set_cons_succ])
          | (refine Fx.WM.val_ 12 ?_ (by rfl) (by kernel_rfl) (by kernel_rfl) (by kernel_rfl) (by rfl) ?_ (fun g f w h => h.same (by decide)) ?_
             rotate_left
             · intro g f w' hx hD hk
               obtain hkp := id hD
               clear hx hk hD hkp
               go_simp
               try rfl
             simp only [Act.put, List.setIfInBounds_toArray, List.set_cons_zero, List.set_cons_succ])
          refine Fx.WM.choose 13 (by rfl) (by kernel_rfl) (by rfl) ?_ ?_
          · skip
            refine Fx.Chooses.make (by rfl) ?_
            intro f w' hD hk
            refine ⟨((some ⟨w'.heap.size, 0, none⟩, 0), (none, 0)), w'.alloc (.cells #[.slice none 0 0, .slice none 0 0] 67), ?_, ?_⟩
            · clear hk hD
              go_simp
              try rfl
            · exact hD.make PfT.stb ChQ.stb (hk.2.1 14 (by kernel_rfl)) (by decide) (by decide)
          intro z
          simp only [Act.put, List.setIfInBounds_toArray, List.set_cons_zero, List.set_cons_succ]
          refine Fx.WM.eff 14 undef (by rfl) (by kernel_rfl) (by kernel_rfl) (by kernel_rfl) (by rfl) ?_ ?_
          · intro g f w' hx hD hk
            obtain ⟨bx, e0, e1, r0, r1, r2, r3, r4, r5⟩ := KpG.cells hD (hx 13 _ (by rfl))
            refine Fx.gives_skip (w' := ((w'.setCell ⟨bx, 0, none⟩ (.slice u.1.1 n u.1.2)).setCell ⟨bx, 1, none⟩ (.slice u.2.1 n u.2.2))) ?_ ?_
            · clear hx hk hD
              go_simp
              try rfl
            · exact KpG.store hD ChQ.stb (hx 13 _ (by rfl)) r0 (hx 8 _ (by rfl))
          simp only [Act.put, List.setIfInBounds_toArray, List.set_cons_zero, List.set_cons_succ]
          first
          | (refine Fx.WM.skip 15 (by rfl) (by kernel_rfl) (by kernel_rfl) (by kernel_rfl) (by rfl) (fun g f w h => h.same (by decide)) ?_; simp only [Act.put, List.setIfInBounds_toArray, List.set_cons_zero, List.set_cons_succ])
          | (refine Fx.WM.val_ 15 ?_ (by rfl) (by kernel_rfl) (by kernel_rfl) (by kernel_rfl) (by rfl) ?_ (fun g f w h => h.same (by decide)) ?_
             rotate_left
             · intro g f w' hx hD hk
               obtain hkp := id hD
               clear hx hk hD hkp
               go_simp
               try rfl
             simp only [Act.put, List.setIfInBounds_toArray, List.set_cons_zero, List.set_cons_succ])
          first
          | (refine Fx.WM.skip 16 (by rfl) (by kernel_rfl) (by kernel_rfl) (by kernel_rfl) (by rfl) (fun g f w h => h.same (by decide)) ?_; simp only [Act.put, List.setIfInBounds_toArray, List.set_cons_zero, List.set_cons_succ])
          | (refine Fx.WM.val_ 16 ?_ (by rfl) (by kernel_rfl) (by kernel_rfl) (by kernel_rfl) (by rfl) ?_ (fun g f w h => h.same (by decide)) ?_
             rotate_left
             · intro g f w' hx hD hk
               obtain hkp := id hD
               clear hx hk hD hkp
               go_simp
               try rfl
             simp only [Act.put, List.setIfInBounds_toArray, List.set_cons_zero, List.set_cons_succ])
          refine Fx.WM.nil (by kernel_rfl) ?_
          intro wz hkp
          obtain ⟨bx, h1, h2, h3, h4⟩ := KpG.end_ hkp (x := z) (z := u) (by rfl) (by rfl) (by rfl)
          exact key x y u z wz ⟨bx, h1, h2, hkp.bel, h3, h4⟩
        · skip
          intro z
          simp only [Act.put, List.setIfInBounds_toArray, List.set_cons_zero, List.set_cons_succ]
          refine Fx.WM.choose 8 (by rfl) (by kernel_rfl) (by rfl) ?_ ?_
          · skip
            refine Fx.Chooses.call ?_ ?_ (by rfl) ?_ ?_
            rotate_left 2
            · intro w'
              go_simp
              refine ⟨?_, ?_⟩ <;> rfl
            · intro f w' hD hk
              exact (pchoosef_like HN.out HV.out x.1.1 x.2.1 x.1.2 x.2.2 y.1.1 y.1.2 HZ0.out w' ((hD.has (hk.2.1 14 (by kernel_rfl)) 2 x (by rfl) (by decide)).1 rfl) ((hD.has (hk.2.1 14 (by kernel_rfl)) 5 y (by rfl) (by decide)).2.1 rfl).1 ((hD.has (hk.2.1 14 (by kernel_rfl)) 5 y (by rfl) (by decide)).2.1 rfl).2 HF.out).mono fun e w'' ⟨u, he, hb, hq⟩ => ⟨u, he, hD.choose PfT.stb ChQ.stb hb 8 _ (by decide) (by decide) (hk.2.1 14 (by kernel_rfl)) ⟨fun e => absurd e (by decide), fun e => absurd e (by decide), fun e => absurd e (by decide)⟩ (fun _ => hq)⟩
          intro u
          simp only [Act.put, List.setIfInBounds_toArray, List.set_cons_zero, List.set_cons_succ]
          first
          | (refine Fx.WM.skip 9 (by rfl) (by kernel_rfl) (by kernel_rfl) (by kernel_rfl) (by rfl) (fun g f w h => h.same (by decide)) ?_; simp only [Act.put, List.setIfInBounds_toArray, List.set_cons_zero, List.set_cons_succ])
          | (refine Fx.WM.val_ 9 ?_ (by rfl) (by kernel_rfl) (by kernel_rfl) (by kernel_rfl) (by rfl) ?_ (fun g f w h => h.same (by decide)) ?_
             rotate_left
             · intro g f w' hx hD hk
               obtain hkp := id hD
               clear hx hk hD hkp
               go_simp
               try rfl
             simp only [Act.put, List.setIfInBounds_toArray, List.set_cons_zero, List.set_cons_succ])
          first
          | (refine Fx.WM.skip 10 (by rfl) (by kernel_rfl) (by kernel_rfl) (by kernel_rfl) (by rfl) (fun g f w h => h.same (by decide)) ?_; simp only [Act.put, List.setIfInBounds_toArray, List.set_cons_zero, List.set_cons_succ])
          | (refine Fx.WM.val_ 10 ?_ (by rfl) (by kernel_rfl) (by kernel_rfl) (by kernel_rfl) (by rfl) ?_ (fun g f w h => h.same (by decide)) ?_
             rotate_left
             · intro g f w' hx hD hk
               obtain hkp := id hD
               clear hx hk hD hkp
               go_simp
               try rfl
             simp only [Act.put, List.setIfInBounds_toArray, List.set_cons_zero, List.set_cons_succ])
          first
          | (refine Fx.WM.skip 11 (by rfl) (by kernel_rfl) (by kernel_rfl) (by kernel_rfl) (by rfl) (fun g f w h => h.same (by decide)) ?_; simp only [Act.put, List.setIfInBounds_toArray, List.set_cons_zero, List.set_cons_succ])
          | (refine Fx.WM.val_ 11 ?_ (by rfl) (by kernel_rfl) (by kernel_rfl) (by kernel_rfl) (by rfl) ?_ (fun g f w h => h.same (by decide)) ?_
             rotate_left
             · intro g f w' hx hD hk
               obtain hkp := id hD
               clear hx hk hD hkp
               go_simp
               try rfl
             simp only [Act.put, List.setIfInBounds_toArray, List.set_cons_zero, List.set_cons_succ])
          first
          | (refine Fx.WM.skip 12 (by rfl) (by kernel_rfl) (by kernel_rfl) (by kernel_rfl) (by rfl) (fun g f w h => h.same (by decide)) ?_; simp only [Act.put, List.setIfInBounds_toArray, List.set_cons_zero, List.set_cons_succ])
          | (refine Fx.WM.val_ 12 ?_ (by rfl) (by kernel_rfl) (by kernel_rfl) (by kernel_rfl) (by rfl) ?_ (fun g f w h => h.same (by decide)) ?_
             rotate_left
             · intro g f w' hx hD hk
               obtain hkp := id hD
               clear hx hk hD hkp
               go_simp
               try rfl
             simp only [Act.put, List.setIfInBounds_toArray, List.set_cons_zero, List.set_cons_succ])
          refine Fx.WM.eff 14 undef (by rfl) (by kernel_rfl) (by kernel_rfl) (by kernel_rfl) (by rfl) ?_ ?_
          · intro g f w' hx hD hk
            obtain ⟨bx, e0, e1, r0, r1, r2, r3, r4, r5⟩ := KpG.cells hD (hx 13 _ (by rfl))
            refine Fx.gives_skip (w' := ((w'.setCell ⟨bx, 0, none⟩ (.slice u.1.1 n u.1.2)).setCell ⟨bx, 1, none⟩ (.slice u.2.1 n u.2.2))) ?_ ?_
            · clear hx hk hD
              go_simp
              try rfl
            · exact KpG.store hD ChQ.stb (hx 13 _ (by rfl)) r0 (hx 8 _ (by rfl))
          simp only [Act.put, List.setIfInBounds_toArray, List.set_cons_zero, List.set_cons_succ]
          first
          | (refine Fx.WM.skip 15 (by rfl) (by kernel_rfl) (by kernel_rfl) (by kernel_rfl) (by rfl) (fun g f w h => h.same (by decide)) ?_; simp only [Act.put, List.setIfInBounds_toArray, List.set_cons_zero, List.set_cons_succ])
          | (refine Fx.WM.val_ 15 ?_ (by rfl) (by kernel_rfl) (by kernel_rfl) (by kernel_rfl) (by rfl) ?_ (fun g f w h => h.same (by decide)) ?_
             rotate_left
             · intro g f w' hx hD hk
               obtain hkp := id hD
               clear hx hk hD hkp
               go_simp
               try rfl
             simp only [Act.put, List.setIfInBounds_toArray, List.set_cons_zero, List.set_cons_succ])
          first
          | (refine Fx.WM.skip 16 (by rfl) (by kernel_rfl) (by kernel_rfl) (by kernel_rfl) (by rfl) (fun g f w h => h.same (by decide)) ?_; simp only [Act.put, List.setIfInBounds_toArray, List.set_cons_zero, List.set_cons_succ])
          | (refine Fx.WM.val_ 16 ?_ (by rfl) (by kernel_rfl) (by kernel_rfl) (by kernel_rfl) (by rfl) ?_ (fun g f w h => h.same (by decide)) ?_
             rotate_left
             · intro g f w' hx hD hk
               obtain hkp := id hD
               clear hx hk hD hkp
               go_simp
               try rfl
             simp only [Act.put, List.setIfInBounds_toArray, List.set_cons_zero, List.set_cons_succ])
          refine Fx.WM.nil (by kernel_rfl) ?_
          intro wz hkp
          obtain ⟨bx, h1, h2, h3, h4⟩ := KpG.end_ hkp (x := z) (z := u) (by rfl) (by rfl) (by rfl)
          exact key x y u z wz ⟨bx, h1, h2, hkp.bel, h3, h4⟩
      · skip
        intro z
        simp only [Act.put, List.setIfInBounds_toArray, List.set_cons_zero, List.set_cons_succ]
        refine Fx.WM.choose 5 (by rfl) (by kernel_rfl) (by rfl) ?_ ?_
        · skip
          refine Fx.Chooses.call ?_ ?_ (by rfl) ?_ ?_
          rotate_left 2
          · intro w'
            go_simp
            refine ⟨?_, ?_⟩ <;> rfl
          · intro f w' hD hk
            exact (ctargets_any A n c w'.heap.size l w' ((R0_2.out.below hD.bel).more hD.bel.size) (Nat.le_refl _) (by omega)).mono fun e w'' ⟨A', c', he, hb, hr, ho⟩ => ⟨((A', c'), (none, 0)), he, hD.choose PfT.stb ChQ.stb hb 5 _ (by decide) (by decide) (hk.2.1 14 (by kernel_rfl)) ⟨fun e => absurd e (by decide), fun _ => ⟨hr, own_cap ho⟩, fun e => absurd e (by decide)⟩ (fun e => absurd e (by decide))⟩
        intro y
        simp only [Act.put, List.setIfInBounds_toArray, List.set_cons_zero, List.set_cons_succ]
        refine Fx.WM.choose 8 (by rfl) (by kernel_rfl) (by rfl) ?_ ?_
        · skip
          refine Fx.Chooses.call ?_ ?_ (by rfl) ?_ ?_
          rotate_left 2
          · intro w'
            go_simp
            refine ⟨?_, ?_⟩ <;> rfl
          · intro f w' hD hk
            exact (pchoosef_like HN.out HV.out x.1.1 x.2.1 x.1.2 x.2.2 y.1.1 y.1.2 HZ0.out w' ((hD.has (hk.2.1 14 (by kernel_rfl)) 2 x (by rfl) (by decide)).1 rfl) ((hD.has (hk.2.1 14 (by kernel_rfl)) 5 y (by rfl) (by decide)).2.1 rfl).1 ((hD.has (hk.2.1 14 (by kernel_rfl)) 5 y (by rfl) (by decide)).2.1 rfl).2 HF.out).mono fun e w'' ⟨u, he, hb, hq⟩ => ⟨u, he, hD.choose PfT.stb ChQ.stb hb 8 _ (by decide) (by decide) (hk.2.1 14 (by kernel_rfl)) ⟨fun e => absurd e (by decide), fun e => absurd e (by decide), fun e => absurd e (by decide)⟩ (fun _ => hq)⟩
        intro u
        simp only [Act.put, List.setIfInBounds_toArray, List.set_cons_zero, List.set_cons_succ]
        first
        | (refine Fx.WM.skip 9 (by rfl) (by kernel_rfl) (by kernel_rfl) (by kernel_rfl) (by rfl) (fun g f w h => h.same (by decide)) ?_; simp only [Act.put, List.setIfInBounds_toArray, List.set_cons_zero, List.set_cons_succ])
        | (refine Fx.WM.val_ 9 ?_ (by rfl) (by kernel_rfl) (by kernel_rfl) (by kernel_rfl) (by rfl) ?_ (fun g f w h => h.same (by decide)) ?_
           rotate_left
           · intro g f w' hx hD hk
             obtain hkp := id hD
             clear hx hk hD hkp
             go_simp
             try rfl
           simp only [Act.put, List.setIfInBounds_toArray, List.set_cons_zero, List.set_cons_succ])
        first
        | (refine Fx.WM.skip 10 (by rfl) (by kernel_rfl) (by kernel_rfl) (by kernel_rfl) (by rfl) (fun g f w h => h.same (by decide)) ?_; simp only [Act.put, List.setIfInBounds_toArray, List.set_cons_zero, List.set_cons_succ])
        | (refine Fx.WM.val_ 10 ?_ (by rfl) (by kernel_rfl) (by kernel_rfl) (by kernel_rfl) (by rfl) ?_ (fun g f w h => h.same (by decide)) ?_
           rotate_left
           · intro g f w' hx hD hk
             obtain hkp := id hD
             clear hx hk hD hkp
             go_simp
             try rfl
           simp only [Act.put, List.setIfInBounds_toArray, List.set_cons_zero, List.set_cons_succ])
        first
        | (refine Fx.WM.skip 11 (by rfl) (by kernel_rfl) (by kernel_rfl) (by kernel_rfl) (by rfl) (fun g f w h => h.same (by decide)) ?_; simp only [Act.put, List.setIfInBounds_toArray, List.set_cons_zero, List.set_cons_succ])
        | (refine Fx.WM.val_ 11 ?_ (by rfl) (by kernel_rfl) (by kernel_rfl) (by kernel_rfl) (by rfl) ?_ (fun g f w h => h.same (by decide)) ?_
           rotate_left
           · intro g f w' hx hD hk
             obtain hkp := id hD
             clear hx hk hD hkp
             go_simp
             try rfl
           simp only [Act.put, List.setIfInBounds_toArray, List.set_cons_zero, List.set_cons_succ])
        first
        | (refine Fx.WM.skip 12 (by rfl) (by kernel_rfl) (by kernel_rfl) (by kernel_rfl) (by rfl) (fun g f w h => h.same (by decide)) ?_; simp only [Act.put, List.setIfInBounds_toArray, List.set_cons_zero, List.set_cons_succ])
        | (refine Fx.WM.val_ 12 ?_ (by rfl) (by kernel_rfl) (by kernel_rfl) (by kernel_rfl) (by rfl) ?_ (fun g f w h => h.same (by decide)) ?_
           rotate_left
           · intro g f w' hx hD hk
             obtain hkp := id hD
             clear hx hk hD hkp
             go_simp
             try rfl
           simp only [Act.put, List.setIfInBounds_toArray, List.set_cons_zero, List.set_cons_succ])
        refine Fx.WM.eff 14 undef (by rfl) (by kernel_rfl) (by kernel_rfl) (by kernel_rfl) (by rfl) ?_ ?_
        · intro g f w' hx hD hk
          obtain ⟨bx, e0, e1, r0, r1, r2, r3, r4, r5⟩ := KpG.cells hD (hx 13 _ (by rfl))
          refine Fx.gives_skip (w' := ((w'.setCell ⟨bx, 0, none⟩ (.slice u.1.1 n u.1.2)).setCell ⟨bx, 1, none⟩ (.slice u.2.1 n u.2.2))) ?_ ?_
          · clear hx hk hD
            go_simp
            try rfl
          · exact KpG.store hD ChQ.stb (hx 13 _ (by rfl)) r0 (hx 8 _ (by rfl))
        simp only [Act.put, List.setIfInBounds_toArray, List.set_cons_zero, List.set_cons_succ]
        first
        | (refine Fx.WM.skip 15 (by rfl) (by kernel_rfl) (by kernel_rfl) (by kernel_rfl) (by rfl) (fun g f w h => h.same (by decide)) ?_; simp only [Act.put, List.setIfInBounds_toArray, List.set_cons_zero, List.set_cons_succ])
        | (refine Fx.WM.val_ 15 ?_ (by rfl) (by kernel_rfl) (by kernel_rfl) (by kernel_rfl) (by rfl) ?_ (fun g f w h => h.same (by decide)) ?_
           rotate_left
           · intro g f w' hx hD hk
             obtain hkp := id hD
             clear hx hk hD hkp
             go_simp
             try rfl
           simp only [Act.put, List.setIfInBounds_toArray, List.set_cons_zero, List.set_cons_succ])
        first
        | (refine Fx.WM.skip 16 (by rfl) (by kernel_rfl) (by kernel_rfl) (by kernel_rfl) (by rfl) (fun g f w h => h.same (by decide)) ?_; simp only [Act.put, List.setIfInBounds_toArray, List.set_cons_zero, List.set_cons_succ])
        | (refine Fx.WM.val_ 16 ?_ (by rfl) (by kernel_rfl) (by kernel_rfl) (by kernel_rfl) (by rfl) ?_ (fun g f w h => h.same (by decide)) ?_
           rotate_left
           · intro g f w' hx hD hk
             obtain hkp := id hD
             clear hx hk hD hkp
             go_simp
             try rfl
           simp only [Act.put, List.setIfInBounds_toArray, List.set_cons_zero, List.set_cons_succ])
        refine Fx.WM.nil (by kernel_rfl) ?_
        intro wz hkp
        obtain ⟨bx, h1, h2, h3, h4⟩ := KpG.end_ hkp (x := z) (z := u) (by rfl) (by rfl) (by rfl)
        exact key x y u z wz ⟨bx, h1, h2, hkp.bel, h3, h4⟩
    · skip
      intro z
      simp only [Act.put, List.setIfInBounds_toArray, List.set_cons_zero, List.set_cons_succ]
      refine Fx.WM.choose 2 (by rfl) (by kernel_rfl) (by rfl) ?_ ?_
      · skip
        refine Fx.Chooses.call ?_ ?_ (by rfl) ?_ ?_
        rotate_left 2
        · intro w'
          go_simp
          refine ⟨?_, ?_⟩ <;> rfl
        · intro f w' hD hk
          exact (mount_any m w' (R1_2.out.lay hD.bel) (by omega) (by omega)).mono fun e w'' ⟨A', c', B', d', he, hb, hm⟩ => ⟨((A', c'), (B', d')), he, hD.choose PfT.stb ChQ.stb hb 2 _ (by decide) (by decide) (hk.2.1 14 (by kernel_rfl)) ⟨fun _ => hm, fun e => absurd e (by decide), fun e => absurd e (by decide)⟩ (fun e => absurd e (by decide))⟩
      intro x
      simp only [Act.put, List.setIfInBounds_toArray, List.set_cons_zero, List.set_cons_succ]
      refine Fx.WM.choose 5 (by rfl) (by kernel_rfl) (by rfl) ?_ ?_
      · skip
        refine Fx.Chooses.call ?_ ?_ (by rfl) ?_ ?_
        rotate_left 2
        · intro w'
          go_simp
          refine ⟨?_, ?_⟩ <;> rfl
        · intro f w' hD hk
          exact (ctargets_any A n c w'.heap.size l w' ((R0_2.out.below hD.bel).more hD.bel.size) (Nat.le_refl _) (by omega)).mono fun e w'' ⟨A', c', he, hb, hr, ho⟩ => ⟨((A', c'), (none, 0)), he, hD.choose PfT.stb ChQ.stb hb 5 _ (by decide) (by decide) (hk.2.1 14 (by kernel_rfl)) ⟨fun e => absurd e (by decide), fun _ => ⟨hr, own_cap ho⟩, fun e => absurd e (by decide)⟩ (fun e => absurd e (by decide))⟩
      intro y
      simp only [Act.put, List.setIfInBounds_toArray, List.set_cons_zero, List.set_cons_succ]
      refine Fx.WM.choose 8 (by rfl) (by kernel_rfl) (by rfl) ?_ ?_
      · skip
        refine Fx.Chooses.call ?_ ?_ (by rfl) ?_ ?_
        rotate_left 2
        · intro w'
          go_simp
          refine ⟨?_, ?_⟩ <;> rfl
        · intro f w' hD hk
          exact (pchoosef_like HN.out HV.out x.1.1 x.2.1 x.1.2 x.2.2 y.1.1 y.1.2 HZ0.out w' ((hD.has (hk.2.1 14 (by kernel_rfl)) 2 x (by rfl) (by decide)).1 rfl) ((hD.has (hk.2.1 14 (by kernel_rfl)) 5 y (by rfl) (by decide)).2.1 rfl).1 ((hD.has (hk.2.1 14 (by kernel_rfl)) 5 y (by rfl) (by decide)).2.1 rfl).2 HF.out).mono fun e w'' ⟨u, he, hb, hq⟩ => ⟨u, he, hD.choose PfT.stb ChQ.stb hb 8 _ (by decide) (by decide) (hk.2.1 14 (by kernel_rfl)) ⟨fun e => absurd e (by decide), fun e => absurd e (by decide), fun e => absurd e (by decide)⟩ (fun _ => hq)⟩
      intro u
      simp only [Act.put, List.setIfInBounds_toArray, List.set_cons_zero, List.set_cons_succ]
      first
      | (refine Fx.WM.skip 9 (by rfl) (by kernel_rfl) (by kernel_rfl) (by kernel_rfl) (by rfl) (fun g f w h => h.same (by decide)) ?_; simp only [Act.put, List.setIfInBounds_toArray, List.set_cons_zero, List.set_cons_succ])
      | (refine Fx.WM.val_ 9 ?_ (by rfl) (by kernel_rfl) (by kernel_rfl) (by kernel_rfl) (by rfl) ?_ (fun g f w h => h.same (by decide)) ?_
         rotate_left
         · intro g f w' hx hD hk
           obtain hkp := id hD
           clear hx hk hD hkp
           go_simp
           try rfl
         simp only [Act.put, List.setIfInBounds_toArray, List.set_cons_zero, List.set_cons_succ])
      first
      | (refine Fx.WM.skip 10 (by rfl) (by kernel_rfl) (by kernel_rfl) (by kernel_rfl) (by rfl) (fun g f w h => h.same (by decide)) ?_; simp only [Act.put, List.setIfInBounds_toArray, List.set_cons_zero, List.set_cons_succ])
      | (refine Fx.WM.val_ 10 ?_ (by rfl) (by kernel_rfl) (by kernel_rfl) (by kernel_rfl) (by rfl) ?_ (fun g f w h => h.same (by decide)) ?_
         rotate_left
         · intro g f w' hx hD hk
           obtain hkp := id hD
           clear hx hk hD hkp
           go_simp
           try rfl
         simp only [Act.put, List.setIfInBounds_toArray, List.set_cons_zero, List.set_cons_succ])
      first
      | (refine Fx.WM.skip 11 (by rfl) (by kernel_rfl) (by kernel_rfl) (by kernel_rfl) (by rfl) (fun g f w h => h.same (by decide)) ?_; simp only [Act.put, List.setIfInBounds_toArray, List.set_cons_zero, List.set_cons_succ])
      | (refine Fx.WM.val_ 11 ?_ (by rfl) (by kernel_rfl) (by kernel_rfl) (by kernel_rfl) (by rfl) ?_ (fun g f w h => h.same (by decide)) ?_
         rotate_left
         · intro g f w' hx hD hk
           obtain hkp := id hD
           clear hx hk hD hkp
           go_simp
           try rfl
         simp only [Act.put, List.setIfInBounds_toArray, List.set_cons_zero, List.set_cons_succ])
      first
      | (refine Fx.WM.skip 12 (by rfl) (by kernel_rfl) (by kernel_rfl) (by kernel_rfl) (by rfl) (fun g f w h => h.same (by decide)) ?_; simp only [Act.put, List.setIfInBounds_toArray, List.set_cons_zero, List.set_cons_succ])
      | (refine Fx.WM.val_ 12 ?_ (by rfl) (by kernel_rfl) (by kernel_rfl) (by kernel_rfl) (by rfl) ?_ (fun g f w h => h.same (by decide)) ?_
         rotate_left
         · intro g f w' hx hD hk
           obtain hkp := id hD
           clear hx hk hD hkp
           go_simp
           try rfl
         simp only [Act.put, List.setIfInBounds_toArray, List.set_cons_zero, List.set_cons_succ])
      refine Fx.WM.eff 14 undef (by rfl) (by kernel_rfl) (by kernel_rfl) (by kernel_rfl) (by rfl) ?_ ?_
      · intro g f w' hx hD hk
        obtain ⟨bx, e0, e1, r0, r1, r2, r3, r4, r5⟩ := KpG.cells hD (hx 13 _ (by rfl))
        refine Fx.gives_skip (w' := ((w'.setCell ⟨bx, 0, none⟩ (.slice u.1.1 n u.1.2)).setCell ⟨bx, 1, none⟩ (.slice u.2.1 n u.2.2))) ?_ ?_
        · clear hx hk hD
          go_simp
          try rfl
        · exact KpG.store hD ChQ.stb (hx 13 _ (by rfl)) r0 (hx 8 _ (by rfl))
      simp only [Act.put, List.setIfInBounds_toArray, List.set_cons_zero, List.set_cons_succ]
      first
      | (refine Fx.WM.skip 15 (by rfl) (by kernel_rfl) (by kernel_rfl) (by kernel_rfl) (by rfl) (fun g f w h => h.same (by decide)) ?_; simp only [Act.put, List.setIfInBounds_toArray, List.set_cons_zero, List.set_cons_succ])
      | (refine Fx.WM.val_ 15 ?_ (by rfl) (by kernel_rfl) (by kernel_rfl) (by kernel_rfl) (by rfl) ?_ (fun g f w h => h.same (by decide)) ?_
         rotate_left
         · intro g f w' hx hD hk
           obtain hkp := id hD
           clear hx hk hD hkp
           go_simp
           try rfl
         simp only [Act.put, List.setIfInBounds_toArray, List.set_cons_zero, List.set_cons_succ])
      first
      | (refine Fx.WM.skip 16 (by rfl) (by kernel_rfl) (by kernel_rfl) (by kernel_rfl) (by rfl) (fun g f w h => h.same (by decide)) ?_; simp only [Act.put, List.setIfInBounds_toArray, List.set_cons_zero, List.set_cons_succ])
      | (refine Fx.WM.val_ 16 ?_ (by rfl) (by kernel_rfl) (by kernel_rfl) (by kernel_rfl) (by rfl) ?_ (fun g f w h => h.same (by decide)) ?_
         rotate_left
         · intro g f w' hx hD hk
           obtain hkp := id hD
           clear hx hk hD hkp
           go_simp
           try rfl
         simp only [Act.put, List.setIfInBounds_toArray, List.set_cons_zero, List.set_cons_succ])
      refine Fx.WM.nil (by kernel_rfl) ?_
      intro wz hkp
      obtain ⟨bx, h1, h2, h3, h4⟩ := KpG.end_ hkp (x := z) (z := u) (by rfl) (by rfl) (by rfl)
      exact key x y u z wz ⟨bx, h1, h2, hkp.bel, h3, h4⟩
  rintro x y ⟨⟨At, ct⟩, ⟨Xp, cp⟩⟩ ⟨⟨z1, z2⟩, z3⟩ w3 ⟨bx, hz, hbx, hb, hblk, hq⟩
  simp only at hz hblk
  subst hz
  obtain ⟨B, tp, ks, ho, hr, hp, hk, hc⟩ := hq
  simp only at ho
  rw [HN.out] at ho
  have hct := own_cap ho
  have hks := own_reads2 ho
  have HK := Lib.hid hk
  have HC := Lib.hid hc
  clear ho hr hp hk hc
  have HB3 := Lib.hid (show Below w.heap.size w w3 from step_below hb (by repeat' (first | exact Below.refl _ _ | exact HB2.out | refine below_drewN ?_ _ | refine Below.drew ?_ | refine Below.alloc ?_ (by first | omega | (simp; done) | (simp; omega) | (simp [World.setCell]; omega)) _ | refine Below.setCell ?_ (by first | omega | (simp; done) | (simp; omega)) _ | assumption)))
  have K0_3 := Lib.hid (step_blk hb (show Blk _ (w.heap.size) 62 #[.int .i64 (m.ls), .int .i64 (m.ms), .int .i64 (m.lo), .int .i64 (m.hi), .int .i64 (m.sp), .slice m.A1 m.n1 m.c1, .slice m.A2 m.n2 m.c2, .slice (A) n c, .int .i64 (day), .int .i64 (pos)] by repeat' (first | exact K0_2.out | exact K1_2.out | exact Blk.at_ _ (by first | rfl | (simp; done) | (simp; omega)) _ _ | refine Blk.drewN ?_ _ | refine Blk.drew ?_ | refine Blk.alloc ?_ _ | refine Blk.far ?_ (by first | omega | (simp; done) | (simp; omega)) _ | assumption)))
  have K1_3 := Lib.hid (step_blk hb (show Blk _ (w.heap.size + 1) 60 #[.int .i64 (a), .int .i64 (b)] by repeat' (first | exact K0_2.out | exact K1_2.out | exact Blk.at_ _ (by first | rfl | (simp; done) | (simp; omega)) _ _ | refine Blk.drewN ?_ _ | refine Blk.drew ?_ | refine Blk.alloc ?_ _ | refine Blk.far ?_ (by first | omega | (simp; done) | (simp; omega)) _ | assumption)))
  have hL3 := Lib.hid (show Below w2.heap.size w2 _ from reads_mid hb (by repeat' (first | exact Below.refl _ _ | refine below_drewN ?_ _ | refine Below.drew ?_ | refine Below.alloc ?_ (by first | omega | (simp; done) | (simp; omega) | (simp [World.setCell]; omega)) _ | refine Below.setCell ?_ (by first | omega | (simp; done) | (simp; omega)) _)))
  have R0_3 := Lib.hid (reads_lay hb hL3.out R0_2.out)
  have R1_3 := Lib.hid (mnt_lay hb hL3.out R1_2.out)
  clear hL3 R0_2 R1_2
  have hz3 := hb.size
  try simp only [World.size_alloc, World.drewN, World.drew] at hz3
  clear hb K0_2 K1_2 z0_0_2 z0_1_2 z0_2_2 z0_3_2 z0_4_2 z0_5_2 z0_6_2 z0_7_2 z0_8_2 z0_9_2 l0_2 z1_0_2 z1_1_2 l1_2
  have l0_3 : w.heap.size < w3.heap.size := K0_3.out.lt
  have z0_0_3 : w3.cell? ⟨w.heap.size, 0, none⟩ = some (.int .i64 (m.ls)) := K0_3.out.cell 0
  have z0_1_3 : w3.cell? ⟨w.heap.size, 1, none⟩ = some (.int .i64 (m.ms)) := K0_3.out.cell 1
  have z0_2_3 : w3.cell? ⟨w.heap.size, 2, none⟩ = some (.int .i64 (m.lo)) := K0_3.out.cell 2
  have z0_3_3 : w3.cell? ⟨w.heap.size, 3, none⟩ = some (.int .i64 (m.hi)) := K0_3.out.cell 3
  have z0_4_3 : w3.cell? ⟨w.heap.size, 4, none⟩ = some (.int .i64 (m.sp)) := K0_3.out.cell 4
  have z0_5_3 : w3.cell? ⟨w.heap.size, 5, none⟩ = some (.slice m.A1 m.n1 m.c1) := K0_3.out.cell 5
  have z0_6_3 : w3.cell? ⟨w.heap.size, 6, none⟩ = some (.slice m.A2 m.n2 m.c2) := K0_3.out.cell 6
  have z0_7_3 : w3.cell? ⟨w.heap.size, 7, none⟩ = some (.slice (A) n c) := K0_3.out.cell 7
  have z0_8_3 : w3.cell? ⟨w.heap.size, 8, none⟩ = some (.int .i64 (day)) := K0_3.out.cell 8
  have z0_9_3 : w3.cell? ⟨w.heap.size, 9, none⟩ = some (.int .i64 (pos)) := K0_3.out.cell 9
  have l1_3 : w.heap.size + 1 < w3.heap.size := K1_3.out.lt
  have z1_0_3 : w3.cell? ⟨w.heap.size + 1, 0, none⟩ = some (.int .i64 (a)) := K1_3.out.cell 0
  have z1_1_3 : w3.cell? ⟨w.heap.size + 1, 1, none⟩ = some (.int .i64 (b)) := K1_3.out.cell 1
  have K2_3 := Lib.hid (show Blk w3 (bx) 67 #[.slice (At) n ct, .slice Xp n cp] from hblk)
  clear hblk
  have l2_3 : bx < w3.heap.size := K2_3.out.lt
  have z2_0_3 : w3.cell? ⟨bx, 0, none⟩ = some (.slice (At) n ct) := K2_3.out.cell 0
  have z2_1_3 : w3.cell? ⟨bx, 1, none⟩ = some (.slice Xp n cp) := K2_3.out.cell 1
  have R2_3 := Lib.hid hks
  clear hks
  go_wp2_with fail
  refine (mount_any m _ R1_3.out (by omega) (by omega)).mono ?_
  rintro e w4 ⟨W1, k1, W2, k2, rfl, hb, hmw⟩
  have HB4 := Lib.hid (show Below w.heap.size w w4 from step_below hb (by repeat' (first | exact Below.refl _ _ | exact HB3.out | refine below_drewN ?_ _ | refine Below.drew ?_ | refine Below.alloc ?_ (by first | omega | (simp; done) | (simp; omega) | (simp [World.setCell]; omega)) _ | refine Below.setCell ?_ (by first | omega | (simp; done) | (simp; omega)) _ | assumption)))
  have K0_4 := Lib.hid (step_blk hb (show Blk _ (w.heap.size) 62 #[.int .i64 (m.ls), .int .i64 (m.ms), .int .i64 (m.lo), .int .i64 (m.hi), .int .i64 (m.sp), .slice m.A1 m.n1 m.c1, .slice m.A2 m.n2 m.c2, .slice (A) n c, .int .i64 (day), .int .i64 (pos)] by repeat' (first | exact K0_3.out | exact K1_3.out | exact K2_3.out | exact Blk.at_ _ (by first | rfl | (simp; done) | (simp; omega)) _ _ | refine Blk.drewN ?_ _ | refine Blk.drew ?_ | refine Blk.alloc ?_ _ | refine Blk.far ?_ (by first | omega | (simp; done) | (simp; omega)) _ | assumption)))
  have K1_4 := Lib.hid (step_blk hb (show Blk _ (w.heap.size + 1) 60 #[.int .i64 (a), .int .i64 (b)] by repeat' (first | exact K0_3.out | exact K1_3.out | exact K2_3.out | exact Blk.at_ _ (by first | rfl | (simp; done) | (simp; omega)) _ _ | refine Blk.drewN ?_ _ | refine Blk.drew ?_ | refine Blk.alloc ?_ _ | refine Blk.far ?_ (by first | omega | (simp; done) | (simp; omega)) _ | assumption)))
  have K2_4 := Lib.hid (step_blk hb (show Blk _ (bx) 67 #[.slice (At) n ct, .slice Xp n cp] by repeat' (first | exact K0_3.out | exact K1_3.out | exact K2_3.out | exact Blk.at_ _ (by first | rfl | (simp; done) | (simp; omega)) _ _ | refine Blk.drewN ?_ _ | refine Blk.drew ?_ | refine Blk.alloc ?_ _ | refine Blk.far ?_ (by first | omega | (simp; done) | (simp; omega)) _ | assumption)))
  have hL4 := Lib.hid (show Below w3.heap.size w3 _ from reads_mid hb (by repeat' (first | exact Below.refl _ _ | refine below_drewN ?_ _ | refine Below.drew ?_ | refine Below.alloc ?_ (by first | omega | (simp; done) | (simp; omega) | (simp [World.setCell]; omega)) _ | refine Below.setCell ?_ (by first | omega | (simp; done) | (simp; omega)) _)))
  have R0_4 := Lib.hid (reads_lay hb hL4.out R0_3.out)
  have R1_4 := Lib.hid (mnt_lay hb hL4.out R1_3.out)
  have R2_4 := Lib.hid (reads_lay hb hL4.out R2_3.out)
  clear hL4 R0_3 R1_3 R2_3
  have hz4 := hb.size
  try simp only [World.size_alloc, World.drewN, World.drew] at hz4
  clear hb K0_3 K1_3 K2_3 z0_0_3 z0_1_3 z0_2_3 z0_3_3 z0_4_3 z0_5_3 z0_6_3 z0_7_3 z0_8_3 z0_9_3 l0_3 z1_0_3 z1_1_3 l1_3 z2_0_3 z2_1_3 l2_3
  have l0_4 : w.heap.size < w4.heap.size := K0_4.out.lt
  have z0_0_4 : w4.cell? ⟨w.heap.size, 0, none⟩ = some (.int .i64 (m.ls)) := K0_4.out.cell 0
  have z0_1_4 : w4.cell? ⟨w.heap.size, 1, none⟩ = some (.int .i64 (m.ms)) := K0_4.out.cell 1
  have z0_2_4 : w4.cell? ⟨w.heap.size, 2, none⟩ = some (.int .i64 (m.lo)) := K0_4.out.cell 2
  have z0_3_4 : w4.cell? ⟨w.heap.size, 3, none⟩ = some (.int .i64 (m.hi)) := K0_4.out.cell 3
  have z0_4_4 : w4.cell? ⟨w.heap.size, 4, none⟩ = some (.int .i64 (m.sp)) := K0_4.out.cell 4
  have z0_5_4 : w4.cell? ⟨w.heap.size, 5, none⟩ = some (.slice m.A1 m.n1 m.c1) := K0_4.out.cell 5
  have z0_6_4 : w4.cell? ⟨w.heap.size, 6, none⟩ = some (.slice m.A2 m.n2 m.c2) := K0_4.out.cell 6
  have z0_7_4 : w4.cell? ⟨w.heap.size, 7, none⟩ = some (.slice (A) n c) := K0_4.out.cell 7
  have z0_8_4 : w4.cell? ⟨w.heap.size, 8, none⟩ = some (.int .i64 (day)) := K0_4.out.cell 8
  have z0_9_4 : w4.cell? ⟨w.heap.size, 9, none⟩ = some (.int .i64 (pos)) := K0_4.out.cell 9
  have l1_4 : w.heap.size + 1 < w4.heap.size := K1_4.out.lt
  have z1_0_4 : w4.cell? ⟨w.heap.size + 1, 0, none⟩ = some (.int .i64 (a)) := K1_4.out.cell 0
  have z1_1_4 : w4.cell? ⟨w.heap.size + 1, 1, none⟩ = some (.int .i64 (b)) := K1_4.out.cell 1
  have l2_4 : bx < w4.heap.size := K2_4.out.lt
  have z2_0_4 : w4.cell? ⟨bx, 0, none⟩ = some (.slice (At) n ct) := K2_4.out.cell 0
  have z2_1_4 : w4.cell? ⟨bx, 1, none⟩ = some (.slice Xp n cp) := K2_4.out.cell 1
  have R3_4 := Lib.hid hmw
  clear hmw
  simp only [Mnt.val, Mnt.to]
  go_upto_region 9 with fail
  obtain ⟨W0, hW0⟩ : ∃ W, W = (w4.alloc (.cells #[.int .i64 (m.ls), .int .i64 (m.ms), .int .i64 (m.lo), .int .i64 (m.hi), .int .i64 (m.sp), .slice W1 m.n1 k1, .slice W2 m.n2 k2] 58)).drewN 1 := ⟨_, rfl⟩
  obtain ⟨X1, hX1⟩ : ∃ W, W = W0.setCell ⟨w4.heap.size, 0, none⟩ (.int .i64 (if -25920000 < m.ls - a then m.ls - a else -25920000)) := ⟨_, rfl⟩
  obtain ⟨X2, hX2⟩ : ∃ W, W = X1.setCell ⟨w4.heap.size, 1, none⟩ (.int .i64 (if m.ms + b < 25920000 then m.ms + b else 25920000)) := ⟨_, rfl⟩
  have g0 : Blk W0 w4.heap.size 58 #[.int .i64 (m.ls), .int .i64 (m.ms), .int .i64 (m.lo), .int .i64 (m.hi), .int .i64 (m.sp), .slice W1 m.n1 k1, .slice W2 m.n2 k2] := by rw [hW0]; exact (Blk.new w4 _ _).drewN 1
  have g1 : Blk W0 (w.heap.size + 1) 60 #[.int .i64 a, .int .i64 b] := by rw [hW0]; exact (K1_4.out.alloc _).drewN 1
  have g2 := g0.set_ 0 (.int .i64 (if -25920000 < m.ls - a then m.ls - a else -25920000))
  rw [← hX1] at g2
  have g3 : Blk X1 (w.heap.size + 1) 60 #[.int .i64 a, .int .i64 b] := by rw [hX1]; exact g1.far (by show w.heap.size + 1 ≠ w4.heap.size; omega) _
  have G0 := Lib.hid g0
  have G1 := Lib.hid g1
  have G2 := Lib.hid g2
  have G3 := Lib.hid g3
  clear g0 g1 g2 g3
  refine Fx.region (fun f w' => (w' = if f 15 then X2 else if f 13 then X1 else W0) ∧ True) (by kernel_rfl) (by kernel_rfl) ?_ ?_
  · intro f hf0
    rw [hf0 15, hf0 13]; exact ⟨hW0.symm, trivial⟩
  repeat (first
    | (refine Fx.skip_ (by rfl) (fun f w h => h) ?_; simp only [Act.put, List.setIfInBounds_toArray, List.set_cons_zero, List.set_cons_succ])
    | (refine Fx.val_ ?_ (by rfl) ?_ (fun f w h => h) ?_
       rotate_left
       · intro f w' hD hk
         obtain ⟨jw, _⟩ := id hD
         clear hk hD jw
         go_simp
         try rfl
       simp only [Act.put, List.setIfInBounds_toArray, List.set_cons_zero, List.set_cons_succ]))
  refine Fx.val_ ?_ (by rfl) ?_ (fun f w h => h) ?_
  rotate_left
  · intro f w' hD hk
    obtain ⟨jw, _⟩ := id hD
    have hb_ : f 13 = false := hk.2.1 13 (by kernel_rfl)
    have ha_ : f 15 = false := hk.un 15 13 (by kernel_rfl) hb_
    rw [hb_, ha_] at jw
    simp only [Bool.false_eq_true, if_false] at jw
    have y0 : w'.cell? ⟨w4.heap.size, 0, none⟩ = some (.int .i64 (m.ls)) := by rw [jw]; exact G0.out.cell 0
    clear hk hD jw hb_ ha_
    go_simp
    try rfl
  simp only [Act.put, List.setIfInBounds_toArray, List.set_cons_zero, List.set_cons_succ]
  repeat (first
    | (refine Fx.skip_ (by rfl) (fun f w h => h) ?_; simp only [Act.put, List.setIfInBounds_toArray, List.set_cons_zero, List.set_cons_succ])
    | (refine Fx.val_ ?_ (by rfl) ?_ (fun f w h => h) ?_
       rotate_left
       · intro f w' hD hk
         obtain ⟨jw, _⟩ := id hD
         clear hk hD jw
         go_simp
         try rfl
       simp only [Act.put, List.setIfInBounds_toArray, List.set_cons_zero, List.set_cons_succ]))
  refine Fx.val_ ?_ (by rfl) ?_ (fun f w h => h) ?_
  rotate_left
  · intro f w' hD hk
    obtain ⟨jw, _⟩ := id hD
    have hb_ : f 13 = false := hk.2.1 13 (by kernel_rfl)
    have ha_ : f 15 = false := hk.un 15 13 (by kernel_rfl) hb_
    rw [hb_, ha_] at jw
    simp only [Bool.false_eq_true, if_false] at jw
    have y0 : w'.cell? ⟨w.heap.size + 1, 0, none⟩ = some (.int .i64 a) := by rw [jw]; exact G1.out.cell 0
    clear hk hD jw hb_ ha_
    go_simp
    try rfl
  simp only [Act.put, List.setIfInBounds_toArray, List.set_cons_zero, List.set_cons_succ]
  repeat (first
    | (refine Fx.skip_ (by rfl) (fun f w h => h) ?_; simp only [Act.put, List.setIfInBounds_toArray, List.set_cons_zero, List.set_cons_succ])
    | (refine Fx.val_ ?_ (by rfl) ?_ (fun f w h => h) ?_
       rotate_left
       · intro f w' hD hk
         obtain ⟨jw, _⟩ := id hD
         clear hk hD jw
         go_simp
         try rfl
       simp only [Act.put, List.setIfInBounds_toArray, List.set_cons_zero, List.set_cons_succ]))
  refine Fx.val_ ?_ (by rfl) ?_ (fun f w h => h) ?_
  rotate_left
  · intro f w' hD hk
    obtain ⟨jw, _⟩ := id hD
    have hb_ : f 13 = false := hk.2.1 13 (by kernel_rfl)
    have ha_ : f 15 = false := hk.un 15 13 (by kernel_rfl) hb_
    rw [hb_, ha_] at jw
    simp only [Bool.false_eq_true, if_false] at jw
    have y0 : w'.cell? ⟨w4.heap.size, 1, none⟩ = some (.int .i64 (m.ms)) := by rw [jw]; exact G0.out.cell 1
    clear hk hD jw hb_ ha_
    go_simp
    try rfl
  simp only [Act.put, List.setIfInBounds_toArray, List.set_cons_zero, List.set_cons_succ]
  repeat (first
    | (refine Fx.skip_ (by rfl) (fun f w h => h) ?_; simp only [Act.put, List.setIfInBounds_toArray, List.set_cons_zero, List.set_cons_succ])
    | (refine Fx.val_ ?_ (by rfl) ?_ (fun f w h => h) ?_
       rotate_left
       · intro f w' hD hk
         obtain ⟨jw, _⟩ := id hD
         clear hk hD jw
         go_simp
         try rfl
       simp only [Act.put, List.setIfInBounds_toArray, List.set_cons_zero, List.set_cons_succ]))
  refine Fx.val_ ?_ (by rfl) ?_ (fun f w h => h) ?_
  rotate_left
  · intro f w' hD hk
    obtain ⟨jw, _⟩ := id hD
    have ha_ : f 15 = false := hk.2.1 15 (by kernel_rfl)
    rw [ha_] at jw
    simp only [Bool.false_eq_true, if_false] at jw
    have y0 : w'.cell? ⟨w.heap.size + 1, 1, none⟩ = some (.int .i64 b) := by cases hb_ : f 13 <;> rw [hb_] at jw <;> simp only [Bool.false_eq_true, if_false, if_true] at jw <;> rw [jw] <;> (first | exact G1.out.cell 1 | exact G3.out.cell 1)
    clear hk hD jw ha_
    go_simp
    try rfl
  simp only [Act.put, List.setIfInBounds_toArray, List.set_cons_zero, List.set_cons_succ]
  repeat (first
    | (refine Fx.skip_ (by rfl) (fun f w h => h) ?_; simp only [Act.put, List.setIfInBounds_toArray, List.set_cons_zero, List.set_cons_succ])
    | (refine Fx.val_ ?_ (by rfl) ?_ (fun f w h => h) ?_
       rotate_left
       · intro f w' hD hk
         obtain ⟨jw, _⟩ := id hD
         clear hk hD jw
         go_simp
         try rfl
       simp only [Act.put, List.setIfInBounds_toArray, List.set_cons_zero, List.set_cons_succ]))
  refine Fx.store_ (fun w' => X1) (by rfl) ?_ ?_ ?_
  · intro f w' hD hk
    obtain ⟨jw, _⟩ := id hD
    have hb_ : f 13 = false := hk.1
    have ha_ : f 15 = false := hk.un 15 13 (by kernel_rfl) hb_
    rw [hb_, ha_] at jw
    simp only [Bool.false_eq_true, if_false] at jw
    subst jw
    have q0 : w'.cell? ⟨w4.heap.size, 0, none⟩ = some (.int .i64 (m.ls)) := G0.out.cell 0
    have q1 : w'.frozen? ⟨w4.heap.size, 0, none⟩ = false := G0.out.frozen 0
    clear hk hD
    rw [hX1]
    go_simp
  · intro f w' hD hk
    obtain ⟨jw, _⟩ := id hD
    have hb_ : f 13 = false := hk.1
    have ha_ : f 15 = false := hk.un 15 13 (by kernel_rfl) hb_
    rw [hb_, ha_] at jw
    simp only [Bool.false_eq_true, if_false] at jw
    subst jw
    exact ⟨by simp [Fx.add, ha_], trivial⟩
  simp only [Act.put, List.setIfInBounds_toArray, List.set_cons_zero, List.set_cons_succ]
  repeat (first
    | (refine Fx.skip_ (by rfl) (fun f w h => h) ?_; simp only [Act.put, List.setIfInBounds_toArray, List.set_cons_zero, List.set_cons_succ])
    | (refine Fx.val_ ?_ (by rfl) ?_ (fun f w h => h) ?_
       rotate_left
       · intro f w' hD hk
         obtain ⟨jw, _⟩ := id hD
         clear hk hD jw
         go_simp
         try rfl
       simp only [Act.put, List.setIfInBounds_toArray, List.set_cons_zero, List.set_cons_succ]))
  refine Fx.store_ (fun w' => X2) (by rfl) ?_ ?_ ?_
  · intro f w' hD hk
    obtain ⟨jw, _⟩ := id hD
    have hb_ : f 13 = true := hk.2.2.1 13 (by kernel_rfl)
    have ha_ : f 15 = false := hk.1
    rw [hb_, ha_] at jw
    simp only [Bool.false_eq_true, if_false, if_true] at jw
    subst jw
    have q0 : w'.cell? ⟨w4.heap.size, 1, none⟩ = some (.int .i64 (m.ms)) := G2.out.cell 1
    have q1 : w'.frozen? ⟨w4.heap.size, 1, none⟩ = false := G2.out.frozen 1
    clear hk hD
    rw [hX2]
    go_simp
  · intro f w' hD hk
    obtain ⟨jw, _⟩ := id hD
    have hb_ : f 13 = true := hk.2.2.1 13 (by kernel_rfl)
    have ha_ : f 15 = false := hk.1
    rw [hb_, ha_] at jw
    simp only [Bool.false_eq_true, if_false, if_true] at jw
    subst jw
    exact ⟨by simp [Fx.add], trivial⟩
  simp only [Act.put, List.setIfInBounds_toArray, List.set_cons_zero, List.set_cons_succ]
  refine Fx.nil_ ?_
  intro f w1 hall hD
  have hf15 := hall 15 (by simp)
  obtain ⟨jw, _⟩ := hD
  simp only [hf15, if_true] at *
  subst jw
  try clear hall
  rw [HLS.out, HMS.out]
  rw [HLS.out] at hX1
  rw [HMS.out] at hX2
  rw [HLS.out] at G2
  have g4 := G2.out.set_ 1 (.int .i64 MS)
  rw [← hX2] at g4
  clear G0 G1 G2 G3
  have hbn : Below w4.heap.size w4 w1 := by rw [hX2, hX1, hW0]; repeat' (first | exact Below.refl _ _ | refine below_drewN ?_ _ | refine Below.drew ?_ | refine Below.alloc ?_ (by first | omega | (simp; done) | (simp; omega) | (simp [World.setCell]; omega)) _ | refine Below.setCell ?_ (by first | omega | (simp; done) | (simp; omega)) _)
  have hgiven3 : Blk w1 (w4.heap.size) 58 #[.int .i64 (LS), .int .i64 (MS), .int .i64 (m.lo), .int .i64 (m.hi), .int .i64 (m.sp), .slice W1 m.n1 k1, .slice W2 m.n2 k2] := by simpa using g4
  clear hX2  hX1  hW0
  generalize hwn : w1 = w5 at *
  have HB5 := Lib.hid (show Below w.heap.size w w5 from HB4.out.trans (hbn.mono HB4.out.size))
  have K0_5 := Lib.hid (step_blk hbn K0_4.out)
  have K1_5 := Lib.hid (step_blk hbn K1_4.out)
  have K2_5 := Lib.hid (step_blk hbn K2_4.out)
  have K3_5 := Lib.hid hgiven3
  have R0_5 := Lib.hid ((R0_4.out.below hbn).more hbn.size)
  have R1_5 := Lib.hid (R1_4.out.lay hbn)
  have R2_5 := Lib.hid ((R2_4.out.below hbn).more hbn.size)
  have R3_5 := Lib.hid (R3_4.out.lay hbn)
  have HN5 := Lib.hid hbn
  have hz5 := hbn.size
  clear hwn hbn K0_4 l0_4 z0_0_4 z0_1_4 z0_2_4 z0_3_4 z0_4_4 z0_5_4 z0_6_4 z0_7_4 z0_8_4 z0_9_4 K1_4 l1_4 z1_0_4 z1_1_4 K2_4 l2_4 z2_0_4 z2_1_4 hgiven3 R0_4 R1_4 R2_4 R3_4
  have l0_5 : w.heap.size < w5.heap.size := K0_5.out.lt
  have z0_0_5 : w5.cell? ⟨w.heap.size, 0, none⟩ = some (.int .i64 (m.ls)) := K0_5.out.cell 0
  have z0_1_5 : w5.cell? ⟨w.heap.size, 1, none⟩ = some (.int .i64 (m.ms)) := K0_5.out.cell 1
  have z0_2_5 : w5.cell? ⟨w.heap.size, 2, none⟩ = some (.int .i64 (m.lo)) := K0_5.out.cell 2
  have z0_3_5 : w5.cell? ⟨w.heap.size, 3, none⟩ = some (.int .i64 (m.hi)) := K0_5.out.cell 3
  have z0_4_5 : w5.cell? ⟨w.heap.size, 4, none⟩ = some (.int .i64 (m.sp)) := K0_5.out.cell 4
  have z0_5_5 : w5.cell? ⟨w.heap.size, 5, none⟩ = some (.slice m.A1 m.n1 m.c1) := K0_5.out.cell 5
  have z0_6_5 : w5.cell? ⟨w.heap.size, 6, none⟩ = some (.slice m.A2 m.n2 m.c2) := K0_5.out.cell 6
  have z0_7_5 : w5.cell? ⟨w.heap.size, 7, none⟩ = some (.slice (A) n c) := K0_5.out.cell 7
  have z0_8_5 : w5.cell? ⟨w.heap.size, 8, none⟩ = some (.int .i64 (day)) := K0_5.out.cell 8
  have z0_9_5 : w5.cell? ⟨w.heap.size, 9, none⟩ = some (.int .i64 (pos)) := K0_5.out.cell 9
  have l1_5 : w.heap.size + 1 < w5.heap.size := K1_5.out.lt
  have z1_0_5 : w5.cell? ⟨w.heap.size + 1, 0, none⟩ = some (.int .i64 (a)) := K1_5.out.cell 0
  have z1_1_5 : w5.cell? ⟨w.heap.size + 1, 1, none⟩ = some (.int .i64 (b)) := K1_5.out.cell 1
  have l2_5 : bx < w5.heap.size := K2_5.out.lt
  have z2_0_5 : w5.cell? ⟨bx, 0, none⟩ = some (.slice (At) n ct) := K2_5.out.cell 0
  have z2_1_5 : w5.cell? ⟨bx, 1, none⟩ = some (.slice Xp n cp) := K2_5.out.cell 1
  have l3_5 : w4.heap.size < w5.heap.size := K3_5.out.lt
  have z3_0_5 : w5.cell? ⟨w4.heap.size, 0, none⟩ = some (.int .i64 (LS)) := K3_5.out.cell 0
  have z3_1_5 : w5.cell? ⟨w4.heap.size, 1, none⟩ = some (.int .i64 (MS)) := K3_5.out.cell 1
  have z3_2_5 : w5.cell? ⟨w4.heap.size, 2, none⟩ = some (.int .i64 (m.lo)) := K3_5.out.cell 2
  have z3_3_5 : w5.cell? ⟨w4.heap.size, 3, none⟩ = some (.int .i64 (m.hi)) := K3_5.out.cell 3
  have z3_4_5 : w5.cell? ⟨w4.heap.size, 4, none⟩ = some (.int .i64 (m.sp)) := K3_5.out.cell 4
  have z3_5_5 : w5.cell? ⟨w4.heap.size, 5, none⟩ = some (.slice W1 m.n1 k1) := K3_5.out.cell 5
  have z3_6_5 : w5.cell? ⟨w4.heap.size, 6, none⟩ = some (.slice W2 m.n2 k2) := K3_5.out.cell 6
  clear g4
  obtain ⟨V2, hV2⟩ : ∃ z, leastC ({ m with ls := LS, ms := MS } : Mnt) day pos l = z := ⟨_, rfl⟩
  have hle : V2 ≤ V := by rw [← hV2]; exact HWL.out m.A1 m.c1 m.A2 m.c2 ks HK.out HC.out
  have HV2 := Lib.hid hV2
  have HWT0 : Hid ((tourF ({ m with ls := LS, ms := MS } : Mnt) l day pos).2 = 0) := Lib.hid (HWT.out m.A1 m.c1 m.A2 m.c2)
  have vv : decide (V < V2) = false := decide_eq_false (by omega)
  clear hV2 hle
  go_wp2
  apply share3_ (Fact := fun (_ _ z : Pick2) (wz : World) => ∃ bx2, z.1.1 = some ⟨bx2, 0, none⟩ ∧ w5.heap.size ≤ bx2 ∧ Below w5.heap.size w5 wz)
  · intro key
    refine Fx.regionM (fun W g f w' => KpG (PfT m n l 0 [] 97 3 98) (fun _ _ => True) 67 (fun z => .slice z.1.1 n z.1.2) (fun z => .slice z.2.1 n z.2.2) 11 12 6 W g f w') (fun i (x : Pick2) => if i = 6 then .tuple #[.agg #[.slice x.1.1 n x.1.2, .slice x.2.1 n x.2.2], .int .i64 V2, .int .i64 0] else if i = 11 then .pointer x.1.1 else valT m n 0 97 3 i x) (by kernel_rfl) ?_ ?_
    · intro f hf0
      exact KpG.start
    first
    | (refine Fx.WM.skip 0 (by rfl) (by kernel_rfl) (by kernel_rfl) (by kernel_rfl) (by rfl) (fun g f w h => h.same (by decide)) ?_; simp only [Act.put, List.setIfInBounds_toArray, List.set_cons_zero, List.set_cons_succ])
    | (refine Fx.WM.val_ 0 ?_ (by rfl) (by kernel_rfl) (by kernel_rfl) (by kernel_rfl) (by rfl) ?_ (fun g f w h => h.same (by decide)) ?_
       rotate_left
       · intro g f w' hx hD hk
         obtain hkp := id hD
         have y3_0 := (K3_5.out.below hkp.bel l3_5).cell 0
         have y3_1 := (K3_5.out.below hkp.bel l3_5).cell 1
         have y3_2 := (K3_5.out.below hkp.bel l3_5).cell 2
         have y3_3 := (K3_5.out.below hkp.bel l3_5).cell 3
         have y3_4 := (K3_5.out.below hkp.bel l3_5).cell 4
         have y3_5 := (K3_5.out.below hkp.bel l3_5).cell 5
         have y3_6 := (K3_5.out.below hkp.bel l3_5).cell 6
         clear hx hk hD hkp
         go_simp
         try rfl
       simp only [Act.put, List.setIfInBounds_toArray, List.set_cons_zero, List.set_cons_succ])
    first
    | (refine Fx.WM.skip 1 (by rfl) (by kernel_rfl) (by kernel_rfl) (by kernel_rfl) (by rfl) (fun g f w h => h.same (by decide)) ?_; simp only [Act.put, List.setIfInBounds_toArray, List.set_cons_zero, List.set_cons_succ])
    | (refine Fx.WM.val_ 1 ?_ (by rfl) (by kernel_rfl) (by kernel_rfl) (by kernel_rfl) (by rfl) ?_ (fun g f w h => h.same (by decide)) ?_
       rotate_left
       · intro g f w' hx hD hk
         obtain hkp := id hD
         have y0_0 := (K0_5.out.below hkp.bel l0_5).cell 0
         have y0_1 := (K0_5.out.below hkp.bel l0_5).cell 1
         have y0_2 := (K0_5.out.below hkp.bel l0_5).cell 2
         have y0_3 := (K0_5.out.below hkp.bel l0_5).cell 3
         have y0_4 := (K0_5.out.below hkp.bel l0_5).cell 4
         have y0_5 := (K0_5.out.below hkp.bel l0_5).cell 5
         have y0_6 := (K0_5.out.below hkp.bel l0_5).cell 6
         have y0_7 := (K0_5.out.below hkp.bel l0_5).cell 7
         have y0_8 := (K0_5.out.below hkp.bel l0_5).cell 8
         have y0_9 := (K0_5.out.below hkp.bel l0_5).cell 9
         clear hx hk hD hkp
         go_simp
         try rfl
       simp only [Act.put, List.setIfInBounds_toArray, List.set_cons_zero, List.set_cons_succ])
    first
    | (refine Fx.WM.skip 2 (by rfl) (by kernel_rfl) (by kernel_rfl) (by kernel_rfl) (by rfl) (fun g f w h => h.same (by decide)) ?_; simp only [Act.put, List.setIfInBounds_toArray, List.set_cons_zero, List.set_cons_succ])
    | (refine Fx.WM.val_ 2 ?_ (by rfl) (by kernel_rfl) (by kernel_rfl) (by kernel_rfl) (by rfl) ?_ (fun g f w h => h.same (by decide)) ?_
       rotate_left
       · intro g f w' hx hD hk
         obtain hkp := id hD
         have y0_0 := (K0_5.out.below hkp.bel l0_5).cell 0
         have y0_1 := (K0_5.out.below hkp.bel l0_5).cell 1
         have y0_2 := (K0_5.out.below hkp.bel l0_5).cell 2
         have y0_3 := (K0_5.out.below hkp.bel l0_5).cell 3
         have y0_4 := (K0_5.out.below hkp.bel l0_5).cell 4
         have y0_5 := (K0_5.out.below hkp.bel l0_5).cell 5
         have y0_6 := (K0_5.out.below hkp.bel l0_5).cell 6
         have y0_7 := (K0_5.out.below hkp.bel l0_5).cell 7
         have y0_8 := (K0_5.out.below hkp.bel l0_5).cell 8
         have y0_9 := (K0_5.out.below hkp.bel l0_5).cell 9
         clear hx hk hD hkp
         go_simp
         try rfl
       simp only [Act.put, List.setIfInBounds_toArray, List.set_cons_zero, List.set_cons_succ])
    first
    | (refine Fx.WM.skip 4 (by rfl) (by kernel_rfl) (by kernel_rfl) (by kernel_rfl) (by rfl) (fun g f w h => h.same (by decide)) ?_; simp only [Act.put, List.setIfInBounds_toArray, List.set_cons_zero, List.set_cons_succ])
    | (refine Fx.WM.val_ 4 ?_ (by rfl) (by kernel_rfl) (by kernel_rfl) (by kernel_rfl) (by rfl) ?_ (fun g f w h => h.same (by decide)) ?_
       rotate_left
       · intro g f w' hx hD hk
         obtain hkp := id hD
         have y0_0 := (K0_5.out.below hkp.bel l0_5).cell 0
         have y0_1 := (K0_5.out.below hkp.bel l0_5).cell 1
         have y0_2 := (K0_5.out.below hkp.bel l0_5).cell 2
         have y0_3 := (K0_5.out.below hkp.bel l0_5).cell 3
         have y0_4 := (K0_5.out.below hkp.bel l0_5).cell 4
         have y0_5 := (K0_5.out.below hkp.bel l0_5).cell 5
         have y0_6 := (K0_5.out.below hkp.bel l0_5).cell 6
         have y0_7 := (K0_5.out.below hkp.bel l0_5).cell 7
         have y0_8 := (K0_5.out.below hkp.bel l0_5).cell 8
         have y0_9 := (K0_5.out.below hkp.bel l0_5).cell 9
         clear hx hk hD hkp
         go_simp
         try rfl
       simp only [Act.put, List.setIfInBounds_toArray, List.set_cons_zero, List.set_cons_succ])
    first
    | (refine Fx.WM.skip 5 (by rfl) (by kernel_rfl) (by kernel_rfl) (by kernel_rfl) (by rfl) (fun g f w h => h.same (by decide)) ?_; simp only [Act.put, List.setIfInBounds_toArray, List.set_cons_zero, List.set_cons_succ])
    | (refine Fx.WM.val_ 5 ?_ (by rfl) (by kernel_rfl) (by kernel_rfl) (by kernel_rfl) (by rfl) ?_ (fun g f w h => h.same (by decide)) ?_
       rotate_left
       · intro g f w' hx hD hk
         obtain hkp := id hD
         have y0_0 := (K0_5.out.below hkp.bel l0_5).cell 0
         have y0_1 := (K0_5.out.below hkp.bel l0_5).cell 1
         have y0_2 := (K0_5.out.below hkp.bel l0_5).cell 2
         have y0_3 := (K0_5.out.below hkp.bel l0_5).cell 3
         have y0_4 := (K0_5.out.below hkp.bel l0_5).cell 4
         have y0_5 := (K0_5.out.below hkp.bel l0_5).cell 5
         have y0_6 := (K0_5.out.below hkp.bel l0_5).cell 6
         have y0_7 := (K0_5.out.below hkp.bel l0_5).cell 7
         have y0_8 := (K0_5.out.below hkp.bel l0_5).cell 8
         have y0_9 := (K0_5.out.below hkp.bel l0_5).cell 9
         clear hx hk hD hkp
         go_simp
         try rfl
       simp only [Act.put, List.setIfInBounds_toArray, List.set_cons_zero, List.set_cons_succ])
    refine Fx.WM.choose2 3 11 (by rfl) (by rfl) (by kernel_rfl) (by rfl) (by rfl) ?_ ?_ ?_ ?_
    · skip
      refine Fx.Chooses.call ?_ ?_ (by rfl) ?_ ?_
      rotate_left 2
      · intro w'
        go_simp
        refine ⟨?_, ?_⟩ <;> rfl
      · intro f w' hD hk
        exact (ctargets_any A n c w'.heap.size l w' ((R0_5.out.below hD.bel).more hD.bel.size) (Nat.le_refl _) (by omega)).mono fun e w'' ⟨A', c', he, hb, hr, ho⟩ => ⟨((A', c'), (none, 0)), he, hD.choose PfT.stb stbT hb 3 _ (by decide) (by decide) (hk.2.1 12 (by kernel_rfl)) ⟨fun e => absurd e (by decide), fun _ => ⟨hr, own_cap ho⟩, fun e => absurd e (by decide)⟩ (fun e => absurd e (by decide))⟩
    · skip
      refine Fx.Chooses.make (by rfl) ?_
      intro f w' hD hk
      refine ⟨((some ⟨w'.heap.size, 0, none⟩, 0), (none, 0)), w'.alloc (.cells #[.slice none 0 0, .slice none 0 0] 67), ?_, ?_⟩
      · clear hk hD
        go_simp
        try rfl
      · exact hD.make PfT.stb stbT (hk.2.1 12 (by kernel_rfl)) (by decide) (by decide)
    · skip
      intro x
      simp only [Act.put, List.setIfInBounds_toArray, List.set_cons_zero, List.set_cons_succ]
      refine Fx.WM.choose2 6 11 (by rfl) (by rfl) (by kernel_rfl) (by rfl) (by rfl) ?_ ?_ ?_ ?_
      · skip
        refine Fx.Chooses.call ?_ ?_ (by rfl) ?_ ?_
        rotate_left 2
        · intro w'
          go_simp
          refine ⟨?_, ?_⟩ <;> rfl
        · intro f w' hD hk
          exact (pchoosef_like (m := { m with ls := LS, ms := MS }) HN.out HV2.out W1 W2 k1 k2 x.1.1 x.1.2 HWT0.out w' ⟨(R3_5.out.lay hD.bel).r1, (R3_5.out.lay hD.bel).r2, (R3_5.out.lay hD.bel).b1, (R3_5.out.lay hD.bel).b2⟩ ((hD.has (hk.2.1 12 (by kernel_rfl)) 3 x (by rfl) (by decide)).2.1 rfl).1 ((hD.has (hk.2.1 12 (by kernel_rfl)) 3 x (by rfl) (by decide)).2.1 rfl).2 HF.out).mono fun e w'' ⟨u, he, hb, hq⟩ => ⟨u, he, hD.choose PfT.stb stbT hb 6 _ (by decide) (by decide) (hk.2.1 12 (by kernel_rfl)) ⟨fun e => absurd e (by decide), fun e => absurd e (by decide), fun e => absurd e (by decide)⟩ (fun _ => trivial)⟩
      · skip
        refine Fx.Chooses.make (by rfl) ?_
        intro f w' hD hk
        refine ⟨((some ⟨w'.heap.size, 0, none⟩, 0), (none, 0)), w'.alloc (.cells #[.slice none 0 0, .slice none 0 0] 67), ?_, ?_⟩
        · clear hk hD
          go_simp
          try rfl
        · exact hD.make PfT.stb stbT (hk.2.1 12 (by kernel_rfl)) (by decide) (by decide)
      · skip
        intro u
        simp only [Act.put, List.setIfInBounds_toArray, List.set_cons_zero, List.set_cons_succ]
        first
        | (refine Fx.WM.skip 7 (by rfl) (by kernel_rfl) (by kernel_rfl) (by kernel_rfl) (by rfl) (fun g f w h => h.same (by decide)) ?_; simp only [Act.put, List.setIfInBounds_toArray, List.set_cons_zero, List.set_cons_succ])
        | (refine Fx.WM.val_ 7 ?_ (by rfl) (by kernel_rfl) (by kernel_rfl) (by kernel_rfl) (by rfl) ?_ (fun g f w h => h.same (by decide)) ?_
           rotate_left
           · intro g f w' hx hD hk
             obtain hkp := id hD
             clear hx hk hD hkp
             go_simp
             try rfl
           simp only [Act.put, List.setIfInBounds_toArray, List.set_cons_zero, List.set_cons_succ])
        first
        | (refine Fx.WM.skip 8 (by rfl) (by kernel_rfl) (by kernel_rfl) (by kernel_rfl) (by rfl) (fun g f w h => h.same (by decide)) ?_; simp only [Act.put, List.setIfInBounds_toArray, List.set_cons_zero, List.set_cons_succ])
        | (refine Fx.WM.val_ 8 ?_ (by rfl) (by kernel_rfl) (by kernel_rfl) (by kernel_rfl) (by rfl) ?_ (fun g f w h => h.same (by decide)) ?_
           rotate_left
           · intro g f w' hx hD hk
             obtain hkp := id hD
             clear hx hk hD hkp
             go_simp
             try rfl
           simp only [Act.put, List.setIfInBounds_toArray, List.set_cons_zero, List.set_cons_succ])
        first
        | (refine Fx.WM.skip 9 (by rfl) (by kernel_rfl) (by kernel_rfl) (by kernel_rfl) (by rfl) (fun g f w h => h.same (by decide)) ?_; simp only [Act.put, List.setIfInBounds_toArray, List.set_cons_zero, List.set_cons_succ])
        | (refine Fx.WM.val_ 9 ?_ (by rfl) (by kernel_rfl) (by kernel_rfl) (by kernel_rfl) (by rfl) ?_ (fun g f w h => h.same (by decide)) ?_
           rotate_left
           · intro g f w' hx hD hk
             obtain hkp := id hD
             clear hx hk hD hkp
             go_simp
             try rfl
           simp only [Act.put, List.setIfInBounds_toArray, List.set_cons_zero, List.set_cons_succ])
        first
        | (refine Fx.WM.skip 10 (by rfl) (by kernel_rfl) (by kernel_rfl) (by kernel_rfl) (by rfl) (fun g f w h => h.same (by decide)) ?_; simp only [Act.put, List.setIfInBounds_toArray, List.set_cons_zero, List.set_cons_succ])
        | (refine Fx.WM.val_ 10 ?_ (by rfl) (by kernel_rfl) (by kernel_rfl) (by kernel_rfl) (by rfl) ?_ (fun g f w h => h.same (by decide)) ?_
           rotate_left
           · intro g f w' hx hD hk
             obtain hkp := id hD
             clear hx hk hD hkp
             go_simp
             try rfl
           simp only [Act.put, List.setIfInBounds_toArray, List.set_cons_zero, List.set_cons_succ])
        refine Fx.WM.choose 11 (by rfl) (by kernel_rfl) (by rfl) ?_ ?_
        · skip
          refine Fx.Chooses.make (by rfl) ?_
          intro f w' hD hk
          refine ⟨((some ⟨w'.heap.size, 0, none⟩, 0), (none, 0)), w'.alloc (.cells #[.slice none 0 0, .slice none 0 0] 67), ?_, ?_⟩
          · clear hk hD
            go_simp
            try rfl
          · exact hD.make PfT.stb stbT (hk.2.1 12 (by kernel_rfl)) (by decide) (by decide)
        intro z
        simp only [Act.put, List.setIfInBounds_toArray, List.set_cons_zero, List.set_cons_succ]
        refine Fx.WM.eff 12 undef (by rfl) (by kernel_rfl) (by kernel_rfl) (by kernel_rfl) (by rfl) ?_ ?_
        · intro g f w' hx hD hk
          obtain ⟨bx, e0, e1, r0, r1, r2, r3, r4, r5⟩ := KpG.cells hD (hx 11 _ (by rfl))
          refine Fx.gives_skip (w' := ((w'.setCell ⟨bx, 0, none⟩ (.slice u.1.1 n u.1.2)).setCell ⟨bx, 1, none⟩ (.slice u.2.1 n u.2.2))) ?_ ?_
          · clear hx hk hD
            go_simp
            try rfl
          · exact KpG.store hD stbT (hx 11 _ (by rfl)) r0 (hx 6 _ (by rfl))
        simp only [Act.put, List.setIfInBounds_toArray, List.set_cons_zero, List.set_cons_succ]
        first
        | (refine Fx.WM.skip 13 (by rfl) (by kernel_rfl) (by kernel_rfl) (by kernel_rfl) (by rfl) (fun g f w h => h.same (by decide)) ?_; simp only [Act.put, List.setIfInBounds_toArray, List.set_cons_zero, List.set_cons_succ])
        | (refine Fx.WM.val_ 13 ?_ (by rfl) (by kernel_rfl) (by kernel_rfl) (by kernel_rfl) (by rfl) ?_ (fun g f w h => h.same (by decide)) ?_
           rotate_left
           · intro g f w' hx hD hk
             obtain hkp := id hD
             clear hx hk hD hkp
             go_simp
             try rfl
           simp only [Act.put, List.setIfInBounds_toArray, List.set_cons_zero, List.set_cons_succ])
        first
        | (refine Fx.WM.skip 14 (by rfl) (by kernel_rfl) (by kernel_rfl) (by kernel_rfl) (by rfl) (fun g f w h => h.same (by decide)) ?_; simp only [Act.put, List.setIfInBounds_toArray, List.set_cons_zero, List.set_cons_succ])
        | (refine Fx.WM.val_ 14 ?_ (by rfl) (by kernel_rfl) (by kernel_rfl) (by kernel_rfl) (by rfl) ?_ (fun g f w h => h.same (by decide)) ?_
           rotate_left
           · intro g f w' hx hD hk
             obtain hkp := id hD
             clear hx hk hD hkp
             go_simp
             try rfl
           simp only [Act.put, List.setIfInBounds_toArray, List.set_cons_zero, List.set_cons_succ])
        refine Fx.WM.nil (by kernel_rfl) ?_
        intro wz hkp
        obtain ⟨bx2, h1, h2, -, -⟩ := KpG.end_ hkp (x := z) (z := u) (by rfl) (by rfl) (by rfl)
        exact key x u z wz ⟨bx2, h1, h2, hkp.bel⟩
      · skip
        intro z
        simp only [Act.put, List.setIfInBounds_toArray, List.set_cons_zero, List.set_cons_succ]
        refine Fx.WM.choose 6 (by rfl) (by kernel_rfl) (by rfl) ?_ ?_
        · skip
          refine Fx.Chooses.call ?_ ?_ (by rfl) ?_ ?_
          rotate_left 2
          · intro w'
            go_simp
            refine ⟨?_, ?_⟩ <;> rfl
          · intro f w' hD hk
            exact (pchoosef_like (m := { m with ls := LS, ms := MS }) HN.out HV2.out W1 W2 k1 k2 x.1.1 x.1.2 HWT0.out w' ⟨(R3_5.out.lay hD.bel).r1, (R3_5.out.lay hD.bel).r2, (R3_5.out.lay hD.bel).b1, (R3_5.out.lay hD.bel).b2⟩ ((hD.has (hk.2.1 12 (by kernel_rfl)) 3 x (by rfl) (by decide)).2.1 rfl).1 ((hD.has (hk.2.1 12 (by kernel_rfl)) 3 x (by rfl) (by decide)).2.1 rfl).2 HF.out).mono fun e w'' ⟨u, he, hb, hq⟩ => ⟨u, he, hD.choose PfT.stb stbT hb 6 _ (by decide) (by decide) (hk.2.1 12 (by kernel_rfl)) ⟨fun e => absurd e (by decide), fun e => absurd e (by decide), fun e => absurd e (by decide)⟩ (fun _ => trivial)⟩
        intro u
        simp only [Act.put, List.setIfInBounds_toArray, List.set_cons_zero, List.set_cons_succ]
        first
        | (refine Fx.WM.skip 7 (by rfl) (by kernel_rfl) (by kernel_rfl) (by kernel_rfl) (by rfl) (fun g f w h => h.same (by decide)) ?_; simp only [Act.put, List.setIfInBounds_toArray, List.set_cons_zero, List.set_cons_succ])
        | (refine Fx.WM.val_ 7 ?_ (by rfl) (by kernel_rfl) (by kernel_rfl) (by kernel_rfl) (by rfl) ?_ (fun g f w h => h.same (by decide)) ?_
           rotate_left
           · intro g f w' hx hD hk
             obtain hkp := id hD
             clear hx hk hD hkp
             go_simp
             try rfl
           simp only [Act.put, List.setIfInBounds_toArray, List.set_cons_zero, List.set_cons_succ])
        first
        | (refine Fx.WM.skip 8 (by rfl) (by kernel_rfl) (by kernel_rfl) (by kernel_rfl) (by rfl) (fun g f w h => h.same (by decide)) ?_; simp only [Act.put, List.setIfInBounds_toArray, List.set_cons_zero, List.set_cons_succ])
        | (refine Fx.WM.val_ 8 ?_ (by rfl) (by kernel_rfl) (by kernel_rfl) (by kernel_rfl) (by rfl) ?_ (fun g f w h => h.same (by decide)) ?_
           rotate_left
           · intro g f w' hx hD hk
             obtain hkp := id hD
             clear hx hk hD hkp
             go_simp
             try rfl
           simp only [Act.put, List.setIfInBounds_toArray, List.set_cons_zero, List.set_cons_succ])
        first
        | (refine Fx.WM.skip 9 (by rfl) (by kernel_rfl) (by kernel_rfl) (by kernel_rfl) (by rfl) (fun g f w h => h.same (by decide)) ?_; simp only [Act.put, List.setIfInBounds_toArray, List.set_cons_zero, List.set_cons_succ])
        | (refine Fx.WM.val_ 9 ?_ (by rfl) (by kernel_rfl) (by kernel_rfl) (by kernel_rfl) (by rfl) ?_ (fun g f w h => h.same (by decide)) ?_
           rotate_left
           · intro g f w' hx hD hk
             obtain hkp := id hD
             clear hx hk hD hkp
             go_simp
             try rfl
           simp only [Act.put, List.setIfInBounds_toArray, List.set_cons_zero, List.set_cons_succ])
        first
        | (refine Fx.WM.skip 10 (by rfl) (by kernel_rfl) (by kernel_rfl) (by kernel_rfl) (by rfl) (fun g f w h => h.same (by decide)) ?_; simp only [Act.put, List.setIfInBounds_toArray, List.set_cons_zero, List.set_cons_succ])
        | (refine Fx.WM.val_ 10 ?_ (by rfl) (by kernel_rfl) (by kernel_rfl) (by kernel_rfl) (by rfl) ?_ (fun g f w h => h.same (by decide)) ?_
           rotate_left
           · intro g f w' hx hD hk
             obtain hkp := id hD
             clear hx hk hD hkp
             go_simp
             try rfl
           simp only [Act.put, List.setIfInBounds_toArray, List.set_cons_zero, List.set_cons_succ])
        refine Fx.WM.eff 12 undef (by rfl) (by kernel_rfl) (by kernel_rfl) (by kernel_rfl) (by rfl) ?_ ?_
        · intro g f w' hx hD hk
          obtain ⟨bx, e0, e1, r0, r1, r2, r3, r4, r5⟩ := KpG.cells hD (hx 11 _ (by rfl))
          refine Fx.gives_skip (w' := ((w'.setCell ⟨bx, 0, none⟩ (.slice u.1.1 n u.1.2)).setCell ⟨bx, 1, none⟩ (.slice u.2.1 n u.2.2))) ?_ ?_
          · clear hx hk hD
            go_simp
            try rfl
          · exact KpG.store hD stbT (hx 11 _ (by rfl)) r0 (hx 6 _ (by rfl))
        simp only [Act.put, List.setIfInBounds_toArray, List.set_cons_zero, List.set_cons_succ]
        first
        | (refine Fx.WM.skip 13 (by rfl) (by kernel_rfl) (by kernel_rfl) (by kernel_rfl) (by rfl) (fun g f w h => h.same (by decide)) ?_; simp only [Act.put, List.setIfInBounds_toArray, List.set_cons_zero, List.set_cons_succ])
        | (refine Fx.WM.val_ 13 ?_ (by rfl) (by kernel_rfl) (by kernel_rfl) (by kernel_rfl) (by rfl) ?_ (fun g f w h => h.same (by decide)) ?_
           rotate_left
           · intro g f w' hx hD hk
             obtain hkp := id hD
             clear hx hk hD hkp
             go_simp
             try rfl
           simp only [Act.put, List.setIfInBounds_toArray, List.set_cons_zero, List.set_cons_succ])
        first
        | (refine Fx.WM.skip 14 (by rfl) (by kernel_rfl) (by kernel_rfl) (by kernel_rfl) (by rfl) (fun g f w h => h.same (by decide)) ?_; simp only [Act.put, List.setIfInBounds_toArray, List.set_cons_zero, List.set_cons_succ])
        | (refine Fx.WM.val_ 14 ?_ (by rfl) (by kernel_rfl) (by kernel_rfl) (by kernel_rfl) (by rfl) ?_ (fun g f w h => h.same (by decide)) ?_
           rotate_left
           · intro g f w' hx hD hk
             obtain hkp := id hD
             clear hx hk hD hkp
             go_simp
             try rfl
           simp only [Act.put, List.setIfInBounds_toArray, List.set_cons_zero, List.set_cons_succ])
        refine Fx.WM.nil (by kernel_rfl) ?_
        intro wz hkp
        obtain ⟨bx2, h1, h2, -, -⟩ := KpG.end_ hkp (x := z) (z := u) (by rfl) (by rfl) (by rfl)
        exact key x u z wz ⟨bx2, h1, h2, hkp.bel⟩
    · skip
      intro z
      simp only [Act.put, List.setIfInBounds_toArray, List.set_cons_zero, List.set_cons_succ]
      refine Fx.WM.choose 3 (by rfl) (by kernel_rfl) (by rfl) ?_ ?_
      · skip
        refine Fx.Chooses.call ?_ ?_ (by rfl) ?_ ?_
        rotate_left 2
        · intro w'
          go_simp
          refine ⟨?_, ?_⟩ <;> rfl
        · intro f w' hD hk
          exact (ctargets_any A n c w'.heap.size l w' ((R0_5.out.below hD.bel).more hD.bel.size) (Nat.le_refl _) (by omega)).mono fun e w'' ⟨A', c', he, hb, hr, ho⟩ => ⟨((A', c'), (none, 0)), he, hD.choose PfT.stb stbT hb 3 _ (by decide) (by decide) (hk.2.1 12 (by kernel_rfl)) ⟨fun e => absurd e (by decide), fun _ => ⟨hr, own_cap ho⟩, fun e => absurd e (by decide)⟩ (fun e => absurd e (by decide))⟩
      intro x
      simp only [Act.put, List.setIfInBounds_toArray, List.set_cons_zero, List.set_cons_succ]
      refine Fx.WM.choose 6 (by rfl) (by kernel_rfl) (by rfl) ?_ ?_
      · skip
        refine Fx.Chooses.call ?_ ?_ (by rfl) ?_ ?_
        rotate_left 2
        · intro w'
          go_simp
          refine ⟨?_, ?_⟩ <;> rfl
        · intro f w' hD hk
          exact (pchoosef_like (m := { m with ls := LS, ms := MS }) HN.out HV2.out W1 W2 k1 k2 x.1.1 x.1.2 HWT0.out w' ⟨(R3_5.out.lay hD.bel).r1, (R3_5.out.lay hD.bel).r2, (R3_5.out.lay hD.bel).b1, (R3_5.out.lay hD.bel).b2⟩ ((hD.has (hk.2.1 12 (by kernel_rfl)) 3 x (by rfl) (by decide)).2.1 rfl).1 ((hD.has (hk.2.1 12 (by kernel_rfl)) 3 x (by rfl) (by decide)).2.1 rfl).2 HF.out).mono fun e w'' ⟨u, he, hb, hq⟩ => ⟨u, he, hD.choose PfT.stb stbT hb 6 _ (by decide) (by decide) (hk.2.1 12 (by kernel_rfl)) ⟨fun e => absurd e (by decide), fun e => absurd e (by decide), fun e => absurd e (by decide)⟩ (fun _ => trivial)⟩
      intro u
      simp only [Act.put, List.setIfInBounds_toArray, List.set_cons_zero, List.set_cons_succ]
      first
      | (refine Fx.WM.skip 7 (by rfl) (by kernel_rfl) (by kernel_rfl) (by kernel_rfl) (by rfl) (fun g f w h => h.same (by decide)) ?_; simp only [Act.put, List.setIfInBounds_toArray, List.set_cons_zero, List.set_cons_succ])
      | (refine Fx.WM.val_ 7 ?_ (by rfl) (by kernel_rfl) (by kernel_rfl) (by kernel_rfl) (by rfl) ?_ (fun g f w h => h.same (by decide)) ?_
         rotate_left
         · intro g f w' hx hD hk
           obtain hkp := id hD
           clear hx hk hD hkp
           go_simp
           try rfl
         simp only [Act.put, List.setIfInBounds_toArray, List.set_cons_zero, List.set_cons_succ])
      first
      | (refine Fx.WM.skip 8 (by rfl) (by kernel_rfl) (by kernel_rfl) (by kernel_rfl) (by rfl) (fun g f w h => h.same (by decide)) ?_; simp only [Act.put, List.setIfInBounds_toArray, List.set_cons_zero, List.set_cons_succ])
      | (refine Fx.WM.val_ 8 ?_ (by rfl) (by kernel_rfl) (by kernel_rfl) (by kernel_rfl) (by rfl) ?_ (fun g f w h => h.same (by decide)) ?_
         rotate_left
         · intro g f w' hx hD hk
           obtain hkp := id hD
           clear hx hk hD hkp
           go_simp
           try rfl
         simp only [Act.put, List.setIfInBounds_toArray, List.set_cons_zero, List.set_cons_succ])
      first
      | (refine Fx.WM.skip 9 (by rfl) (by kernel_rfl) (by kernel_rfl) (by kernel_rfl) (by rfl) (fun g f w h => h.same (by decide)) ?_; simp only [Act.put, List.setIfInBounds_toArray, List.set_cons_zero, List.set_cons_succ])
      | (refine Fx.WM.val_ 9 ?_ (by rfl) (by kernel_rfl) (by kernel_rfl) (by kernel_rfl) (by rfl) ?_ (fun g f w h => h.same (by decide)) ?_
         rotate_left
         · intro g f w' hx hD hk
           obtain hkp := id hD
           clear hx hk hD hkp
           go_simp
           try rfl
         simp only [Act.put, List.setIfInBounds_toArray, List.set_cons_zero, List.set_cons_succ])
      first
      | (refine Fx.WM.skip 10 (by rfl) (by kernel_rfl) (by kernel_rfl) (by kernel_rfl) (by rfl) (fun g f w h => h.same (by decide)) ?_; simp only [Act.put, List.setIfInBounds_toArray, List.set_cons_zero, List.set_cons_succ])
      | (refine Fx.WM.val_ 10 ?_ (by rfl) (by kernel_rfl) (by kernel_rfl) (by kernel_rfl) (by rfl) ?_ (fun g f w h => h.same (by decide)) ?_
         rotate_left
         · intro g f w' hx hD hk
           obtain hkp := id hD
           clear hx hk hD hkp
           go_simp
           try rfl
         simp only [Act.put, List.setIfInBounds_toArray, List.set_cons_zero, List.set_cons_succ])
      refine Fx.WM.eff 12 undef (by rfl) (by kernel_rfl) (by kernel_rfl) (by kernel_rfl) (by rfl) ?_ ?_
      · intro g f w' hx hD hk
        obtain ⟨bx, e0, e1, r0, r1, r2, r3, r4, r5⟩ := KpG.cells hD (hx 11 _ (by rfl))
        refine Fx.gives_skip (w' := ((w'.setCell ⟨bx, 0, none⟩ (.slice u.1.1 n u.1.2)).setCell ⟨bx, 1, none⟩ (.slice u.2.1 n u.2.2))) ?_ ?_
        · clear hx hk hD
          go_simp
          try rfl
        · exact KpG.store hD stbT (hx 11 _ (by rfl)) r0 (hx 6 _ (by rfl))
      simp only [Act.put, List.setIfInBounds_toArray, List.set_cons_zero, List.set_cons_succ]
      first
      | (refine Fx.WM.skip 13 (by rfl) (by kernel_rfl) (by kernel_rfl) (by kernel_rfl) (by rfl) (fun g f w h => h.same (by decide)) ?_; simp only [Act.put, List.setIfInBounds_toArray, List.set_cons_zero, List.set_cons_succ])
      | (refine Fx.WM.val_ 13 ?_ (by rfl) (by kernel_rfl) (by kernel_rfl) (by kernel_rfl) (by rfl) ?_ (fun g f w h => h.same (by decide)) ?_
         rotate_left
         · intro g f w' hx hD hk
           obtain hkp := id hD
           clear hx hk hD hkp
           go_simp
           try rfl
         simp only [Act.put, List.setIfInBounds_toArray, List.set_cons_zero, List.set_cons_succ])
      first
      | (refine Fx.WM.skip 14 (by rfl) (by kernel_rfl) (by kernel_rfl) (by kernel_rfl) (by rfl) (fun g f w h => h.same (by decide)) ?_; simp only [Act.put, List.setIfInBounds_toArray, List.set_cons_zero, List.set_cons_succ])
      | (refine Fx.WM.val_ 14 ?_ (by rfl) (by kernel_rfl) (by kernel_rfl) (by kernel_rfl) (by rfl) ?_ (fun g f w h => h.same (by decide)) ?_
         rotate_left
         · intro g f w' hx hD hk
           obtain hkp := id hD
           clear hx hk hD hkp
           go_simp
           try rfl
         simp only [Act.put, List.setIfInBounds_toArray, List.set_cons_zero, List.set_cons_succ])
      refine Fx.WM.nil (by kernel_rfl) ?_
      intro wz hkp
      obtain ⟨bx2, h1, h2, -, -⟩ := KpG.end_ hkp (x := z) (z := u) (by rfl) (by rfl) (by rfl)
      exact key x u z wz ⟨bx2, h1, h2, hkp.bel⟩
  rintro x y ⟨⟨z1, z2⟩, z3⟩ w6 ⟨bx2, hz, hbx2, hb⟩
  simp only at hz
  subst hz
  have HB6 := Lib.hid (show Below w.heap.size w w6 from step_below hb (by repeat' (first | exact Below.refl _ _ | exact HB5.out | refine below_drewN ?_ _ | refine Below.drew ?_ | refine Below.alloc ?_ (by first | omega | (simp; done) | (simp; omega) | (simp [World.setCell]; omega)) _ | refine Below.setCell ?_ (by first | omega | (simp; done) | (simp; omega)) _ | assumption)))
  have K0_6 := Lib.hid (step_blk hb (show Blk _ (w.heap.size) 62 #[.int .i64 (m.ls), .int .i64 (m.ms), .int .i64 (m.lo), .int .i64 (m.hi), .int .i64 (m.sp), .slice m.A1 m.n1 m.c1, .slice m.A2 m.n2 m.c2, .slice (A) n c, .int .i64 (day), .int .i64 (pos)] by repeat' (first | exact K0_5.out | exact K1_5.out | exact K2_5.out | exact K3_5.out | exact Blk.at_ _ (by first | rfl | (simp; done) | (simp; omega)) _ _ | refine Blk.drewN ?_ _ | refine Blk.drew ?_ | refine Blk.alloc ?_ _ | refine Blk.far ?_ (by first | omega | (simp; done) | (simp; omega)) _ | assumption)))
  have K1_6 := Lib.hid (step_blk hb (show Blk _ (w.heap.size + 1) 60 #[.int .i64 (a), .int .i64 (b)] by repeat' (first | exact K0_5.out | exact K1_5.out | exact K2_5.out | exact K3_5.out | exact Blk.at_ _ (by first | rfl | (simp; done) | (simp; omega)) _ _ | refine Blk.drewN ?_ _ | refine Blk.drew ?_ | refine Blk.alloc ?_ _ | refine Blk.far ?_ (by first | omega | (simp; done) | (simp; omega)) _ | assumption)))
  have K2_6 := Lib.hid (step_blk hb (show Blk _ (bx) 67 #[.slice (At) n ct, .slice Xp n cp] by repeat' (first | exact K0_5.out | exact K1_5.out | exact K2_5.out | exact K3_5.out | exact Blk.at_ _ (by first | rfl | (simp; done) | (simp; omega)) _ _ | refine Blk.drewN ?_ _ | refine Blk.drew ?_ | refine Blk.alloc ?_ _ | refine Blk.far ?_ (by first | omega | (simp; done) | (simp; omega)) _ | assumption)))
  have K3_6 := Lib.hid (step_blk hb (show Blk _ (w4.heap.size) 58 #[.int .i64 (LS), .int .i64 (MS), .int .i64 (m.lo), .int .i64 (m.hi), .int .i64 (m.sp), .slice W1 m.n1 k1, .slice W2 m.n2 k2] by repeat' (first | exact K0_5.out | exact K1_5.out | exact K2_5.out | exact K3_5.out | exact Blk.at_ _ (by first | rfl | (simp; done) | (simp; omega)) _ _ | refine Blk.drewN ?_ _ | refine Blk.drew ?_ | refine Blk.alloc ?_ _ | refine Blk.far ?_ (by first | omega | (simp; done) | (simp; omega)) _ | assumption)))
  have hL6 := Lib.hid (show Below w5.heap.size w5 _ from reads_mid hb (by repeat' (first | exact Below.refl _ _ | refine below_drewN ?_ _ | refine Below.drew ?_ | refine Below.alloc ?_ (by first | omega | (simp; done) | (simp; omega) | (simp [World.setCell]; omega)) _ | refine Below.setCell ?_ (by first | omega | (simp; done) | (simp; omega)) _)))
  have R0_6 := Lib.hid (reads_lay hb hL6.out R0_5.out)
  have R1_6 := Lib.hid (mnt_lay hb hL6.out R1_5.out)
  have R2_6 := Lib.hid (reads_lay hb hL6.out R2_5.out)
  have R3_6 := Lib.hid (mnt_lay hb hL6.out R3_5.out)
  clear hL6 R0_5 R1_5 R2_5 R3_5
  have hz6 := hb.size
  try simp only [World.size_alloc, World.drewN, World.drew] at hz6
  clear hb K0_5 K1_5 K2_5 K3_5 z0_0_5 z0_1_5 z0_2_5 z0_3_5 z0_4_5 z0_5_5 z0_6_5 z0_7_5 z0_8_5 z0_9_5 l0_5 z1_0_5 z1_1_5 l1_5 z2_0_5 z2_1_5 l2_5 z3_0_5 z3_1_5 z3_2_5 z3_3_5 z3_4_5 z3_5_5 z3_6_5 l3_5
  have l0_6 : w.heap.size < w6.heap.size := K0_6.out.lt
  have z0_0_6 : w6.cell? ⟨w.heap.size, 0, none⟩ = some (.int .i64 (m.ls)) := K0_6.out.cell 0
  have z0_1_6 : w6.cell? ⟨w.heap.size, 1, none⟩ = some (.int .i64 (m.ms)) := K0_6.out.cell 1
  have z0_2_6 : w6.cell? ⟨w.heap.size, 2, none⟩ = some (.int .i64 (m.lo)) := K0_6.out.cell 2
  have z0_3_6 : w6.cell? ⟨w.heap.size, 3, none⟩ = some (.int .i64 (m.hi)) := K0_6.out.cell 3
  have z0_4_6 : w6.cell? ⟨w.heap.size, 4, none⟩ = some (.int .i64 (m.sp)) := K0_6.out.cell 4
  have z0_5_6 : w6.cell? ⟨w.heap.size, 5, none⟩ = some (.slice m.A1 m.n1 m.c1) := K0_6.out.cell 5
  have z0_6_6 : w6.cell? ⟨w.heap.size, 6, none⟩ = some (.slice m.A2 m.n2 m.c2) := K0_6.out.cell 6
  have z0_7_6 : w6.cell? ⟨w.heap.size, 7, none⟩ = some (.slice (A) n c) := K0_6.out.cell 7
  have z0_8_6 : w6.cell? ⟨w.heap.size, 8, none⟩ = some (.int .i64 (day)) := K0_6.out.cell 8
  have z0_9_6 : w6.cell? ⟨w.heap.size, 9, none⟩ = some (.int .i64 (pos)) := K0_6.out.cell 9
  have l1_6 : w.heap.size + 1 < w6.heap.size := K1_6.out.lt
  have z1_0_6 : w6.cell? ⟨w.heap.size + 1, 0, none⟩ = some (.int .i64 (a)) := K1_6.out.cell 0
  have z1_1_6 : w6.cell? ⟨w.heap.size + 1, 1, none⟩ = some (.int .i64 (b)) := K1_6.out.cell 1
  have l2_6 : bx < w6.heap.size := K2_6.out.lt
  have z2_0_6 : w6.cell? ⟨bx, 0, none⟩ = some (.slice (At) n ct) := K2_6.out.cell 0
  have z2_1_6 : w6.cell? ⟨bx, 1, none⟩ = some (.slice Xp n cp) := K2_6.out.cell 1
  have l3_6 : w4.heap.size < w6.heap.size := K3_6.out.lt
  have z3_0_6 : w6.cell? ⟨w4.heap.size, 0, none⟩ = some (.int .i64 (LS)) := K3_6.out.cell 0
  have z3_1_6 : w6.cell? ⟨w4.heap.size, 1, none⟩ = some (.int .i64 (MS)) := K3_6.out.cell 1
  have z3_2_6 : w6.cell? ⟨w4.heap.size, 2, none⟩ = some (.int .i64 (m.lo)) := K3_6.out.cell 2
  have z3_3_6 : w6.cell? ⟨w4.heap.size, 3, none⟩ = some (.int .i64 (m.hi)) := K3_6.out.cell 3
  have z3_4_6 : w6.cell? ⟨w4.heap.size, 4, none⟩ = some (.int .i64 (m.sp)) := K3_6.out.cell 4
  have z3_5_6 : w6.cell? ⟨w4.heap.size, 5, none⟩ = some (.slice W1 m.n1 k1) := K3_6.out.cell 5
  have z3_6_6 : w6.cell? ⟨w4.heap.size, 6, none⟩ = some (.slice W2 m.n2 k2) := K3_6.out.cell 6
  go_wp2
  refine Fx.regionW (fun W f w' => Below W.heap.size W w') (by kernel_rfl) (by kernel_rfl) ?_ ?_
  · intro f hf0
    exact below_drewN (Below.refl _ _) 1
  repeat (first
    | (refine Fx.skip_ (by rfl) (fun f w h => h) ?_; simp only [Act.put, List.setIfInBounds_toArray, List.set_cons_zero, List.set_cons_succ])
    | (refine Fx.val_ ?_ (by rfl) ?_ (fun f w h => h) ?_
       rotate_left
       · intro f w' hD hk
         have hb := hD
         have kb0 := step_blk hb (show Blk _ (w.heap.size) 62 #[.int .i64 (m.ls), .int .i64 (m.ms), .int .i64 (m.lo), .int .i64 (m.hi), .int .i64 (m.sp), .slice m.A1 m.n1 m.c1, .slice m.A2 m.n2 m.c2, .slice (A) n c, .int .i64 (day), .int .i64 (pos)] by repeat' (first | exact K0_6.out | exact K1_6.out | exact K2_6.out | exact K3_6.out | exact Blk.at_ _ (by first | rfl | (simp; done) | (simp; omega)) _ _ | refine Blk.drewN ?_ _ | refine Blk.drew ?_ | refine Blk.alloc ?_ _ | refine Blk.far ?_ (by first | omega | (simp; done) | (simp; omega)) _ | assumption))
         have y0_0 : w'.cell? ⟨w.heap.size, 0, none⟩ = some (.int .i64 (m.ls)) := kb0.cell 0
         have y0_1 : w'.cell? ⟨w.heap.size, 1, none⟩ = some (.int .i64 (m.ms)) := kb0.cell 1
         have y0_2 : w'.cell? ⟨w.heap.size, 2, none⟩ = some (.int .i64 (m.lo)) := kb0.cell 2
         have y0_3 : w'.cell? ⟨w.heap.size, 3, none⟩ = some (.int .i64 (m.hi)) := kb0.cell 3
         have y0_4 : w'.cell? ⟨w.heap.size, 4, none⟩ = some (.int .i64 (m.sp)) := kb0.cell 4
         have y0_5 : w'.cell? ⟨w.heap.size, 5, none⟩ = some (.slice m.A1 m.n1 m.c1) := kb0.cell 5
         have y0_6 : w'.cell? ⟨w.heap.size, 6, none⟩ = some (.slice m.A2 m.n2 m.c2) := kb0.cell 6
         have y0_7 : w'.cell? ⟨w.heap.size, 7, none⟩ = some (.slice (A) n c) := kb0.cell 7
         have y0_8 : w'.cell? ⟨w.heap.size, 8, none⟩ = some (.int .i64 (day)) := kb0.cell 8
         have y0_9 : w'.cell? ⟨w.heap.size, 9, none⟩ = some (.int .i64 (pos)) := kb0.cell 9
         have kb1 := step_blk hb (show Blk _ (w.heap.size + 1) 60 #[.int .i64 (a), .int .i64 (b)] by repeat' (first | exact K0_6.out | exact K1_6.out | exact K2_6.out | exact K3_6.out | exact Blk.at_ _ (by first | rfl | (simp; done) | (simp; omega)) _ _ | refine Blk.drewN ?_ _ | refine Blk.drew ?_ | refine Blk.alloc ?_ _ | refine Blk.far ?_ (by first | omega | (simp; done) | (simp; omega)) _ | assumption))
         have y1_0 : w'.cell? ⟨w.heap.size + 1, 0, none⟩ = some (.int .i64 (a)) := kb1.cell 0
         have y1_1 : w'.cell? ⟨w.heap.size + 1, 1, none⟩ = some (.int .i64 (b)) := kb1.cell 1
         have kb2 := step_blk hb (show Blk _ (bx) 67 #[.slice (At) n ct, .slice Xp n cp] by repeat' (first | exact K0_6.out | exact K1_6.out | exact K2_6.out | exact K3_6.out | exact Blk.at_ _ (by first | rfl | (simp; done) | (simp; omega)) _ _ | refine Blk.drewN ?_ _ | refine Blk.drew ?_ | refine Blk.alloc ?_ _ | refine Blk.far ?_ (by first | omega | (simp; done) | (simp; omega)) _ | assumption))
         have y2_0 : w'.cell? ⟨bx, 0, none⟩ = some (.slice (At) n ct) := kb2.cell 0
         have y2_1 : w'.cell? ⟨bx, 1, none⟩ = some (.slice Xp n cp) := kb2.cell 1
         have kb3 := step_blk hb (show Blk _ (w4.heap.size) 58 #[.int .i64 (LS), .int .i64 (MS), .int .i64 (m.lo), .int .i64 (m.hi), .int .i64 (m.sp), .slice W1 m.n1 k1, .slice W2 m.n2 k2] by repeat' (first | exact K0_6.out | exact K1_6.out | exact K2_6.out | exact K3_6.out | exact Blk.at_ _ (by first | rfl | (simp; done) | (simp; omega)) _ _ | refine Blk.drewN ?_ _ | refine Blk.drew ?_ | refine Blk.alloc ?_ _ | refine Blk.far ?_ (by first | omega | (simp; done) | (simp; omega)) _ | assumption))
         have y3_0 : w'.cell? ⟨w4.heap.size, 0, none⟩ = some (.int .i64 (LS)) := kb3.cell 0
         have y3_1 : w'.cell? ⟨w4.heap.size, 1, none⟩ = some (.int .i64 (MS)) := kb3.cell 1
         have y3_2 : w'.cell? ⟨w4.heap.size, 2, none⟩ = some (.int .i64 (m.lo)) := kb3.cell 2
         have y3_3 : w'.cell? ⟨w4.heap.size, 3, none⟩ = some (.int .i64 (m.hi)) := kb3.cell 3
         have y3_4 : w'.cell? ⟨w4.heap.size, 4, none⟩ = some (.int .i64 (m.sp)) := kb3.cell 4
         have y3_5 : w'.cell? ⟨w4.heap.size, 5, none⟩ = some (.slice W1 m.n1 k1) := kb3.cell 5
         have y3_6 : w'.cell? ⟨w4.heap.size, 6, none⟩ = some (.slice W2 m.n2 k2) := kb3.cell 6
         clear kb0 kb1 kb2 kb3
         clear hk hD hb
         go_simp
         try rfl
       simp only [Act.put, List.setIfInBounds_toArray, List.set_cons_zero, List.set_cons_succ]))
  refine Fx.nil_ ?_
  intro f w7 hall hb
  try clear hall
  have HB67 := Lib.hid hb
  have HB7 := Lib.hid (show Below w.heap.size w w7 from step_below hb (by repeat' (first | exact Below.refl _ _ | exact HB6.out | refine below_drewN ?_ _ | refine Below.drew ?_ | refine Below.alloc ?_ (by first | omega | (simp; done) | (simp; omega) | (simp [World.setCell]; omega)) _ | refine Below.setCell ?_ (by first | omega | (simp; done) | (simp; omega)) _ | assumption)))
  have K0_7 := Lib.hid (step_blk hb (show Blk _ (w.heap.size) 62 #[.int .i64 (m.ls), .int .i64 (m.ms), .int .i64 (m.lo), .int .i64 (m.hi), .int .i64 (m.sp), .slice m.A1 m.n1 m.c1, .slice m.A2 m.n2 m.c2, .slice (A) n c, .int .i64 (day), .int .i64 (pos)] by repeat' (first | exact K0_6.out | exact K1_6.out | exact K2_6.out | exact K3_6.out | exact Blk.at_ _ (by first | rfl | (simp; done) | (simp; omega)) _ _ | refine Blk.drewN ?_ _ | refine Blk.drew ?_ | refine Blk.alloc ?_ _ | refine Blk.far ?_ (by first | omega | (simp; done) | (simp; omega)) _ | assumption)))
  have K1_7 := Lib.hid (step_blk hb (show Blk _ (w.heap.size + 1) 60 #[.int .i64 (a), .int .i64 (b)] by repeat' (first | exact K0_6.out | exact K1_6.out | exact K2_6.out | exact K3_6.out | exact Blk.at_ _ (by first | rfl | (simp; done) | (simp; omega)) _ _ | refine Blk.drewN ?_ _ | refine Blk.drew ?_ | refine Blk.alloc ?_ _ | refine Blk.far ?_ (by first | omega | (simp; done) | (simp; omega)) _ | assumption)))
  have K2_7 := Lib.hid (step_blk hb (show Blk _ (bx) 67 #[.slice (At) n ct, .slice Xp n cp] by repeat' (first | exact K0_6.out | exact K1_6.out | exact K2_6.out | exact K3_6.out | exact Blk.at_ _ (by first | rfl | (simp; done) | (simp; omega)) _ _ | refine Blk.drewN ?_ _ | refine Blk.drew ?_ | refine Blk.alloc ?_ _ | refine Blk.far ?_ (by first | omega | (simp; done) | (simp; omega)) _ | assumption)))
  have K3_7 := Lib.hid (step_blk hb (show Blk _ (w4.heap.size) 58 #[.int .i64 (LS), .int .i64 (MS), .int .i64 (m.lo), .int .i64 (m.hi), .int .i64 (m.sp), .slice W1 m.n1 k1, .slice W2 m.n2 k2] by repeat' (first | exact K0_6.out | exact K1_6.out | exact K2_6.out | exact K3_6.out | exact Blk.at_ _ (by first | rfl | (simp; done) | (simp; omega)) _ _ | refine Blk.drewN ?_ _ | refine Blk.drew ?_ | refine Blk.alloc ?_ _ | refine Blk.far ?_ (by first | omega | (simp; done) | (simp; omega)) _ | assumption)))
  have hL7 := Lib.hid (show Below w6.heap.size w6 _ from reads_mid hb (by repeat' (first | exact Below.refl _ _ | refine below_drewN ?_ _ | refine Below.drew ?_ | refine Below.alloc ?_ (by first | omega | (simp; done) | (simp; omega) | (simp [World.setCell]; omega)) _ | refine Below.setCell ?_ (by first | omega | (simp; done) | (simp; omega)) _)))
  have R0_7 := Lib.hid (reads_lay hb hL7.out R0_6.out)
  have R1_7 := Lib.hid (mnt_lay hb hL7.out R1_6.out)
  have R2_7 := Lib.hid (reads_lay hb hL7.out R2_6.out)
  have R3_7 := Lib.hid (mnt_lay hb hL7.out R3_6.out)
  clear hL7 R0_6 R1_6 R2_6 R3_6
  have hz7 := hb.size
  try simp only [World.size_alloc, World.drewN, World.drew] at hz7
  clear hb K0_6 K1_6 K2_6 K3_6 z0_0_6 z0_1_6 z0_2_6 z0_3_6 z0_4_6 z0_5_6 z0_6_6 z0_7_6 z0_8_6 z0_9_6 l0_6 z1_0_6 z1_1_6 l1_6 z2_0_6 z2_1_6 l2_6 z3_0_6 z3_1_6 z3_2_6 z3_3_6 z3_4_6 z3_5_6 z3_6_6 l3_6
  have l0_7 : w.heap.size < w7.heap.size := K0_7.out.lt
  have z0_0_7 : w7.cell? ⟨w.heap.size, 0, none⟩ = some (.int .i64 (m.ls)) := K0_7.out.cell 0
  have z0_1_7 : w7.cell? ⟨w.heap.size, 1, none⟩ = some (.int .i64 (m.ms)) := K0_7.out.cell 1
  have z0_2_7 : w7.cell? ⟨w.heap.size, 2, none⟩ = some (.int .i64 (m.lo)) := K0_7.out.cell 2
  have z0_3_7 : w7.cell? ⟨w.heap.size, 3, none⟩ = some (.int .i64 (m.hi)) := K0_7.out.cell 3
  have z0_4_7 : w7.cell? ⟨w.heap.size, 4, none⟩ = some (.int .i64 (m.sp)) := K0_7.out.cell 4
  have z0_5_7 : w7.cell? ⟨w.heap.size, 5, none⟩ = some (.slice m.A1 m.n1 m.c1) := K0_7.out.cell 5
  have z0_6_7 : w7.cell? ⟨w.heap.size, 6, none⟩ = some (.slice m.A2 m.n2 m.c2) := K0_7.out.cell 6
  have z0_7_7 : w7.cell? ⟨w.heap.size, 7, none⟩ = some (.slice (A) n c) := K0_7.out.cell 7
  have z0_8_7 : w7.cell? ⟨w.heap.size, 8, none⟩ = some (.int .i64 (day)) := K0_7.out.cell 8
  have z0_9_7 : w7.cell? ⟨w.heap.size, 9, none⟩ = some (.int .i64 (pos)) := K0_7.out.cell 9
  have l1_7 : w.heap.size + 1 < w7.heap.size := K1_7.out.lt
  have z1_0_7 : w7.cell? ⟨w.heap.size + 1, 0, none⟩ = some (.int .i64 (a)) := K1_7.out.cell 0
  have z1_1_7 : w7.cell? ⟨w.heap.size + 1, 1, none⟩ = some (.int .i64 (b)) := K1_7.out.cell 1
  have l2_7 : bx < w7.heap.size := K2_7.out.lt
  have z2_0_7 : w7.cell? ⟨bx, 0, none⟩ = some (.slice (At) n ct) := K2_7.out.cell 0
  have z2_1_7 : w7.cell? ⟨bx, 1, none⟩ = some (.slice Xp n cp) := K2_7.out.cell 1
  have l3_7 : w4.heap.size < w7.heap.size := K3_7.out.lt
  have z3_0_7 : w7.cell? ⟨w4.heap.size, 0, none⟩ = some (.int .i64 (LS)) := K3_7.out.cell 0
  have z3_1_7 : w7.cell? ⟨w4.heap.size, 1, none⟩ = some (.int .i64 (MS)) := K3_7.out.cell 1
  have z3_2_7 : w7.cell? ⟨w4.heap.size, 2, none⟩ = some (.int .i64 (m.lo)) := K3_7.out.cell 2
  have z3_3_7 : w7.cell? ⟨w4.heap.size, 3, none⟩ = some (.int .i64 (m.hi)) := K3_7.out.cell 3
  have z3_4_7 : w7.cell? ⟨w4.heap.size, 4, none⟩ = some (.int .i64 (m.sp)) := K3_7.out.cell 4
  have z3_5_7 : w7.cell? ⟨w4.heap.size, 5, none⟩ = some (.slice W1 m.n1 k1) := K3_7.out.cell 5
  have z3_6_7 : w7.cell? ⟨w4.heap.size, 6, none⟩ = some (.slice W2 m.n2 k2) := K3_7.out.cell 6
  obtain ⟨hkl, hpo⟩ := pathErr_ok HK.out
  obtain ⟨P, hPl⟩ : ∃ P, pathL m day l ks = P := ⟨_, rfl⟩
  have hplen : P.length = n := by rw [← hPl, pathL_len hkl, HN.out]
  have hrng := path_range hpo
  rw [hPl] at hrng
  have hfl : V / 10000000000 = cntU pos P := by
    rw [← HV.out, ← HC.out, hPl]
    exact cost_floor ⟨by omega, by omega⟩ (fun z hz => by have := hrng z hz; omega) (by omega)
  have hcn := cost_cnt P pos ⟨by omega, by omega⟩ (fun z hz => by have := hrng z hz; omega)
  have hcv : costL pos P = V := by rw [← HV.out, ← HC.out, hPl]
  have hci := cntU_in P pos
  rw [hcv] at hcn
  have hv0 : 0 ≤ V ∧ V ≤ 400000000000 := by omega
  obtain ⟨hv1, hv2⟩ := hv0
  have HKL := Lib.hid hkl
  have HPO := Lib.hid hpo
  have HP := Lib.hid hPl
  have HPLEN := Lib.hid hplen
  have HRNG := Lib.hid hrng
  have HFL := Lib.hid hfl
  clear hkl hpo hPl hplen hrng hfl hcn hcv hci
  go_wp2
  go_loopw [12, 13, 14] (fun u f i wr => ∃ k : Nat, k ≤ n ∧ u = .int .i64 (cntU pos (P.take k)) ∧ f = .int .i64 (lastI pos (P.take k)) ∧ i = .int .i64 k ∧ Below w7.heap.size w7 wr) (fun _ _ i _ => n - (intOf i).toNat)
  case atStart => exact ⟨0, by omega, by simp [cntU], by simp [lastI], rfl, Below.refl _ _⟩
  case round =>
    obtain ⟨k, hk, rfl, rfl, rfl, hb8⟩ := hrel
    obtain ⟨w8, hnm⟩ : ∃ z : World, z = wr := ⟨_, rfl⟩
    subst hnm
    have hbw8 := HB7.out.trans (hb8.mono HB7.out.size)
    have hk0 := K0_7.out.below hb8 l0_7
    have hk2 := K2_7.out.below hb8 l2_7
    have hr0 := (R0_7.out.below hb8).more hb8.size
    have hr1 := R1_7.out.lay hb8
    have hr2 := (R2_7.out.below hb8).more hb8.size
    have HB78 := Lib.hid hb8
    have hs78 := hb8.size
    clear hb8
    have HB8 := Lib.hid hbw8
    have K0_8 := Lib.hid (show Blk w8 (w.heap.size) 62 #[.int .i64 (m.ls), .int .i64 (m.ms), .int .i64 (m.lo), .int .i64 (m.hi), .int .i64 (m.sp), .slice m.A1 m.n1 m.c1, .slice m.A2 m.n2 m.c2, .slice (A) n c, .int .i64 (day), .int .i64 (pos)] from hk0)
    have K1_8 := Lib.hid (show Blk w8 (bx) 67 #[.slice (At) n ct, .slice Xp n cp] from hk2)
    clear hbw8 hk0 hk2
    have l0_8 : w.heap.size < w8.heap.size := K0_8.out.lt
    have z0_0_8 : w8.cell? ⟨w.heap.size, 0, none⟩ = some (.int .i64 (m.ls)) := K0_8.out.cell 0
    have z0_1_8 : w8.cell? ⟨w.heap.size, 1, none⟩ = some (.int .i64 (m.ms)) := K0_8.out.cell 1
    have z0_2_8 : w8.cell? ⟨w.heap.size, 2, none⟩ = some (.int .i64 (m.lo)) := K0_8.out.cell 2
    have z0_3_8 : w8.cell? ⟨w.heap.size, 3, none⟩ = some (.int .i64 (m.hi)) := K0_8.out.cell 3
    have z0_4_8 : w8.cell? ⟨w.heap.size, 4, none⟩ = some (.int .i64 (m.sp)) := K0_8.out.cell 4
    have z0_5_8 : w8.cell? ⟨w.heap.size, 5, none⟩ = some (.slice m.A1 m.n1 m.c1) := K0_8.out.cell 5
    have z0_6_8 : w8.cell? ⟨w.heap.size, 6, none⟩ = some (.slice m.A2 m.n2 m.c2) := K0_8.out.cell 6
    have z0_7_8 : w8.cell? ⟨w.heap.size, 7, none⟩ = some (.slice (A) n c) := K0_8.out.cell 7
    have z0_8_8 : w8.cell? ⟨w.heap.size, 8, none⟩ = some (.int .i64 (day)) := K0_8.out.cell 8
    have z0_9_8 : w8.cell? ⟨w.heap.size, 9, none⟩ = some (.int .i64 (pos)) := K0_8.out.cell 9
    have l1_8 : bx < w8.heap.size := K1_8.out.lt
    have z1_0_8 : w8.cell? ⟨bx, 0, none⟩ = some (.slice (At) n ct) := K1_8.out.cell 0
    have z1_1_8 : w8.cell? ⟨bx, 1, none⟩ = some (.slice Xp n cp) := K1_8.out.cell 1
    have R0_8 := Lib.hid hr0
    clear hr0
    have R1_8 := Lib.hid hr1
    clear hr1
    have R2_8 := Lib.hid hr2
    clear hr2
    have HA8 := Lib.hid (show Below w8.heap.size w8 w8 from Below.refl _ _)
    by_cases hlt : k < n
    rotate_left
    · obtain rfl : n = k := by omega
      have htk : P.take n = P := List.take_of_length_le (by rw [HPLEN.out]; exact Nat.le_refl _)
      have hqq : (cntU pos (P.take n) == cntU pos P) = true := by rw [htk]; simp
      go_wp2_with fail
      go_wp2_with fail
      refine (floorr_is V 10000000000 (cntU pos P) HFL.out _ (by omega) (by omega) (by omega) (by omega)).mono ?_
      rintro e w' ⟨rfl, rfl⟩
      go_wp2
      go_ret
      exact ⟨by simp, by repeat' (first | exact Below.refl _ _ | exact HB8.out | refine below_drewN ?_ _ | refine Below.drew ?_ | refine Below.alloc ?_ (by first | omega | (simp; done) | (simp; omega) | (simp [World.setCell]; omega)) _ | refine Below.setCell ?_ (by first | omega | (simp; done) | (simp; omega)) _ | assumption)⟩
    obtain ⟨xb, xo, t, rfl, hxb, ht, c0, c1, c2, c3, c4, c5⟩ := R0_8.out.tgt hlt
    obtain ⟨yb, yo, K, rfl, hyb, hK, c6⟩ := R2_8.out.int_ hlt
    obtain ⟨te1, te2⟩ := tour_each HZ0.out ht
    have hok := path_at HPO.out ht hK
    obtain ⟨X, Y, hA⟩ : ∃ X Y, appF m t day = (X, Y) := ⟨_, _, rfl⟩
    obtain ⟨L, E0, hTA⟩ : ∃ L E0, turnsAt m X Y = (L, E0) := ⟨_, _, rfl⟩
    obtain ⟨hiff, hto⟩ := turn_ok_iff (k := K) hA hTA
    obtain ⟨g1, g2, g3, g4⟩ := turn_range (of_decide_eq_true hok)
    obtain ⟨v, hv⟩ : ∃ v, posK m day t K = v := ⟨_, rfl⟩
    have hPv : P[k]? = some v := by
      rw [← HP.out]
      unfold pathL
      rw [List.getElem?_zipWith, ht, hK, ← hv]
    rw [hv] at hto g1 g2
    have hX := app_in (day := day) HM.out te1
    rw [hA] at hX
    simp only at hX
    obtain ⟨x3, x4, -, -⟩ := hX
    obtain ⟨f1, hf1⟩ : ∃ f, lastI pos (P.take k) = f := ⟨_, rfl⟩
    have hfr : -25920000 ≤ f1 ∧ f1 ≤ 25920000 := by
      rw [← hf1]
      exact lastI_rng _ _ ⟨by omega, by omega⟩ fun z hz => by have := HRNG.out z (List.mem_of_mem_take hz); omega
    obtain ⟨fr1, fr2⟩ := hfr
    have hfR : PosR f1 := by unfold PosR; omega
    have hlast : lastI pos (P.take (k + 1)) = v := by rw [List.take_add_one, hPv]; exact lastI_snoc v _ _
    obtain ⟨u, hu⟩ : ∃ u, wayF f1 v = u := ⟨_, rfl⟩
    obtain ⟨C, hCn⟩ : ∃ C, cntU pos (P.take k) = C := ⟨_, rfl⟩
    have hcnt : cntU pos (P.take (k + 1)) = C + (if 648000 < u then 1 else 0) := by rw [List.take_add_one, hPv, ← hCn, ← hu, ← hf1]; exact cntU_snoc v _ _
    have hCi := cntU_in (P.take k) pos
    rw [hCn] at hCi
    have hCl : (P.take k).length ≤ 20 := by rw [List.length_take, HPLEN.out]; omega
    obtain ⟨ci1, ci2⟩ := hCi
    rw [hf1, hCn]
    have hsm : smallL 25920000 [f1, v] = true := by
      unfold smallL
      simp only [List.all_cons, List.all_nil, Bool.and_true, Bool.and_eq_true, withinB_iff]
      omega
    have e1 := IntWalk.i64_in (K * 1296000) ⟨by omega, by omega⟩
    have e2 := IntWalk.i64_in (X + K * 1296000) ⟨by omega, by omega⟩
    have e3 := IntWalk.i64_in (C + 1) ⟨by omega, by omega⟩
    have hmtd : mtdErr m t day = 0 := by unfold mtdErr; rw [HM.out, te1, HD.out]; rfl
    have htl : t.name.size ≤ maxLen := HF.out t (List.mem_of_getElem? ht)
    have hkk : (k : Int) < (n : Int) := by omega
    have hwK : withinB K (-30) 30 = true := (withinB_iff _ _ _).2 ⟨by omega, by omega⟩
    have HA := Lib.hid hA
    have HTO := Lib.hid hto
    have HU_ := Lib.hid hu
    have HSM := Lib.hid hsm
    have HMT := Lib.hid hmtd
    have HLAST := Lib.hid hlast
    have HCNT := Lib.hid hcnt
    have HWK := Lib.hid hwK
    have C0_8 := Lib.hid c0
    have C1_8 := Lib.hid c1
    have C2_8 := Lib.hid c2
    have C3_8 := Lib.hid c3
    have C4_8 := Lib.hid c4
    have C5_8 := Lib.hid c5
    have C6_8 := Lib.hid c6
    clear c0 c1 c2 c3 c4 c5 c6 ht hK hu hA hTA hto hsm hmtd hv hPv te1 te2 hok hiff hlast hcnt hf1 hCn hwK hCl
    go_wp2
    apply share (Fact := fun (_ z : Pick2) (wz : World) => ∃ bx2, z.1.1 = some ⟨bx2, 0, none⟩ ∧ w8.heap.size ≤ bx2 ∧ Below w8.heap.size w8 wz ∧ Blk wz bx2 60 #[.int .i64 X, .int .i64 Y])
    · intro key
      refine Fx.regionM (fun W g f w' => KpS (PfT m n l 0 [] 2 98 97) 60 (.int .i64 (X)) (.int .i64 (Y)) 15 16 W g f w') (fun i (x : Pick2) => if i = 15 then .pointer x.1.1 else valT m n 0 2 98 i x) (by kernel_rfl) ?_ ?_
      · intro f hf0
        exact KpS.start
      first
      | (refine Fx.WM.skip 0 (by rfl) (by kernel_rfl) (by kernel_rfl) (by kernel_rfl) (by rfl) (fun g f w h => h.same (by decide)) ?_; simp only [Act.put, List.setIfInBounds_toArray, List.set_cons_zero, List.set_cons_succ])
      | (refine Fx.WM.val_ 0 ?_ (by rfl) (by kernel_rfl) (by kernel_rfl) (by kernel_rfl) (by rfl) ?_ (fun g f w h => h.same (by decide)) ?_
         rotate_left
         · intro g f w' hx hD hk
           obtain hkp := id hD
           have y0_0 := (K0_8.out.below hkp.bel l0_8).cell 0
           have y0_1 := (K0_8.out.below hkp.bel l0_8).cell 1
           have y0_2 := (K0_8.out.below hkp.bel l0_8).cell 2
           have y0_3 := (K0_8.out.below hkp.bel l0_8).cell 3
           have y0_4 := (K0_8.out.below hkp.bel l0_8).cell 4
           have y0_5 := (K0_8.out.below hkp.bel l0_8).cell 5
           have y0_6 := (K0_8.out.below hkp.bel l0_8).cell 6
           have y0_7 := (K0_8.out.below hkp.bel l0_8).cell 7
           have y0_8 := (K0_8.out.below hkp.bel l0_8).cell 8
           have y0_9 := (K0_8.out.below hkp.bel l0_8).cell 9
           clear hx hk hD hkp
           go_simp
           try rfl
         simp only [Act.put, List.setIfInBounds_toArray, List.set_cons_zero, List.set_cons_succ])
      first
      | (refine Fx.WM.skip 1 (by rfl) (by kernel_rfl) (by kernel_rfl) (by kernel_rfl) (by rfl) (fun g f w h => h.same (by decide)) ?_; simp only [Act.put, List.setIfInBounds_toArray, List.set_cons_zero, List.set_cons_succ])
      | (refine Fx.WM.val_ 1 ?_ (by rfl) (by kernel_rfl) (by kernel_rfl) (by kernel_rfl) (by rfl) ?_ (fun g f w h => h.same (by decide)) ?_
         rotate_left
         · intro g f w' hx hD hk
           obtain hkp := id hD
           have y0_0 := (K0_8.out.below hkp.bel l0_8).cell 0
           have y0_1 := (K0_8.out.below hkp.bel l0_8).cell 1
           have y0_2 := (K0_8.out.below hkp.bel l0_8).cell 2
           have y0_3 := (K0_8.out.below hkp.bel l0_8).cell 3
           have y0_4 := (K0_8.out.below hkp.bel l0_8).cell 4
           have y0_5 := (K0_8.out.below hkp.bel l0_8).cell 5
           have y0_6 := (K0_8.out.below hkp.bel l0_8).cell 6
           have y0_7 := (K0_8.out.below hkp.bel l0_8).cell 7
           have y0_8 := (K0_8.out.below hkp.bel l0_8).cell 8
           have y0_9 := (K0_8.out.below hkp.bel l0_8).cell 9
           clear hx hk hD hkp
           go_simp
           try rfl
         simp only [Act.put, List.setIfInBounds_toArray, List.set_cons_zero, List.set_cons_succ])
      first
      | (refine Fx.WM.skip 3 (by rfl) (by kernel_rfl) (by kernel_rfl) (by kernel_rfl) (by rfl) (fun g f w h => h.same (by decide)) ?_; simp only [Act.put, List.setIfInBounds_toArray, List.set_cons_zero, List.set_cons_succ])
      | (refine Fx.WM.val_ 3 ?_ (by rfl) (by kernel_rfl) (by kernel_rfl) (by kernel_rfl) (by rfl) ?_ (fun g f w h => h.same (by decide)) ?_
         rotate_left
         · intro g f w' hx hD hk
           obtain hkp := id hD
           have y0_0 := (K0_8.out.below hkp.bel l0_8).cell 0
           have y0_1 := (K0_8.out.below hkp.bel l0_8).cell 1
           have y0_2 := (K0_8.out.below hkp.bel l0_8).cell 2
           have y0_3 := (K0_8.out.below hkp.bel l0_8).cell 3
           have y0_4 := (K0_8.out.below hkp.bel l0_8).cell 4
           have y0_5 := (K0_8.out.below hkp.bel l0_8).cell 5
           have y0_6 := (K0_8.out.below hkp.bel l0_8).cell 6
           have y0_7 := (K0_8.out.below hkp.bel l0_8).cell 7
           have y0_8 := (K0_8.out.below hkp.bel l0_8).cell 8
           have y0_9 := (K0_8.out.below hkp.bel l0_8).cell 9
           clear hx hk hD hkp
           go_simp
           try rfl
         simp only [Act.put, List.setIfInBounds_toArray, List.set_cons_zero, List.set_cons_succ])
      first
      | (refine Fx.WM.skip 4 (by rfl) (by kernel_rfl) (by kernel_rfl) (by kernel_rfl) (by rfl) (fun g f w h => h.same (by decide)) ?_; simp only [Act.put, List.setIfInBounds_toArray, List.set_cons_zero, List.set_cons_succ])
      | (refine Fx.WM.val_ 4 ?_ (by rfl) (by kernel_rfl) (by kernel_rfl) (by kernel_rfl) (by rfl) ?_ (fun g f w h => h.same (by decide)) ?_
         rotate_left
         · intro g f w' hx hD hk
           obtain hkp := id hD
           have y0_0 := (K0_8.out.below hkp.bel l0_8).cell 0
           have y0_1 := (K0_8.out.below hkp.bel l0_8).cell 1
           have y0_2 := (K0_8.out.below hkp.bel l0_8).cell 2
           have y0_3 := (K0_8.out.below hkp.bel l0_8).cell 3
           have y0_4 := (K0_8.out.below hkp.bel l0_8).cell 4
           have y0_5 := (K0_8.out.below hkp.bel l0_8).cell 5
           have y0_6 := (K0_8.out.below hkp.bel l0_8).cell 6
           have y0_7 := (K0_8.out.below hkp.bel l0_8).cell 7
           have y0_8 := (K0_8.out.below hkp.bel l0_8).cell 8
           have y0_9 := (K0_8.out.below hkp.bel l0_8).cell 9
           clear hx hk hD hkp
           go_simp
           try rfl
         simp only [Act.put, List.setIfInBounds_toArray, List.set_cons_zero, List.set_cons_succ])
      first
      | (refine Fx.WM.skip 5 (by rfl) (by kernel_rfl) (by kernel_rfl) (by kernel_rfl) (by rfl) (fun g f w h => h.same (by decide)) ?_; simp only [Act.put, List.setIfInBounds_toArray, List.set_cons_zero, List.set_cons_succ])
      | (refine Fx.WM.val_ 5 ?_ (by rfl) (by kernel_rfl) (by kernel_rfl) (by kernel_rfl) (by rfl) ?_ (fun g f w h => h.same (by decide)) ?_
         rotate_left
         · intro g f w' hx hD hk
           obtain hkp := id hD
           have y0_0 := (K0_8.out.below hkp.bel l0_8).cell 0
           have y0_1 := (K0_8.out.below hkp.bel l0_8).cell 1
           have y0_2 := (K0_8.out.below hkp.bel l0_8).cell 2
           have y0_3 := (K0_8.out.below hkp.bel l0_8).cell 3
           have y0_4 := (K0_8.out.below hkp.bel l0_8).cell 4
           have y0_5 := (K0_8.out.below hkp.bel l0_8).cell 5
           have y0_6 := (K0_8.out.below hkp.bel l0_8).cell 6
           have y0_7 := (K0_8.out.below hkp.bel l0_8).cell 7
           have y0_8 := (K0_8.out.below hkp.bel l0_8).cell 8
           have y0_9 := (K0_8.out.below hkp.bel l0_8).cell 9
           clear hx hk hD hkp
           go_simp
           try rfl
         simp only [Act.put, List.setIfInBounds_toArray, List.set_cons_zero, List.set_cons_succ])
      first
      | (refine Fx.WM.skip 6 (by rfl) (by kernel_rfl) (by kernel_rfl) (by kernel_rfl) (by rfl) (fun g f w h => h.same (by decide)) ?_; simp only [Act.put, List.setIfInBounds_toArray, List.set_cons_zero, List.set_cons_succ])
      | (refine Fx.WM.val_ 6 ?_ (by rfl) (by kernel_rfl) (by kernel_rfl) (by kernel_rfl) (by rfl) ?_ (fun g f w h => h.same (by decide)) ?_
         rotate_left
         · intro g f w' hx hD hk
           obtain hkp := id hD
           have y0_0 := (K0_8.out.below hkp.bel l0_8).cell 0
           have y0_1 := (K0_8.out.below hkp.bel l0_8).cell 1
           have y0_2 := (K0_8.out.below hkp.bel l0_8).cell 2
           have y0_3 := (K0_8.out.below hkp.bel l0_8).cell 3
           have y0_4 := (K0_8.out.below hkp.bel l0_8).cell 4
           have y0_5 := (K0_8.out.below hkp.bel l0_8).cell 5
           have y0_6 := (K0_8.out.below hkp.bel l0_8).cell 6
           have y0_7 := (K0_8.out.below hkp.bel l0_8).cell 7
           have y0_8 := (K0_8.out.below hkp.bel l0_8).cell 8
           have y0_9 := (K0_8.out.below hkp.bel l0_8).cell 9
           clear hx hk hD hkp
           go_simp
           try rfl
         simp only [Act.put, List.setIfInBounds_toArray, List.set_cons_zero, List.set_cons_succ])
      first
      | (refine Fx.WM.skip 7 (by rfl) (by kernel_rfl) (by kernel_rfl) (by kernel_rfl) (by rfl) (fun g f w h => h.same (by decide)) ?_; simp only [Act.put, List.setIfInBounds_toArray, List.set_cons_zero, List.set_cons_succ])
      | (refine Fx.WM.val_ 7 ?_ (by rfl) (by kernel_rfl) (by kernel_rfl) (by kernel_rfl) (by rfl) ?_ (fun g f w h => h.same (by decide)) ?_
         rotate_left
         · intro g f w' hx hD hk
           obtain hkp := id hD
           have y0_0 := (K0_8.out.below hkp.bel l0_8).cell 0
           have y0_1 := (K0_8.out.below hkp.bel l0_8).cell 1
           have y0_2 := (K0_8.out.below hkp.bel l0_8).cell 2
           have y0_3 := (K0_8.out.below hkp.bel l0_8).cell 3
           have y0_4 := (K0_8.out.below hkp.bel l0_8).cell 4
           have y0_5 := (K0_8.out.below hkp.bel l0_8).cell 5
           have y0_6 := (K0_8.out.below hkp.bel l0_8).cell 6
           have y0_7 := (K0_8.out.below hkp.bel l0_8).cell 7
           have y0_8 := (K0_8.out.below hkp.bel l0_8).cell 8
           have y0_9 := (K0_8.out.below hkp.bel l0_8).cell 9
           have yc0 := (hkp.bel.cell (p := ⟨xb, xo + k * 6, none⟩) (by have := hxb; show xb < _; omega)).trans C0_8.out
           have yc1 := (hkp.bel.cell (p := ⟨xb, xo + k * 6 + 1, none⟩) (by have := hxb; show xb < _; omega)).trans C1_8.out
           have yc2 := (hkp.bel.cell (p := ⟨xb, xo + k * 6 + 2, none⟩) (by have := hxb; show xb < _; omega)).trans C2_8.out
           have yc3 := (hkp.bel.cell (p := ⟨xb, xo + k * 6 + 3, none⟩) (by have := hxb; show xb < _; omega)).trans C3_8.out
           have yc4 := (hkp.bel.cell (p := ⟨xb, xo + k * 6 + 4, none⟩) (by have := hxb; show xb < _; omega)).trans C4_8.out
           have yc5 := (hkp.bel.cell (p := ⟨xb, xo + k * 6 + 5, none⟩) (by have := hxb; show xb < _; omega)).trans C5_8.out
           have yc6 := (hkp.bel.cell (p := ⟨yb, yo + k, none⟩) (by have := hyb; show yb < _; omega)).trans C6_8.out
           clear hx hk hD hkp
           go_simp
           try rfl
         simp only [Act.put, List.setIfInBounds_toArray, List.set_cons_zero, List.set_cons_succ])
      first
      | (refine Fx.WM.skip 8 (by rfl) (by kernel_rfl) (by kernel_rfl) (by kernel_rfl) (by rfl) (fun g f w h => h.same (by decide)) ?_; simp only [Act.put, List.setIfInBounds_toArray, List.set_cons_zero, List.set_cons_succ])
      | (refine Fx.WM.val_ 8 ?_ (by rfl) (by kernel_rfl) (by kernel_rfl) (by kernel_rfl) (by rfl) ?_ (fun g f w h => h.same (by decide)) ?_
         rotate_left
         · intro g f w' hx hD hk
           obtain hkp := id hD
           have y0_0 := (K0_8.out.below hkp.bel l0_8).cell 0
           have y0_1 := (K0_8.out.below hkp.bel l0_8).cell 1
           have y0_2 := (K0_8.out.below hkp.bel l0_8).cell 2
           have y0_3 := (K0_8.out.below hkp.bel l0_8).cell 3
           have y0_4 := (K0_8.out.below hkp.bel l0_8).cell 4
           have y0_5 := (K0_8.out.below hkp.bel l0_8).cell 5
           have y0_6 := (K0_8.out.below hkp.bel l0_8).cell 6
           have y0_7 := (K0_8.out.below hkp.bel l0_8).cell 7
           have y0_8 := (K0_8.out.below hkp.bel l0_8).cell 8
           have y0_9 := (K0_8.out.below hkp.bel l0_8).cell 9
           clear hx hk hD hkp
           go_simp
           try rfl
         simp only [Act.put, List.setIfInBounds_toArray, List.set_cons_zero, List.set_cons_succ])
      first
      | (refine Fx.WM.skip 9 (by rfl) (by kernel_rfl) (by kernel_rfl) (by kernel_rfl) (by rfl) (fun g f w h => h.same (by decide)) ?_; simp only [Act.put, List.setIfInBounds_toArray, List.set_cons_zero, List.set_cons_succ])
      | (refine Fx.WM.val_ 9 ?_ (by rfl) (by kernel_rfl) (by kernel_rfl) (by kernel_rfl) (by rfl) ?_ (fun g f w h => h.same (by decide)) ?_
         rotate_left
         · intro g f w' hx hD hk
           obtain hkp := id hD
           have y0_0 := (K0_8.out.below hkp.bel l0_8).cell 0
           have y0_1 := (K0_8.out.below hkp.bel l0_8).cell 1
           have y0_2 := (K0_8.out.below hkp.bel l0_8).cell 2
           have y0_3 := (K0_8.out.below hkp.bel l0_8).cell 3
           have y0_4 := (K0_8.out.below hkp.bel l0_8).cell 4
           have y0_5 := (K0_8.out.below hkp.bel l0_8).cell 5
           have y0_6 := (K0_8.out.below hkp.bel l0_8).cell 6
           have y0_7 := (K0_8.out.below hkp.bel l0_8).cell 7
           have y0_8 := (K0_8.out.below hkp.bel l0_8).cell 8
           have y0_9 := (K0_8.out.below hkp.bel l0_8).cell 9
           clear hx hk hD hkp
           go_simp
           try rfl
         simp only [Act.put, List.setIfInBounds_toArray, List.set_cons_zero, List.set_cons_succ])
      first
      | (refine Fx.WM.skip 10 (by rfl) (by kernel_rfl) (by kernel_rfl) (by kernel_rfl) (by rfl) (fun g f w h => h.same (by decide)) ?_; simp only [Act.put, List.setIfInBounds_toArray, List.set_cons_zero, List.set_cons_succ])
      | (refine Fx.WM.val_ 10 ?_ (by rfl) (by kernel_rfl) (by kernel_rfl) (by kernel_rfl) (by rfl) ?_ (fun g f w h => h.same (by decide)) ?_
         rotate_left
         · intro g f w' hx hD hk
           obtain hkp := id hD
           have y0_0 := (K0_8.out.below hkp.bel l0_8).cell 0
           have y0_1 := (K0_8.out.below hkp.bel l0_8).cell 1
           have y0_2 := (K0_8.out.below hkp.bel l0_8).cell 2
           have y0_3 := (K0_8.out.below hkp.bel l0_8).cell 3
           have y0_4 := (K0_8.out.below hkp.bel l0_8).cell 4
           have y0_5 := (K0_8.out.below hkp.bel l0_8).cell 5
           have y0_6 := (K0_8.out.below hkp.bel l0_8).cell 6
           have y0_7 := (K0_8.out.below hkp.bel l0_8).cell 7
           have y0_8 := (K0_8.out.below hkp.bel l0_8).cell 8
           have y0_9 := (K0_8.out.below hkp.bel l0_8).cell 9
           clear hx hk hD hkp
           go_simp
           try rfl
         simp only [Act.put, List.setIfInBounds_toArray, List.set_cons_zero, List.set_cons_succ])
      refine Fx.WM.choose2 2 15 (by rfl) (by rfl) (by kernel_rfl) (by rfl) (by rfl) ?_ ?_ ?_ ?_
      · skip
        refine Fx.Chooses.call ?_ ?_ (by rfl) ?_ ?_
        rotate_left 2
        · intro w'
          go_simp
          refine ⟨?_, ?_⟩ <;> rfl
        · intro f w' hD hk
          exact (mount_any m w' (R1_8.out.lay hD.bel) (by omega) (by omega)).mono fun e w'' ⟨A', c', B', d', he, hb, hm⟩ => ⟨((A', c'), (B', d')), he, hD.choose PfT.stb hb 2 _ (by decide) (by decide) ⟨fun _ => hm, fun e => absurd e (by decide), fun e => absurd e (by decide)⟩⟩
      · skip
        refine Fx.Chooses.make (by rfl) ?_
        intro f w' hD hk
        refine ⟨((some ⟨w'.heap.size, 0, none⟩, 0), (none, 0)), w'.alloc (.cells #[.int .i64 (0), .int .i64 (0)] 60), ?_, ?_⟩
        · clear hk hD
          go_simp
          try rfl
        · exact hD.make PfT.stb (hk.2.1 16 (by kernel_rfl)) (by decide)
      · skip
        intro x
        simp only [Act.put, List.setIfInBounds_toArray, List.set_cons_zero, List.set_cons_succ]
        refine Fx.WM.call 11 (.tuple #[.agg #[.int .i64 (X), .int .i64 (Y)], .int .i64 (0)]) ?_ ?_ (by rfl) (by kernel_rfl) (by kernel_rfl) (by kernel_rfl) (by rfl) ?_ ?_ ?_
        rotate_left 2
        · intro w'
          go_simp
          refine ⟨?_, ?_⟩ <;> rfl
        · intro g f w' hx hD hk
          exact (pApparent_ok (m.to x.1.1 x.1.2 x.2.1 x.2.2) t day X Y HA.out HMT.out w' ((hD.has (hk.2.1 16 (by kernel_rfl)) 2 x (hx 2 _ (by rfl)) (by decide)).1 rfl) htl).mono fun e w'' ⟨he, hw⟩ => ⟨he, hD.call PfT.stb (by decide) hw⟩
        simp only [Act.put, List.setIfInBounds_toArray, List.set_cons_zero, List.set_cons_succ]
        first
        | (refine Fx.WM.skip 12 (by rfl) (by kernel_rfl) (by kernel_rfl) (by kernel_rfl) (by rfl) (fun g f w h => h.same (by decide)) ?_; simp only [Act.put, List.setIfInBounds_toArray, List.set_cons_zero, List.set_cons_succ])
        | (refine Fx.WM.val_ 12 ?_ (by rfl) (by kernel_rfl) (by kernel_rfl) (by kernel_rfl) (by rfl) ?_ (fun g f w h => h.same (by decide)) ?_
           rotate_left
           · intro g f w' hx hD hk
             obtain hkp := id hD
             clear hx hk hD hkp
             go_simp
             try rfl
           simp only [Act.put, List.setIfInBounds_toArray, List.set_cons_zero, List.set_cons_succ])
        first
        | (refine Fx.WM.skip 13 (by rfl) (by kernel_rfl) (by kernel_rfl) (by kernel_rfl) (by rfl) (fun g f w h => h.same (by decide)) ?_; simp only [Act.put, List.setIfInBounds_toArray, List.set_cons_zero, List.set_cons_succ])
        | (refine Fx.WM.val_ 13 ?_ (by rfl) (by kernel_rfl) (by kernel_rfl) (by kernel_rfl) (by rfl) ?_ (fun g f w h => h.same (by decide)) ?_
           rotate_left
           · intro g f w' hx hD hk
             obtain hkp := id hD
             clear hx hk hD hkp
             go_simp
             try rfl
           simp only [Act.put, List.setIfInBounds_toArray, List.set_cons_zero, List.set_cons_succ])
        first
        | (refine Fx.WM.skip 14 (by rfl) (by kernel_rfl) (by kernel_rfl) (by kernel_rfl) (by rfl) (fun g f w h => h.same (by decide)) ?_; simp only [Act.put, List.setIfInBounds_toArray, List.set_cons_zero, List.set_cons_succ])
        | (refine Fx.WM.val_ 14 ?_ (by rfl) (by kernel_rfl) (by kernel_rfl) (by kernel_rfl) (by rfl) ?_ (fun g f w h => h.same (by decide)) ?_
           rotate_left
           · intro g f w' hx hD hk
             obtain hkp := id hD
             clear hx hk hD hkp
             go_simp
             try rfl
           simp only [Act.put, List.setIfInBounds_toArray, List.set_cons_zero, List.set_cons_succ])
        refine Fx.WM.choose 15 (by rfl) (by kernel_rfl) (by rfl) ?_ ?_
        · skip
          refine Fx.Chooses.make (by rfl) ?_
          intro f w' hD hk
          refine ⟨((some ⟨w'.heap.size, 0, none⟩, 0), (none, 0)), w'.alloc (.cells #[.int .i64 (0), .int .i64 (0)] 60), ?_, ?_⟩
          · clear hk hD
            go_simp
            try rfl
          · exact hD.make PfT.stb (hk.2.1 16 (by kernel_rfl)) (by decide)
        intro z
        simp only [Act.put, List.setIfInBounds_toArray, List.set_cons_zero, List.set_cons_succ]
        refine Fx.WM.eff 16 undef (by rfl) (by kernel_rfl) (by kernel_rfl) (by kernel_rfl) (by rfl) ?_ ?_
        · intro g f w' hx hD hk
          obtain ⟨bx, e0, e1, r0, r1, r2, r3, r4, r5⟩ := KpS.cells hD (hx 15 _ (by rfl))
          refine Fx.gives_skip (w' := ((w'.setCell ⟨bx, 0, none⟩ (.int .i64 (X))).setCell ⟨bx, 1, none⟩ (.int .i64 (Y)))) ?_ ?_
          · clear hx hk hD
            go_simp
            try rfl
          · exact KpS.store hD (hx 15 _ (by rfl)) r0
        simp only [Act.put, List.setIfInBounds_toArray, List.set_cons_zero, List.set_cons_succ]
        first
        | (refine Fx.WM.skip 17 (by rfl) (by kernel_rfl) (by kernel_rfl) (by kernel_rfl) (by rfl) (fun g f w h => h.same (by decide)) ?_; simp only [Act.put, List.setIfInBounds_toArray, List.set_cons_zero, List.set_cons_succ])
        | (refine Fx.WM.val_ 17 ?_ (by rfl) (by kernel_rfl) (by kernel_rfl) (by kernel_rfl) (by rfl) ?_ (fun g f w h => h.same (by decide)) ?_
           rotate_left
           · intro g f w' hx hD hk
             obtain hkp := id hD
             clear hx hk hD hkp
             go_simp
             try rfl
           simp only [Act.put, List.setIfInBounds_toArray, List.set_cons_zero, List.set_cons_succ])
        refine Fx.WM.nil (by kernel_rfl) ?_
        intro wz hkp
        obtain ⟨bx2, h1, h2, h3⟩ := KpS.end_ hkp (x := z) (by rfl) (by rfl)
        exact key x z wz ⟨bx2, h1, h2, hkp.bel, h3⟩
      · skip
        intro z
        simp only [Act.put, List.setIfInBounds_toArray, List.set_cons_zero, List.set_cons_succ]
        refine Fx.WM.choose 2 (by rfl) (by kernel_rfl) (by rfl) ?_ ?_
        · skip
          refine Fx.Chooses.call ?_ ?_ (by rfl) ?_ ?_
          rotate_left 2
          · intro w'
            go_simp
            refine ⟨?_, ?_⟩ <;> rfl
          · intro f w' hD hk
            exact (mount_any m w' (R1_8.out.lay hD.bel) (by omega) (by omega)).mono fun e w'' ⟨A', c', B', d', he, hb, hm⟩ => ⟨((A', c'), (B', d')), he, hD.choose PfT.stb hb 2 _ (by decide) (by decide) ⟨fun _ => hm, fun e => absurd e (by decide), fun e => absurd e (by decide)⟩⟩
        intro x
        simp only [Act.put, List.setIfInBounds_toArray, List.set_cons_zero, List.set_cons_succ]
        refine Fx.WM.call 11 (.tuple #[.agg #[.int .i64 (X), .int .i64 (Y)], .int .i64 (0)]) ?_ ?_ (by rfl) (by kernel_rfl) (by kernel_rfl) (by kernel_rfl) (by rfl) ?_ ?_ ?_
        rotate_left 2
        · intro w'
          go_simp
          refine ⟨?_, ?_⟩ <;> rfl
        · intro g f w' hx hD hk
          exact (pApparent_ok (m.to x.1.1 x.1.2 x.2.1 x.2.2) t day X Y HA.out HMT.out w' ((hD.has (hk.2.1 16 (by kernel_rfl)) 2 x (hx 2 _ (by rfl)) (by decide)).1 rfl) htl).mono fun e w'' ⟨he, hw⟩ => ⟨he, hD.call PfT.stb (by decide) hw⟩
        simp only [Act.put, List.setIfInBounds_toArray, List.set_cons_zero, List.set_cons_succ]
        first
        | (refine Fx.WM.skip 12 (by rfl) (by kernel_rfl) (by kernel_rfl) (by kernel_rfl) (by rfl) (fun g f w h => h.same (by decide)) ?_; simp only [Act.put, List.setIfInBounds_toArray, List.set_cons_zero, List.set_cons_succ])
        | (refine Fx.WM.val_ 12 ?_ (by rfl) (by kernel_rfl) (by kernel_rfl) (by kernel_rfl) (by rfl) ?_ (fun g f w h => h.same (by decide)) ?_
           rotate_left
           · intro g f w' hx hD hk
             obtain hkp := id hD
             clear hx hk hD hkp
             go_simp
             try rfl
           simp only [Act.put, List.setIfInBounds_toArray, List.set_cons_zero, List.set_cons_succ])
        first
        | (refine Fx.WM.skip 13 (by rfl) (by kernel_rfl) (by kernel_rfl) (by kernel_rfl) (by rfl) (fun g f w h => h.same (by decide)) ?_; simp only [Act.put, List.setIfInBounds_toArray, List.set_cons_zero, List.set_cons_succ])
        | (refine Fx.WM.val_ 13 ?_ (by rfl) (by kernel_rfl) (by kernel_rfl) (by kernel_rfl) (by rfl) ?_ (fun g f w h => h.same (by decide)) ?_
           rotate_left
           · intro g f w' hx hD hk
             obtain hkp := id hD
             clear hx hk hD hkp
             go_simp
             try rfl
           simp only [Act.put, List.setIfInBounds_toArray, List.set_cons_zero, List.set_cons_succ])
        first
        | (refine Fx.WM.skip 14 (by rfl) (by kernel_rfl) (by kernel_rfl) (by kernel_rfl) (by rfl) (fun g f w h => h.same (by decide)) ?_; simp only [Act.put, List.setIfInBounds_toArray, List.set_cons_zero, List.set_cons_succ])
        | (refine Fx.WM.val_ 14 ?_ (by rfl) (by kernel_rfl) (by kernel_rfl) (by kernel_rfl) (by rfl) ?_ (fun g f w h => h.same (by decide)) ?_
           rotate_left
           · intro g f w' hx hD hk
             obtain hkp := id hD
             clear hx hk hD hkp
             go_simp
             try rfl
           simp only [Act.put, List.setIfInBounds_toArray, List.set_cons_zero, List.set_cons_succ])
        refine Fx.WM.eff 16 undef (by rfl) (by kernel_rfl) (by kernel_rfl) (by kernel_rfl) (by rfl) ?_ ?_
        · intro g f w' hx hD hk
          obtain ⟨bx, e0, e1, r0, r1, r2, r3, r4, r5⟩ := KpS.cells hD (hx 15 _ (by rfl))
          refine Fx.gives_skip (w' := ((w'.setCell ⟨bx, 0, none⟩ (.int .i64 (X))).setCell ⟨bx, 1, none⟩ (.int .i64 (Y)))) ?_ ?_
          · clear hx hk hD
            go_simp
            try rfl
          · exact KpS.store hD (hx 15 _ (by rfl)) r0
        simp only [Act.put, List.setIfInBounds_toArray, List.set_cons_zero, List.set_cons_succ]
        first
        | (refine Fx.WM.skip 17 (by rfl) (by kernel_rfl) (by kernel_rfl) (by kernel_rfl) (by rfl) (fun g f w h => h.same (by decide)) ?_; simp only [Act.put, List.setIfInBounds_toArray, List.set_cons_zero, List.set_cons_succ])
        | (refine Fx.WM.val_ 17 ?_ (by rfl) (by kernel_rfl) (by kernel_rfl) (by kernel_rfl) (by rfl) ?_ (fun g f w h => h.same (by decide)) ?_
           rotate_left
           · intro g f w' hx hD hk
             obtain hkp := id hD
             clear hx hk hD hkp
             go_simp
             try rfl
           simp only [Act.put, List.setIfInBounds_toArray, List.set_cons_zero, List.set_cons_succ])
        refine Fx.WM.nil (by kernel_rfl) ?_
        intro wz hkp
        obtain ⟨bx2, h1, h2, h3⟩ := KpS.end_ hkp (x := z) (by rfl) (by rfl)
        exact key x z wz ⟨bx2, h1, h2, hkp.bel, h3⟩
    rintro x ⟨⟨z1_, z2_⟩, z3_⟩ w9 ⟨bx2, hz, hbx2, hb, hblk⟩
    simp only at hz
    subst hz
    have HB9 := Lib.hid (show Below w.heap.size w w9 from step_below hb (by repeat' (first | exact Below.refl _ _ | exact HB8.out | refine below_drewN ?_ _ | refine Below.drew ?_ | refine Below.alloc ?_ (by first | omega | (simp; done) | (simp; omega) | (simp [World.setCell]; omega)) _ | refine Below.setCell ?_ (by first | omega | (simp; done) | (simp; omega)) _ | assumption)))
    have K0_9 := Lib.hid (step_blk hb (show Blk _ (w.heap.size) 62 #[.int .i64 (m.ls), .int .i64 (m.ms), .int .i64 (m.lo), .int .i64 (m.hi), .int .i64 (m.sp), .slice m.A1 m.n1 m.c1, .slice m.A2 m.n2 m.c2, .slice (some ⟨xb, xo, none⟩) n c, .int .i64 (day), .int .i64 (pos)] by repeat' (first | exact K0_8.out | exact K1_8.out | exact Blk.at_ _ (by first | rfl | (simp; done) | (simp; omega)) _ _ | refine Blk.drewN ?_ _ | refine Blk.drew ?_ | refine Blk.alloc ?_ _ | refine Blk.far ?_ (by first | omega | (simp; done) | (simp; omega)) _ | assumption)))
    have K1_9 := Lib.hid (step_blk hb (show Blk _ (bx) 67 #[.slice (some ⟨yb, yo, none⟩) n ct, .slice Xp n cp] by repeat' (first | exact K0_8.out | exact K1_8.out | exact Blk.at_ _ (by first | rfl | (simp; done) | (simp; omega)) _ _ | refine Blk.drewN ?_ _ | refine Blk.drew ?_ | refine Blk.alloc ?_ _ | refine Blk.far ?_ (by first | omega | (simp; done) | (simp; omega)) _ | assumption)))
    have C0_9 := Lib.hid (step_cell hb (show World.cell? _ ⟨xb, xo + k * 6, none⟩ = some (.string t.name) by first | exact C0_8.out | go_simp) (by have := hxb; first | omega | (simp; omega)))
    have C1_9 := Lib.hid (step_cell hb (show World.cell? _ ⟨xb, xo + k * 6 + 1, none⟩ = some (.int .i64 (t.az)) by first | exact C1_8.out | go_simp) (by have := hxb; first | omega | (simp; omega)))
    have C2_9 := Lib.hid (step_cell hb (show World.cell? _ ⟨xb, xo + k * 6 + 2, none⟩ = some (.int .i64 (t.ht)) by first | exact C2_8.out | go_simp) (by have := hxb; first | omega | (simp; omega)))
    have C3_9 := Lib.hid (step_cell hb (show World.cell? _ ⟨xb, xo + k * 6 + 3, none⟩ = some (.int .i64 (t.fr)) by first | exact C3_8.out | go_simp) (by have := hxb; first | omega | (simp; omega)))
    have C4_9 := Lib.hid (step_cell hb (show World.cell? _ ⟨xb, xo + k * 6 + 4, none⟩ = some (.int .i64 (t.to)) by first | exact C4_8.out | go_simp) (by have := hxb; first | omega | (simp; omega)))
    have C5_9 := Lib.hid (step_cell hb (show World.cell? _ ⟨xb, xo + k * 6 + 5, none⟩ = some (.int .i64 (t.dw)) by first | exact C5_8.out | go_simp) (by have := hxb; first | omega | (simp; omega)))
    have C6_9 := Lib.hid (step_cell hb (show World.cell? _ ⟨yb, yo + k, none⟩ = some (.int .i64 (K)) by first | exact C6_8.out | go_simp) (by have := hyb; first | omega | (simp; omega)))
    have hL9 := Lib.hid (show Below w8.heap.size w8 _ from reads_mid hb (by repeat' (first | exact Below.refl _ _ | refine below_drewN ?_ _ | refine Below.drew ?_ | refine Below.alloc ?_ (by first | omega | (simp; done) | (simp; omega) | (simp [World.setCell]; omega)) _ | refine Below.setCell ?_ (by first | omega | (simp; done) | (simp; omega)) _)))
    have R0_9 := Lib.hid (reads_lay hb hL9.out R0_8.out)
    have R1_9 := Lib.hid (mnt_lay hb hL9.out R1_8.out)
    have R2_9 := Lib.hid (reads_lay hb hL9.out R2_8.out)
    clear hL9 R0_8 R1_8 R2_8
    have HA9 := Lib.hid (step_below hb HA8.out)
    clear HA8
    have hz9 := hb.size
    try simp only [World.size_alloc, World.drewN, World.drew] at hz9
    clear hb K0_8 K1_8 z0_0_8 z0_1_8 z0_2_8 z0_3_8 z0_4_8 z0_5_8 z0_6_8 z0_7_8 z0_8_8 z0_9_8 l0_8 z1_0_8 z1_1_8 l1_8
    have l0_9 : w.heap.size < w9.heap.size := K0_9.out.lt
    have z0_0_9 : w9.cell? ⟨w.heap.size, 0, none⟩ = some (.int .i64 (m.ls)) := K0_9.out.cell 0
    have z0_1_9 : w9.cell? ⟨w.heap.size, 1, none⟩ = some (.int .i64 (m.ms)) := K0_9.out.cell 1
    have z0_2_9 : w9.cell? ⟨w.heap.size, 2, none⟩ = some (.int .i64 (m.lo)) := K0_9.out.cell 2
    have z0_3_9 : w9.cell? ⟨w.heap.size, 3, none⟩ = some (.int .i64 (m.hi)) := K0_9.out.cell 3
    have z0_4_9 : w9.cell? ⟨w.heap.size, 4, none⟩ = some (.int .i64 (m.sp)) := K0_9.out.cell 4
    have z0_5_9 : w9.cell? ⟨w.heap.size, 5, none⟩ = some (.slice m.A1 m.n1 m.c1) := K0_9.out.cell 5
    have z0_6_9 : w9.cell? ⟨w.heap.size, 6, none⟩ = some (.slice m.A2 m.n2 m.c2) := K0_9.out.cell 6
    have z0_7_9 : w9.cell? ⟨w.heap.size, 7, none⟩ = some (.slice (some ⟨xb, xo, none⟩) n c) := K0_9.out.cell 7
    have z0_8_9 : w9.cell? ⟨w.heap.size, 8, none⟩ = some (.int .i64 (day)) := K0_9.out.cell 8
    have z0_9_9 : w9.cell? ⟨w.heap.size, 9, none⟩ = some (.int .i64 (pos)) := K0_9.out.cell 9
    have l1_9 : bx < w9.heap.size := K1_9.out.lt
    have z1_0_9 : w9.cell? ⟨bx, 0, none⟩ = some (.slice (some ⟨yb, yo, none⟩) n ct) := K1_9.out.cell 0
    have z1_1_9 : w9.cell? ⟨bx, 1, none⟩ = some (.slice Xp n cp) := K1_9.out.cell 1
    have K2_9 := Lib.hid (show Blk w9 (bx2) 60 #[.int .i64 (X), .int .i64 (Y)] from hblk)
    clear hblk
    have l2_9 : bx2 < w9.heap.size := K2_9.out.lt
    have z2_0_9 : w9.cell? ⟨bx2, 0, none⟩ = some (.int .i64 (X)) := K2_9.out.cell 0
    have z2_1_9 : w9.cell? ⟨bx2, 1, none⟩ = some (.int .i64 (Y)) := K2_9.out.cell 1
    have v6 := C6_9.out
    go_wp2_with fail
    go_wp2_with fail
    refine (withinref_is _ _ _ _ HWK.out _).mono ?_
    rintro e w' ⟨rfl, rfl⟩
    go_wp2
    refine Fx.regionW (fun W f w' => Below W.heap.size W w') (by kernel_rfl) (by kernel_rfl) ?_ ?_
    · intro f hf0
      exact below_drewN (Below.refl _ _) 1
    repeat (first
      | (refine Fx.skip_ (by rfl) (fun f w h => h) ?_; simp only [Act.put, List.setIfInBounds_toArray, List.set_cons_zero, List.set_cons_succ])
      | (refine Fx.val_ ?_ (by rfl) ?_ (fun f w h => h) ?_
         rotate_left
         · intro f w' hD hk
           have hb := hD
           have kb0 := step_blk hb (show Blk _ (w.heap.size) 62 #[.int .i64 (m.ls), .int .i64 (m.ms), .int .i64 (m.lo), .int .i64 (m.hi), .int .i64 (m.sp), .slice m.A1 m.n1 m.c1, .slice m.A2 m.n2 m.c2, .slice (some ⟨xb, xo, none⟩) n c, .int .i64 (day), .int .i64 (pos)] by repeat' (first | exact K0_9.out | exact K1_9.out | exact K2_9.out | exact Blk.at_ _ (by first | rfl | (simp; done) | (simp; omega)) _ _ | refine Blk.drewN ?_ _ | refine Blk.drew ?_ | refine Blk.alloc ?_ _ | refine Blk.far ?_ (by first | omega | (simp; done) | (simp; omega)) _ | assumption))
           have y0_0 : w'.cell? ⟨w.heap.size, 0, none⟩ = some (.int .i64 (m.ls)) := kb0.cell 0
           have y0_1 : w'.cell? ⟨w.heap.size, 1, none⟩ = some (.int .i64 (m.ms)) := kb0.cell 1
           have y0_2 : w'.cell? ⟨w.heap.size, 2, none⟩ = some (.int .i64 (m.lo)) := kb0.cell 2
           have y0_3 : w'.cell? ⟨w.heap.size, 3, none⟩ = some (.int .i64 (m.hi)) := kb0.cell 3
           have y0_4 : w'.cell? ⟨w.heap.size, 4, none⟩ = some (.int .i64 (m.sp)) := kb0.cell 4
           have y0_5 : w'.cell? ⟨w.heap.size, 5, none⟩ = some (.slice m.A1 m.n1 m.c1) := kb0.cell 5
           have y0_6 : w'.cell? ⟨w.heap.size, 6, none⟩ = some (.slice m.A2 m.n2 m.c2) := kb0.cell 6
           have y0_7 : w'.cell? ⟨w.heap.size, 7, none⟩ = some (.slice (some ⟨xb, xo, none⟩) n c) := kb0.cell 7
           have y0_8 : w'.cell? ⟨w.heap.size, 8, none⟩ = some (.int .i64 (day)) := kb0.cell 8
           have y0_9 : w'.cell? ⟨w.heap.size, 9, none⟩ = some (.int .i64 (pos)) := kb0.cell 9
           have kb1 := step_blk hb (show Blk _ (bx) 67 #[.slice (some ⟨yb, yo, none⟩) n ct, .slice Xp n cp] by repeat' (first | exact K0_9.out | exact K1_9.out | exact K2_9.out | exact Blk.at_ _ (by first | rfl | (simp; done) | (simp; omega)) _ _ | refine Blk.drewN ?_ _ | refine Blk.drew ?_ | refine Blk.alloc ?_ _ | refine Blk.far ?_ (by first | omega | (simp; done) | (simp; omega)) _ | assumption))
           have y1_0 : w'.cell? ⟨bx, 0, none⟩ = some (.slice (some ⟨yb, yo, none⟩) n ct) := kb1.cell 0
           have y1_1 : w'.cell? ⟨bx, 1, none⟩ = some (.slice Xp n cp) := kb1.cell 1
           have kb2 := step_blk hb (show Blk _ (bx2) 60 #[.int .i64 (X), .int .i64 (Y)] by repeat' (first | exact K0_9.out | exact K1_9.out | exact K2_9.out | exact Blk.at_ _ (by first | rfl | (simp; done) | (simp; omega)) _ _ | refine Blk.drewN ?_ _ | refine Blk.drew ?_ | refine Blk.alloc ?_ _ | refine Blk.far ?_ (by first | omega | (simp; done) | (simp; omega)) _ | assumption))
           have y2_0 : w'.cell? ⟨bx2, 0, none⟩ = some (.int .i64 (X)) := kb2.cell 0
           have y2_1 : w'.cell? ⟨bx2, 1, none⟩ = some (.int .i64 (Y)) := kb2.cell 1
           have yc0 : w'.cell? ⟨xb, xo + k * 6, none⟩ = some (.string t.name) := step_cell hb (show World.cell? _ ⟨xb, xo + k * 6, none⟩ = some (.string t.name) by first | exact C0_9.out | go_simp) (by have := hxb; first | omega | (simp; omega))
           have yc1 : w'.cell? ⟨xb, xo + k * 6 + 1, none⟩ = some (.int .i64 (t.az)) := step_cell hb (show World.cell? _ ⟨xb, xo + k * 6 + 1, none⟩ = some (.int .i64 (t.az)) by first | exact C1_9.out | go_simp) (by have := hxb; first | omega | (simp; omega))
           have yc2 : w'.cell? ⟨xb, xo + k * 6 + 2, none⟩ = some (.int .i64 (t.ht)) := step_cell hb (show World.cell? _ ⟨xb, xo + k * 6 + 2, none⟩ = some (.int .i64 (t.ht)) by first | exact C2_9.out | go_simp) (by have := hxb; first | omega | (simp; omega))
           have yc3 : w'.cell? ⟨xb, xo + k * 6 + 3, none⟩ = some (.int .i64 (t.fr)) := step_cell hb (show World.cell? _ ⟨xb, xo + k * 6 + 3, none⟩ = some (.int .i64 (t.fr)) by first | exact C3_9.out | go_simp) (by have := hxb; first | omega | (simp; omega))
           have yc4 : w'.cell? ⟨xb, xo + k * 6 + 4, none⟩ = some (.int .i64 (t.to)) := step_cell hb (show World.cell? _ ⟨xb, xo + k * 6 + 4, none⟩ = some (.int .i64 (t.to)) by first | exact C4_9.out | go_simp) (by have := hxb; first | omega | (simp; omega))
           have yc5 : w'.cell? ⟨xb, xo + k * 6 + 5, none⟩ = some (.int .i64 (t.dw)) := step_cell hb (show World.cell? _ ⟨xb, xo + k * 6 + 5, none⟩ = some (.int .i64 (t.dw)) by first | exact C5_9.out | go_simp) (by have := hxb; first | omega | (simp; omega))
           have yc6 : w'.cell? ⟨yb, yo + k, none⟩ = some (.int .i64 (K)) := step_cell hb (show World.cell? _ ⟨yb, yo + k, none⟩ = some (.int .i64 (K)) by first | exact C6_9.out | go_simp) (by have := hyb; first | omega | (simp; omega))
           clear kb0 kb1 kb2
           clear hk hD hb
           go_simp
           try rfl
         simp only [Act.put, List.setIfInBounds_toArray, List.set_cons_zero, List.set_cons_succ]))
    refine Fx.nil_ ?_
    intro f w10 hall hb
    try clear hall
    have HB910 := Lib.hid hb
    have HB10 := Lib.hid (show Below w.heap.size w w10 from step_below hb (by repeat' (first | exact Below.refl _ _ | exact HB9.out | refine below_drewN ?_ _ | refine Below.drew ?_ | refine Below.alloc ?_ (by first | omega | (simp; done) | (simp; omega) | (simp [World.setCell]; omega)) _ | refine Below.setCell ?_ (by first | omega | (simp; done) | (simp; omega)) _ | assumption)))
    have K0_10 := Lib.hid (step_blk hb (show Blk _ (w.heap.size) 62 #[.int .i64 (m.ls), .int .i64 (m.ms), .int .i64 (m.lo), .int .i64 (m.hi), .int .i64 (m.sp), .slice m.A1 m.n1 m.c1, .slice m.A2 m.n2 m.c2, .slice (some ⟨xb, xo, none⟩) n c, .int .i64 (day), .int .i64 (pos)] by repeat' (first | exact K0_9.out | exact K1_9.out | exact K2_9.out | exact Blk.at_ _ (by first | rfl | (simp; done) | (simp; omega)) _ _ | refine Blk.drewN ?_ _ | refine Blk.drew ?_ | refine Blk.alloc ?_ _ | refine Blk.far ?_ (by first | omega | (simp; done) | (simp; omega)) _ | assumption)))
    have K1_10 := Lib.hid (step_blk hb (show Blk _ (bx) 67 #[.slice (some ⟨yb, yo, none⟩) n ct, .slice Xp n cp] by repeat' (first | exact K0_9.out | exact K1_9.out | exact K2_9.out | exact Blk.at_ _ (by first | rfl | (simp; done) | (simp; omega)) _ _ | refine Blk.drewN ?_ _ | refine Blk.drew ?_ | refine Blk.alloc ?_ _ | refine Blk.far ?_ (by first | omega | (simp; done) | (simp; omega)) _ | assumption)))
    have K2_10 := Lib.hid (step_blk hb (show Blk _ (bx2) 60 #[.int .i64 (X), .int .i64 (Y)] by repeat' (first | exact K0_9.out | exact K1_9.out | exact K2_9.out | exact Blk.at_ _ (by first | rfl | (simp; done) | (simp; omega)) _ _ | refine Blk.drewN ?_ _ | refine Blk.drew ?_ | refine Blk.alloc ?_ _ | refine Blk.far ?_ (by first | omega | (simp; done) | (simp; omega)) _ | assumption)))
    have C0_10 := Lib.hid (step_cell hb (show World.cell? _ ⟨xb, xo + k * 6, none⟩ = some (.string t.name) by first | exact C0_9.out | go_simp) (by have := hxb; first | omega | (simp; omega)))
    have C1_10 := Lib.hid (step_cell hb (show World.cell? _ ⟨xb, xo + k * 6 + 1, none⟩ = some (.int .i64 (t.az)) by first | exact C1_9.out | go_simp) (by have := hxb; first | omega | (simp; omega)))
    have C2_10 := Lib.hid (step_cell hb (show World.cell? _ ⟨xb, xo + k * 6 + 2, none⟩ = some (.int .i64 (t.ht)) by first | exact C2_9.out | go_simp) (by have := hxb; first | omega | (simp; omega)))
    have C3_10 := Lib.hid (step_cell hb (show World.cell? _ ⟨xb, xo + k * 6 + 3, none⟩ = some (.int .i64 (t.fr)) by first | exact C3_9.out | go_simp) (by have := hxb; first | omega | (simp; omega)))
    have C4_10 := Lib.hid (step_cell hb (show World.cell? _ ⟨xb, xo + k * 6 + 4, none⟩ = some (.int .i64 (t.to)) by first | exact C4_9.out | go_simp) (by have := hxb; first | omega | (simp; omega)))
    have C5_10 := Lib.hid (step_cell hb (show World.cell? _ ⟨xb, xo + k * 6 + 5, none⟩ = some (.int .i64 (t.dw)) by first | exact C5_9.out | go_simp) (by have := hxb; first | omega | (simp; omega)))
    have C6_10 := Lib.hid (step_cell hb (show World.cell? _ ⟨yb, yo + k, none⟩ = some (.int .i64 (K)) by first | exact C6_9.out | go_simp) (by have := hyb; first | omega | (simp; omega)))
    have hL10 := Lib.hid (show Below w9.heap.size w9 _ from reads_mid hb (by repeat' (first | exact Below.refl _ _ | refine below_drewN ?_ _ | refine Below.drew ?_ | refine Below.alloc ?_ (by first | omega | (simp; done) | (simp; omega) | (simp [World.setCell]; omega)) _ | refine Below.setCell ?_ (by first | omega | (simp; done) | (simp; omega)) _)))
    have R0_10 := Lib.hid (reads_lay hb hL10.out R0_9.out)
    have R1_10 := Lib.hid (mnt_lay hb hL10.out R1_9.out)
    have R2_10 := Lib.hid (reads_lay hb hL10.out R2_9.out)
    clear hL10 R0_9 R1_9 R2_9
    have HA10 := Lib.hid (step_below hb HA9.out)
    clear HA9
    have hz10 := hb.size
    try simp only [World.size_alloc, World.drewN, World.drew] at hz10
    clear hb K0_9 K1_9 K2_9 z0_0_9 z0_1_9 z0_2_9 z0_3_9 z0_4_9 z0_5_9 z0_6_9 z0_7_9 z0_8_9 z0_9_9 l0_9 z1_0_9 z1_1_9 l1_9 z2_0_9 z2_1_9 l2_9
    have l0_10 : w.heap.size < w10.heap.size := K0_10.out.lt
    have z0_0_10 : w10.cell? ⟨w.heap.size, 0, none⟩ = some (.int .i64 (m.ls)) := K0_10.out.cell 0
    have z0_1_10 : w10.cell? ⟨w.heap.size, 1, none⟩ = some (.int .i64 (m.ms)) := K0_10.out.cell 1
    have z0_2_10 : w10.cell? ⟨w.heap.size, 2, none⟩ = some (.int .i64 (m.lo)) := K0_10.out.cell 2
    have z0_3_10 : w10.cell? ⟨w.heap.size, 3, none⟩ = some (.int .i64 (m.hi)) := K0_10.out.cell 3
    have z0_4_10 : w10.cell? ⟨w.heap.size, 4, none⟩ = some (.int .i64 (m.sp)) := K0_10.out.cell 4
    have z0_5_10 : w10.cell? ⟨w.heap.size, 5, none⟩ = some (.slice m.A1 m.n1 m.c1) := K0_10.out.cell 5
    have z0_6_10 : w10.cell? ⟨w.heap.size, 6, none⟩ = some (.slice m.A2 m.n2 m.c2) := K0_10.out.cell 6
    have z0_7_10 : w10.cell? ⟨w.heap.size, 7, none⟩ = some (.slice (some ⟨xb, xo, none⟩) n c) := K0_10.out.cell 7
    have z0_8_10 : w10.cell? ⟨w.heap.size, 8, none⟩ = some (.int .i64 (day)) := K0_10.out.cell 8
    have z0_9_10 : w10.cell? ⟨w.heap.size, 9, none⟩ = some (.int .i64 (pos)) := K0_10.out.cell 9
    have l1_10 : bx < w10.heap.size := K1_10.out.lt
    have z1_0_10 : w10.cell? ⟨bx, 0, none⟩ = some (.slice (some ⟨yb, yo, none⟩) n ct) := K1_10.out.cell 0
    have z1_1_10 : w10.cell? ⟨bx, 1, none⟩ = some (.slice Xp n cp) := K1_10.out.cell 1
    have l2_10 : bx2 < w10.heap.size := K2_10.out.lt
    have z2_0_10 : w10.cell? ⟨bx2, 0, none⟩ = some (.int .i64 (X)) := K2_10.out.cell 0
    have z2_1_10 : w10.cell? ⟨bx2, 1, none⟩ = some (.int .i64 (Y)) := K2_10.out.cell 1
    rw [← HTO.out]
    obtain ⟨tt, ett⟩ : ∃ tt, decide (648000 < u) = tt := ⟨_, rfl⟩
    have HTT := Lib.hid ett
    clear ett
    go_wp2_with fail
    refine (Waypt_ok f1 v u tt HSM.out HU_.out HTT.out _).mono ?_
    rintro e w11 ⟨rfl, hb⟩
    have HB11 := Lib.hid (show Below w.heap.size w w11 from step_below hb (by repeat' (first | exact Below.refl _ _ | exact HB10.out | refine below_drewN ?_ _ | refine Below.drew ?_ | refine Below.alloc ?_ (by first | omega | (simp; done) | (simp; omega) | (simp [World.setCell]; omega)) _ | refine Below.setCell ?_ (by first | omega | (simp; done) | (simp; omega)) _ | assumption)))
    have K0_11 := Lib.hid (step_blk hb (show Blk _ (w.heap.size) 62 #[.int .i64 (m.ls), .int .i64 (m.ms), .int .i64 (m.lo), .int .i64 (m.hi), .int .i64 (m.sp), .slice m.A1 m.n1 m.c1, .slice m.A2 m.n2 m.c2, .slice (some ⟨xb, xo, none⟩) n c, .int .i64 (day), .int .i64 (pos)] by repeat' (first | exact K0_10.out | exact K1_10.out | exact K2_10.out | exact Blk.at_ _ (by first | rfl | (simp; done) | (simp; omega)) _ _ | refine Blk.drewN ?_ _ | refine Blk.drew ?_ | refine Blk.alloc ?_ _ | refine Blk.far ?_ (by first | omega | (simp; done) | (simp; omega)) _ | assumption)))
    have K1_11 := Lib.hid (step_blk hb (show Blk _ (bx) 67 #[.slice (some ⟨yb, yo, none⟩) n ct, .slice Xp n cp] by repeat' (first | exact K0_10.out | exact K1_10.out | exact K2_10.out | exact Blk.at_ _ (by first | rfl | (simp; done) | (simp; omega)) _ _ | refine Blk.drewN ?_ _ | refine Blk.drew ?_ | refine Blk.alloc ?_ _ | refine Blk.far ?_ (by first | omega | (simp; done) | (simp; omega)) _ | assumption)))
    have K2_11 := Lib.hid (step_blk hb (show Blk _ (bx2) 60 #[.int .i64 (X), .int .i64 (Y)] by repeat' (first | exact K0_10.out | exact K1_10.out | exact K2_10.out | exact Blk.at_ _ (by first | rfl | (simp; done) | (simp; omega)) _ _ | refine Blk.drewN ?_ _ | refine Blk.drew ?_ | refine Blk.alloc ?_ _ | refine Blk.far ?_ (by first | omega | (simp; done) | (simp; omega)) _ | assumption)))
    have C0_11 := Lib.hid (step_cell hb (show World.cell? _ ⟨xb, xo + k * 6, none⟩ = some (.string t.name) by first | exact C0_10.out | go_simp) (by have := hxb; first | omega | (simp; omega)))
    have C1_11 := Lib.hid (step_cell hb (show World.cell? _ ⟨xb, xo + k * 6 + 1, none⟩ = some (.int .i64 (t.az)) by first | exact C1_10.out | go_simp) (by have := hxb; first | omega | (simp; omega)))
    have C2_11 := Lib.hid (step_cell hb (show World.cell? _ ⟨xb, xo + k * 6 + 2, none⟩ = some (.int .i64 (t.ht)) by first | exact C2_10.out | go_simp) (by have := hxb; first | omega | (simp; omega)))
    have C3_11 := Lib.hid (step_cell hb (show World.cell? _ ⟨xb, xo + k * 6 + 3, none⟩ = some (.int .i64 (t.fr)) by first | exact C3_10.out | go_simp) (by have := hxb; first | omega | (simp; omega)))
    have C4_11 := Lib.hid (step_cell hb (show World.cell? _ ⟨xb, xo + k * 6 + 4, none⟩ = some (.int .i64 (t.to)) by first | exact C4_10.out | go_simp) (by have := hxb; first | omega | (simp; omega)))
    have C5_11 := Lib.hid (step_cell hb (show World.cell? _ ⟨xb, xo + k * 6 + 5, none⟩ = some (.int .i64 (t.dw)) by first | exact C5_10.out | go_simp) (by have := hxb; first | omega | (simp; omega)))
    have C6_11 := Lib.hid (step_cell hb (show World.cell? _ ⟨yb, yo + k, none⟩ = some (.int .i64 (K)) by first | exact C6_10.out | go_simp) (by have := hyb; first | omega | (simp; omega)))
    have hL11 := Lib.hid (show Below w10.heap.size w10 _ from reads_mid hb (by repeat' (first | exact Below.refl _ _ | refine below_drewN ?_ _ | refine Below.drew ?_ | refine Below.alloc ?_ (by first | omega | (simp; done) | (simp; omega) | (simp [World.setCell]; omega)) _ | refine Below.setCell ?_ (by first | omega | (simp; done) | (simp; omega)) _)))
    have R0_11 := Lib.hid (reads_lay hb hL11.out R0_10.out)
    have R1_11 := Lib.hid (mnt_lay hb hL11.out R1_10.out)
    have R2_11 := Lib.hid (reads_lay hb hL11.out R2_10.out)
    clear hL11 R0_10 R1_10 R2_10
    have HA11 := Lib.hid (step_below hb HA10.out)
    clear HA10
    have hz11 := hb.size
    try simp only [World.size_alloc, World.drewN, World.drew] at hz11
    clear hb K0_10 K1_10 K2_10 z0_0_10 z0_1_10 z0_2_10 z0_3_10 z0_4_10 z0_5_10 z0_6_10 z0_7_10 z0_8_10 z0_9_10 l0_10 z1_0_10 z1_1_10 l1_10 z2_0_10 z2_1_10 l2_10
    have l0_11 : w.heap.size < w11.heap.size := K0_11.out.lt
    have z0_0_11 : w11.cell? ⟨w.heap.size, 0, none⟩ = some (.int .i64 (m.ls)) := K0_11.out.cell 0
    have z0_1_11 : w11.cell? ⟨w.heap.size, 1, none⟩ = some (.int .i64 (m.ms)) := K0_11.out.cell 1
    have z0_2_11 : w11.cell? ⟨w.heap.size, 2, none⟩ = some (.int .i64 (m.lo)) := K0_11.out.cell 2
    have z0_3_11 : w11.cell? ⟨w.heap.size, 3, none⟩ = some (.int .i64 (m.hi)) := K0_11.out.cell 3
    have z0_4_11 : w11.cell? ⟨w.heap.size, 4, none⟩ = some (.int .i64 (m.sp)) := K0_11.out.cell 4
    have z0_5_11 : w11.cell? ⟨w.heap.size, 5, none⟩ = some (.slice m.A1 m.n1 m.c1) := K0_11.out.cell 5
    have z0_6_11 : w11.cell? ⟨w.heap.size, 6, none⟩ = some (.slice m.A2 m.n2 m.c2) := K0_11.out.cell 6
    have z0_7_11 : w11.cell? ⟨w.heap.size, 7, none⟩ = some (.slice (some ⟨xb, xo, none⟩) n c) := K0_11.out.cell 7
    have z0_8_11 : w11.cell? ⟨w.heap.size, 8, none⟩ = some (.int .i64 (day)) := K0_11.out.cell 8
    have z0_9_11 : w11.cell? ⟨w.heap.size, 9, none⟩ = some (.int .i64 (pos)) := K0_11.out.cell 9
    have l1_11 : bx < w11.heap.size := K1_11.out.lt
    have z1_0_11 : w11.cell? ⟨bx, 0, none⟩ = some (.slice (some ⟨yb, yo, none⟩) n ct) := K1_11.out.cell 0
    have z1_1_11 : w11.cell? ⟨bx, 1, none⟩ = some (.slice Xp n cp) := K1_11.out.cell 1
    have l2_11 : bx2 < w11.heap.size := K2_11.out.lt
    have z2_0_11 : w11.cell? ⟨bx2, 0, none⟩ = some (.int .i64 (X)) := K2_11.out.cell 0
    have z2_1_11 : w11.cell? ⟨bx2, 1, none⟩ = some (.int .i64 (Y)) := K2_11.out.cell 1
    cases tt
    · have hc0 : cntU pos (P.take (k + 1)) = C := by rw [HCNT.out, if_neg (by simpa using HTT.out)]; omega
      have HC0 := Lib.hid hc0
      clear hc0
      go_wp2
      go_roundw
      case rel => exact ⟨k + 1, by omega, by rw [HC0.out], by rw [HLAST.out], by go_num, HB78.out.trans (HA11.out.mono HB78.out.size)⟩
      case measure => simp [intOf]; omega
    · have hc0 : cntU pos (P.take (k + 1)) = C + 1 := by rw [HCNT.out, if_pos (by simpa using HTT.out)]
      have HC0 := Lib.hid hc0
      clear hc0
      go_wp2
      go_roundw
      case rel => exact ⟨k + 1, by omega, by rw [HC0.out], by rw [HLAST.out], by go_num, HB78.out.trans (HA11.out.mono HB78.out.size)⟩
      case measure => simp [intOf]; omega

theorem lawPV_any (m : Mnt) (A : Option Addr) (n c : Nat) (l : List Tgt) (day pos : Int) (a b : Int) (w : World) (hx : TourIn m A n c l day pos w) (_ : I64 a) (_ : I64 b) :
    Calls Try.prog 5 #[tourV m A n c day pos, .agg #[.int .i64 a, .int .i64 b]] w fun e w' => e = .returned (.bool true) ∧ Below w.heap.size w w' := by
  by_cases h0 : shortB m l = false ∨ withinB a 0 3000000 = false ∨ withinB b 0 3000000 = false
  · exact lawPV_no m A n c l day pos a b w hx h0
  · rw [not_or, not_or] at h0
    obtain ⟨h1, h2, h3⟩ := h0
    by_cases hT : (tourF m l day pos).2 = 0
    · exact lawPV_ok m A n c l day pos a b w hx (by simpa using h1) (by simpa using h2) (by simpa using h3) hT
    · exact lawPV_bad m A n c l day pos a b w hx (by simpa using h1) (by simpa using h2) (by simpa using h3) hT
end Go.Proofs.Ytdidcpealabaiaa

end
