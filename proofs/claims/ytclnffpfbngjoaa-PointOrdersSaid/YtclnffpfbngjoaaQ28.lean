import Derived.Test.YtclnffpfbngjoaaQ13
import Derived.Test.YtclnffpfbngjoaaQ11

section
/- The reference's turns, in a list of its own (printed by mkrturns.py). -/
namespace Go.Proofs.Ytclnffpfbngjoaa
open Go Go.RowKit

def TurnsPostO (L : List Int) (E : Int) (n : Nat) (w : World) (e : Ending) (w' : World) : Prop :=
  ∃ A c, e = .returned (.tuple #[.slice A n c, .int .i64 E]) ∧ Below w.heap.size w w' ∧ w'.ownsRow w.heap.size 3 1 (.slice A n c) n (L.map (.int .i64))
theorem TurnsPostO.mk' {L : List Int} {E : Int} {n : Nat} {w w' : World} {e : Ending} {A : Option Addr} {c : Nat} (h1 : e = .returned (.tuple #[.slice A n c, .int .i64 E])) (h2 : Below w.heap.size w w') (h3 : w'.ownsRow w.heap.size 3 1 (.slice A n c) n (L.map (.int .i64))) : TurnsPostO L E n w e w' := ⟨A, c, h1, h2, h3⟩
set_option maxRecDepth 100000 in
set_option maxHeartbeats 4000000 in
theorem rturnso_is (m : Mnt) (t : Tgt) (day X Y : Int) (L : List Int) (E : Int) (n : Nat) (hA : appF m t day = (X, Y)) (hE : turnsAt m X Y = (L, E)) (hn : L.length = n) (w : World) (hx : MntAt m w) (hm : mntErr m = 0) (ht : tgtErr t = 0) (hd : dayErr day = 0) :
    Calls Try.prog 28 #[m.val, t.val, .int .i64 day] w (TurnsPostO L E n w) := by
  obtain ⟨⟨l1, l2, l3, l4⟩, -, l5, -, -, -⟩ := mnt_right hm
  have hap := app_in (day := day) hm ht
  rw [hA] at hap
  obtain ⟨x1, x2, y1, y2⟩ := hap
  simp only at x1 x2 y1 y2
  have HM := Lib.hid hm
  have HT := Lib.hid ht
  have HD := Lib.hid hd
  have HX := Lib.hid hx
  have HA := Lib.hid hA
  clear hm ht hd hx hA
  unfold turnsAt at hE
  cases hw : withinB Y m.lo m.hi with
  | false =>
    rw [if_pos hw] at hE
    cases hE
    obtain rfl : n = 0 := by simpa using hn.symm
    have HW := Lib.hid hw
    clear hw hn
    unfold Mnt.val Tgt.val
    go_enter Try.func28, Try.ntmps28
    go_wp2_with fail
    refine (rapparent_is m t day X Y HA.out _ (HX.out.lay (by repeat' (first | exact Below.refl _ _ | refine below_drewN ?_ _ | refine Below.drew ?_ | refine Below.alloc ?_ (by first | omega | (simp; done) | (simp; omega) | (simp [World.setCell]; omega)) _ | refine Below.setCell ?_ (by first | omega | (simp; done) | (simp; omega)) _))) HM.out HT.out HD.out).mono ?_
    rintro e w1 ⟨rfl, hb⟩
    have HB1 := Lib.hid (show Below w.heap.size w w1 from step_below hb (by repeat' (first | exact Below.refl _ _ | exact HB0.out | refine below_drewN ?_ _ | refine Below.drew ?_ | refine Below.alloc ?_ (by first | omega | (simp; done) | (simp; omega) | (simp [World.setCell]; omega)) _ | refine Below.setCell ?_ (by first | omega | (simp; done) | (simp; omega)) _ | assumption)))
    have K0_1 := Lib.hid (step_blk hb (show Blk _ (w.heap.size) 24 #[.int .i64 (m.ls), .int .i64 (m.ms), .int .i64 (m.lo), .int .i64 (m.hi), .int .i64 (m.sp), .slice m.A1 m.n1 m.c1, .slice m.A2 m.n2 m.c2] by repeat' (first | exact Blk.at_ _ (by first | rfl | (simp; done) | (simp; omega)) _ _ | refine Blk.drewN ?_ _ | refine Blk.drew ?_ | refine Blk.alloc ?_ _ | refine Blk.far ?_ (by first | omega | (simp; done) | (simp; omega)) _ | assumption)))
    have K1_1 := Lib.hid (step_blk hb (show Blk _ (w.heap.size + 1) 62 #[.string t.name, .int .i64 (t.az), .int .i64 (t.ht), .int .i64 (t.fr), .int .i64 (t.to), .int .i64 (t.dw)] by repeat' (first | exact Blk.at_ _ (by first | rfl | (simp; done) | (simp; omega)) _ _ | refine Blk.drewN ?_ _ | refine Blk.drew ?_ | refine Blk.alloc ?_ _ | refine Blk.far ?_ (by first | omega | (simp; done) | (simp; omega)) _ | assumption)))
    have hz1 := hb.size
    try simp only [World.size_alloc, World.drewN, World.drew] at hz1
    clear hb
    have l0_1 : w.heap.size < w1.heap.size := K0_1.out.lt
    have z0_0_1 : w1.cell? ⟨w.heap.size, 0, none⟩ = some (.int .i64 (m.ls)) := K0_1.out.cell 0
    have z0_1_1 : w1.cell? ⟨w.heap.size, 1, none⟩ = some (.int .i64 (m.ms)) := K0_1.out.cell 1
    have z0_2_1 : w1.cell? ⟨w.heap.size, 2, none⟩ = some (.int .i64 (m.lo)) := K0_1.out.cell 2
    have z0_3_1 : w1.cell? ⟨w.heap.size, 3, none⟩ = some (.int .i64 (m.hi)) := K0_1.out.cell 3
    have z0_4_1 : w1.cell? ⟨w.heap.size, 4, none⟩ = some (.int .i64 (m.sp)) := K0_1.out.cell 4
    have z0_5_1 : w1.cell? ⟨w.heap.size, 5, none⟩ = some (.slice m.A1 m.n1 m.c1) := K0_1.out.cell 5
    have z0_6_1 : w1.cell? ⟨w.heap.size, 6, none⟩ = some (.slice m.A2 m.n2 m.c2) := K0_1.out.cell 6
    have l1_1 : w.heap.size + 1 < w1.heap.size := K1_1.out.lt
    have z1_0_1 : w1.cell? ⟨w.heap.size + 1, 0, none⟩ = some (.string t.name) := K1_1.out.cell 0
    have z1_1_1 : w1.cell? ⟨w.heap.size + 1, 1, none⟩ = some (.int .i64 (t.az)) := K1_1.out.cell 1
    have z1_2_1 : w1.cell? ⟨w.heap.size + 1, 2, none⟩ = some (.int .i64 (t.ht)) := K1_1.out.cell 2
    have z1_3_1 : w1.cell? ⟨w.heap.size + 1, 3, none⟩ = some (.int .i64 (t.fr)) := K1_1.out.cell 3
    have z1_4_1 : w1.cell? ⟨w.heap.size + 1, 4, none⟩ = some (.int .i64 (t.to)) := K1_1.out.cell 4
    have z1_5_1 : w1.cell? ⟨w.heap.size + 1, 5, none⟩ = some (.int .i64 (t.dw)) := K1_1.out.cell 5
    go_wp2_with fail
    refine (withinref_is _ _ _ _ HW.out _).mono ?_
    rintro e w' ⟨rfl, rfl⟩
    go_wp2
    go_ret2
    exact TurnsPostO.mk' (A := none) (c := 0) rfl (HB1.out.alloc (by omega) _) (World.ownsRow_nil _ _ _ _)
  | true =>
  rw [if_neg (by rw [hw]; simp)] at hE
  obtain ⟨i0, hi0, hz0, hz1, hz2⟩ := info_parts info_ints1
  have HI0 := Lib.hid hi0
  have HZ0 := Lib.hid hz0
  have HZ1 := Lib.hid hz1
  have HZ2 := Lib.hid hz2
  have HE := Lib.hid hE
  have HW := Lib.hid hw
  have HN := Lib.hid hn
  clear hw hE hn hi0 hz0 hz1 hz2
  unfold Mnt.val Tgt.val
  go_enter Try.func28, Try.ntmps28
  go_wp2_with fail
  refine (rapparent_is m t day X Y HA.out _ (HX.out.lay (by repeat' (first | exact Below.refl _ _ | refine below_drewN ?_ _ | refine Below.drew ?_ | refine Below.alloc ?_ (by first | omega | (simp; done) | (simp; omega) | (simp [World.setCell]; omega)) _ | refine Below.setCell ?_ (by first | omega | (simp; done) | (simp; omega)) _))) HM.out HT.out HD.out).mono ?_
  rintro e w1 ⟨rfl, hb⟩
  have HB1 := Lib.hid (show Below w.heap.size w w1 from step_below hb (by repeat' (first | exact Below.refl _ _ | exact HB0.out | refine below_drewN ?_ _ | refine Below.drew ?_ | refine Below.alloc ?_ (by first | omega | (simp; done) | (simp; omega) | (simp [World.setCell]; omega)) _ | refine Below.setCell ?_ (by first | omega | (simp; done) | (simp; omega)) _ | assumption)))
  have K0_1 := Lib.hid (step_blk hb (show Blk _ (w.heap.size) 24 #[.int .i64 (m.ls), .int .i64 (m.ms), .int .i64 (m.lo), .int .i64 (m.hi), .int .i64 (m.sp), .slice m.A1 m.n1 m.c1, .slice m.A2 m.n2 m.c2] by repeat' (first | exact Blk.at_ _ (by first | rfl | (simp; done) | (simp; omega)) _ _ | refine Blk.drewN ?_ _ | refine Blk.drew ?_ | refine Blk.alloc ?_ _ | refine Blk.far ?_ (by first | omega | (simp; done) | (simp; omega)) _ | assumption)))
  have K1_1 := Lib.hid (step_blk hb (show Blk _ (w.heap.size + 1) 62 #[.string t.name, .int .i64 (t.az), .int .i64 (t.ht), .int .i64 (t.fr), .int .i64 (t.to), .int .i64 (t.dw)] by repeat' (first | exact Blk.at_ _ (by first | rfl | (simp; done) | (simp; omega)) _ _ | refine Blk.drewN ?_ _ | refine Blk.drew ?_ | refine Blk.alloc ?_ _ | refine Blk.far ?_ (by first | omega | (simp; done) | (simp; omega)) _ | assumption)))
  have hz1 := hb.size
  try simp only [World.size_alloc, World.drewN, World.drew] at hz1
  clear hb
  have l0_1 : w.heap.size < w1.heap.size := K0_1.out.lt
  have z0_0_1 : w1.cell? ⟨w.heap.size, 0, none⟩ = some (.int .i64 (m.ls)) := K0_1.out.cell 0
  have z0_1_1 : w1.cell? ⟨w.heap.size, 1, none⟩ = some (.int .i64 (m.ms)) := K0_1.out.cell 1
  have z0_2_1 : w1.cell? ⟨w.heap.size, 2, none⟩ = some (.int .i64 (m.lo)) := K0_1.out.cell 2
  have z0_3_1 : w1.cell? ⟨w.heap.size, 3, none⟩ = some (.int .i64 (m.hi)) := K0_1.out.cell 3
  have z0_4_1 : w1.cell? ⟨w.heap.size, 4, none⟩ = some (.int .i64 (m.sp)) := K0_1.out.cell 4
  have z0_5_1 : w1.cell? ⟨w.heap.size, 5, none⟩ = some (.slice m.A1 m.n1 m.c1) := K0_1.out.cell 5
  have z0_6_1 : w1.cell? ⟨w.heap.size, 6, none⟩ = some (.slice m.A2 m.n2 m.c2) := K0_1.out.cell 6
  have l1_1 : w.heap.size + 1 < w1.heap.size := K1_1.out.lt
  have z1_0_1 : w1.cell? ⟨w.heap.size + 1, 0, none⟩ = some (.string t.name) := K1_1.out.cell 0
  have z1_1_1 : w1.cell? ⟨w.heap.size + 1, 1, none⟩ = some (.int .i64 (t.az)) := K1_1.out.cell 1
  have z1_2_1 : w1.cell? ⟨w.heap.size + 1, 2, none⟩ = some (.int .i64 (t.ht)) := K1_1.out.cell 2
  have z1_3_1 : w1.cell? ⟨w.heap.size + 1, 3, none⟩ = some (.int .i64 (t.fr)) := K1_1.out.cell 3
  have z1_4_1 : w1.cell? ⟨w.heap.size + 1, 4, none⟩ = some (.int .i64 (t.to)) := K1_1.out.cell 4
  have z1_5_1 : w1.cell? ⟨w.heap.size + 1, 5, none⟩ = some (.int .i64 (t.dw)) := K1_1.out.cell 5
  go_wp2_with fail
  refine (withinref_is _ _ _ _ HW.out _).mono ?_
  rintro e w' ⟨rfl, rfl⟩
  generalize hwn : (w1.alloc (.cells #[.int .i64 (X), .int .i64 (Y)] 26)) = w2
  have hbn : Below w1.heap.size w1 w2 := by rw [← hwn]; repeat' (first | exact Below.refl _ _ | refine below_drewN ?_ _ | refine Below.drew ?_ | refine Below.alloc ?_ (by first | omega | (simp; done) | (simp; omega) | (simp [World.setCell]; omega)) _ | refine Below.setCell ?_ (by first | omega | (simp; done) | (simp; omega)) _)
  have HB2 := Lib.hid (show Below w.heap.size w w2 from HB1.out.trans (hbn.mono HB1.out.size))
  have K0_2 := Lib.hid (step_blk hbn K0_1.out)
  have K1_2 := Lib.hid (step_blk hbn K1_1.out)
  have K2_2 := Lib.hid (show Blk w2 (w1.heap.size) 26 #[.int .i64 (X), .int .i64 (Y)] by rw [← hwn]; repeat' (first | exact Blk.at_ _ (by first | rfl | (simp; done) | (simp; omega)) _ _ | refine Blk.drewN ?_ _ | refine Blk.drew ?_ | refine Blk.alloc ?_ _ | refine Blk.far ?_ (by first | omega | (simp; done) | (simp; omega)) _ | assumption))
  have HN2 := Lib.hid hbn
  have hz2 := hbn.size
  clear hwn hbn K0_1 l0_1 z0_0_1 z0_1_1 z0_2_1 z0_3_1 z0_4_1 z0_5_1 z0_6_1 K1_1 l1_1 z1_0_1 z1_1_1 z1_2_1 z1_3_1 z1_4_1 z1_5_1
  have l0_2 : w.heap.size < w2.heap.size := K0_2.out.lt
  have z0_0_2 : w2.cell? ⟨w.heap.size, 0, none⟩ = some (.int .i64 (m.ls)) := K0_2.out.cell 0
  have z0_1_2 : w2.cell? ⟨w.heap.size, 1, none⟩ = some (.int .i64 (m.ms)) := K0_2.out.cell 1
  have z0_2_2 : w2.cell? ⟨w.heap.size, 2, none⟩ = some (.int .i64 (m.lo)) := K0_2.out.cell 2
  have z0_3_2 : w2.cell? ⟨w.heap.size, 3, none⟩ = some (.int .i64 (m.hi)) := K0_2.out.cell 3
  have z0_4_2 : w2.cell? ⟨w.heap.size, 4, none⟩ = some (.int .i64 (m.sp)) := K0_2.out.cell 4
  have z0_5_2 : w2.cell? ⟨w.heap.size, 5, none⟩ = some (.slice m.A1 m.n1 m.c1) := K0_2.out.cell 5
  have z0_6_2 : w2.cell? ⟨w.heap.size, 6, none⟩ = some (.slice m.A2 m.n2 m.c2) := K0_2.out.cell 6
  have l1_2 : w.heap.size + 1 < w2.heap.size := K1_2.out.lt
  have z1_0_2 : w2.cell? ⟨w.heap.size + 1, 0, none⟩ = some (.string t.name) := K1_2.out.cell 0
  have z1_1_2 : w2.cell? ⟨w.heap.size + 1, 1, none⟩ = some (.int .i64 (t.az)) := K1_2.out.cell 1
  have z1_2_2 : w2.cell? ⟨w.heap.size + 1, 2, none⟩ = some (.int .i64 (t.ht)) := K1_2.out.cell 2
  have z1_3_2 : w2.cell? ⟨w.heap.size + 1, 3, none⟩ = some (.int .i64 (t.fr)) := K1_2.out.cell 3
  have z1_4_2 : w2.cell? ⟨w.heap.size + 1, 4, none⟩ = some (.int .i64 (t.to)) := K1_2.out.cell 4
  have z1_5_2 : w2.cell? ⟨w.heap.size + 1, 5, none⟩ = some (.int .i64 (t.dw)) := K1_2.out.cell 5
  have l2_2 : w1.heap.size < w2.heap.size := K2_2.out.lt
  have z2_0_2 : w2.cell? ⟨w1.heap.size, 0, none⟩ = some (.int .i64 (X)) := K2_2.out.cell 0
  have z2_1_2 : w2.cell? ⟨w1.heap.size, 1, none⟩ = some (.int .i64 (Y)) := K2_2.out.cell 1
  go_wp2
  go_loopw [9, 10] (fun v9 i wr => ∃ q : Nat, q ≤ 43 ∧ i = .int .i64 ((q : Int) - 21) ∧ Below w2.heap.size w2 wr ∧ wr.ownsRow w2.heap.size 3 1 v9 (turnsTo m.ls m.ms X q).length ((turnsTo m.ls m.ms X q).map (.int .i64))) (fun _ i _ => (43 - intOf i).toNat)
  case atStart => exact ⟨0, by omega, rfl, Below.refl _ _, World.ownsRow_nil _ _ _ _⟩
  case round =>
    obtain ⟨q, hq43, rfl, hb, ho9⟩ := hrel
    obtain ⟨w3, hnm⟩ : ∃ z : World, z = wr := ⟨_, rfl⟩
    subst hnm
    have hk0 := Blk.below K0_2.out hb l0_2
    have hk2 := Blk.below K2_2.out hb l2_2
    have hbs := hb.size
    have HBW := Lib.hid hb
    have hb' := step_below hb HB2.out
    have HB3 := Lib.hid hb'
    have K0_3 := Lib.hid (show Blk w3 (w.heap.size) 24 #[.int .i64 (m.ls), .int .i64 (m.ms), .int .i64 (m.lo), .int .i64 (m.hi), .int .i64 (m.sp), .slice m.A1 m.n1 m.c1, .slice m.A2 m.n2 m.c2] from hk0)
    have K1_3 := Lib.hid (show Blk w3 (w1.heap.size) 26 #[.int .i64 (X), .int .i64 (Y)] from hk2)
    clear hb' hk0 hk2
    have l0_3 : w.heap.size < w3.heap.size := K0_3.out.lt
    have z0_0_3 : w3.cell? ⟨w.heap.size, 0, none⟩ = some (.int .i64 (m.ls)) := K0_3.out.cell 0
    have z0_1_3 : w3.cell? ⟨w.heap.size, 1, none⟩ = some (.int .i64 (m.ms)) := K0_3.out.cell 1
    have z0_2_3 : w3.cell? ⟨w.heap.size, 2, none⟩ = some (.int .i64 (m.lo)) := K0_3.out.cell 2
    have z0_3_3 : w3.cell? ⟨w.heap.size, 3, none⟩ = some (.int .i64 (m.hi)) := K0_3.out.cell 3
    have z0_4_3 : w3.cell? ⟨w.heap.size, 4, none⟩ = some (.int .i64 (m.sp)) := K0_3.out.cell 4
    have z0_5_3 : w3.cell? ⟨w.heap.size, 5, none⟩ = some (.slice m.A1 m.n1 m.c1) := K0_3.out.cell 5
    have z0_6_3 : w3.cell? ⟨w.heap.size, 6, none⟩ = some (.slice m.A2 m.n2 m.c2) := K0_3.out.cell 6
    have l1_3 : w1.heap.size < w3.heap.size := K1_3.out.lt
    have z1_0_3 : w3.cell? ⟨w1.heap.size, 0, none⟩ = some (.int .i64 (X)) := K1_3.out.cell 0
    have z1_1_3 : w3.cell? ⟨w1.heap.size, 1, none⟩ = some (.int .i64 (Y)) := K1_3.out.cell 1
    clear hb
    by_cases hlt : q < 43
    · have v1 := IntWalk.i64_in (((q : Int) - 21) * 1296000) ⟨by omega, by omega⟩
      have v2 := IntWalk.i64_in (X + ((q : Int) - 21) * 1296000) ⟨by omega, by omega⟩
      have hle21 : (q : Int) - 21 ≤ 21 := by omega
      have hlen := turnsTo_len m.ls m.ms X q
      cases hy : turnB m.ls m.ms X ((q : Int) - 21) with
      | false =>
        have HY := Lib.hid (turnsTo_no hy)
        have HWI : Hid (withinB (X + ((q : Int) - 21) * 1296000) m.ls m.ms = false) := hy
        have HO := Lib.hid ho9
        clear hy ho9
        go_wp2_with fail
        refine (withinref_is _ _ _ _ HWI.out _).mono ?_
        rintro e w' ⟨rfl, rfl⟩
        go_wp2
        go_roundw
        case rel => exact ⟨q + 1, by omega, by first | rfl | go_num, HBW.out, by rw [HY.out]; exact HO.out⟩
        case measure => simp [intOf]; omega
      | true =>
        have HY := Lib.hid (turnsTo_yes hy)
        have HWI : Hid (withinB (X + ((q : Int) - 21) * 1296000) m.ls m.ms = true) := hy
        obtain ⟨N, hN⟩ : ∃ N, (turnsTo m.ls m.ms X q).length = N := ⟨_, rfl⟩
        rw [hN] at ho9 hlen
        obtain ⟨W, hW⟩ : ∃ W, W = w3.alloc (.cells #[.int .i64 ((q : Int) - 21)] 3) := ⟨_, rfl⟩
        have hoW : W.ownsRow w2.heap.size 3 1 u9 N ((turnsTo m.ls m.ms X q).map (.int .i64)) := by rw [hW]; exact ho9.alloc _
        have hnb : Blk W w3.heap.size 3 #[.int .i64 ((q : Int) - 21)] := by rw [hW]; exact Blk.new _ _ _
        have hbW : Below w2.heap.size w2 W := by rw [hW]; exact HBW.out.alloc hbs _
        obtain ⟨v', W2, hrun, o2', hg2, hrow⟩ := run_append_any (P := Try.prog) W w2.heap.size 31 31 3 i0 _ 1 8 Try.underlying31 HI0.out HZ0.out HZ1.out HZ2.out rfl (by omega) u9 N _ hoW W.heap.size (some ⟨w3.heap.size, 0, none⟩) 1 1 [.int .i64 ((q : Int) - 21)] (Blk.reads hnb rfl) (by simp [Value.oneCell']) (by unfold maxLen; omega) (by omega) hbW.size
        have hb2 := Lib.hid (hbW.grown hg2 hbW.size (fun g hg => (own_lt hoW hg).1))
        rw [hW] at hrun
        have HRUN := Lib.hid hrun
        have HO2 := Lib.hid o2'
        have HNN := Lib.hid hN
        clear hrun hg2 hrow hnb hoW hW hbW o2' hy hN ho9
        go_wp2_with fail
        refine (withinref_is _ _ _ _ HWI.out _).mono ?_
        rintro e w' ⟨rfl, rfl⟩
        go_wp2_with (first | (at_builtin; refine wpList_app _ W2 v' rfl _ _ _ rfl _ _ rfl rfl HRUN.out ?_))
        go_roundw
        case rel => exact ⟨q + 1, by omega, by first | rfl | go_num, hb2.out, by rw [HY.out, List.length_append, HNN.out, List.map_append]; exact HO2.out⟩
        case measure => simp [intOf]; omega
    · obtain rfl : q = 43 := by omega
      obtain ⟨N, hN⟩ : ∃ N, (turnsTo m.ls m.ms X 43).length = N := ⟨_, rfl⟩
      obtain ⟨T, hT⟩ : ∃ T, turnsTo m.ls m.ms X 43 = T := ⟨_, rfl⟩
      have hE := HE.out
      unfold turnsL at hE
      rw [hN] at ho9
      rw [hT] at ho9 hN hE
      obtain ⟨A9, c9, rfl, hr9⟩ := own_reads ho9
      by_cases hz : T = []
      · rw [if_pos hz] at hE
        cases hE
        obtain rfl : n = 0 := by simpa using HN.out.symm
        obtain rfl : N = 0 := by rw [← hN, hz]; rfl
        clear HE hN hT ho9 hr9 hz
        go_wp2
        go_ret2
        exact TurnsPostO.mk' (A := none) (c := 0) rfl HB3.out (World.ownsRow_nil _ _ _ _)
      · rw [if_neg hz] at hE
        cases hE
        obtain rfl : N = n := hN.symm.trans HN.out
        have hN0 : ((N : Int) == 0) = false := by
          have : N ≠ 0 := fun e => hz (List.eq_nil_of_length_eq_zero (hN.trans e))
          simpa using this
        have HO9 := Lib.hid (own_mono (base' := w.heap.size) ho9 (by have := HB2.out.size; omega))
        clear HE hN hT ho9 hr9 hz HN
        go_wp2
        go_ret2
        exact TurnsPostO.mk' rfl HB3.out HO9.out

end Go.Proofs.Ytclnffpfbngjoaa

end
