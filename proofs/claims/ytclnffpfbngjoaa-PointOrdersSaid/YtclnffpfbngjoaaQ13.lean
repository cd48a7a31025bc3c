import Derived.Test.YtclnffpfbngjoaaQ12

section
/- Contracts of the exported functions of the apparent place and of the turns, and of the reference's turns. -/
namespace Go.Proofs.Ytclnffpfbngjoaa
open Go Go.RowKit

/-- The first error of a mounting, a target and a day. -/
def mtdErr (m : Mnt) (t : Tgt) (day : Int) : Int := orE [mntErr m, tgtErr t, dayErr day]
def TurnsPost1 (L : List Int) (E : Int) (n : Nat) (w : World) (e : Ending) (w' : World) : Prop :=
  ∃ A c, e = .returned (.tuple #[.slice A n c, .int .i64 E]) ∧ Below w.heap.size w w' ∧ Reads w' w'.heap.size 1 A n (L.map (.int .i64))
theorem TurnsPost1.mk' {L : List Int} {E : Int} {n : Nat} {w w' : World} {e : Ending} {A : Option Addr} {c : Nat} (h1 : e = .returned (.tuple #[.slice A n c, .int .i64 E])) (h2 : Below w.heap.size w w') (h3 : Reads w' w'.heap.size 1 A n (L.map (.int .i64))) : TurnsPost1 L E n w e w' := ⟨A, c, h1, h2, h3⟩

theorem info_ints1 : (Try.prog.info? 3).map (fun i => (i.zero, i.size, i.bytes)) = some (some (.int .i64 0), 1, 8) := by kernel_rfl
set_option maxRecDepth 100000 in
set_option maxHeartbeats 4000000 in
theorem rturns_is (m : Mnt) (t : Tgt) (day X Y : Int) (L : List Int) (E : Int) (n : Nat) (hA : appF m t day = (X, Y)) (hE : turnsAt m X Y = (L, E)) (hn : L.length = n) (w : World) (hx : MntAt m w) (hm : mntErr m = 0) (ht : tgtErr t = 0) (hd : dayErr day = 0) :
    Calls Try.prog 28 #[m.val, t.val, .int .i64 day] w (TurnsPost1 L E n w) := by
  obtain ⟨⟨l1, l2, l3, l4⟩, -, l5, -, -, -⟩ := mnt_right hm
  have hap := app_in (day := day) hm ht
  rw [hA] at hap
  obtain ⟨x1, x2, y1, y2⟩ := hap
  simp only at x1 x2 y1 y2
  have HM := Lib.hid hm
  have HT := Lib.hid ht
  have HD := Lib.hid hd
  have HX := Lib.hid hx
  have HA := Lib.hid hA
  clear hm ht hd hx hA
  unfold turnsAt at hE
  cases hw : withinB Y m.lo m.hi with
  | false =>
    rw [if_pos hw] at hE
    cases hE
    obtain rfl : n = 0 := by simpa using hn.symm
    have HW := Lib.hid hw
    clear hw hn
    unfold Mnt.val Tgt.val
    go_enter Try.func28, Try.ntmps28
    go_wp2_with fail
    refine (rapparent_is m t day X Y HA.out _ (HX.out.lay (by repeat' (first | exact Below.refl _ _ | refine below_drewN ?_ _ | refine Below.drew ?_ | refine Below.alloc ?_ (by first | omega | (simp; done) | (simp; omega) | (simp [World.setCell]; omega)) _ | refine Below.setCell ?_ (by first | omega | (simp; done) | (simp; omega)) _))) HM.out HT.out HD.out).mono ?_
    rintro e w1 ⟨rfl, hb⟩
    have HB1 := Lib.hid (show Below w.heap.size w w1 from step_below hb (by repeat' (first | exact Below.refl _ _ | exact HB0.out | refine below_drewN ?_ _ | refine Below.drew ?_ | refine Below.alloc ?_ (by first | omega | (simp; done) | (simp; omega) | (simp [World.setCell]; omega)) _ | refine Below.setCell ?_ (by first | omega | (simp; done) | (simp; omega)) _ | assumption)))
    have K0_1 := Lib.hid (step_blk hb (show Blk _ (w.heap.size) 24 #[.int .i64 (m.ls), .int .i64 (m.ms), .int .i64 (m.lo), .int .i64 (m.hi), .int .i64 (m.sp), .slice m.A1 m.n1 m.c1, .slice m.A2 m.n2 m.c2] by repeat' (first | exact Blk.at_ _ (by first | rfl | (simp; done) | (simp; omega)) _ _ | refine Blk.drewN ?_ _ | refine Blk.drew ?_ | refine Blk.alloc ?_ _ | refine Blk.far ?_ (by first | omega | (simp; done) | (simp; omega)) _ | assumption)))
    have K1_1 := Lib.hid (step_blk hb (show Blk _ (w.heap.size + 1) 62 #[.string t.name, .int .i64 (t.az), .int .i64 (t.ht), .int .i64 (t.fr), .int .i64 (t.to), .int .i64 (t.dw)] by repeat' (first | exact Blk.at_ _ (by first | rfl | (simp; done) | (simp; omega)) _ _ | refine Blk.drewN ?_ _ | refine Blk.drew ?_ | refine Blk.alloc ?_ _ | refine Blk.far ?_ (by first | omega | (simp; done) | (simp; omega)) _ | assumption)))
    have hz1 := hb.size
    try simp only [World.size_alloc, World.drewN, World.drew] at hz1
    clear hb
    have l0_1 : w.heap.size < w1.heap.size := K0_1.out.lt
    have z0_0_1 : w1.cell? ⟨w.heap.size, 0, none⟩ = some (.int .i64 (m.ls)) := K0_1.out.cell 0
    have z0_1_1 : w1.cell? ⟨w.heap.size, 1, none⟩ = some (.int .i64 (m.ms)) := K0_1.out.cell 1
    have z0_2_1 : w1.cell? ⟨w.heap.size, 2, none⟩ = some (.int .i64 (m.lo)) := K0_1.out.cell 2
    have z0_3_1 : w1.cell? ⟨w.heap.size, 3, none⟩ = some (.int .i64 (m.hi)) := K0_1.out.cell 3
    have z0_4_1 : w1.cell? ⟨w.heap.size, 4, none⟩ = some (.int .i64 (m.sp)) := K0_1.out.cell 4
    have z0_5_1 : w1.cell? ⟨w.heap.size, 5, none⟩ = some (.slice m.A1 m.n1 m.c1) := K0_1.out.cell 5
    have z0_6_1 : w1.cell? ⟨w.heap.size, 6, none⟩ = some (.slice m.A2 m.n2 m.c2) := K0_1.out.cell 6
    have l1_1 : w.heap.size + 1 < w1.heap.size := K1_1.out.lt
    have z1_0_1 : w1.cell? ⟨w.heap.size + 1, 0, none⟩ = some (.string t.name) := K1_1.out.cell 0
    have z1_1_1 : w1.cell? ⟨w.heap.size + 1, 1, none⟩ = some (.int .i64 (t.az)) := K1_1.out.cell 1
    have z1_2_1 : w1.cell? ⟨w.heap.size + 1, 2, none⟩ = some (.int .i64 (t.ht)) := K1_1.out.cell 2
    have z1_3_1 : w1.cell? ⟨w.heap.size + 1, 3, none⟩ = some (.int .i64 (t.fr)) := K1_1.out.cell 3
    have z1_4_1 : w1.cell? ⟨w.heap.size + 1, 4, none⟩ = some (.int .i64 (t.to)) := K1_1.out.cell 4
    have z1_5_1 : w1.cell? ⟨w.heap.size + 1, 5, none⟩ = some (.int .i64 (t.dw)) := K1_1.out.cell 5
    go_wp2_with fail
    refine (withinref_is _ _ _ _ HW.out _).mono ?_
    rintro e w' ⟨rfl, rfl⟩
    go_wp2
    go_ret2
    exact TurnsPost1.mk' (A := none) (c := 0) rfl (HB1.out.alloc (by omega) _) Reads.none_
  | true =>
  rw [if_neg (by rw [hw]; simp)] at hE
  obtain ⟨i0, hi0, hz0, hz1, hz2⟩ := info_parts info_ints1
  have HI0 := Lib.hid hi0
  have HZ0 := Lib.hid hz0
  have HZ1 := Lib.hid hz1
  have HZ2 := Lib.hid hz2
  have HE := Lib.hid hE
  have HW := Lib.hid hw
  have HN := Lib.hid hn
  clear hw hE hn hi0 hz0 hz1 hz2
  unfold Mnt.val Tgt.val
  go_enter Try.func28, Try.ntmps28
  go_wp2_with fail
  refine (rapparent_is m t day X Y HA.out _ (HX.out.lay (by repeat' (first | exact Below.refl _ _ | refine below_drewN ?_ _ | refine Below.drew ?_ | refine Below.alloc ?_ (by first | omega | (simp; done) | (simp; omega) | (simp [World.setCell]; omega)) _ | refine Below.setCell ?_ (by first | omega | (simp; done) | (simp; omega)) _))) HM.out HT.out HD.out).mono ?_
  rintro e w1 ⟨rfl, hb⟩
  have HB1 := Lib.hid (show Below w.heap.size w w1 from step_below hb (by repeat' (first | exact Below.refl _ _ | exact HB0.out | refine below_drewN ?_ _ | refine Below.drew ?_ | refine Below.alloc ?_ (by first | omega | (simp; done) | (simp; omega) | (simp [World.setCell]; omega)) _ | refine Below.setCell ?_ (by first | omega | (simp; done) | (simp; omega)) _ | assumption)))
  have K0_1 := Lib.hid (step_blk hb (show Blk _ (w.heap.size) 24 #[.int .i64 (m.ls), .int .i64 (m.ms), .int .i64 (m.lo), .int .i64 (m.hi), .int .i64 (m.sp), .slice m.A1 m.n1 m.c1, .slice m.A2 m.n2 m.c2] by repeat' (first | exact Blk.at_ _ (by first | rfl | (simp; done) | (simp; omega)) _ _ | refine Blk.drewN ?_ _ | refine Blk.drew ?_ | refine Blk.alloc ?_ _ | refine Blk.far ?_ (by first | omega | (simp; done) | (simp; omega)) _ | assumption)))
  have K1_1 := Lib.hid (step_blk hb (show Blk _ (w.heap.size + 1) 62 #[.string t.name, .int .i64 (t.az), .int .i64 (t.ht), .int .i64 (t.fr), .int .i64 (t.to), .int .i64 (t.dw)] by repeat' (first | exact Blk.at_ _ (by first | rfl | (simp; done) | (simp; omega)) _ _ | refine Blk.drewN ?_ _ | refine Blk.drew ?_ | refine Blk.alloc ?_ _ | refine Blk.far ?_ (by first | omega | (simp; done) | (simp; omega)) _ | assumption)))
  have hz1 := hb.size
  try simp only [World.size_alloc, World.drewN, World.drew] at hz1
  clear hb
  have l0_1 : w.heap.size < w1.heap.size := K0_1.out.lt
  have z0_0_1 : w1.cell? ⟨w.heap.size, 0, none⟩ = some (.int .i64 (m.ls)) := K0_1.out.cell 0
  have z0_1_1 : w1.cell? ⟨w.heap.size, 1, none⟩ = some (.int .i64 (m.ms)) := K0_1.out.cell 1
  have z0_2_1 : w1.cell? ⟨w.heap.size, 2, none⟩ = some (.int .i64 (m.lo)) := K0_1.out.cell 2
  have z0_3_1 : w1.cell? ⟨w.heap.size, 3, none⟩ = some (.int .i64 (m.hi)) := K0_1.out.cell 3
  have z0_4_1 : w1.cell? ⟨w.heap.size, 4, none⟩ = some (.int .i64 (m.sp)) := K0_1.out.cell 4
  have z0_5_1 : w1.cell? ⟨w.heap.size, 5, none⟩ = some (.slice m.A1 m.n1 m.c1) := K0_1.out.cell 5
  have z0_6_1 : w1.cell? ⟨w.heap.size, 6, none⟩ = some (.slice m.A2 m.n2 m.c2) := K0_1.out.cell 6
  have l1_1 : w.heap.size + 1 < w1.heap.size := K1_1.out.lt
  have z1_0_1 : w1.cell? ⟨w.heap.size + 1, 0, none⟩ = some (.string t.name) := K1_1.out.cell 0
  have z1_1_1 : w1.cell? ⟨w.heap.size + 1, 1, none⟩ = some (.int .i64 (t.az)) := K1_1.out.cell 1
  have z1_2_1 : w1.cell? ⟨w.heap.size + 1, 2, none⟩ = some (.int .i64 (t.ht)) := K1_1.out.cell 2
  have z1_3_1 : w1.cell? ⟨w.heap.size + 1, 3, none⟩ = some (.int .i64 (t.fr)) := K1_1.out.cell 3
  have z1_4_1 : w1.cell? ⟨w.heap.size + 1, 4, none⟩ = some (.int .i64 (t.to)) := K1_1.out.cell 4
  have z1_5_1 : w1.cell? ⟨w.heap.size + 1, 5, none⟩ = some (.int .i64 (t.dw)) := K1_1.out.cell 5
  go_wp2_with fail
  refine (withinref_is _ _ _ _ HW.out _).mono ?_
  rintro e w' ⟨rfl, rfl⟩
  generalize hwn : (w1.alloc (.cells #[.int .i64 (X), .int .i64 (Y)] 26)) = w2
  have hbn : Below w1.heap.size w1 w2 := by rw [← hwn]; repeat' (first | exact Below.refl _ _ | refine below_drewN ?_ _ | refine Below.drew ?_ | refine Below.alloc ?_ (by first | omega | (simp; done) | (simp; omega) | (simp [World.setCell]; omega)) _ | refine Below.setCell ?_ (by first | omega | (simp; done) | (simp; omega)) _)
  have HB2 := Lib.hid (show Below w.heap.size w w2 from HB1.out.trans (hbn.mono HB1.out.size))
  have K0_2 := Lib.hid (step_blk hbn K0_1.out)
  have K1_2 := Lib.hid (step_blk hbn K1_1.out)
  have K2_2 := Lib.hid (show Blk w2 (w1.heap.size) 26 #[.int .i64 (X), .int .i64 (Y)] by rw [← hwn]; repeat' (first | exact Blk.at_ _ (by first | rfl | (simp; done) | (simp; omega)) _ _ | refine Blk.drewN ?_ _ | refine Blk.drew ?_ | refine Blk.alloc ?_ _ | refine Blk.far ?_ (by first | omega | (simp; done) | (simp; omega)) _ | assumption))
  have HN2 := Lib.hid hbn
  have hz2 := hbn.size
  clear hwn hbn K0_1 l0_1 z0_0_1 z0_1_1 z0_2_1 z0_3_1 z0_4_1 z0_5_1 z0_6_1 K1_1 l1_1 z1_0_1 z1_1_1 z1_2_1 z1_3_1 z1_4_1 z1_5_1
  have l0_2 : w.heap.size < w2.heap.size := K0_2.out.lt
  have z0_0_2 : w2.cell? ⟨w.heap.size, 0, none⟩ = some (.int .i64 (m.ls)) := K0_2.out.cell 0
  have z0_1_2 : w2.cell? ⟨w.heap.size, 1, none⟩ = some (.int .i64 (m.ms)) := K0_2.out.cell 1
  have z0_2_2 : w2.cell? ⟨w.heap.size, 2, none⟩ = some (.int .i64 (m.lo)) := K0_2.out.cell 2
  have z0_3_2 : w2.cell? ⟨w.heap.size, 3, none⟩ = some (.int .i64 (m.hi)) := K0_2.out.cell 3
  have z0_4_2 : w2.cell? ⟨w.heap.size, 4, none⟩ = some (.int .i64 (m.sp)) := K0_2.out.cell 4
  have z0_5_2 : w2.cell? ⟨w.heap.size, 5, none⟩ = some (.slice m.A1 m.n1 m.c1) := K0_2.out.cell 5
  have z0_6_2 : w2.cell? ⟨w.heap.size, 6, none⟩ = some (.slice m.A2 m.n2 m.c2) := K0_2.out.cell 6
  have l1_2 : w.heap.size + 1 < w2.heap.size := K1_2.out.lt
  have z1_0_2 : w2.cell? ⟨w.heap.size + 1, 0, none⟩ = some (.string t.name) := K1_2.out.cell 0
  have z1_1_2 : w2.cell? ⟨w.heap.size + 1, 1, none⟩ = some (.int .i64 (t.az)) := K1_2.out.cell 1
  have z1_2_2 : w2.cell? ⟨w.heap.size + 1, 2, none⟩ = some (.int .i64 (t.ht)) := K1_2.out.cell 2
  have z1_3_2 : w2.cell? ⟨w.heap.size + 1, 3, none⟩ = some (.int .i64 (t.fr)) := K1_2.out.cell 3
  have z1_4_2 : w2.cell? ⟨w.heap.size + 1, 4, none⟩ = some (.int .i64 (t.to)) := K1_2.out.cell 4
  have z1_5_2 : w2.cell? ⟨w.heap.size + 1, 5, none⟩ = some (.int .i64 (t.dw)) := K1_2.out.cell 5
  have l2_2 : w1.heap.size < w2.heap.size := K2_2.out.lt
  have z2_0_2 : w2.cell? ⟨w1.heap.size, 0, none⟩ = some (.int .i64 (X)) := K2_2.out.cell 0
  have z2_1_2 : w2.cell? ⟨w1.heap.size, 1, none⟩ = some (.int .i64 (Y)) := K2_2.out.cell 1
  go_wp2
  go_loopw [9, 10] (fun v9 i wr => ∃ q : Nat, q ≤ 43 ∧ i = .int .i64 ((q : Int) - 21) ∧ Below w2.heap.size w2 wr ∧ wr.ownsRow w2.heap.size 3 1 v9 (turnsTo m.ls m.ms X q).length ((turnsTo m.ls m.ms X q).map (.int .i64))) (fun _ i _ => (43 - intOf i).toNat)
  case atStart => exact ⟨0, by omega, rfl, Below.refl _ _, World.ownsRow_nil _ _ _ _⟩
  case round =>
    obtain ⟨q, hq43, rfl, hb, ho9⟩ := hrel
    obtain ⟨w3, hnm⟩ : ∃ z : World, z = wr := ⟨_, rfl⟩
    subst hnm
    have hk0 := Blk.below K0_2.out hb l0_2
    have hk2 := Blk.below K2_2.out hb l2_2
    have hbs := hb.size
    have HBW := Lib.hid hb
    have hb' := step_below hb HB2.out
    have HB3 := Lib.hid hb'
    have K0_3 := Lib.hid (show Blk w3 (w.heap.size) 24 #[.int .i64 (m.ls), .int .i64 (m.ms), .int .i64 (m.lo), .int .i64 (m.hi), .int .i64 (m.sp), .slice m.A1 m.n1 m.c1, .slice m.A2 m.n2 m.c2] from hk0)
    have K1_3 := Lib.hid (show Blk w3 (w1.heap.size) 26 #[.int .i64 (X), .int .i64 (Y)] from hk2)
    clear hb' hk0 hk2
    have l0_3 : w.heap.size < w3.heap.size := K0_3.out.lt
    have z0_0_3 : w3.cell? ⟨w.heap.size, 0, none⟩ = some (.int .i64 (m.ls)) := K0_3.out.cell 0
    have z0_1_3 : w3.cell? ⟨w.heap.size, 1, none⟩ = some (.int .i64 (m.ms)) := K0_3.out.cell 1
    have z0_2_3 : w3.cell? ⟨w.heap.size, 2, none⟩ = some (.int .i64 (m.lo)) := K0_3.out.cell 2
    have z0_3_3 : w3.cell? ⟨w.heap.size, 3, none⟩ = some (.int .i64 (m.hi)) := K0_3.out.cell 3
    have z0_4_3 : w3.cell? ⟨w.heap.size, 4, none⟩ = some (.int .i64 (m.sp)) := K0_3.out.cell 4
    have z0_5_3 : w3.cell? ⟨w.heap.size, 5, none⟩ = some (.slice m.A1 m.n1 m.c1) := K0_3.out.cell 5
    have z0_6_3 : w3.cell? ⟨w.heap.size, 6, none⟩ = some (.slice m.A2 m.n2 m.c2) := K0_3.out.cell 6
    have l1_3 : w1.heap.size < w3.heap.size := K1_3.out.lt
    have z1_0_3 : w3.cell? ⟨w1.heap.size, 0, none⟩ = some (.int .i64 (X)) := K1_3.out.cell 0
    have z1_1_3 : w3.cell? ⟨w1.heap.size, 1, none⟩ = some (.int .i64 (Y)) := K1_3.out.cell 1
    clear hb
    by_cases hlt : q < 43
    · have v1 := IntWalk.i64_in (((q : Int) - 21) * 1296000) ⟨by omega, by omega⟩
      have v2 := IntWalk.i64_in (X + ((q : Int) - 21) * 1296000) ⟨by omega, by omega⟩
      have hle21 : (q : Int) - 21 ≤ 21 := by omega
      have hlen := turnsTo_len m.ls m.ms X q
      cases hy : turnB m.ls m.ms X ((q : Int) - 21) with
      | false =>
        have HY := Lib.hid (turnsTo_no hy)
        have HWI : Hid (withinB (X + ((q : Int) - 21) * 1296000) m.ls m.ms = false) := hy
        have HO := Lib.hid ho9
        clear hy ho9
        go_wp2_with fail
        refine (withinref_is _ _ _ _ HWI.out _).mono ?_
        rintro e w' ⟨rfl, rfl⟩
        go_wp2
        go_roundw
        case rel => exact ⟨q + 1, by omega, by first | rfl | go_num, HBW.out, by rw [HY.out]; exact HO.out⟩
        case measure => simp [intOf]; omega
      | true =>
        have HY := Lib.hid (turnsTo_yes hy)
        have HWI : Hid (withinB (X + ((q : Int) - 21) * 1296000) m.ls m.ms = true) := hy
        obtain ⟨N, hN⟩ : ∃ N, (turnsTo m.ls m.ms X q).length = N := ⟨_, rfl⟩
        rw [hN] at ho9 hlen
        obtain ⟨W, hW⟩ : ∃ W, W = w3.alloc (.cells #[.int .i64 ((q : Int) - 21)] 3) := ⟨_, rfl⟩
        have hoW : W.ownsRow w2.heap.size 3 1 u9 N ((turnsTo m.ls m.ms X q).map (.int .i64)) := by rw [hW]; exact ho9.alloc _
        have hnb : Blk W w3.heap.size 3 #[.int .i64 ((q : Int) - 21)] := by rw [hW]; exact Blk.new _ _ _
        have hbW : Below w2.heap.size w2 W := by rw [hW]; exact HBW.out.alloc hbs _
        obtain ⟨v', W2, hrun, o2', hg2, hrow⟩ := run_append_any (P := Try.prog) W w2.heap.size 31 31 3 i0 _ 1 8 Try.underlying31 HI0.out HZ0.out HZ1.out HZ2.out rfl (by omega) u9 N _ hoW W.heap.size (some ⟨w3.heap.size, 0, none⟩) 1 1 [.int .i64 ((q : Int) - 21)] (Blk.reads hnb rfl) (by simp [Value.oneCell']) (by unfold maxLen; omega) (by omega) hbW.size
        have hb2 := Lib.hid (hbW.grown hg2 hbW.size (fun g hg => (own_lt hoW hg).1))
        rw [hW] at hrun
        have HRUN := Lib.hid hrun
        have HO2 := Lib.hid o2'
        have HNN := Lib.hid hN
        clear hrun hg2 hrow hnb hoW hW hbW o2' hy hN ho9
        go_wp2_with fail
        refine (withinref_is _ _ _ _ HWI.out _).mono ?_
        rintro e w' ⟨rfl, rfl⟩
        go_wp2_with (first | (at_builtin; refine wpList_app _ W2 v' rfl _ _ _ rfl _ _ rfl rfl HRUN.out ?_))
        go_roundw
        case rel => exact ⟨q + 1, by omega, by first | rfl | go_num, hb2.out, by rw [HY.out, List.length_append, HNN.out, List.map_append]; exact HO2.out⟩
        case measure => simp [intOf]; omega
    · obtain rfl : q = 43 := by omega
      obtain ⟨N, hN⟩ : ∃ N, (turnsTo m.ls m.ms X 43).length = N := ⟨_, rfl⟩
      obtain ⟨T, hT⟩ : ∃ T, turnsTo m.ls m.ms X 43 = T := ⟨_, rfl⟩
      have hE := HE.out
      unfold turnsL at hE
      rw [hN] at ho9
      rw [hT] at ho9 hN hE
      obtain ⟨A9, c9, rfl, hr9⟩ := own_reads ho9
      by_cases hz : T = []
      · rw [if_pos hz] at hE
        cases hE
        obtain rfl : n = 0 := by simpa using HN.out.symm
        obtain rfl : N = 0 := by rw [← hN, hz]; rfl
        clear HE hN hT ho9 hr9 hz
        go_wp2
        go_ret2
        exact TurnsPost1.mk' (A := none) (c := 0) rfl HB3.out Reads.none_
      · rw [if_neg hz] at hE
        cases hE
        obtain rfl : N = n := hN.symm.trans HN.out
        have hN0 : ((N : Int) == 0) = false := by
          have : N ≠ 0 := fun e => hz (List.eq_nil_of_length_eq_zero (hN.trans e))
          simpa using this
        have HR9 := Lib.hid hr9
        clear HE hN hT ho9 hr9 hz HN
        go_wp2
        go_ret2
        exact TurnsPost1.mk' rfl HB3.out HR9.out

end Go.Proofs.Ytclnffpfbngjoaa

end

section
/- Lists of targets in memory; the check of a target behind others. -/
namespace Go.Proofs.Ytclnffpfbngjoaa
open Go Go.RowKit

def Tgt.cells (t : Tgt) : List Value := [.string t.name, .int .i64 t.az, .int .i64 t.ht, .int .i64 t.fr, .int .i64 t.to, .int .i64 t.dw]
def tgtCells (l : List Tgt) : List Value := l.flatMap Tgt.cells
theorem tgtCells_length (l : List Tgt) : (tgtCells l).length = l.length * 6 := by
  unfold tgtCells
  induction l with
  | nil => rfl
  | cons t l ih => rw [List.flatMap_cons, List.length_append, ih, List.length_cons]; simp [Tgt.cells]; omega
theorem tgtCells_get (l : List Tgt) : ∀ (i : Nat) (h : i < l.length) (j : Nat), j < 6 → (tgtCells l)[i * 6 + j]? = (l[i]).cells[j]? := by
  unfold tgtCells
  induction l with
  | nil => intro i h; exact absurd h (by simp)
  | cons t l ih =>
    intro i h j hj
    rw [List.flatMap_cons]
    have ht : t.cells.length = 6 := rfl
    cases i with
    | zero => rw [Nat.zero_mul, Nat.zero_add, List.getElem?_append_left (by omega)]; rfl
    | succ i =>
      rw [List.getElem?_append_right (by omega), ht, show (i + 1) * 6 + j - 6 = i * 6 + j by omega]
      exact ih i (by simpa using h) j hj
theorem Reads.tlen {w : World} {B n : Nat} {A : Option Addr} {l : List Tgt} (h : Reads w B 6 A n (tgtCells l)) : l.length = n := by
  have := h.1; rw [tgtCells_length] at this; omega
theorem Reads.tgt {w : World} {B n : Nat} {A : Option Addr} {l : List Tgt} (h : Reads w B 6 A n (tgtCells l)) {i : Nat} (hi : i < n) :
    ∃ b o t, A = some ⟨b, o, none⟩ ∧ b < B ∧ l[i]? = some t ∧ w.cell? ⟨b, o + i * 6, none⟩ = some (.string t.name) ∧ w.cell? ⟨b, o + i * 6 + 1, none⟩ = some (.int .i64 t.az) ∧ w.cell? ⟨b, o + i * 6 + 2, none⟩ = some (.int .i64 t.ht) ∧ w.cell? ⟨b, o + i * 6 + 3, none⟩ = some (.int .i64 t.fr) ∧ w.cell? ⟨b, o + i * 6 + 4, none⟩ = some (.int .i64 t.to) ∧ w.cell? ⟨b, o + i * 6 + 5, none⟩ = some (.int .i64 t.dw) := by
  obtain ⟨b, o, e, hb, hc⟩ := h.2 (by omega)
  have hl := h.tlen
  have hil : i < l.length := by omega
  have g : ∀ j, j < 6 → ∀ u, (l[i]).cells[j]? = some u → w.cell? ⟨b, o + i * 6 + j, none⟩ = some u := fun j hj u hu => by
    rw [Nat.add_assoc]; exact hc _ u (by rw [tgtCells_get l i hil j hj, hu])
  exact ⟨b, o, l[i], e, hb, List.getElem?_eq_getElem hil, g 0 (by omega) _ rfl, g 1 (by omega) _ rfl, g 2 (by omega) _ rfl, g 3 (by omega) _ rfl, g 4 (by omega) _ rfl, g 5 (by omega) _ rfl⟩
theorem tgtCells_take (l : List Tgt) (k : Nat) : (tgtCells l).take (k * 6) = tgtCells (l.take k) := by
  unfold tgtCells
  induction l generalizing k with
  | nil => simp
  | cons t l ih =>
    cases k with
    | zero => simp
    | succ k =>
      rw [List.take_succ_cons, List.flatMap_cons, List.flatMap_cons, ← ih k, List.take_append]
      have ht : t.cells.length = 6 := rfl
      rw [List.take_of_length_le (by omega), ht, show (k + 1) * 6 - 6 = k * 6 by omega]

def sameN (s : ByteArray) (t : Tgt) : Bool := decide (t.name = s)
/-- The error of a target behind others. -/
def nextErr (before : List Tgt) (t : Tgt) : Int := if tgtErr t ≠ 0 then tgtErr t else if before.any (sameN t.name) then 5 else 0

set_option maxRecDepth 100000 in
theorem next1_call (t x : Tgt) (vb : Nat) (b : Bool) (hb : sameN x.name t = b) (w : World) (hv : w.cell? ⟨vb, 0, none⟩ = some (.string x.name)) :
    Calls Try.prog 70 #[.agg #[.string t.name, .int .i64 t.az, .int .i64 t.ht, .int .i64 t.fr, .int .i64 t.to, .int .i64 t.dw], .pointer (some ⟨vb, 0, none⟩)] w fun e w' => e = .returned (.bool b) ∧ Below w.heap.size w w' := by
  have e : (t.name.toList == x.name.toList) = b := by
    rw [← hb]; unfold sameN
    by_cases h : t.name = x.name
    · rw [h]; simp
    · rw [beq_eq_false_iff_ne.2 (fun e => h (toList_inj e)), decide_eq_false h]
  have hvl : vb < w.heap.size := by
    rcases Nat.lt_or_ge vb w.heap.size with h | h
    · exact h
    · exfalso; simp [World.cell?, Array.getElem?_eq_none h] at hv
  clear hb
  go_enter Try.func70, Try.ntmps70
  go_wp2
  go_ret
  exact ⟨rfl, (Below.refl _ _).alloc (Nat.le_refl _) _⟩

set_option maxRecDepth 100000 in
theorem indextgt_any (A : Option Addr) (n c vb : Nat) (l : List Tgt) (x : Tgt) (w : World) (hx : Reads w w.heap.size 6 A n (tgtCells l)) (hn : n ≤ 9223372036854775807) (hv : w.cell? ⟨vb, 0, none⟩ = some (.string x.name)) (hvb : vb < w.heap.size) :
    Calls Try.prog 84 #[.slice A n c, .func (.func 70) #[] #[.pointer (some ⟨vb, 0, none⟩)]] w fun e w' => (∃ r : Int, e = .returned (.int .i64 r) ∧ (0 ≤ r ↔ l.any (sameN x.name) = true)) ∧ Below w.heap.size w w' := by
  have hxl := hx.tlen
  have HX := Lib.hid hx
  have HXL := Lib.hid hxl
  have hent : ∀ (args : Array Value) (w : World), (callFunc 70 args).run Try.prog w = .ok (.enter 70 args) w := fun _ _ => by kernel_rfl
  clear hx hxl
  go_enter Try.func84, Try.ntmps84
  go_wp2
  go_loopw [8] (fun i wr => ∃ q : Nat, q ≤ n ∧ i = .int .i64 q ∧ (l.take q).any (sameN x.name) = false ∧ Below w.heap.size w wr) (fun i _ => n - (intOf i).toNat)
  case atStart => exact ⟨0, by omega, rfl, by simp, Below.refl _ _⟩
  case round =>
    obtain ⟨q, hq, rfl, ht, hb⟩ := hrel
    have HT := Lib.hid ht
    have HB := Lib.hid hb
    have hbs := hb.size
    clear ht hb
    by_cases hlt : q < n
    · obtain ⟨xb, xo, t, rfl, hxb, hr, c0, c1, c2, c3, c4, c5⟩ := ((HX.out.below HB.out).more hbs).tgt hlt
      have fv := (HB.out.cell (p := ⟨vb, 0, none⟩) hvb).trans hv
      have HR := Lib.hid hr
      clear hr
      obtain ⟨b, hb⟩ : ∃ b, sameN x.name t = b := ⟨_, rfl⟩
      have HP := Lib.hid hb
      clear hb
      go_wp2_with fail
      refine (next1_call t x vb b HP.out _ fv).mono ?_
      rintro e w' ⟨rfl, hb⟩
      have HB2 := Lib.hid (HB.out.trans (hb.mono hbs))
      clear hb c0 c1 c2 c3 c4 c5
      cases b
      · go_wp2
        go_roundw
        case rel => exact ⟨q + 1, by omega, by go_num, any_takeT HR.out HT.out HP.out, HB2.out⟩
        case measure => simp [intOf]; omega
      · go_wp2
        go_ret
        refine ⟨⟨_, rfl, ?_⟩, HB2.out⟩
        have : l.any (sameN x.name) = true := List.any_eq_true.2 ⟨t, List.mem_of_getElem? HR.out, HP.out⟩
        simp [this]
    · go_wp2
      go_ret
      refine ⟨⟨_, rfl, ?_⟩, HB.out⟩
      have ht := HT.out
      rw [List.take_of_length_le (by rw [HXL.out]; omega)] at ht
      rw [ht]
      simp
where
  any_takeT {α : Type} {pr : α → Bool} {l : List α} {k : Nat} {z : α} (hz : l[k]? = some z) (h : (l.take k).any pr = false) (hp : pr z = false) : (l.take (k + 1)).any pr = false := by
    rw [List.take_add_one, hz]
    simp [List.any_append, h, hp]

theorem containstgt_is (A : Option Addr) (n c vb : Nat) (l : List Tgt) (x : Tgt) (b : Bool) (hb : l.any (sameN x.name) = b) (w : World) (hx : Reads w w.heap.size 6 A n (tgtCells l)) (hn : n ≤ 9223372036854775807) (hv : w.cell? ⟨vb, 0, none⟩ = some (.string x.name)) (hvb : vb < w.heap.size) :
    Calls Try.prog 69 #[.slice A n c, .func (.func 70) #[] #[.pointer (some ⟨vb, 0, none⟩)]] w fun e w' => e = .returned (.bool b) ∧ Below w.heap.size w w' := by
  have HX := Lib.hid hx
  have HT := Lib.hid hb
  have HI := Lib.hid (indextgt_any A n c vb l x)
  have HV := Lib.hid hv
  clear hx hb hv
  go_enter Try.func69, Try.ntmps69
  go_wp2_with fail
  refine (HI.out w HX.out hn HV.out hvb).mono ?_
  rintro e w1 ⟨⟨r, rfl, hr⟩, hb⟩
  have HR := Lib.hid hr
  have HB := Lib.hid hb
  clear hr hb
  cases b with
  | false =>
    have h : ¬ 0 ≤ r := fun h => by have := HR.out.1 h; rw [HT.out] at this; cases this
    have h' : r < 0 := by omega
    go_wp2
    go_ret
    exact ⟨by first | rfl | (simp; done) | (simp; omega), HB.out⟩
  | true =>
    have h := HR.out.2 HT.out
    go_wp2
    go_ret
    exact ⟨by first | rfl | (simp; done) | (simp; omega), HB.out⟩

set_option maxRecDepth 100000 in
set_option maxHeartbeats 2000000 in
theorem pnext_is (A : Option Addr) (n c : Nat) (l : List Tgt) (t : Tgt) (E : Int) (hE : nextErr l t = E) (w : World) (hx : Reads w w.heap.size 6 A n (tgtCells l)) (hn : n ≤ 9223372036854775807) (hs : t.name.size ≤ maxLen) :
    Calls Try.prog 44 #[.slice A n c, t.val] w fun e w' => e = .returned (.int .i64 E) ∧ Below w.heap.size w w' := by
  have hmf : ∀ (fn : Fn) (first cap : Array Value) (w : World), (Instr.makeFunc fn first cap).run Try.prog w = .ok (.func fn first cap) w := fun _ _ _ _ => rfl
  obtain ⟨e1, he1⟩ : ∃ z, tgtErr t = z := ⟨_, rfl⟩
  unfold nextErr at hE
  rw [he1] at hE
  have H1 := Lib.hid he1
  unfold Tgt.val
  by_cases h0 : e1 = 0
  · rw [if_neg (by simp [h0])] at hE
    subst h0
    obtain ⟨b, hb⟩ : ∃ b, l.any (sameN t.name) = b := ⟨_, rfl⟩
    rw [hb] at hE
    have H2 := Lib.hid hb
    cases b with
    | false =>
      rw [if_neg (by simp)] at hE
      subst hE
      clear he1 hb
      go_enter Try.func44, Try.ntmps44
      have R0_0 := Lib.hid hx
      clear hx
      go_wp2_with fail
      refine (ptarget_is t 0 H1.out _ hs).mono ?_
      rintro e w1 ⟨rfl, hb⟩
      have HB1 := Lib.hid (show Below w.heap.size w w1 from step_below hb (by repeat' (first | exact Below.refl _ _ | exact HB0.out | refine below_drewN ?_ _ | refine Below.drew ?_ | refine Below.alloc ?_ (by first | omega | (simp; done) | (simp; omega) | (simp [World.setCell]; omega)) _ | refine Below.setCell ?_ (by first | omega | (simp; done) | (simp; omega)) _ | assumption)))
      have K0_1 := Lib.hid (step_blk hb (show Blk _ (w.heap.size) 62 #[.string t.name, .int .i64 (t.az), .int .i64 (t.ht), .int .i64 (t.fr), .int .i64 (t.to), .int .i64 (t.dw)] by repeat' (first | exact Blk.at_ _ (by first | rfl | (simp; done) | (simp; omega)) _ _ | refine Blk.drewN ?_ _ | refine Blk.drew ?_ | refine Blk.alloc ?_ _ | refine Blk.far ?_ (by first | omega | (simp; done) | (simp; omega)) _ | assumption)))
      have hL1 := Lib.hid (show Below w.heap.size w _ from reads_mid hb (by repeat' (first | exact Below.refl _ _ | refine below_drewN ?_ _ | refine Below.drew ?_ | refine Below.alloc ?_ (by first | omega | (simp; done) | (simp; omega) | (simp [World.setCell]; omega)) _ | refine Below.setCell ?_ (by first | omega | (simp; done) | (simp; omega)) _)))
      have R0_1 := Lib.hid (reads_lay hb hL1.out R0_0.out)
      clear hL1 R0_0
      have hz1 := hb.size
      try simp only [World.size_alloc, World.drewN, World.drew] at hz1
      clear hb
      have l0_1 : w.heap.size < w1.heap.size := K0_1.out.lt
      have z0_0_1 : w1.cell? ⟨w.heap.size, 0, none⟩ = some (.string t.name) := K0_1.out.cell 0
      have z0_1_1 : w1.cell? ⟨w.heap.size, 1, none⟩ = some (.int .i64 (t.az)) := K0_1.out.cell 1
      have z0_2_1 : w1.cell? ⟨w.heap.size, 2, none⟩ = some (.int .i64 (t.ht)) := K0_1.out.cell 2
      have z0_3_1 : w1.cell? ⟨w.heap.size, 3, none⟩ = some (.int .i64 (t.fr)) := K0_1.out.cell 3
      have z0_4_1 : w1.cell? ⟨w.heap.size, 4, none⟩ = some (.int .i64 (t.to)) := K0_1.out.cell 4
      have z0_5_1 : w1.cell? ⟨w.heap.size, 5, none⟩ = some (.int .i64 (t.dw)) := K0_1.out.cell 5
      go_wp2_with fail
      refine (containstgt_is A n c w.heap.size l t false H2.out _ R0_1.out hn z0_0_1 l0_1).mono ?_
      rintro e w2 ⟨rfl, hb⟩
      have HB2 := Lib.hid (show Below w.heap.size w w2 from step_below hb (by repeat' (first | exact Below.refl _ _ | exact HB1.out | refine below_drewN ?_ _ | refine Below.drew ?_ | refine Below.alloc ?_ (by first | omega | (simp; done) | (simp; omega) | (simp [World.setCell]; omega)) _ | refine Below.setCell ?_ (by first | omega | (simp; done) | (simp; omega)) _ | assumption)))
      have K0_2 := Lib.hid (step_blk hb (show Blk _ (w.heap.size) 62 #[.string t.name, .int .i64 (t.az), .int .i64 (t.ht), .int .i64 (t.fr), .int .i64 (t.to), .int .i64 (t.dw)] by repeat' (first | exact K0_1.out | exact Blk.at_ _ (by first | rfl | (simp; done) | (simp; omega)) _ _ | refine Blk.drewN ?_ _ | refine Blk.drew ?_ | refine Blk.alloc ?_ _ | refine Blk.far ?_ (by first | omega | (simp; done) | (simp; omega)) _ | assumption)))
      have hL2 := Lib.hid (show Below w1.heap.size w1 _ from reads_mid hb (by repeat' (first | exact Below.refl _ _ | refine below_drewN ?_ _ | refine Below.drew ?_ | refine Below.alloc ?_ (by first | omega | (simp; done) | (simp; omega) | (simp [World.setCell]; omega)) _ | refine Below.setCell ?_ (by first | omega | (simp; done) | (simp; omega)) _)))
      have R0_2 := Lib.hid (reads_lay hb hL2.out R0_1.out)
      clear hL2 R0_1
      have hz2 := hb.size
      try simp only [World.size_alloc, World.drewN, World.drew] at hz2
      clear hb K0_1 z0_0_1 z0_1_1 z0_2_1 z0_3_1 z0_4_1 z0_5_1 l0_1
      have l0_2 : w.heap.size < w2.heap.size := K0_2.out.lt
      have z0_0_2 : w2.cell? ⟨w.heap.size, 0, none⟩ = some (.string t.name) := K0_2.out.cell 0
      have z0_1_2 : w2.cell? ⟨w.heap.size, 1, none⟩ = some (.int .i64 (t.az)) := K0_2.out.cell 1
      have z0_2_2 : w2.cell? ⟨w.heap.size, 2, none⟩ = some (.int .i64 (t.ht)) := K0_2.out.cell 2
      have z0_3_2 : w2.cell? ⟨w.heap.size, 3, none⟩ = some (.int .i64 (t.fr)) := K0_2.out.cell 3
      have z0_4_2 : w2.cell? ⟨w.heap.size, 4, none⟩ = some (.int .i64 (t.to)) := K0_2.out.cell 4
      have z0_5_2 : w2.cell? ⟨w.heap.size, 5, none⟩ = some (.int .i64 (t.dw)) := K0_2.out.cell 5
      go_wp2
      go_ret
      exact ⟨rfl, HB2.out⟩
    | true =>
      rw [if_pos rfl] at hE
      subst hE
      clear he1 hb
      go_enter Try.func44, Try.ntmps44
      have R0_0 := Lib.hid hx
      clear hx
      go_wp2_with fail
      refine (ptarget_is t 0 H1.out _ hs).mono ?_
      rintro e w1 ⟨rfl, hb⟩
      have HB1 := Lib.hid (show Below w.heap.size w w1 from step_below hb (by repeat' (first | exact Below.refl _ _ | exact HB0.out | refine below_drewN ?_ _ | refine Below.drew ?_ | refine Below.alloc ?_ (by first | omega | (simp; done) | (simp; omega) | (simp [World.setCell]; omega)) _ | refine Below.setCell ?_ (by first | omega | (simp; done) | (simp; omega)) _ | assumption)))
      have K0_1 := Lib.hid (step_blk hb (show Blk _ (w.heap.size) 62 #[.string t.name, .int .i64 (t.az), .int .i64 (t.ht), .int .i64 (t.fr), .int .i64 (t.to), .int .i64 (t.dw)] by repeat' (first | exact Blk.at_ _ (by first | rfl | (simp; done) | (simp; omega)) _ _ | refine Blk.drewN ?_ _ | refine Blk.drew ?_ | refine Blk.alloc ?_ _ | refine Blk.far ?_ (by first | omega | (simp; done) | (simp; omega)) _ | assumption)))
      have hL1 := Lib.hid (show Below w.heap.size w _ from reads_mid hb (by repeat' (first | exact Below.refl _ _ | refine below_drewN ?_ _ | refine Below.drew ?_ | refine Below.alloc ?_ (by first | omega | (simp; done) | (simp; omega) | (simp [World.setCell]; omega)) _ | refine Below.setCell ?_ (by first | omega | (simp; done) | (simp; omega)) _)))
      have R0_1 := Lib.hid (reads_lay hb hL1.out R0_0.out)
      clear hL1 R0_0
      have hz1 := hb.size
      try simp only [World.size_alloc, World.drewN, World.drew] at hz1
      clear hb
      have l0_1 : w.heap.size < w1.heap.size := K0_1.out.lt
      have z0_0_1 : w1.cell? ⟨w.heap.size, 0, none⟩ = some (.string t.name) := K0_1.out.cell 0
      have z0_1_1 : w1.cell? ⟨w.heap.size, 1, none⟩ = some (.int .i64 (t.az)) := K0_1.out.cell 1
      have z0_2_1 : w1.cell? ⟨w.heap.size, 2, none⟩ = some (.int .i64 (t.ht)) := K0_1.out.cell 2
      have z0_3_1 : w1.cell? ⟨w.heap.size, 3, none⟩ = some (.int .i64 (t.fr)) := K0_1.out.cell 3
      have z0_4_1 : w1.cell? ⟨w.heap.size, 4, none⟩ = some (.int .i64 (t.to)) := K0_1.out.cell 4
      have z0_5_1 : w1.cell? ⟨w.heap.size, 5, none⟩ = some (.int .i64 (t.dw)) := K0_1.out.cell 5
      go_wp2_with fail
      refine (containstgt_is A n c w.heap.size l t true H2.out _ R0_1.out hn z0_0_1 l0_1).mono ?_
      rintro e w2 ⟨rfl, hb⟩
      have HB2 := Lib.hid (show Below w.heap.size w w2 from step_below hb (by repeat' (first | exact Below.refl _ _ | exact HB1.out | refine below_drewN ?_ _ | refine Below.drew ?_ | refine Below.alloc ?_ (by first | omega | (simp; done) | (simp; omega) | (simp [World.setCell]; omega)) _ | refine Below.setCell ?_ (by first | omega | (simp; done) | (simp; omega)) _ | assumption)))
      have K0_2 := Lib.hid (step_blk hb (show Blk _ (w.heap.size) 62 #[.string t.name, .int .i64 (t.az), .int .i64 (t.ht), .int .i64 (t.fr), .int .i64 (t.to), .int .i64 (t.dw)] by repeat' (first | exact K0_1.out | exact Blk.at_ _ (by first | rfl | (simp; done) | (simp; omega)) _ _ | refine Blk.drewN ?_ _ | refine Blk.drew ?_ | refine Blk.alloc ?_ _ | refine Blk.far ?_ (by first | omega | (simp; done) | (simp; omega)) _ | assumption)))
      have hL2 := Lib.hid (show Below w1.heap.size w1 _ from reads_mid hb (by repeat' (first | exact Below.refl _ _ | refine below_drewN ?_ _ | refine Below.drew ?_ | refine Below.alloc ?_ (by first | omega | (simp; done) | (simp; omega) | (simp [World.setCell]; omega)) _ | refine Below.setCell ?_ (by first | omega | (simp; done) | (simp; omega)) _)))
      have R0_2 := Lib.hid (reads_lay hb hL2.out R0_1.out)
      clear hL2 R0_1
      have hz2 := hb.size
      try simp only [World.size_alloc, World.drewN, World.drew] at hz2
      clear hb K0_1 z0_0_1 z0_1_1 z0_2_1 z0_3_1 z0_4_1 z0_5_1 l0_1
      have l0_2 : w.heap.size < w2.heap.size := K0_2.out.lt
      have z0_0_2 : w2.cell? ⟨w.heap.size, 0, none⟩ = some (.string t.name) := K0_2.out.cell 0
      have z0_1_2 : w2.cell? ⟨w.heap.size, 1, none⟩ = some (.int .i64 (t.az)) := K0_2.out.cell 1
      have z0_2_2 : w2.cell? ⟨w.heap.size, 2, none⟩ = some (.int .i64 (t.ht)) := K0_2.out.cell 2
      have z0_3_2 : w2.cell? ⟨w.heap.size, 3, none⟩ = some (.int .i64 (t.fr)) := K0_2.out.cell 3
      have z0_4_2 : w2.cell? ⟨w.heap.size, 4, none⟩ = some (.int .i64 (t.to)) := K0_2.out.cell 4
      have z0_5_2 : w2.cell? ⟨w.heap.size, 5, none⟩ = some (.int .i64 (t.dw)) := K0_2.out.cell 5
      go_wp2
      go_ret
      exact ⟨rfl, HB2.out⟩
  · rw [if_pos h0] at hE
    subst hE
    have e1' : (e1 != 0) = true := by simpa using h0
    clear he1 hx
    go_enter Try.func44, Try.ntmps44
    go_wp2_with fail
    refine (ptarget_is t e1 H1.out _ hs).mono ?_
    rintro e w1 ⟨rfl, hb⟩
    have HB1 := Lib.hid (show Below w.heap.size w w1 from step_below hb (by repeat' (first | exact Below.refl _ _ | exact HB0.out | refine below_drewN ?_ _ | refine Below.drew ?_ | refine Below.alloc ?_ (by first | omega | (simp; done) | (simp; omega) | (simp [World.setCell]; omega)) _ | refine Below.setCell ?_ (by first | omega | (simp; done) | (simp; omega)) _ | assumption)))
    have K0_1 := Lib.hid (step_blk hb (show Blk _ (w.heap.size) 62 #[.string t.name, .int .i64 (t.az), .int .i64 (t.ht), .int .i64 (t.fr), .int .i64 (t.to), .int .i64 (t.dw)] by repeat' (first | exact Blk.at_ _ (by first | rfl | (simp; done) | (simp; omega)) _ _ | refine Blk.drewN ?_ _ | refine Blk.drew ?_ | refine Blk.alloc ?_ _ | refine Blk.far ?_ (by first | omega | (simp; done) | (simp; omega)) _ | assumption)))
    have hz1 := hb.size
    try simp only [World.size_alloc, World.drewN, World.drew] at hz1
    clear hb
    have l0_1 : w.heap.size < w1.heap.size := K0_1.out.lt
    have z0_0_1 : w1.cell? ⟨w.heap.size, 0, none⟩ = some (.string t.name) := K0_1.out.cell 0
    have z0_1_1 : w1.cell? ⟨w.heap.size, 1, none⟩ = some (.int .i64 (t.az)) := K0_1.out.cell 1
    have z0_2_1 : w1.cell? ⟨w.heap.size, 2, none⟩ = some (.int .i64 (t.ht)) := K0_1.out.cell 2
    have z0_3_1 : w1.cell? ⟨w.heap.size, 3, none⟩ = some (.int .i64 (t.fr)) := K0_1.out.cell 3
    have z0_4_1 : w1.cell? ⟨w.heap.size, 4, none⟩ = some (.int .i64 (t.to)) := K0_1.out.cell 4
    have z0_5_1 : w1.cell? ⟨w.heap.size, 5, none⟩ = some (.int .i64 (t.dw)) := K0_1.out.cell 5
    go_wp2
    go_ret
    exact ⟨rfl, HB1.out⟩

end Go.Proofs.Ytclnffpfbngjoaa

end
