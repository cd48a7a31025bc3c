import Derived.Test.YtclnffpfbngjoaaQ10
import Derived.Test.YtclnffpfbngjoaaQ11

section
/- The contract of the turns of a target. -/
namespace Go.Proofs.Ytclnffpfbngjoaa
open Go Go.RowKit

def turnB (ls ms X k : Int) : Bool := decide (ls ≤ X + k * 1296000) && decide (X + k * 1296000 ≤ ms)
/-- The turns from -21 on, so many numbers of them looked at. -/
def turnsTo (ls ms X : Int) (n : Nat) : List Int := ((List.range n).map fun (i : Nat) => (i : Int) - 21).filter (turnB ls ms X)
theorem turnsTo_succ (ls ms X : Int) (n : Nat) : turnsTo ls ms X (n + 1) = turnsTo ls ms X n ++ if turnB ls ms X ((n : Int) - 21) then [(n : Int) - 21] else [] := by
  unfold turnsTo
  rw [List.range_succ, List.map_append, List.filter_append]
  congr 1
  simp only [List.map_cons, List.map_nil, List.filter_cons, List.filter_nil]
theorem turnsTo_yes {ls ms X : Int} {n : Nat} (h : turnB ls ms X ((n : Int) - 21) = true) : turnsTo ls ms X (n + 1) = turnsTo ls ms X n ++ [(n : Int) - 21] := by rw [turnsTo_succ, if_pos h]
theorem turnsTo_no {ls ms X : Int} {n : Nat} (h : turnB ls ms X ((n : Int) - 21) = false) : turnsTo ls ms X (n + 1) = turnsTo ls ms X n := by rw [turnsTo_succ, if_neg (by rw [h]; simp), List.append_nil]
theorem turnsTo_low {ls ms X : Int} : ∀ (n : Nat), (∀ i : Nat, i < n → X + ((i : Int) - 21) * 1296000 < ls) → turnsTo ls ms X n = []
  | 0, _ => rfl
  | n + 1, h => by
    have := h n (by omega)
    rw [turnsTo_no (by unfold turnB; rw [decide_eq_false (by omega)]; rfl), turnsTo_low n fun i hi => h i (by omega)]
theorem turnsTo_high {ls ms X : Int} {n : Nat} : ∀ (d : Nat), (∀ i : Nat, n ≤ i → i < n + d → ms < X + ((i : Int) - 21) * 1296000) → turnsTo ls ms X (n + d) = turnsTo ls ms X n
  | 0, _ => rfl
  | d + 1, h => by
    have := h (n + d) (by omega) (by omega)
    rw [show n + (d + 1) = (n + d) + 1 by omega, turnsTo_no (by unfold turnB; rw [decide_eq_false (p := X + _ ≤ ms) (by omega)]; simp), turnsTo_high d fun i h1 h2 => h i h1 (by omega)]
theorem turnsTo_len (ls ms X : Int) (n : Nat) : (turnsTo ls ms X n).length ≤ n := by
  unfold turnsTo
  exact Nat.le_trans (List.length_filter_le _ _) (by simp)
def turnsL (ls ms X : Int) : List Int := turnsTo ls ms X 43
/-- The turns of a target of which the apparent place is known, and the error. -/
def turnsAt (m : Mnt) (X Y : Int) : List Int × Int := if withinB Y m.lo m.hi = false then ([], 26) else if turnsL m.ls m.ms X = [] then ([], 12) else (turnsL m.ls m.ms X, 0)
def turnsF (m : Mnt) (t : Tgt) (day : Int) : List Int × Int := turnsAt m (appF m t day).1 (appF m t day).2
def posL (X : Int) (l : List Int) : List Int := l.map fun k => X + k * 1296000

def TurnsPost (X : Int) (L : List Int) (E : Int) (n : Nat) (w : World) (e : Ending) (w' : World) : Prop :=
  ∃ A c A' c', e = .returned (.tuple #[.slice A n c, .slice A' n c', .int .i64 E]) ∧ Below w.heap.size w w' ∧ w'.ownsRow w.heap.size 3 1 (.slice A n c) n (L.map (.int .i64)) ∧ w'.ownsRow w.heap.size 3 1 (.slice A' n c') n ((posL X L).map (.int .i64))
theorem TurnsPost.mk' {X : Int} {L : List Int} {E : Int} {n : Nat} {w w' : World} {e : Ending} {A : Option Addr} {c : Nat} {A' : Option Addr} {c' : Nat} (h1 : e = .returned (.tuple #[.slice A n c, .slice A' n c', .int .i64 E])) (h2 : Below w.heap.size w w') (h3 : w'.ownsRow w.heap.size 3 1 (.slice A n c) n (L.map (.int .i64))) (h4 : w'.ownsRow w.heap.size 3 1 (.slice A' n c') n ((posL X L).map (.int .i64))) : TurnsPost X L E n w e w' := ⟨A, c, A', c', h1, h2, h3, h4⟩

set_option maxRecDepth 100000 in
set_option maxHeartbeats 4000000 in
theorem pturns_is (m : Mnt) (t : Tgt) (day X Y : Int) (L : List Int) (E : Int) (n : Nat) (hA : appF m t day = (X, Y)) (hE : turnsAt m X Y = (L, E)) (hn : L.length = n) (w : World) (hx : MntAt m w) (hm : mntErr m = 0) (ht : tgtErr t = 0) (hd : dayErr day = 0) :
    Calls Try.prog 45 #[m.val, t.val, .int .i64 day] w (TurnsPost X L E n w) := by
  obtain ⟨⟨l1, l2, l3, l4⟩, -, l5, -, -, -⟩ := mnt_right hm
  have hap := app_in (day := day) hm ht
  rw [hA] at hap
  obtain ⟨x1, x2, y1, y2⟩ := hap
  simp only at x1 x2 y1 y2
  have HM := Lib.hid hm
  have HT := Lib.hid ht
  have HD := Lib.hid hd
  have HX := Lib.hid hx
  have HA := Lib.hid hA
  clear hm ht hd hx hA
  unfold turnsAt at hE
  cases hw : withinB Y m.lo m.hi with
  | false =>
    rw [if_pos hw] at hE
    cases hE
    obtain rfl : n = 0 := by simpa using hn.symm
    have HW := Lib.hid hw
    clear hw hn
    unfold Mnt.val Tgt.val
    try dsimp only
    go_enter Try.func45, Try.ntmps45
    go_wp2_with fail
    refine (papparent_is m t day X Y HA.out _ (HX.out.lay (by repeat' (first | exact Below.refl _ _ | refine below_drewN ?_ _ | refine Below.drew ?_ | refine Below.alloc ?_ (by first | omega | (simp; done) | (simp; omega) | (simp [World.setCell]; omega)) _ | refine Below.setCell ?_ (by first | omega | (simp; done) | (simp; omega)) _))) HM.out HT.out HD.out).mono ?_
    rintro e w1 ⟨rfl, hb⟩
    have HB1 := Lib.hid (show Below w.heap.size w w1 from step_below hb (by repeat' (first | exact Below.refl _ _ | exact HB0.out | refine below_drewN ?_ _ | refine Below.drew ?_ | refine Below.alloc ?_ (by first | omega | (simp; done) | (simp; omega) | (simp [World.setCell]; omega)) _ | refine Below.setCell ?_ (by first | omega | (simp; done) | (simp; omega)) _ | assumption)))
    have K0_1 := Lib.hid (step_blk hb (show Blk _ (w.heap.size) 24 #[.int .i64 (m.ls), .int .i64 (m.ms), .int .i64 (m.lo), .int .i64 (m.hi), .int .i64 (m.sp), .slice m.A1 m.n1 m.c1, .slice m.A2 m.n2 m.c2] by repeat' (first | exact Blk.at_ _ (by first | rfl | (simp; done) | (simp; omega)) _ _ | refine Blk.drewN ?_ _ | refine Blk.drew ?_ | refine Blk.alloc ?_ _ | refine Blk.far ?_ (by first | omega | (simp; done) | (simp; omega)) _ | assumption)))
    have K1_1 := Lib.hid (step_blk hb (show Blk _ (w.heap.size + 1) 62 #[.string t.name, .int .i64 (t.az), .int .i64 (t.ht), .int .i64 (t.fr), .int .i64 (t.to), .int .i64 (t.dw)] by repeat' (first | exact Blk.at_ _ (by first | rfl | (simp; done) | (simp; omega)) _ _ | refine Blk.drewN ?_ _ | refine Blk.drew ?_ | refine Blk.alloc ?_ _ | refine Blk.far ?_ (by first | omega | (simp; done) | (simp; omega)) _ | assumption)))
    have hz1 := hb.size
    try simp only [World.size_alloc, World.drewN, World.drew] at hz1
    clear hb
    have l0_1 : w.heap.size < w1.heap.size := K0_1.out.lt
    have z0_0_1 : w1.cell? ⟨w.heap.size, 0, none⟩ = some (.int .i64 (m.ls)) := K0_1.out.cell 0
    have z0_1_1 : w1.cell? ⟨w.heap.size, 1, none⟩ = some (.int .i64 (m.ms)) := K0_1.out.cell 1
    have z0_2_1 : w1.cell? ⟨w.heap.size, 2, none⟩ = some (.int .i64 (m.lo)) := K0_1.out.cell 2
    have z0_3_1 : w1.cell? ⟨w.heap.size, 3, none⟩ = some (.int .i64 (m.hi)) := K0_1.out.cell 3
    have z0_4_1 : w1.cell? ⟨w.heap.size, 4, none⟩ = some (.int .i64 (m.sp)) := K0_1.out.cell 4
    have z0_5_1 : w1.cell? ⟨w.heap.size, 5, none⟩ = some (.slice m.A1 m.n1 m.c1) := K0_1.out.cell 5
    have z0_6_1 : w1.cell? ⟨w.heap.size, 6, none⟩ = some (.slice m.A2 m.n2 m.c2) := K0_1.out.cell 6
    have l1_1 : w.heap.size + 1 < w1.heap.size := K1_1.out.lt
    have z1_0_1 : w1.cell? ⟨w.heap.size + 1, 0, none⟩ = some (.string t.name) := K1_1.out.cell 0
    have z1_1_1 : w1.cell? ⟨w.heap.size + 1, 1, none⟩ = some (.int .i64 (t.az)) := K1_1.out.cell 1
    have z1_2_1 : w1.cell? ⟨w.heap.size + 1, 2, none⟩ = some (.int .i64 (t.ht)) := K1_1.out.cell 2
    have z1_3_1 : w1.cell? ⟨w.heap.size + 1, 3, none⟩ = some (.int .i64 (t.fr)) := K1_1.out.cell 3
    have z1_4_1 : w1.cell? ⟨w.heap.size + 1, 4, none⟩ = some (.int .i64 (t.to)) := K1_1.out.cell 4
    have z1_5_1 : w1.cell? ⟨w.heap.size + 1, 5, none⟩ = some (.int .i64 (t.dw)) := K1_1.out.cell 5
    go_wp2_with fail
    refine (withinpt_is _ _ _ _ HW.out _).mono ?_
    rintro e w' ⟨rfl, rfl⟩
    go_wp2
    go_ret3
    exact TurnsPost.mk' (A := none) (c := 0) (A' := none) (c' := 0) rfl (HB1.out.alloc (by omega) _) (World.ownsRow_nil _ _ _ _) (World.ownsRow_nil _ _ _ _)
  | true =>
  rw [if_neg (by rw [hw]; simp)] at hE
  obtain ⟨C, hC⟩ : ∃ C, -((-(m.ls - X)) / 1296000) = C := ⟨_, rfl⟩
  have hc1 : (C - 1) * 1296000 < m.ls - X ∧ m.ls - X ≤ C * 1296000 := by omega
  obtain ⟨hc1, hc2⟩ := hc1
  obtain ⟨q0, hq0⟩ : ∃ q0 : Nat, C = (q0 : Int) - 21 := ⟨(C + 21).toNat, by omega⟩
  have hceil : ∀ w, Calls Try.prog 72 #[.int .i64 (m.ls - X), .int .i64 1296000] w fun e w' => e = .returned (.int .i64 ((q0 : Int) - 21)) ∧ w = w' := fun w => by
    have := ceilpt_any (m.ls - X) 1296000 w (by omega) (by omega) (by omega) (by omega)
    rwa [hC, hq0] at this
  have HCE := Lib.hid hceil
  rw [hq0] at hc1 hc2
  have HST : Hid (turnsTo m.ls m.ms X q0 = []) := turnsTo_low q0 fun i hi => by omega
  have HE := Lib.hid hE
  have HW := Lib.hid hw
  have HN := Lib.hid hn
  have hq1 : q0 ≤ 43 := by omega
  clear hw hE hC hq0 hceil hn
  unfold Mnt.val Tgt.val
  try dsimp only
  go_enter Try.func45, Try.ntmps45
  go_wp2_with fail
  refine (papparent_is m t day X Y HA.out _ (HX.out.lay (by repeat' (first | exact Below.refl _ _ | refine below_drewN ?_ _ | refine Below.drew ?_ | refine Below.alloc ?_ (by first | omega | (simp; done) | (simp; omega) | (simp [World.setCell]; omega)) _ | refine Below.setCell ?_ (by first | omega | (simp; done) | (simp; omega)) _))) HM.out HT.out HD.out).mono ?_
  rintro e w1 ⟨rfl, hb⟩
  have HB1 := Lib.hid (show Below w.heap.size w w1 from step_below hb (by repeat' (first | exact Below.refl _ _ | exact HB0.out | refine below_drewN ?_ _ | refine Below.drew ?_ | refine Below.alloc ?_ (by first | omega | (simp; done) | (simp; omega) | (simp [World.setCell]; omega)) _ | refine Below.setCell ?_ (by first | omega | (simp; done) | (simp; omega)) _ | assumption)))
  have K0_1 := Lib.hid (step_blk hb (show Blk _ (w.heap.size) 24 #[.int .i64 (m.ls), .int .i64 (m.ms), .int .i64 (m.lo), .int .i64 (m.hi), .int .i64 (m.sp), .slice m.A1 m.n1 m.c1, .slice m.A2 m.n2 m.c2] by repeat' (first | exact Blk.at_ _ (by first | rfl | (simp; done) | (simp; omega)) _ _ | refine Blk.drewN ?_ _ | refine Blk.drew ?_ | refine Blk.alloc ?_ _ | refine Blk.far ?_ (by first | omega | (simp; done) | (simp; omega)) _ | assumption)))
  have K1_1 := Lib.hid (step_blk hb (show Blk _ (w.heap.size + 1) 62 #[.string t.name, .int .i64 (t.az), .int .i64 (t.ht), .int .i64 (t.fr), .int .i64 (t.to), .int .i64 (t.dw)] by repeat' (first | exact Blk.at_ _ (by first | rfl | (simp; done) | (simp; omega)) _ _ | refine Blk.drewN ?_ _ | refine Blk.drew ?_ | refine Blk.alloc ?_ _ | refine Blk.far ?_ (by first | omega | (simp; done) | (simp; omega)) _ | assumption)))
  have hz1 := hb.size
  try simp only [World.size_alloc, World.drewN, World.drew] at hz1
  clear hb
  have l0_1 : w.heap.size < w1.heap.size := K0_1.out.lt
  have z0_0_1 : w1.cell? ⟨w.heap.size, 0, none⟩ = some (.int .i64 (m.ls)) := K0_1.out.cell 0
  have z0_1_1 : w1.cell? ⟨w.heap.size, 1, none⟩ = some (.int .i64 (m.ms)) := K0_1.out.cell 1
  have z0_2_1 : w1.cell? ⟨w.heap.size, 2, none⟩ = some (.int .i64 (m.lo)) := K0_1.out.cell 2
  have z0_3_1 : w1.cell? ⟨w.heap.size, 3, none⟩ = some (.int .i64 (m.hi)) := K0_1.out.cell 3
  have z0_4_1 : w1.cell? ⟨w.heap.size, 4, none⟩ = some (.int .i64 (m.sp)) := K0_1.out.cell 4
  have z0_5_1 : w1.cell? ⟨w.heap.size, 5, none⟩ = some (.slice m.A1 m.n1 m.c1) := K0_1.out.cell 5
  have z0_6_1 : w1.cell? ⟨w.heap.size, 6, none⟩ = some (.slice m.A2 m.n2 m.c2) := K0_1.out.cell 6
  have l1_1 : w.heap.size + 1 < w1.heap.size := K1_1.out.lt
  have z1_0_1 : w1.cell? ⟨w.heap.size + 1, 0, none⟩ = some (.string t.name) := K1_1.out.cell 0
  have z1_1_1 : w1.cell? ⟨w.heap.size + 1, 1, none⟩ = some (.int .i64 (t.az)) := K1_1.out.cell 1
  have z1_2_1 : w1.cell? ⟨w.heap.size + 1, 2, none⟩ = some (.int .i64 (t.ht)) := K1_1.out.cell 2
  have z1_3_1 : w1.cell? ⟨w.heap.size + 1, 3, none⟩ = some (.int .i64 (t.fr)) := K1_1.out.cell 3
  have z1_4_1 : w1.cell? ⟨w.heap.size + 1, 4, none⟩ = some (.int .i64 (t.to)) := K1_1.out.cell 4
  have z1_5_1 : w1.cell? ⟨w.heap.size + 1, 5, none⟩ = some (.int .i64 (t.dw)) := K1_1.out.cell 5
  go_wp2_with fail
  refine (withinpt_is _ _ _ _ HW.out _).mono ?_
  rintro e w' ⟨rfl, rfl⟩
  go_wp2_with fail
  refine (HCE.out _).mono ?_
  rintro e w' ⟨rfl, rfl⟩
  generalize hwn : (w1.alloc (.cells #[.int .i64 (X), .int .i64 (Y)] 26)) = w2
  have hbn : Below w1.heap.size w1 w2 := by rw [← hwn]; repeat' (first | exact Below.refl _ _ | refine below_drewN ?_ _ | refine Below.drew ?_ | refine Below.alloc ?_ (by first | omega | (simp; done) | (simp; omega) | (simp [World.setCell]; omega)) _ | refine Below.setCell ?_ (by first | omega | (simp; done) | (simp; omega)) _)
  have HB2 := Lib.hid (show Below w.heap.size w w2 from HB1.out.trans (hbn.mono HB1.out.size))
  have K0_2 := Lib.hid (step_blk hbn K0_1.out)
  have K1_2 := Lib.hid (step_blk hbn K1_1.out)
  have K2_2 := Lib.hid (show Blk w2 (w1.heap.size) 26 #[.int .i64 (X), .int .i64 (Y)] by rw [← hwn]; repeat' (first | exact Blk.at_ _ (by first | rfl | (simp; done) | (simp; omega)) _ _ | refine Blk.drewN ?_ _ | refine Blk.drew ?_ | refine Blk.alloc ?_ _ | refine Blk.far ?_ (by first | omega | (simp; done) | (simp; omega)) _ | assumption))
  have HN2 := Lib.hid hbn
  have hz2 := hbn.size
  clear hwn hbn K0_1 l0_1 z0_0_1 z0_1_1 z0_2_1 z0_3_1 z0_4_1 z0_5_1 z0_6_1 K1_1 l1_1 z1_0_1 z1_1_1 z1_2_1 z1_3_1 z1_4_1 z1_5_1
  have l0_2 : w.heap.size < w2.heap.size := K0_2.out.lt
  have z0_0_2 : w2.cell? ⟨w.heap.size, 0, none⟩ = some (.int .i64 (m.ls)) := K0_2.out.cell 0
  have z0_1_2 : w2.cell? ⟨w.heap.size, 1, none⟩ = some (.int .i64 (m.ms)) := K0_2.out.cell 1
  have z0_2_2 : w2.cell? ⟨w.heap.size, 2, none⟩ = some (.int .i64 (m.lo)) := K0_2.out.cell 2
  have z0_3_2 : w2.cell? ⟨w.heap.size, 3, none⟩ = some (.int .i64 (m.hi)) := K0_2.out.cell 3
  have z0_4_2 : w2.cell? ⟨w.heap.size, 4, none⟩ = some (.int .i64 (m.sp)) := K0_2.out.cell 4
  have z0_5_2 : w2.cell? ⟨w.heap.size, 5, none⟩ = some (.slice m.A1 m.n1 m.c1) := K0_2.out.cell 5
  have z0_6_2 : w2.cell? ⟨w.heap.size, 6, none⟩ = some (.slice m.A2 m.n2 m.c2) := K0_2.out.cell 6
  have l1_2 : w.heap.size + 1 < w2.heap.size := K1_2.out.lt
  have z1_0_2 : w2.cell? ⟨w.heap.size + 1, 0, none⟩ = some (.string t.name) := K1_2.out.cell 0
  have z1_1_2 : w2.cell? ⟨w.heap.size + 1, 1, none⟩ = some (.int .i64 (t.az)) := K1_2.out.cell 1
  have z1_2_2 : w2.cell? ⟨w.heap.size + 1, 2, none⟩ = some (.int .i64 (t.ht)) := K1_2.out.cell 2
  have z1_3_2 : w2.cell? ⟨w.heap.size + 1, 3, none⟩ = some (.int .i64 (t.fr)) := K1_2.out.cell 3
  have z1_4_2 : w2.cell? ⟨w.heap.size + 1, 4, none⟩ = some (.int .i64 (t.to)) := K1_2.out.cell 4
  have z1_5_2 : w2.cell? ⟨w.heap.size + 1, 5, none⟩ = some (.int .i64 (t.dw)) := K1_2.out.cell 5
  have l2_2 : w1.heap.size < w2.heap.size := K2_2.out.lt
  have z2_0_2 : w2.cell? ⟨w1.heap.size, 0, none⟩ = some (.int .i64 (X)) := K2_2.out.cell 0
  have z2_1_2 : w2.cell? ⟨w1.heap.size, 1, none⟩ = some (.int .i64 (Y)) := K2_2.out.cell 1
  go_wp2
  go_loopw [6, 7, 10] (fun v6 v7 i wr => ∃ q : Nat, q0 ≤ q ∧ q ≤ 43 ∧ i = .int .i64 ((q : Int) - 21) ∧ Below w2.heap.size w2 wr ∧ wr.ownsRow w2.heap.size 3 1 v6 (turnsTo m.ls m.ms X q).length ((turnsTo m.ls m.ms X q).map (.int .i64)) ∧ wr.ownsRow w2.heap.size 3 1 v7 (turnsTo m.ls m.ms X q).length ((posL X (turnsTo m.ls m.ms X q)).map (.int .i64)) ∧ (∀ b, v6.ownBlock = some b → v7.ownBlock ≠ some b)) (fun _ _ i _ => (43 - intOf i).toNat)
  case atStart => exact ⟨q0, Nat.le_refl _, hq1, rfl, Below.refl _ _, by rw [HST.out]; exact World.ownsRow_nil _ _ _ _, by rw [HST.out]; exact World.ownsRow_nil _ _ _ _, fun b h => by cases h⟩
  case round =>
    obtain ⟨q, hq, hq43, rfl, hb, ho6, ho7, hsep⟩ := hrel
    obtain ⟨w3, hnm⟩ : ∃ z : World, z = wr := ⟨_, rfl⟩
    subst hnm
    have hk0 := Blk.below K0_2.out hb l0_2
    have hk2 := Blk.below K2_2.out hb l2_2
    have hbs := hb.size
    have HBW := Lib.hid hb
    have hb' := step_below hb HB2.out
    have HB3 := Lib.hid hb'
    have K0_3 := Lib.hid (show Blk w3 (w.heap.size) 24 #[.int .i64 (m.ls), .int .i64 (m.ms), .int .i64 (m.lo), .int .i64 (m.hi), .int .i64 (m.sp), .slice m.A1 m.n1 m.c1, .slice m.A2 m.n2 m.c2] from hk0)
    have K1_3 := Lib.hid (show Blk w3 (w1.heap.size) 26 #[.int .i64 (X), .int .i64 (Y)] from hk2)
    clear hb' hk0 hk2
    have l0_3 : w.heap.size < w3.heap.size := K0_3.out.lt
    have z0_0_3 : w3.cell? ⟨w.heap.size, 0, none⟩ = some (.int .i64 (m.ls)) := K0_3.out.cell 0
    have z0_1_3 : w3.cell? ⟨w.heap.size, 1, none⟩ = some (.int .i64 (m.ms)) := K0_3.out.cell 1
    have z0_2_3 : w3.cell? ⟨w.heap.size, 2, none⟩ = some (.int .i64 (m.lo)) := K0_3.out.cell 2
    have z0_3_3 : w3.cell? ⟨w.heap.size, 3, none⟩ = some (.int .i64 (m.hi)) := K0_3.out.cell 3
    have z0_4_3 : w3.cell? ⟨w.heap.size, 4, none⟩ = some (.int .i64 (m.sp)) := K0_3.out.cell 4
    have z0_5_3 : w3.cell? ⟨w.heap.size, 5, none⟩ = some (.slice m.A1 m.n1 m.c1) := K0_3.out.cell 5
    have z0_6_3 : w3.cell? ⟨w.heap.size, 6, none⟩ = some (.slice m.A2 m.n2 m.c2) := K0_3.out.cell 6
    have l1_3 : w1.heap.size < w3.heap.size := K1_3.out.lt
    have z1_0_3 : w3.cell? ⟨w1.heap.size, 0, none⟩ = some (.int .i64 (X)) := K1_3.out.cell 0
    have z1_1_3 : w3.cell? ⟨w1.heap.size, 1, none⟩ = some (.int .i64 (Y)) := K1_3.out.cell 1
    clear hb
    by_cases hle : X + ((q : Int) - 21) * 1296000 ≤ m.ms
    · have hyes : turnB m.ls m.ms X ((q : Int) - 21) = true := by unfold turnB; rw [decide_eq_true hle, decide_eq_true (by omega)]; rfl
      have HY := Lib.hid (turnsTo_yes hyes)
      have hlen := turnsTo_len m.ls m.ms X q
      obtain ⟨N, hN⟩ : ∃ N, (turnsTo m.ls m.ms X q).length = N := ⟨_, rfl⟩
      rw [hN] at ho6 ho7 hlen
      have HNN := Lib.hid hN
      have H6 := Lib.hid ho6
      have H7 := Lib.hid ho7
      have HS := Lib.hid hsep
      have hne6 : u6.ownBlock ≠ some w1.heap.size := fun e => by have := (own_lt ho6 e).1; omega
      have hne7 : u7.ownBlock ≠ some w1.heap.size := fun e => by have := (own_lt ho7 e).1; omega
      have v1 := IntWalk.i64_in (((q : Int) - 21) * 1296000) ⟨by omega, by omega⟩
      have v2 := IntWalk.i64_in (X + ((q : Int) - 21) * 1296000) ⟨by omega, by omega⟩
      clear hyes hN ho6 ho7 hsep
      go_wp2
      obtain ⟨hownA, hownB, hsepAB⟩ := (⟨H6.out, H7.out, HS.out⟩ : _ ∧ _ ∧ _)
      apply share5 (Fact := fun (x1 y x2 z : Pick) (wz : World) => ∃ g, g 3 = some y ∧ g 11 = some z ∧ Ap (w2.heap.size) 3 3 (u6) (u7) (N) (N) ((turnsTo m.ls m.ms X q).map (.int .i64)) ((posL X (turnsTo m.ls m.ms X q)).map (.int .i64)) (.int .i64 ((q : Int) - 21)) (.int .i64 (X + ((q : Int) - 21) * 1296000)) 2 3 10 11 _ g wz)
      · skip
        intro key
        refine Fx.regionM (fun W g f w' => Ap (w2.heap.size) 3 3 (u6) (u7) (N) (N) ((turnsTo m.ls m.ms X q).map (.int .i64)) ((posL X (turnsTo m.ls m.ms X q)).map (.int .i64)) (.int .i64 ((q : Int) - 21)) (.int .i64 (X + ((q : Int) - 21) * 1296000)) 2 3 10 11 W g w') (fun i (x : Pick) => if i = 2 ∨ i = 10 then .slice x.1 1 1 else if i = 3 then .slice x.1 (N + 1) x.2 else .slice x.1 (N + 1) x.2) (by kernel_rfl) ?_ ?_
        · intro f hf0
          exact Ap.start hownA hownB hsepAB 1
        first
        | (refine Fx.WM.skip 0 (by rfl) (by kernel_rfl) (by kernel_rfl) (by kernel_rfl) (by rfl) (fun g f w h => h) ?_; simp only [Act.put, List.setIfInBounds_toArray, List.set_cons_zero, List.set_cons_succ])
        | (refine Fx.WM.val_ 0 ?_ (by rfl) (by kernel_rfl) (by kernel_rfl) (by kernel_rfl) (by rfl) ?_ (fun g f w h => h) ?_
           rotate_left
           · intro g f w' hx hD hk
             obtain hap := id hD
             have y0 : w'.cell? ⟨w1.heap.size, 0, none⟩ = some (.int .i64 X) := (hap.blk K1_3.out hne6 hne7).cell 0
             clear hx hk hD hap
             go_simp
             try rfl
           simp only [Act.put, List.setIfInBounds_toArray, List.set_cons_zero, List.set_cons_succ])
        first
        | (refine Fx.WM.skip 1 (by rfl) (by kernel_rfl) (by kernel_rfl) (by kernel_rfl) (by rfl) (fun g f w h => h) ?_; simp only [Act.put, List.setIfInBounds_toArray, List.set_cons_zero, List.set_cons_succ])
        | (refine Fx.WM.val_ 1 ?_ (by rfl) (by kernel_rfl) (by kernel_rfl) (by kernel_rfl) (by rfl) ?_ (fun g f w h => h) ?_
           rotate_left
           · intro g f w' hx hD hk
             obtain hap := id hD
             have y0 : w'.cell? ⟨w1.heap.size, 0, none⟩ = some (.int .i64 X) := (hap.blk K1_3.out hne6 hne7).cell 0
             clear hx hk hD hap
             go_simp
             try rfl
           simp only [Act.put, List.setIfInBounds_toArray, List.set_cons_zero, List.set_cons_succ])
        first
        | (refine Fx.WM.skip 4 (by rfl) (by kernel_rfl) (by kernel_rfl) (by kernel_rfl) (by rfl) (fun g f w h => h) ?_; simp only [Act.put, List.setIfInBounds_toArray, List.set_cons_zero, List.set_cons_succ])
        | (refine Fx.WM.val_ 4 ?_ (by rfl) (by kernel_rfl) (by kernel_rfl) (by kernel_rfl) (by rfl) ?_ (fun g f w h => h) ?_
           rotate_left
           · intro g f w' hx hD hk
             obtain hap := id hD
             have y0 : w'.cell? ⟨w1.heap.size, 0, none⟩ = some (.int .i64 X) := (hap.blk K1_3.out hne6 hne7).cell 0
             clear hx hk hD hap
             go_simp
             try rfl
           simp only [Act.put, List.setIfInBounds_toArray, List.set_cons_zero, List.set_cons_succ])
        first
        | (refine Fx.WM.skip 5 (by rfl) (by kernel_rfl) (by kernel_rfl) (by kernel_rfl) (by rfl) (fun g f w h => h) ?_; simp only [Act.put, List.setIfInBounds_toArray, List.set_cons_zero, List.set_cons_succ])
        | (refine Fx.WM.val_ 5 ?_ (by rfl) (by kernel_rfl) (by kernel_rfl) (by kernel_rfl) (by rfl) ?_ (fun g f w h => h) ?_
           rotate_left
           · intro g f w' hx hD hk
             obtain hap := id hD
             have y0 : w'.cell? ⟨w1.heap.size, 0, none⟩ = some (.int .i64 X) := (hap.blk K1_3.out hne6 hne7).cell 0
             clear hx hk hD hap
             go_simp
             try rfl
           simp only [Act.put, List.setIfInBounds_toArray, List.set_cons_zero, List.set_cons_succ])
        first
        | (refine Fx.WM.skip 6 (by rfl) (by kernel_rfl) (by kernel_rfl) (by kernel_rfl) (by rfl) (fun g f w h => h) ?_; simp only [Act.put, List.setIfInBounds_toArray, List.set_cons_zero, List.set_cons_succ])
        | (refine Fx.WM.val_ 6 ?_ (by rfl) (by kernel_rfl) (by kernel_rfl) (by kernel_rfl) (by rfl) ?_ (fun g f w h => h) ?_
           rotate_left
           · intro g f w' hx hD hk
             obtain hap := id hD
             have y0 : w'.cell? ⟨w1.heap.size, 0, none⟩ = some (.int .i64 X) := (hap.blk K1_3.out hne6 hne7).cell 0
             clear hx hk hD hap
             go_simp
             try rfl
           simp only [Act.put, List.setIfInBounds_toArray, List.set_cons_zero, List.set_cons_succ])
        first
        | (refine Fx.WM.skip 7 (by rfl) (by kernel_rfl) (by kernel_rfl) (by kernel_rfl) (by rfl) (fun g f w h => h) ?_; simp only [Act.put, List.setIfInBounds_toArray, List.set_cons_zero, List.set_cons_succ])
        | (refine Fx.WM.val_ 7 ?_ (by rfl) (by kernel_rfl) (by kernel_rfl) (by kernel_rfl) (by rfl) ?_ (fun g f w h => h) ?_
           rotate_left
           · intro g f w' hx hD hk
             obtain hap := id hD
             have y0 : w'.cell? ⟨w1.heap.size, 0, none⟩ = some (.int .i64 X) := (hap.blk K1_3.out hne6 hne7).cell 0
             clear hx hk hD hap
             go_simp
             try rfl
           simp only [Act.put, List.setIfInBounds_toArray, List.set_cons_zero, List.set_cons_succ])
        first
        | (refine Fx.WM.skip 8 (by rfl) (by kernel_rfl) (by kernel_rfl) (by kernel_rfl) (by rfl) (fun g f w h => h) ?_; simp only [Act.put, List.setIfInBounds_toArray, List.set_cons_zero, List.set_cons_succ])
        | (refine Fx.WM.val_ 8 ?_ (by rfl) (by kernel_rfl) (by kernel_rfl) (by kernel_rfl) (by rfl) ?_ (fun g f w h => h) ?_
           rotate_left
           · intro g f w' hx hD hk
             obtain hap := id hD
             have y0 : w'.cell? ⟨w1.heap.size, 0, none⟩ = some (.int .i64 X) := (hap.blk K1_3.out hne6 hne7).cell 0
             clear hx hk hD hap
             go_simp
             try rfl
           simp only [Act.put, List.setIfInBounds_toArray, List.set_cons_zero, List.set_cons_succ])
        first
        | (refine Fx.WM.skip 9 (by rfl) (by kernel_rfl) (by kernel_rfl) (by kernel_rfl) (by rfl) (fun g f w h => h) ?_; simp only [Act.put, List.setIfInBounds_toArray, List.set_cons_zero, List.set_cons_succ])
        | (refine Fx.WM.val_ 9 ?_ (by rfl) (by kernel_rfl) (by kernel_rfl) (by kernel_rfl) (by rfl) ?_ (fun g f w h => h) ?_
           rotate_left
           · intro g f w' hx hD hk
             obtain hap := id hD
             have y0 : w'.cell? ⟨w1.heap.size, 0, none⟩ = some (.int .i64 X) := (hap.blk K1_3.out hne6 hne7).cell 0
             clear hx hk hD hap
             go_simp
             try rfl
           simp only [Act.put, List.setIfInBounds_toArray, List.set_cons_zero, List.set_cons_succ])
        refine Fx.WM.choose2 2 10 (by rfl) (by rfl) (by kernel_rfl) (by rfl) (by rfl) ?_ ?_ ?_ ?_
        · skip
          refine Fx.Chooses.make (by rfl) ?_
          intro f w' hD hk
          refine ⟨(some ⟨w'.heap.size, 0, none⟩, 0), w'.alloc (.cells #[.int .i64 ((q : Int) - 21)] 3), ?_, ?_⟩
          · clear hk hD
            go_simp
            try rfl
          · exact hD.lit (by decide) (by decide) (by decide)
        · skip
          refine Fx.Chooses.make (by rfl) ?_
          intro f w' hD hk
          refine ⟨(some ⟨w'.heap.size, 0, none⟩, 0), w'.alloc (.cells #[.int .i64 (X + ((q : Int) - 21) * 1296000)] 3), ?_, ?_⟩
          · clear hk hD
            go_simp
            try rfl
          · exact (hD.symm.lit (by decide) (by decide) (by decide)).symm
        · skip
          intro x1
          simp only [Act.put, List.setIfInBounds_toArray, List.set_cons_zero, List.set_cons_succ]
          refine Fx.WM.choose2 3 10 (by rfl) (by rfl) (by kernel_rfl) (by rfl) (by rfl) ?_ ?_ ?_ ?_
          · skip
            refine Fx.Chooses.make (by rfl) ?_
            intro f w' hD hk
            obtain ⟨y', w2', hrun, hD2⟩ := hD.app (P := Try.prog) (c := 1) Try.underlying31 info_int rfl rfl (by first | omega | assumption) (by unfold maxLen; omega) (by omega) (x := x1) (by rfl) (by rfl) (by decide) (by decide) (by decide)
            exact ⟨y', w2', exec_append _ _ _ rfl hrun, hD2⟩
          · skip
            refine Fx.Chooses.make (by rfl) ?_
            intro f w' hD hk
            refine ⟨(some ⟨w'.heap.size, 0, none⟩, 0), w'.alloc (.cells #[.int .i64 (X + ((q : Int) - 21) * 1296000)] 3), ?_, ?_⟩
            · clear hk hD
              go_simp
              try rfl
            · exact (hD.symm.lit (by decide) (by decide) (by decide)).symm
          · skip
            intro y
            simp only [Act.put, List.setIfInBounds_toArray, List.set_cons_zero, List.set_cons_succ]
            refine Fx.WM.choose 10 (by rfl) (by kernel_rfl) (by rfl) ?_ ?_
            · skip
              refine Fx.Chooses.make (by rfl) ?_
              intro f w' hD hk
              refine ⟨(some ⟨w'.heap.size, 0, none⟩, 0), w'.alloc (.cells #[.int .i64 (X + ((q : Int) - 21) * 1296000)] 3), ?_, ?_⟩
              · clear hk hD
                go_simp
                try rfl
              · exact (hD.symm.lit (by decide) (by decide) (by decide)).symm
            intro x2
            simp only [Act.put, List.setIfInBounds_toArray, List.set_cons_zero, List.set_cons_succ]
            refine Fx.WM.choose 11 (by rfl) (by kernel_rfl) (by rfl) ?_ ?_
            · skip
              refine Fx.Chooses.make (by rfl) ?_
              intro f w' hD hk
              obtain ⟨y', w2', hrun, hD2⟩ := hD.symm.app (P := Try.prog) (c := 1) Try.underlying31 info_int rfl rfl (by first | omega | assumption) (by unfold maxLen; omega) (by omega) (x := x2) (by rfl) (by rfl) (by decide) (by decide) (by decide)
              exact ⟨y', w2', exec_append _ _ _ rfl hrun, hD2.symm⟩
            intro z
            simp only [Act.put, List.setIfInBounds_toArray, List.set_cons_zero, List.set_cons_succ]
            first
            | (refine Fx.WM.skip 12 (by rfl) (by kernel_rfl) (by kernel_rfl) (by kernel_rfl) (by rfl) (fun g f w h => h) ?_; simp only [Act.put, List.setIfInBounds_toArray, List.set_cons_zero, List.set_cons_succ])
            | (refine Fx.WM.val_ 12 ?_ (by rfl) (by kernel_rfl) (by kernel_rfl) (by kernel_rfl) (by rfl) ?_ (fun g f w h => h) ?_
               rotate_left
               · intro g f w' hx hD hk
                 obtain hap := id hD
                 have y0 : w'.cell? ⟨w1.heap.size, 0, none⟩ = some (.int .i64 X) := (hap.blk K1_3.out hne6 hne7).cell 0
                 clear hx hk hD hap
                 go_simp
                 try rfl
               simp only [Act.put, List.setIfInBounds_toArray, List.set_cons_zero, List.set_cons_succ])
            first
            | (refine Fx.WM.skip 13 (by rfl) (by kernel_rfl) (by kernel_rfl) (by kernel_rfl) (by rfl) (fun g f w h => h) ?_; simp only [Act.put, List.setIfInBounds_toArray, List.set_cons_zero, List.set_cons_succ])
            | (refine Fx.WM.val_ 13 ?_ (by rfl) (by kernel_rfl) (by kernel_rfl) (by kernel_rfl) (by rfl) ?_ (fun g f w h => h) ?_
               rotate_left
               · intro g f w' hx hD hk
                 obtain hap := id hD
                 have y0 : w'.cell? ⟨w1.heap.size, 0, none⟩ = some (.int .i64 X) := (hap.blk K1_3.out hne6 hne7).cell 0
                 clear hx hk hD hap
                 go_simp
                 try rfl
               simp only [Act.put, List.setIfInBounds_toArray, List.set_cons_zero, List.set_cons_succ])
            refine Fx.WM.nil (by kernel_rfl) ?_
            intro wz hD
            exact key x1 y x2 z wz ⟨_, rfl, rfl, hD⟩
          · skip
            intro x2
            simp only [Act.put, List.setIfInBounds_toArray, List.set_cons_zero, List.set_cons_succ]
            refine Fx.WM.choose 3 (by rfl) (by kernel_rfl) (by rfl) ?_ ?_
            · skip
              refine Fx.Chooses.make (by rfl) ?_
              intro f w' hD hk
              obtain ⟨y', w2', hrun, hD2⟩ := hD.app (P := Try.prog) (c := 1) Try.underlying31 info_int rfl rfl (by first | omega | assumption) (by unfold maxLen; omega) (by omega) (x := x1) (by rfl) (by rfl) (by decide) (by decide) (by decide)
              exact ⟨y', w2', exec_append _ _ _ rfl hrun, hD2⟩
            intro y
            simp only [Act.put, List.setIfInBounds_toArray, List.set_cons_zero, List.set_cons_succ]
            refine Fx.WM.choose 11 (by rfl) (by kernel_rfl) (by rfl) ?_ ?_
            · skip
              refine Fx.Chooses.make (by rfl) ?_
              intro f w' hD hk
              obtain ⟨y', w2', hrun, hD2⟩ := hD.symm.app (P := Try.prog) (c := 1) Try.underlying31 info_int rfl rfl (by first | omega | assumption) (by unfold maxLen; omega) (by omega) (x := x2) (by rfl) (by rfl) (by decide) (by decide) (by decide)
              exact ⟨y', w2', exec_append _ _ _ rfl hrun, hD2.symm⟩
            intro z
            simp only [Act.put, List.setIfInBounds_toArray, List.set_cons_zero, List.set_cons_succ]
            first
            | (refine Fx.WM.skip 12 (by rfl) (by kernel_rfl) (by kernel_rfl) (by kernel_rfl) (by rfl) (fun g f w h => h) ?_; simp only [Act.put, List.setIfInBounds_toArray, List.set_cons_zero, List.set_cons_succ])
            | (refine Fx.WM.val_ 12 ?_ (by rfl) (by kernel_rfl) (by kernel_rfl) (by kernel_rfl) (by rfl) ?_ (fun g f w h => h) ?_
               rotate_left
               · intro g f w' hx hD hk
                 obtain hap := id hD
                 have y0 : w'.cell? ⟨w1.heap.size, 0, none⟩ = some (.int .i64 X) := (hap.blk K1_3.out hne6 hne7).cell 0
                 clear hx hk hD hap
                 go_simp
                 try rfl
               simp only [Act.put, List.setIfInBounds_toArray, List.set_cons_zero, List.set_cons_succ])
            first
            | (refine Fx.WM.skip 13 (by rfl) (by kernel_rfl) (by kernel_rfl) (by kernel_rfl) (by rfl) (fun g f w h => h) ?_; simp only [Act.put, List.setIfInBounds_toArray, List.set_cons_zero, List.set_cons_succ])
            | (refine Fx.WM.val_ 13 ?_ (by rfl) (by kernel_rfl) (by kernel_rfl) (by kernel_rfl) (by rfl) ?_ (fun g f w h => h) ?_
               rotate_left
               · intro g f w' hx hD hk
                 obtain hap := id hD
                 have y0 : w'.cell? ⟨w1.heap.size, 0, none⟩ = some (.int .i64 X) := (hap.blk K1_3.out hne6 hne7).cell 0
                 clear hx hk hD hap
                 go_simp
                 try rfl
               simp only [Act.put, List.setIfInBounds_toArray, List.set_cons_zero, List.set_cons_succ])
            refine Fx.WM.nil (by kernel_rfl) ?_
            intro wz hD
            exact key x1 y x2 z wz ⟨_, rfl, rfl, hD⟩
        · skip
          intro x2
          simp only [Act.put, List.setIfInBounds_toArray, List.set_cons_zero, List.set_cons_succ]
          refine Fx.WM.choose 2 (by rfl) (by kernel_rfl) (by rfl) ?_ ?_
          · skip
            refine Fx.Chooses.make (by rfl) ?_
            intro f w' hD hk
            refine ⟨(some ⟨w'.heap.size, 0, none⟩, 0), w'.alloc (.cells #[.int .i64 ((q : Int) - 21)] 3), ?_, ?_⟩
            · clear hk hD
              go_simp
              try rfl
            · exact hD.lit (by decide) (by decide) (by decide)
          intro x1
          simp only [Act.put, List.setIfInBounds_toArray, List.set_cons_zero, List.set_cons_succ]
          refine Fx.WM.choose 3 (by rfl) (by kernel_rfl) (by rfl) ?_ ?_
          · skip
            refine Fx.Chooses.make (by rfl) ?_
            intro f w' hD hk
            obtain ⟨y', w2', hrun, hD2⟩ := hD.app (P := Try.prog) (c := 1) Try.underlying31 info_int rfl rfl (by first | omega | assumption) (by unfold maxLen; omega) (by omega) (x := x1) (by rfl) (by rfl) (by decide) (by decide) (by decide)
            exact ⟨y', w2', exec_append _ _ _ rfl hrun, hD2⟩
          intro y
          simp only [Act.put, List.setIfInBounds_toArray, List.set_cons_zero, List.set_cons_succ]
          refine Fx.WM.choose 11 (by rfl) (by kernel_rfl) (by rfl) ?_ ?_
          · skip
            refine Fx.Chooses.make (by rfl) ?_
            intro f w' hD hk
            obtain ⟨y', w2', hrun, hD2⟩ := hD.symm.app (P := Try.prog) (c := 1) Try.underlying31 info_int rfl rfl (by first | omega | assumption) (by unfold maxLen; omega) (by omega) (x := x2) (by rfl) (by rfl) (by decide) (by decide) (by decide)
            exact ⟨y', w2', exec_append _ _ _ rfl hrun, hD2.symm⟩
          intro z
          simp only [Act.put, List.setIfInBounds_toArray, List.set_cons_zero, List.set_cons_succ]
          first
          | (refine Fx.WM.skip 12 (by rfl) (by kernel_rfl) (by kernel_rfl) (by kernel_rfl) (by rfl) (fun g f w h => h) ?_; simp only [Act.put, List.setIfInBounds_toArray, List.set_cons_zero, List.set_cons_succ])
          | (refine Fx.WM.val_ 12 ?_ (by rfl) (by kernel_rfl) (by kernel_rfl) (by kernel_rfl) (by rfl) ?_ (fun g f w h => h) ?_
             rotate_left
             · intro g f w' hx hD hk
               obtain hap := id hD
               have y0 : w'.cell? ⟨w1.heap.size, 0, none⟩ = some (.int .i64 X) := (hap.blk K1_3.out hne6 hne7).cell 0
               clear hx hk hD hap
               go_simp
               try rfl
             simp only [Act.put, List.setIfInBounds_toArray, List.set_cons_zero, List.set_cons_succ])
          first
          | (refine Fx.WM.skip 13 (by rfl) (by kernel_rfl) (by kernel_rfl) (by kernel_rfl) (by rfl) (fun g f w h => h) ?_; simp only [Act.put, List.setIfInBounds_toArray, List.set_cons_zero, List.set_cons_succ])
          | (refine Fx.WM.val_ 13 ?_ (by rfl) (by kernel_rfl) (by kernel_rfl) (by kernel_rfl) (by rfl) ?_ (fun g f w h => h) ?_
             rotate_left
             · intro g f w' hx hD hk
               obtain hap := id hD
               have y0 : w'.cell? ⟨w1.heap.size, 0, none⟩ = some (.int .i64 X) := (hap.blk K1_3.out hne6 hne7).cell 0
               clear hx hk hD hap
               go_simp
               try rfl
             simp only [Act.put, List.setIfInBounds_toArray, List.set_cons_zero, List.set_cons_succ])
          refine Fx.WM.nil (by kernel_rfl) ?_
          intro wz hD
          exact key x1 y x2 z wz ⟨_, rfl, rfl, hD⟩
      rintro x1 y x2 z w4 ⟨g, hgy, hgz, hap⟩
      obtain ⟨hoA, hoB, hoS⟩ := hap.ends hgy hgz
      clear hownA hownB hsepAB
      have hb4 : Below w2.heap.size w2 w4 := HBW.out.trans (hap.below (fun b e => (own_lt H6.out e).1) (fun b e => (own_lt H7.out e).1) hbs)
      have HB4 := Lib.hid hb4
      have HOA := Lib.hid hoA
      have HOB := Lib.hid hoB
      have HOS := Lib.hid hoS
      clear hb4 hoA hoB hoS hap v1 v2
      go_wp2
      go_roundw
      case rel =>
        refine ⟨q + 1, by omega, by omega, by first | rfl | go_num, HB4.out, ?_, ?_, HOS.out⟩
        · rw [HY.out, List.length_append, HNN.out, List.map_append]; exact HOA.out
        · rw [HY.out, List.length_append, HNN.out]; unfold posL; rw [List.map_append, List.map_append]; exact HOB.out
      case measure => simp [intOf]; omega
    · have hend : turnsL m.ls m.ms X = turnsTo m.ls m.ms X q := by
        unfold turnsL
        have := turnsTo_high (ls := m.ls) (ms := m.ms) (X := X) (n := q) (43 - q) (fun i h1 h2 => by omega)
        rwa [show q + (43 - q) = 43 by omega] at this
      obtain ⟨N, hN⟩ : ∃ N, (turnsTo m.ls m.ms X q).length = N := ⟨_, rfl⟩
      obtain ⟨T, hT⟩ : ∃ T, turnsTo m.ls m.ms X q = T := ⟨_, rfl⟩
      rw [hN] at ho6 ho7
      rw [hT] at ho6 ho7 hend hN
      have hE := HE.out
      rw [hend] at hE
      obtain ⟨A6, c6, rfl, -⟩ := own_reads ho6
      obtain ⟨A7, c7, rfl, -⟩ := own_reads ho7
      have hr6 := own_mono ho6 HB2.out.size
      have hr7 := own_mono ho7 HB2.out.size
      by_cases hz : T = []
      · rw [if_pos hz] at hE
        cases hE
        obtain rfl : n = 0 := by simpa using HN.out.symm
        obtain rfl : N = 0 := by rw [← hN, hz]; rfl
        clear HE hend hN hT ho6 ho7 hsep hr6 hr7 hz
        go_wp2
        go_ret3
        exact TurnsPost.mk' (A := none) (c := 0) (A' := none) (c' := 0) rfl HB3.out (World.ownsRow_nil _ _ _ _) (World.ownsRow_nil _ _ _ _)
      · rw [if_neg hz] at hE
        cases hE
        obtain rfl : N = n := hN.symm.trans HN.out
        have hN0 : ((N : Int) == 0) = false := by
          have : N ≠ 0 := fun e => hz (List.eq_nil_of_length_eq_zero (hN.trans e))
          simpa using this
        have HR6 := Lib.hid hr6
        have HR7 := Lib.hid hr7
        clear HE hend hN hT ho6 ho7 hsep hr6 hr7 hz HN
        go_wp2
        go_ret3
        exact TurnsPost.mk' rfl HB3.out HR6.out HR7.out

end Go.Proofs.Ytclnffpfbngjoaa

end
