import Derived.Test.YtnepjgnnppfibaaQ20
import Derived.Test.YtnepjgnnppfibaaQ18
import Derived.Test.YtnepjgnnppfibaaQ5

section
/- The reference's differences of zones and of neighbours. -/
namespace Go.Proofs.Ytnepjgnnppfibaa
open Go Go.RowKit Go.Shelf

attribute [local go_sem] Oper.semAt_some


set_option maxRecDepth 100000 in
set_option maxHeartbeats 4000000 in
theorem rpeak_is (A : Option Addr) (n c : Nat) (l : List (Int × Int)) (hE : enclErr l = 0) (u v : Int) (hv : pkF l (pairsL n) = (u, v)) (w : World) (hx : Reads w w.heap.size 2 A n (cells2 l)) :
    Calls Try.prog 43 #[.slice A n c] w fun e w' => e = .returned (.agg #[.int .i64 u, .int .i64 v]) ∧ Below w.heap.size w w' := by
  have hl := hx.len2
  obtain ⟨n1, n2, hr⟩ := encl_ok hE
  rw [hl] at n1 n2
  have HX := Lib.hid hx
  have HV := Lib.hid hv
  have HL := Lib.hid hl
  have HRG := Lib.hid hr
  clear hx hE hv hl hr
  go_enter Try.func43, Try.ntmps43
  go_wp2
  generalize hwn : ((w.alloc (.cells #[.int .i64 (0), .int .i64 (0)] 50)).alloc (.cells #[.int .i64 (0), .int .i64 (0)] 50)) = w1
  have hbn : Below w.heap.size w w1 := by rw [← hwn]; repeat' (first | exact Below.refl _ _ | refine below_drewN ?_ _ | refine Below.drew ?_ | refine Below.alloc ?_ (by first | omega | (simp; done) | (simp; omega) | (simp [World.setCell]; omega)) _ | refine Below.setCell ?_ (by first | omega | (simp; done) | (simp; omega)) _)
  have HB1 := Lib.hid (show Below w.heap.size w w1 from hbn)
  have K0_1 := Lib.hid (show Blk w1 (w.heap.size) 50 #[.int .i64 (0), .int .i64 (0)] by rw [← hwn]; repeat' (first | exact Blk.at_ _ (by first | rfl | (simp; done) | (simp; omega)) _ _ | refine Blk.drewN ?_ _ | refine Blk.drew ?_ | refine Blk.alloc ?_ _ | refine Blk.far ?_ (by first | omega | (simp; done) | (simp; omega)) _ | assumption))
  have K1_1 := Lib.hid (show Blk w1 (w.heap.size + 1) 50 #[.int .i64 (0), .int .i64 (0)] by rw [← hwn]; repeat' (first | exact Blk.at_ _ (by first | rfl | (simp; done) | (simp; omega)) _ _ | refine Blk.drewN ?_ _ | refine Blk.drew ?_ | refine Blk.alloc ?_ _ | refine Blk.far ?_ (by first | omega | (simp; done) | (simp; omega)) _ | assumption))
  have HN1 := Lib.hid hbn
  have hz1 := hbn.size
  clear hwn hbn
  have l0_1 : w.heap.size < w1.heap.size := K0_1.out.lt
  have z0_0_1 : w1.cell? ⟨w.heap.size, 0, none⟩ = some (.int .i64 (0)) := K0_1.out.cell 0
  have z0_1_1 : w1.cell? ⟨w.heap.size, 1, none⟩ = some (.int .i64 (0)) := K0_1.out.cell 1
  have l1_1 : w.heap.size + 1 < w1.heap.size := K1_1.out.lt
  have z1_0_1 : w1.cell? ⟨w.heap.size + 1, 0, none⟩ = some (.int .i64 (0)) := K1_1.out.cell 0
  have z1_1_1 : w1.cell? ⟨w.heap.size + 1, 1, none⟩ = some (.int .i64 (0)) := K1_1.out.cell 1
  have hs1 := HB1.out.size
  have KA := K0_1
  have KB := K1_1
  have la1 : w.heap.size + 1 < w1.heap.size := l1_1
  go_loopw [4] (fun v wr => ∃ i : Nat, i ≤ n ∧ v = .int .i64 i ∧ Below (w.heap.size + 1) w1 wr ∧ Blk wr (w.heap.size + 1) 50 #[.int .i64 (pkF l (preP n i 0)).1, .int .i64 (pkF l (preP n i 0)).2]) (fun v _ => n - (intOf v).toNat)
  case atStart => exact ⟨0, by omega, rfl, Below.refl _ _, KB.out⟩
  case round =>
    obtain ⟨i, hi, rfl, hb, hkb⟩ := hrel
    obtain ⟨w2, hnm⟩ : ∃ z : World, z = wr := ⟨_, rfl⟩
    subst hnm
    have HBI := Lib.hid hb
    have HKI := Lib.hid hkb
    have hb' := HB1.out.trans (hb.mono (show w.heap.size ≤ w.heap.size + 1 by omega))
    have k0 := Blk.below KA.out hb (by omega)
    by_cases hlt : i < n
    rotate_left
    · obtain rfl : n = i := by omega
      rw [preP_all, HV.out] at hkb
      simp only at hkb
      have HB3 := Lib.hid hb'
      have K0_3 := Lib.hid (show Blk w2 (w.heap.size) 50 #[.int .i64 (0), .int .i64 (0)] from k0)
      have K1_3 := Lib.hid (show Blk w2 (w.heap.size + 1) 50 #[.int .i64 (u), .int .i64 (v)] from hkb)
      clear hb' k0 hkb
      have l0_3 : w.heap.size < w2.heap.size := K0_3.out.lt
      have z0_0_3 : w2.cell? ⟨w.heap.size, 0, none⟩ = some (.int .i64 (0)) := K0_3.out.cell 0
      have z0_1_3 : w2.cell? ⟨w.heap.size, 1, none⟩ = some (.int .i64 (0)) := K0_3.out.cell 1
      have l1_3 : w.heap.size + 1 < w2.heap.size := K1_3.out.lt
      have z1_0_3 : w2.cell? ⟨w.heap.size + 1, 0, none⟩ = some (.int .i64 (u)) := K1_3.out.cell 0
      have z1_1_3 : w2.cell? ⟨w.heap.size + 1, 1, none⟩ = some (.int .i64 (v)) := K1_3.out.cell 1
      have zf0_0 := K0_3.out.frozen 0
      have zf0_1 := K0_3.out.frozen 1
      clear hb
      go_wp2
      exact bodyPost_ret (v := .agg #[.int .i64 u, .int .i64 v]) (by simp [results, Try.results43, go_sem, z0_0_3, z0_1_3, l0_3]) rfl ⟨rfl, by repeat' (first | exact Below.refl _ _ | exact HB3.out | refine below_drewN ?_ _ | refine Below.drew ?_ | refine Below.alloc ?_ (by first | omega | (simp; done) | (simp; omega) | (simp [World.setCell]; omega)) _ | refine Below.setCell ?_ (by first | omega | (simp; done) | (simp; omega)) _ | assumption)⟩
    have hii : (i : Int) < (n : Int) := by omega
    clear hb hkb
    go_wp2
    go_loopw [5] (fun v wr => ∃ k : Nat, k ≤ n ∧ v = .int .i64 k ∧ Below (w.heap.size + 1) w1 wr ∧ Blk wr (w.heap.size + 1) 50 #[.int .i64 (pkF l (preP n i k)).1, .int .i64 (pkF l (preP n i k)).2]) (fun v _ => n - (intOf v).toNat)
    case atStart => exact ⟨0, by omega, rfl, HBI.out, HKI.out⟩
    case round =>
      clear hb' k0
      obtain ⟨k, hk, rfl, hb, hkb⟩ := hrel
      obtain ⟨w3, hnm⟩ : ∃ z : World, z = wr := ⟨_, rfl⟩
      subst hnm
      have HBK := Lib.hid hb
      have HKK := Lib.hid hkb
      have hb' := HB1.out.trans (hb.mono (show w.heap.size ≤ w.heap.size + 1 by omega))
      have hrd := HX.out.below hb'
      by_cases hkt : k < n
      rotate_left
      · obtain rfl : k = n := by omega
        clear hb hkb hb' hrd
        go_wp2
        go_roundw
        case rel => exact ⟨i + 1, by omega, by go_num, HBK.out, by rw [preP_row]; exact HKK.out⟩
        case measure => simp [intOf]; omega
      have hkk : (k : Int) < (n : Int) := by omega
      by_cases hne : i = k
      · subst hne
        clear hb hkb hb' hrd
        go_wp2
        go_roundw
        case rel => exact ⟨i + 1, by omega, by go_num, HBK.out, by rw [preP_same]; exact HKK.out⟩
        case measure => simp [intOf]; omega
      obtain ⟨⟨a1, a2⟩, ha⟩ : ∃ a, pkF l (preP n i k) = a := ⟨_, rfl⟩
      rw [ha] at hkb
      simp only at hkb
      have hne1 : ((i : Int) == (k : Int)) = false := by simp; omega
      have hne2 : ((i : Int) != (k : Int)) = true := by simp; omega
      obtain ⟨xb, xo, pi, hA, hxb, hpi, ci0, ci1⟩ := hrd.pair hlt
      obtain ⟨yb, yo, pk, hA2, hyb, hpk, ck0, ck1⟩ := hrd.pair hkt
      subst hA
      obtain ⟨rfl, rfl⟩ : xb = yb ∧ xo = yo := by simpa using hA2
      obtain ⟨pi1, pi2⟩ := pi
      obtain ⟨pk1, pk2⟩ := pk
      simp only at ci0 ci1 ck0 ck1
      have r1 := HRG.out _ (List.mem_of_getElem? hpi)
      have r2 := HRG.out _ (List.mem_of_getElem? hpk)
      simp only at r1 r2
      have hov : ovr l (i, k) = pi1 - pk2 := by unfold ovr; rw [getD_of hpi, getD_of hpk]
      have hwd : wid l (i, k) = pi2 - pk1 := by unfold wid; rw [getD_of hpi, getD_of hpk]
      have e1 := IntWalk.i64_in (pi1 - pk2) ⟨by omega, by omega⟩
      have e2 := IntWalk.i64_in (pi2 - pk1) ⟨by omega, by omega⟩
      have z0 := hkb.cell 0
      have z1 := hkb.cell 1
      have zf0 := hkb.frozen 0
      have zf1 := hkb.frozen 1
      have HKB := Lib.hid hkb
      have HA := Lib.hid ha
      have HOV := Lib.hid hov
      have HWD := Lib.hid hwd
      have HLNE := Lib.hid hne
      clear hb hkb hb' hrd ha hov hwd hpi hpk hA2 hne
      obtain ⟨q0, hq0⟩ : ∃ z, (if a1 < pi1 - pk2 then pi1 - pk2 else a1) = z := ⟨_, rfl⟩
      obtain ⟨q1, hq1⟩ : ∃ z, (if a2 < pi2 - pk1 then pi2 - pk1 else a2) = z := ⟨_, rfl⟩
      have hnx : pkF l (preP n i (k + 1)) = (q0, q1) := by
        rw [preP_succ HLNE.out, pk_snoc, HA.out]
        unfold pkStep mx
        rw [HOV.out, HWD.out]
        simp only [hq0, hq1]
      have HNX := Lib.hid hnx
      clear hnx
      go_wp2_with fail
      obtain ⟨W0, hW0⟩ : ∃ W0, W0 = w3.drewN 1 := ⟨_, rfl⟩
      have m0 : W0.cell? ⟨xb, xo + i * 2, none⟩ = some (.int .i64 (pi1)) := by rw [hW0]; exact ci0
      have m1 : W0.cell? ⟨xb, xo + i * 2 + 1, none⟩ = some (.int .i64 (pi2)) := by rw [hW0]; exact ci1
      have m2 : W0.cell? ⟨xb, xo + k * 2, none⟩ = some (.int .i64 (pk1)) := by rw [hW0]; exact ck0
      have m3 : W0.cell? ⟨xb, xo + k * 2 + 1, none⟩ = some (.int .i64 (pk2)) := by rw [hW0]; exact ck1
      have mo0 : W0.cell? ⟨w.heap.size + 1, 0, none⟩ = some (.int .i64 (a1)) := by rw [hW0]; exact z0
      have mf0 : W0.frozen? ⟨w.heap.size + 1, 0, none⟩ = false := by rw [hW0]; exact zf0
      have mo1 : W0.cell? ⟨w.heap.size + 1, 1, none⟩ = some (.int .i64 (a2)) := by rw [hW0]; exact z1
      have mf1 : W0.frozen? ⟨w.heap.size + 1, 1, none⟩ = false := by rw [hW0]; exact zf1
      refine Fx.region (fun f w' => (f 29 = false → w' = W0) ∧ (f 29 = true → w' = (W0.setCell ⟨w.heap.size + 1, 0, none⟩ (.int .i64 (q0))).setCell ⟨w.heap.size + 1, 1, none⟩ (.int .i64 (q1)))) (by kernel_rfl) (by kernel_rfl) ?_ ?_
      · intro f hf0
        exact ⟨fun _ => hW0.symm, fun h => by rw [hf0 29] at h; cases h⟩
      have HW0 := Lib.hid hW0
      clear hW0
      repeat (first
        | (refine Fx.skip_ (by rfl) (fun f w h => h) ?_; simp only [Act.put, List.setIfInBounds_toArray, List.set_cons_zero, List.set_cons_succ])
        | (refine Fx.val_ ?_ (by rfl) ?_ (fun f w h => h) ?_
           rotate_left
           · intro f w' hD hk
             obtain ⟨jw, jr⟩ := id hD
             have jw := jw (hk.2.1 29 (by kernel_rfl))
             have q0 : w'.cell? ⟨xb, xo + i * 2, none⟩ = some (.int .i64 (pi1)) := by rw [jw]; exact m0
             have q1 : w'.cell? ⟨xb, xo + i * 2 + 1, none⟩ = some (.int .i64 (pi2)) := by rw [jw]; exact m1
             have q2 : w'.cell? ⟨xb, xo + k * 2, none⟩ = some (.int .i64 (pk1)) := by rw [jw]; exact m2
             have q3 : w'.cell? ⟨xb, xo + k * 2 + 1, none⟩ = some (.int .i64 (pk2)) := by rw [jw]; exact m3
             have qo0 : w'.cell? ⟨w.heap.size + 1, 0, none⟩ = some (.int .i64 (a1)) := by rw [jw]; exact mo0
             have qo1 : w'.cell? ⟨w.heap.size + 1, 1, none⟩ = some (.int .i64 (a2)) := by rw [jw]; exact mo1
             clear hk hD jw jr
             go_simp
             try rfl
           simp only [Act.put, List.setIfInBounds_toArray, List.set_cons_zero, List.set_cons_succ]))
      refine Fx.store_ (fun w' => (w'.setCell ⟨w.heap.size + 1, 0, none⟩ (.int .i64 (q0))).setCell ⟨w.heap.size + 1, 1, none⟩ (.int .i64 (q1))) (by rfl) ?_ ?_ ?_
      · intro f w' hD hk
        obtain ⟨jw, jr⟩ := id hD
        have jw := jw hk.1
        have q0 : w'.cell? ⟨w.heap.size + 1, 0, none⟩ = some (.int .i64 (a1)) := by rw [jw]; exact mo0
        have q1 : w'.cell? ⟨w.heap.size + 1, 1, none⟩ = some (.int .i64 (a2)) := by rw [jw]; exact mo1
        have r0 : w'.frozen? ⟨w.heap.size + 1, 0, none⟩ = false := by rw [jw]; exact mf0
        have r1 : w'.frozen? ⟨w.heap.size + 1, 1, none⟩ = false := by rw [jw]; exact mf1
        clear hk hD jw jr
        go_simp
      · intro f w' hD hk
        obtain ⟨jw, jr⟩ := id hD
        have jw := jw hk.1
        exact ⟨fun h => by simp [Fx.add] at h, fun _ => by rw [jw]⟩
      simp only [Act.put, List.setIfInBounds_toArray, List.set_cons_zero, List.set_cons_succ]
      refine Fx.nil_ ?_
      intro f w4 hall hD
      have hwn := hD.2 (hall 29 (by simp))
      rw [HW0.out] at hwn
      clear hall hD HW0 mo0 mo1 mf0 mf1 m0 m1 m2 m3
      have hb4 : Below (w.heap.size + 1) w1 w4 := by rw [hwn]; exact ((below_drewN HBK.out 1).setCell (p := ⟨w.heap.size + 1, 0, none⟩) (Nat.le_refl _) _).setCell (p := ⟨w.heap.size + 1, 1, none⟩) (Nat.le_refl _) _
      have hk4 : Blk w4 (w.heap.size + 1) 50 #[.int .i64 q0, .int .i64 q1] := by rw [hwn]; exact ((Blk.drewN HKB.out 1).set_ 0 _).set_ 1 _
      have HB4 := Lib.hid hb4
      have HK4 := Lib.hid hk4
      clear hb4 hk4 hwn hq0 hq1
      go_wp2
      go_roundw
      case rel => exact ⟨k + 1, by omega, by go_num, HB4.out, by rw [HNX.out]; exact HK4.out⟩
      case measure => simp [intOf]; omega

set_option maxRecDepth 100000 in
set_option maxHeartbeats 4000000 in
theorem rslope_is (A : Option Addr) (n c : Nat) (l : List (Int × Int)) (hE : enclErr l = 0) (u v : Int) (hv : slF l (pairsL n) = (u, v)) (w : World) (hx : Reads w w.heap.size 2 A n (cells2 l)) :
    Calls Try.prog 44 #[.slice A n c] w fun e w' => e = .returned (.agg #[.int .i64 u, .int .i64 v]) ∧ Below w.heap.size w w' := by
  have hl := hx.len2
  obtain ⟨n1, n2, hr⟩ := encl_ok hE
  rw [hl] at n1 n2
  have HX := Lib.hid hx
  have HV := Lib.hid hv
  have HL := Lib.hid hl
  have HRG := Lib.hid hr
  clear hx hE hv hl hr
  go_enter Try.func44, Try.ntmps44
  go_wp2
  generalize hwn : ((w.alloc (.cells #[.int .i64 (0), .int .i64 (0)] 50)).alloc (.cells #[.int .i64 (0), .int .i64 (0)] 50)) = w1
  have hbn : Below w.heap.size w w1 := by rw [← hwn]; repeat' (first | exact Below.refl _ _ | refine below_drewN ?_ _ | refine Below.drew ?_ | refine Below.alloc ?_ (by first | omega | (simp; done) | (simp; omega) | (simp [World.setCell]; omega)) _ | refine Below.setCell ?_ (by first | omega | (simp; done) | (simp; omega)) _)
  have HB1 := Lib.hid (show Below w.heap.size w w1 from hbn)
  have K0_1 := Lib.hid (show Blk w1 (w.heap.size) 50 #[.int .i64 (0), .int .i64 (0)] by rw [← hwn]; repeat' (first | exact Blk.at_ _ (by first | rfl | (simp; done) | (simp; omega)) _ _ | refine Blk.drewN ?_ _ | refine Blk.drew ?_ | refine Blk.alloc ?_ _ | refine Blk.far ?_ (by first | omega | (simp; done) | (simp; omega)) _ | assumption))
  have K1_1 := Lib.hid (show Blk w1 (w.heap.size + 1) 50 #[.int .i64 (0), .int .i64 (0)] by rw [← hwn]; repeat' (first | exact Blk.at_ _ (by first | rfl | (simp; done) | (simp; omega)) _ _ | refine Blk.drewN ?_ _ | refine Blk.drew ?_ | refine Blk.alloc ?_ _ | refine Blk.far ?_ (by first | omega | (simp; done) | (simp; omega)) _ | assumption))
  have HN1 := Lib.hid hbn
  have hz1 := hbn.size
  clear hwn hbn
  have l0_1 : w.heap.size < w1.heap.size := K0_1.out.lt
  have z0_0_1 : w1.cell? ⟨w.heap.size, 0, none⟩ = some (.int .i64 (0)) := K0_1.out.cell 0
  have z0_1_1 : w1.cell? ⟨w.heap.size, 1, none⟩ = some (.int .i64 (0)) := K0_1.out.cell 1
  have l1_1 : w.heap.size + 1 < w1.heap.size := K1_1.out.lt
  have z1_0_1 : w1.cell? ⟨w.heap.size + 1, 0, none⟩ = some (.int .i64 (0)) := K1_1.out.cell 0
  have z1_1_1 : w1.cell? ⟨w.heap.size + 1, 1, none⟩ = some (.int .i64 (0)) := K1_1.out.cell 1
  have hs1 := HB1.out.size
  have KA := K0_1
  have KB := K1_1
  have la1 : w.heap.size + 1 < w1.heap.size := l1_1
  go_loopw [4] (fun v wr => ∃ i : Nat, i ≤ n ∧ v = .int .i64 i ∧ Below (w.heap.size + 1) w1 wr ∧ Blk wr (w.heap.size + 1) 50 #[.int .i64 (slF l (preP n i 0)).1, .int .i64 (slF l (preP n i 0)).2]) (fun v _ => n - (intOf v).toNat)
  case atStart => exact ⟨0, by omega, rfl, Below.refl _ _, KB.out⟩
  case round =>
    obtain ⟨i, hi, rfl, hb, hkb⟩ := hrel
    obtain ⟨w2, hnm⟩ : ∃ z : World, z = wr := ⟨_, rfl⟩
    subst hnm
    have HBI := Lib.hid hb
    have HKI := Lib.hid hkb
    have hb' := HB1.out.trans (hb.mono (show w.heap.size ≤ w.heap.size + 1 by omega))
    have k0 := Blk.below KA.out hb (by omega)
    by_cases hlt : i < n
    rotate_left
    · obtain rfl : n = i := by omega
      rw [preP_all, HV.out] at hkb
      simp only at hkb
      have HB3 := Lib.hid hb'
      have K0_3 := Lib.hid (show Blk w2 (w.heap.size) 50 #[.int .i64 (0), .int .i64 (0)] from k0)
      have K1_3 := Lib.hid (show Blk w2 (w.heap.size + 1) 50 #[.int .i64 (u), .int .i64 (v)] from hkb)
      clear hb' k0 hkb
      have l0_3 : w.heap.size < w2.heap.size := K0_3.out.lt
      have z0_0_3 : w2.cell? ⟨w.heap.size, 0, none⟩ = some (.int .i64 (0)) := K0_3.out.cell 0
      have z0_1_3 : w2.cell? ⟨w.heap.size, 1, none⟩ = some (.int .i64 (0)) := K0_3.out.cell 1
      have l1_3 : w.heap.size + 1 < w2.heap.size := K1_3.out.lt
      have z1_0_3 : w2.cell? ⟨w.heap.size + 1, 0, none⟩ = some (.int .i64 (u)) := K1_3.out.cell 0
      have z1_1_3 : w2.cell? ⟨w.heap.size + 1, 1, none⟩ = some (.int .i64 (v)) := K1_3.out.cell 1
      have zf0_0 := K0_3.out.frozen 0
      have zf0_1 := K0_3.out.frozen 1
      clear hb
      go_wp2
      exact bodyPost_ret (v := .agg #[.int .i64 u, .int .i64 v]) (by simp [results, Try.results44, go_sem, z0_0_3, z0_1_3, l0_3]) rfl ⟨rfl, by repeat' (first | exact Below.refl _ _ | exact HB3.out | refine below_drewN ?_ _ | refine Below.drew ?_ | refine Below.alloc ?_ (by first | omega | (simp; done) | (simp; omega) | (simp [World.setCell]; omega)) _ | refine Below.setCell ?_ (by first | omega | (simp; done) | (simp; omega)) _ | assumption)⟩
    have hii : (i : Int) < (n : Int) := by omega
    clear hb hkb
    go_wp2
    go_loopw [5] (fun v wr => ∃ k : Nat, k ≤ n ∧ v = .int .i64 k ∧ Below (w.heap.size + 1) w1 wr ∧ Blk wr (w.heap.size + 1) 50 #[.int .i64 (slF l (preP n i k)).1, .int .i64 (slF l (preP n i k)).2]) (fun v _ => n - (intOf v).toNat)
    case atStart => exact ⟨0, by omega, rfl, HBI.out, HKI.out⟩
    case round =>
      clear hb' k0
      obtain ⟨k, hk, rfl, hb, hkb⟩ := hrel
      obtain ⟨w3, hnm⟩ : ∃ z : World, z = wr := ⟨_, rfl⟩
      subst hnm
      have HBK := Lib.hid hb
      have HKK := Lib.hid hkb
      have hb' := HB1.out.trans (hb.mono (show w.heap.size ≤ w.heap.size + 1 by omega))
      have hrd := HX.out.below hb'
      by_cases hkt : k < n
      rotate_left
      · obtain rfl : k = n := by omega
        clear hb hkb hb' hrd
        go_wp2
        go_roundw
        case rel => exact ⟨i + 1, by omega, by go_num, HBK.out, by rw [preP_row]; exact HKK.out⟩
        case measure => simp [intOf]; omega
      have hkk : (k : Int) < (n : Int) := by omega
      by_cases hne : i = k
      · subst hne
        clear hb hkb hb' hrd
        go_wp2
        go_roundw
        case rel => exact ⟨i + 1, by omega, by go_num, HBK.out, by rw [preP_same]; exact HKK.out⟩
        case measure => simp [intOf]; omega
      obtain ⟨⟨a1, a2⟩, ha⟩ : ∃ a, slF l (preP n i k) = a := ⟨_, rfl⟩
      rw [ha] at hkb
      simp only at hkb
      have hne1 : ((i : Int) == (k : Int)) = false := by simp; omega
      have hne2 : ((i : Int) != (k : Int)) = true := by simp; omega
      obtain ⟨xb, xo, pi, hA, hxb, hpi, ci0, ci1⟩ := hrd.pair hlt
      obtain ⟨yb, yo, pk, hA2, hyb, hpk, ck0, ck1⟩ := hrd.pair hkt
      subst hA
      obtain ⟨rfl, rfl⟩ : xb = yb ∧ xo = yo := by simpa using hA2
      obtain ⟨pi1, pi2⟩ := pi
      obtain ⟨pk1, pk2⟩ := pk
      simp only at ci0 ci1 ck0 ck1
      have r1 := HRG.out _ (List.mem_of_getElem? hpi)
      have r2 := HRG.out _ (List.mem_of_getElem? hpk)
      simp only at r1 r2
      have hov : ovr l (i, k) = pi1 - pk2 := by unfold ovr; rw [getD_of hpi, getD_of hpk]
      have hwd : wid l (i, k) = pi2 - pk1 := by unfold wid; rw [getD_of hpi, getD_of hpk]
      have e1 := IntWalk.i64_in (pi1 - pk2) ⟨by omega, by omega⟩
      have e2 := IntWalk.i64_in (pi2 - pk1) ⟨by omega, by omega⟩
      have z0 := hkb.cell 0
      have z1 := hkb.cell 1
      have zf0 := hkb.frozen 0
      have zf1 := hkb.frozen 1
      have HKB := Lib.hid hkb
      have HA := Lib.hid ha
      have HOV := Lib.hid hov
      have HWD := Lib.hid hwd
      have HLNE := Lib.hid hne
      clear hb hkb hb' hrd ha hov hwd hpi hpk hA2 hne
      obtain ⟨g, hg⟩ : ∃ g, gap i k = g := ⟨_, rfl⟩
      have hgg : (((i : Int) - (k : Int)).natAbs : Int) = g := hg
      have g1 : 1 ≤ g := by have := HLNE.out; omega
      have g2 : g ≤ 100 := by omega
      have w9 := IntWalk.i64_in ((i : Int) - (k : Int)) ⟨by omega, by omega⟩
      have habs : ∀ w', Calls Try.prog 45 #[.int .i64 ((i : Int) - (k : Int))] w' fun e w'' => e = .returned (.int .i64 g) ∧ w' = w'' := fun w' => by
        have := abs_in ((i : Int) - (k : Int)) w' (by omega) (by omega)
        rw [hgg] at this
        exact this
      obtain ⟨ov, hov⟩ : ∃ z, pi1 - pk2 = z := ⟨_, rfl⟩
      have ov1 : ov ≤ 200000 ∧ -200000 ≤ ov := by omega
      have HOV := Lib.hid (HOV.out.trans hov)
      have e3 := e1.trans hov
      obtain ⟨q, hq⟩ : ∃ q, clg ov g = q := ⟨_, rfl⟩
      have hceil : ∀ w', Calls Try.prog 88 #[.int .i64 ov, .int .i64 g] w' fun e w'' => e = .returned (.int .i64 q) ∧ w' = w'' := fun w' => by
        have := ceilref_any ov g w' (by omega) (by omega) (by omega) (by omega)
        rw [show -((-ov) / g) = q from hq] at this
        exact this
      have ha0 : 0 ≤ a1 := by have := (sl_pos (l := l) (xs := preP n i k)).1; rw [HA.out] at this; exact this
      obtain ⟨q0, hq0⟩ : ∃ z, (if a1 < q then q else a1) = z := ⟨_, rfl⟩
      have hqq : (if 0 < ov then mx a1 (clg ov g) else a1) = q0 := by
        by_cases h0 : 0 < ov
        · rw [if_pos h0, hq]; exact hq0
        · have := clg_pos (a := ov) (b := g) (by omega) h0
          rw [if_neg h0, ← hq0, if_neg (by omega)]
      have HQ0 := Lib.hid hqq
      have HG := Lib.hid hg
      have HABS := Lib.hid habs
      have HCEIL := Lib.hid hceil
      clear hg hgg hov e1 hq hqq habs hceil ha0
      go_wp2_with fail
      refine (HABS.out _).mono ?_
      rintro e w9 ⟨rfl, rfl⟩
      go_wp2_with fail
      obtain ⟨W0, hW0⟩ : ∃ W0, W0 = w3.drewN 1 := ⟨_, rfl⟩
      have m0 : W0.cell? ⟨xb, xo + i * 2, none⟩ = some (.int .i64 (pi1)) := by rw [hW0]; exact ci0
      have m1 : W0.cell? ⟨xb, xo + k * 2 + 1, none⟩ = some (.int .i64 (pk2)) := by rw [hW0]; exact ck1
      have mo : W0.cell? ⟨w.heap.size + 1, 0, none⟩ = some (.int .i64 (a1)) := by rw [hW0]; exact z0
      have mf : W0.frozen? ⟨w.heap.size + 1, 0, none⟩ = false := by rw [hW0]; exact zf0
      refine Fx.region (fun f w' => (f 17 = false → w' = W0) ∧ (f 17 = true → w' = W0.setCell ⟨w.heap.size + 1, 0, none⟩ (.int .i64 (q0)))) (by kernel_rfl) (by kernel_rfl) ?_ ?_
      · intro f hf0
        exact ⟨fun _ => hW0.symm, fun h => by rw [hf0 17] at h; cases h⟩
      have HW0 := Lib.hid hW0
      clear hW0
      repeat (first
        | (refine Fx.skip_ (by rfl) (fun f w h => h) ?_; simp only [Act.put, List.setIfInBounds_toArray, List.set_cons_zero, List.set_cons_succ])
        | (refine Fx.val_ ?_ (by rfl) ?_ (fun f w h => h) ?_
           rotate_left
           · intro f w' hD hk
             obtain ⟨jw, jr⟩ := id hD
             have jw := jw (hk.2.1 17 (by kernel_rfl))
             have q0 : w'.cell? ⟨xb, xo + i * 2, none⟩ = some (.int .i64 (pi1)) := by rw [jw]; exact m0
             have q1 : w'.cell? ⟨xb, xo + k * 2 + 1, none⟩ = some (.int .i64 (pk2)) := by rw [jw]; exact m1
             have qo : w'.cell? ⟨w.heap.size + 1, 0, none⟩ = some (.int .i64 (a1)) := by rw [jw]; exact mo
             clear hk hD jw jr
             go_simp
             try rfl
           simp only [Act.put, List.setIfInBounds_toArray, List.set_cons_zero, List.set_cons_succ]))
      refine Fx.call_ (.int .i64 (q)) ?_ ?_ (by rfl) ?_ ?_ ?_
      rotate_left 2
      · intro w'
        go_simp
        refine ⟨?_, ?_⟩ <;> rfl
      · intro f w' hD hk
        exact (HCEIL.out w').mono fun e w'' ⟨he, hw⟩ => ⟨he, hw ▸ hD⟩
      simp only [Act.put, List.setIfInBounds_toArray, List.set_cons_zero, List.set_cons_succ]
      repeat (first
        | (refine Fx.skip_ (by rfl) (fun f w h => h) ?_; simp only [Act.put, List.setIfInBounds_toArray, List.set_cons_zero, List.set_cons_succ])
        | (refine Fx.val_ ?_ (by rfl) ?_ (fun f w h => h) ?_
           rotate_left
           · intro f w' hD hk
             obtain ⟨jw, jr⟩ := id hD
             have jw := jw (hk.2.1 17 (by kernel_rfl))
             have q0 : w'.cell? ⟨xb, xo + i * 2, none⟩ = some (.int .i64 (pi1)) := by rw [jw]; exact m0
             have q1 : w'.cell? ⟨xb, xo + k * 2 + 1, none⟩ = some (.int .i64 (pk2)) := by rw [jw]; exact m1
             have qo : w'.cell? ⟨w.heap.size + 1, 0, none⟩ = some (.int .i64 (a1)) := by rw [jw]; exact mo
             clear hk hD jw jr
             go_simp
             try rfl
           simp only [Act.put, List.setIfInBounds_toArray, List.set_cons_zero, List.set_cons_succ]))
      refine Fx.store_ (fun w' => w'.setCell ⟨w.heap.size + 1, 0, none⟩ (.int .i64 (q0))) (by rfl) ?_ ?_ ?_
      · intro f w' hD hk
        obtain ⟨jw, jr⟩ := id hD
        have jw := jw hk.1
        have q0 : w'.cell? ⟨w.heap.size + 1, 0, none⟩ = some (.int .i64 (a1)) := by rw [jw]; exact mo
        have q1 : w'.frozen? ⟨w.heap.size + 1, 0, none⟩ = false := by rw [jw]; exact mf
        clear hk hD jw jr
        go_simp
      · intro f w' hD hk
        obtain ⟨jw, jr⟩ := id hD
        have jw := jw hk.1
        exact ⟨fun h => by simp [Fx.add] at h, fun _ => by rw [jw]⟩
      simp only [Act.put, List.setIfInBounds_toArray, List.set_cons_zero, List.set_cons_succ]
      refine Fx.nil_ ?_
      intro f w4 hall hD
      have hwn := hD.2 (hall 17 (by simp))
      rw [HW0.out] at hwn
      clear hall hD HW0 mo mf m0 m1
      have hb4 : Below (w.heap.size + 1) w1 w4 := by rw [hwn]; exact (below_drewN HBK.out 1).setCell (p := ⟨w.heap.size + 1, 0, none⟩) (Nat.le_refl _) _
      have hblw : Below w.heap.size w3 w4 := by rw [hwn]; exact (below_drewN (Below.refl _ _) 1).setCell (p := ⟨w.heap.size + 1, 0, none⟩) (by show _ ≤ w.heap.size + 1; omega) _
      have hk4 : Blk w4 (w.heap.size + 1) 50 #[.int .i64 q0, .int .i64 a2] := by rw [hwn]; exact (Blk.drewN HKB.out 1).set_ 0 _
      have HB4 := Lib.hid hb4
      have HK4 := Lib.hid hk4
      have BLW := Lib.hid hblw
      clear hb4 hk4 hwn hq0 hblw
      by_cases hgo : g = 1
      · have hgt : (g == 1) = true := by simpa using hgo
        obtain ⟨q1, hq1⟩ : ∃ z, (if a2 < pi2 - pk1 then pi2 - pk1 else a2) = z := ⟨_, rfl⟩
        have hnx : slF l (preP n i (k + 1)) = (q0, q1) := by
          rw [preP_succ HLNE.out, sl_snoc, HA.out]
          unfold slStep
          rw [HOV.out, HWD.out, HG.out, if_pos hgo, HQ0.out]
          unfold mx
          rw [hq1]
        have HNX := Lib.hid hnx
        have u1 := (BLW.out.cell (p := ⟨xb, xo + i * 2 + 1, none⟩) hxb).trans ci1
        have u2 := (BLW.out.cell (p := ⟨xb, xo + k * 2, none⟩) hxb).trans ck0
        have v1 := HK4.out.cell 1
        have vf := HK4.out.frozen 1
        clear hnx
        go_wp2_with fail
        obtain ⟨W0, hW0⟩ : ∃ W0, W0 = w4.drewN 1 := ⟨_, rfl⟩
        have m0 : W0.cell? ⟨xb, xo + i * 2 + 1, none⟩ = some (.int .i64 (pi2)) := by rw [hW0]; exact u1
        have m1 : W0.cell? ⟨xb, xo + k * 2, none⟩ = some (.int .i64 (pk1)) := by rw [hW0]; exact u2
        have mo : W0.cell? ⟨w.heap.size + 1, 1, none⟩ = some (.int .i64 (a2)) := by rw [hW0]; exact v1
        have mf : W0.frozen? ⟨w.heap.size + 1, 1, none⟩ = false := by rw [hW0]; exact vf
        refine Fx.region (fun f w' => (f 15 = false → w' = W0) ∧ (f 15 = true → w' = W0.setCell ⟨w.heap.size + 1, 1, none⟩ (.int .i64 (q1)))) (by kernel_rfl) (by kernel_rfl) ?_ ?_
        · intro f hf0
          exact ⟨fun _ => hW0.symm, fun h => by rw [hf0 15] at h; cases h⟩
        have HW0 := Lib.hid hW0
        clear hW0
        repeat (first
          | (refine Fx.skip_ (by rfl) (fun f w h => h) ?_; simp only [Act.put, List.setIfInBounds_toArray, List.set_cons_zero, List.set_cons_succ])
          | (refine Fx.val_ ?_ (by rfl) ?_ (fun f w h => h) ?_
             rotate_left
             · intro f w' hD hk
               obtain ⟨jw, jr⟩ := id hD
               have jw := jw (hk.2.1 15 (by kernel_rfl))
               have q0 : w'.cell? ⟨xb, xo + i * 2 + 1, none⟩ = some (.int .i64 (pi2)) := by rw [jw]; exact m0
               have q1 : w'.cell? ⟨xb, xo + k * 2, none⟩ = some (.int .i64 (pk1)) := by rw [jw]; exact m1
               have qo : w'.cell? ⟨w.heap.size + 1, 1, none⟩ = some (.int .i64 (a2)) := by rw [jw]; exact mo
               clear hk hD jw jr
               go_simp
               try rfl
             simp only [Act.put, List.setIfInBounds_toArray, List.set_cons_zero, List.set_cons_succ]))
        refine Fx.store_ (fun w' => w'.setCell ⟨w.heap.size + 1, 1, none⟩ (.int .i64 (q1))) (by rfl) ?_ ?_ ?_
        · intro f w' hD hk
          obtain ⟨jw, jr⟩ := id hD
          have jw := jw hk.1
          have q0 : w'.cell? ⟨w.heap.size + 1, 1, none⟩ = some (.int .i64 (a2)) := by rw [jw]; exact mo
          have q1 : w'.frozen? ⟨w.heap.size + 1, 1, none⟩ = false := by rw [jw]; exact mf
          clear hk hD jw jr
          go_simp
        · intro f w' hD hk
          obtain ⟨jw, jr⟩ := id hD
          have jw := jw hk.1
          exact ⟨fun h => by simp [Fx.add] at h, fun _ => by rw [jw]⟩
        simp only [Act.put, List.setIfInBounds_toArray, List.set_cons_zero, List.set_cons_succ]
        refine Fx.nil_ ?_
        intro f w5 hall hD
        have hwn := hD.2 (hall 15 (by simp))
        rw [HW0.out] at hwn
        clear hall hD HW0 mo mf m0 m1
        have hb5 : Below (w.heap.size + 1) w1 w5 := by rw [hwn]; exact (below_drewN HB4.out 1).setCell (p := ⟨w.heap.size + 1, 1, none⟩) (Nat.le_refl _) _
        have hk5 : Blk w5 (w.heap.size + 1) 50 #[.int .i64 q0, .int .i64 q1] := by rw [hwn]; exact (Blk.drewN HK4.out 1).set_ 1 _
        have HB5 := Lib.hid hb5
        have HK5 := Lib.hid hk5
        clear hb5 hk5 hwn hq1
        go_wp2
        go_roundw
        case rel => exact ⟨k + 1, by omega, by go_num, HB5.out, by rw [HNX.out]; exact HK5.out⟩
        case measure => simp [intOf]; omega
      · have hgt : (g == 1) = false := by simpa using hgo
        have hnx : slF l (preP n i (k + 1)) = (q0, a2) := by
          rw [preP_succ HLNE.out, sl_snoc, HA.out]
          unfold slStep
          rw [HOV.out, HWD.out, HG.out, if_neg hgo, HQ0.out]
        have HNX := Lib.hid hnx
        clear hnx
        go_wp2
        go_roundw
        case rel => exact ⟨k + 1, by omega, by go_num, HB4.out, by rw [HNX.out]; exact HK4.out⟩
        case measure => simp [intOf]; omega
end Go.Proofs.Ytnepjgnnppfibaa

end

section
/- The contract of the check of a pair that refuses. -/
namespace Go.Proofs.Ytnepjgnnppfibaa
open Go Go.RowKit

end Go.Proofs.Ytnepjgnnppfibaa

end

section
/- The walk of the statement on judgements of enclosures. -/
namespace Go.Proofs.Ytnepjgnnppfibaa
open Go Go.RowKit

def PfR (l : List (Int × Int)) (n ci : Nat) (i : Nat) (x : Pick2) (w : World) : Prop := i = ci → Reads w w.heap.size 2 x.1.1 n (cells2 l)
end Go.Proofs.Ytnepjgnnppfibaa

end
