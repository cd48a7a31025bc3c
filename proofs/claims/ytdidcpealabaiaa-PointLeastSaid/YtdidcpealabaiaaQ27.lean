import Derived.Test.YtdidcpealabaiaaQ25
import Derived.Test.YtdidcpealabaiaaQ26

section
/- Contract of the reference's check of potentials. -/
namespace Go.Proofs.Ytdidcpealabaiaa
open Go Go.RowKit

theorem turnsV_eq {m : Mnt} {day X Y F : Int} {t : Tgt} {L : List Int} (hA : appF m t day = (X, Y)) (hT : turnsAt m X Y = (L, F)) : turnsV m day t = L ∧ ∀ (j : Nat) (k : Int), L[j]? = some k → (posV m day t)[j]? = some (X + k * 1296000) := by
  have h : turnsV m day t = L := by unfold turnsV turnsF; rw [hA]; simp only; rw [hT]
  refine ⟨h, fun j k hk => ?_⟩
  unfold posV
  rw [h, hA]
  exact posL_get hk
def TgtCells (xb xo : Nat) (t : Tgt) (w : World) : Prop := w.cell? ⟨xb, xo, none⟩ = some (.string t.name) ∧ w.cell? ⟨xb, xo + 1, none⟩ = some (.int .i64 t.az) ∧ w.cell? ⟨xb, xo + 2, none⟩ = some (.int .i64 t.ht) ∧ w.cell? ⟨xb, xo + 3, none⟩ = some (.int .i64 t.fr) ∧ w.cell? ⟨xb, xo + 4, none⟩ = some (.int .i64 t.to) ∧ w.cell? ⟨xb, xo + 5, none⟩ = some (.int .i64 t.dw)

set_option maxRecDepth 100000 in
set_option maxHeartbeats 8000000 in
theorem rleast9_is (m : Mnt) (day pos : Int) (l : List Tgt) (A : Option Addr) (n c : Nat) (Ap : Option Addr) (np cp : Nat) (tp : List TRow) (C E : Int) (hR : LeastRes m day pos l (tp.map TRow.xs) C E) (w : World) (hx : MntAt m w) (hl : Reads w w.heap.size 6 A n (tgtCells l))
    (hk : ReadsT w w.heap.size Ap np tp) (hnp : np ≤ 1000) (hrn : ∀ r ∈ tp, r.n ≤ 1000) (hT0 : (tourF m l day pos).2 = 0) :
    Calls Try.prog 39 #[m.val, .slice A n c, .agg #[.int .i64 day, .int .i64 pos], .slice Ap np cp] w fun e w' => e = .returned (.tuple #[.int .i64 C, .int .i64 E]) ∧ Below w.heap.size w w' := by
  obtain ⟨r1, r2, ⟨r3, r4⟩, r5, -⟩ := tour_right hT0
  obtain ⟨⟨q1, q2, q3, q4⟩, -⟩ := mnt_right r1
  have hll := hl.tlen
  have hkl := hk.len
  obtain ⟨ps, hps⟩ : ∃ z, tp.map TRow.xs = z := ⟨_, rfl⟩
  rw [hps] at hR
  have hpl : ps.length = np := by rw [← hps, List.length_map]; exact hkl
  have hpg : ∀ (i : Nat) (r : TRow), tp[i]? = some r → ps[i]? = some r.xs := fun i r hr => by rw [← hps, List.getElem?_map, hr]; rfl
  have HX := Lib.hid hx
  have HL := Lib.hid hl
  have HK := Lib.hid hk
  have HR := Lib.hid hR
  have HT0 := Lib.hid hT0
  have HLL := Lib.hid hll
  have HPL := Lib.hid hpl
  have HPG := Lib.hid hpg
  have HM := Lib.hid r1
  have HD := Lib.hid r2
  have HRN := Lib.hid hrn
  have HPOS := Lib.hid (show m.ls ≤ pos ∧ pos ≤ m.ms from ⟨r3, r4⟩)
  have hn20 : n ≤ 20 := by omega
  have hposR : PosR pos := by unfold PosR; omega
  clear hx hl hk hR hT0 hll hpl hpg hps hkl r1 r2 r3 r4 hrn
  unfold Mnt.val
  by_cases hnn : np = n
  rotate_left
  · have e1 : ((np : Int) != (n : Int)) = true := by rw [bne_iff_ne]; omega
    obtain ⟨rfl, rfl⟩ := HR.out.shape (fun h => hnn (by have := h.1; rw [HPL.out, HLL.out] at this; exact this))
    go_enter Try.func39, Try.ntmps39
    go_wp2
    go_ret2
    exact ⟨rfl, by repeat' (first | exact Below.refl _ _ | refine below_drewN ?_ _ | refine Below.drew ?_ | refine Below.alloc ?_ (by first | omega | (simp; done) | (simp; omega) | (simp [World.setCell]; omega)) _ | refine Below.setCell ?_ (by first | omega | (simp; done) | (simp; omega)) _)⟩
  subst hnn
  have e1 : ((np : Int) != (np : Int)) = false := by simp
  go_enter Try.func39, Try.ntmps39
  go_wp2
  generalize hwn : ((w.alloc (.cells #[.int .i64 (m.ls), .int .i64 (m.ms), .int .i64 (m.lo), .int .i64 (m.hi), .int .i64 (m.sp), .slice m.A1 m.n1 m.c1, .slice m.A2 m.n2 m.c2] 58)).alloc (.cells #[.int .i64 (day), .int .i64 (pos)] 60)) = w1
  have hbn : Below w.heap.size w w1 := by rw [← hwn]; repeat' (first | exact Below.refl _ _ | refine below_drewN ?_ _ | refine Below.drew ?_ | refine Below.alloc ?_ (by first | omega | (simp; done) | (simp; omega) | (simp [World.setCell]; omega)) _ | refine Below.setCell ?_ (by first | omega | (simp; done) | (simp; omega)) _)
  have HB1 := Lib.hid (show Below w.heap.size w w1 from hbn)
  have K0_1 := Lib.hid (show Blk w1 (w.heap.size) 58 #[.int .i64 (m.ls), .int .i64 (m.ms), .int .i64 (m.lo), .int .i64 (m.hi), .int .i64 (m.sp), .slice m.A1 m.n1 m.c1, .slice m.A2 m.n2 m.c2] by rw [← hwn]; repeat' (first | exact Blk.at_ _ (by first | rfl | (simp; done) | (simp; omega)) _ _ | refine Blk.drewN ?_ _ | refine Blk.drew ?_ | refine Blk.alloc ?_ _ | refine Blk.far ?_ (by first | omega | (simp; done) | (simp; omega)) _ | assumption))
  have K1_1 := Lib.hid (show Blk w1 (w.heap.size + 1) 60 #[.int .i64 (day), .int .i64 (pos)] by rw [← hwn]; repeat' (first | exact Blk.at_ _ (by first | rfl | (simp; done) | (simp; omega)) _ _ | refine Blk.drewN ?_ _ | refine Blk.drew ?_ | refine Blk.alloc ?_ _ | refine Blk.far ?_ (by first | omega | (simp; done) | (simp; omega)) _ | assumption))
  have HN1 := Lib.hid hbn
  have hz1 := hbn.size
  clear hwn hbn
  have l0_1 : w.heap.size < w1.heap.size := K0_1.out.lt
  have z0_0_1 : w1.cell? ⟨w.heap.size, 0, none⟩ = some (.int .i64 (m.ls)) := K0_1.out.cell 0
  have z0_1_1 : w1.cell? ⟨w.heap.size, 1, none⟩ = some (.int .i64 (m.ms)) := K0_1.out.cell 1
  have z0_2_1 : w1.cell? ⟨w.heap.size, 2, none⟩ = some (.int .i64 (m.lo)) := K0_1.out.cell 2
  have z0_3_1 : w1.cell? ⟨w.heap.size, 3, none⟩ = some (.int .i64 (m.hi)) := K0_1.out.cell 3
  have z0_4_1 : w1.cell? ⟨w.heap.size, 4, none⟩ = some (.int .i64 (m.sp)) := K0_1.out.cell 4
  have z0_5_1 : w1.cell? ⟨w.heap.size, 5, none⟩ = some (.slice m.A1 m.n1 m.c1) := K0_1.out.cell 5
  have z0_6_1 : w1.cell? ⟨w.heap.size, 6, none⟩ = some (.slice m.A2 m.n2 m.c2) := K0_1.out.cell 6
  have l1_1 : w.heap.size + 1 < w1.heap.size := K1_1.out.lt
  have z1_0_1 : w1.cell? ⟨w.heap.size + 1, 0, none⟩ = some (.int .i64 (day)) := K1_1.out.cell 0
  have z1_1_1 : w1.cell? ⟨w.heap.size + 1, 1, none⟩ = some (.int .i64 (pos)) := K1_1.out.cell 1
  go_loopw [10] (fun i wr => ∃ k : Nat, k ≤ np ∧ i = .int .i64 k ∧ Below w1.heap.size w1 wr ∧ ∀ (j : Nat) (p : List Int) (t : Tgt), j < k → ps[j]? = some p → l[j]? = some t → p.length = (turnsV m day t).length) (fun i _ => np - (intOf i).toNat)
  case atStart => exact ⟨0, by omega, rfl, Below.refl _ _, fun j p t hj => absurd hj (by omega)⟩
  case round =>
    obtain ⟨k, hk, rfl, hb2, hpre⟩ := hrel
    obtain ⟨w2, hnm⟩ : ∃ z : World, z = wr := ⟨_, rfl⟩
    subst hnm
    have HPRE := Lib.hid hpre
    have HB12 := Lib.hid hb2
    clear hpre hb2
    have hb1 := HB12.out
    have hk0 := Blk.below K0_1.out hb1 l0_1
    have hk1 := Blk.below K1_1.out hb1 l1_1
    have hbw := HB1.out.trans (hb1.mono HB1.out.size)
    have hxm := HX.out.lay hbw
    have HBW2 := Lib.hid hbw
    have HB1_2 := Lib.hid hb1
    have hsz2 := hbw.size
    clear hb1
    have HB2 := Lib.hid hbw
    have K0_2 := Lib.hid (show Blk w2 (w.heap.size) 58 #[.int .i64 (m.ls), .int .i64 (m.ms), .int .i64 (m.lo), .int .i64 (m.hi), .int .i64 (m.sp), .slice m.A1 m.n1 m.c1, .slice m.A2 m.n2 m.c2] from hk0)
    have K1_2 := Lib.hid (show Blk w2 (w.heap.size + 1) 60 #[.int .i64 (day), .int .i64 (pos)] from hk1)
    clear hbw hk0 hk1
    have l0_2 : w.heap.size < w2.heap.size := K0_2.out.lt
    have z0_0_2 : w2.cell? ⟨w.heap.size, 0, none⟩ = some (.int .i64 (m.ls)) := K0_2.out.cell 0
    have z0_1_2 : w2.cell? ⟨w.heap.size, 1, none⟩ = some (.int .i64 (m.ms)) := K0_2.out.cell 1
    have z0_2_2 : w2.cell? ⟨w.heap.size, 2, none⟩ = some (.int .i64 (m.lo)) := K0_2.out.cell 2
    have z0_3_2 : w2.cell? ⟨w.heap.size, 3, none⟩ = some (.int .i64 (m.hi)) := K0_2.out.cell 3
    have z0_4_2 : w2.cell? ⟨w.heap.size, 4, none⟩ = some (.int .i64 (m.sp)) := K0_2.out.cell 4
    have z0_5_2 : w2.cell? ⟨w.heap.size, 5, none⟩ = some (.slice m.A1 m.n1 m.c1) := K0_2.out.cell 5
    have z0_6_2 : w2.cell? ⟨w.heap.size, 6, none⟩ = some (.slice m.A2 m.n2 m.c2) := K0_2.out.cell 6
    have l1_2 : w.heap.size + 1 < w2.heap.size := K1_2.out.lt
    have z1_0_2 : w2.cell? ⟨w.heap.size + 1, 0, none⟩ = some (.int .i64 (day)) := K1_2.out.cell 0
    have z1_1_2 : w2.cell? ⟨w.heap.size + 1, 1, none⟩ = some (.int .i64 (pos)) := K1_2.out.cell 1
    have R0_2 := Lib.hid hxm
    clear hxm
    by_cases hlt : k < np
    · obtain ⟨xb, xo, t, hAx, hxb, ht, c0, c1, c2, c3, c4, c5⟩ := HL.out.tgt hlt
      obtain ⟨pb, po, r, hAp, hpb, hr, p0, -, hrl, -⟩ := HK.out.at_ hlt
      have HCW := Lib.hid (show TgtCells xb (xo + k * 6) t w from ⟨c0, c1, c2, c3, c4, c5⟩)
      have p2 := (HBW2.out.cell (p := ⟨pb, po + k, none⟩) hpb).trans p0
      have hxb2 : xb < w2.heap.size := by omega
      have hpb2 : pb < w2.heap.size := by omega
      subst hAx hAp
      obtain ⟨te1, te2⟩ := tour_each HT0.out ht
      obtain ⟨X, Y, hA⟩ : ∃ X Y, appF m t day = (X, Y) := ⟨_, _, rfl⟩
      obtain ⟨L, F, hTA⟩ : ∃ L F, turnsAt m X Y = (L, F) := ⟨_, _, rfl⟩
      obtain ⟨q, hq⟩ : ∃ q, L.length = q := ⟨_, rfl⟩
      have hV := (turnsV_eq hA hTA).1
      have hpk := HPG.out k r hr
      have hkk : (k : Int) < (np : Int) := by omega
      have HA := Lib.hid hA
      have HTA := Lib.hid hTA
      have HQ := Lib.hid hq
      have HE1 := Lib.hid te1
      have HTT := Lib.hid ht
      have HPK := Lib.hid hpk
      have HV := Lib.hid hV
      have HRL := Lib.hid hrl
      clear ht hr te1 te2 hA hTA hq hV hpk hrl c0 c1 c2 c3 c4 c5 p0
      have C0_2 := Lib.hid ((HBW2.out.cell (p := ⟨xb, xo + k * 6, none⟩) hxb).trans HCW.out.1)
      have C1_2 := Lib.hid ((HBW2.out.cell (p := ⟨xb, xo + k * 6 + 1, none⟩) hxb).trans HCW.out.2.1)
      have C2_2 := Lib.hid ((HBW2.out.cell (p := ⟨xb, xo + k * 6 + 2, none⟩) hxb).trans HCW.out.2.2.1)
      have C3_2 := Lib.hid ((HBW2.out.cell (p := ⟨xb, xo + k * 6 + 3, none⟩) hxb).trans HCW.out.2.2.2.1)
      have C4_2 := Lib.hid ((HBW2.out.cell (p := ⟨xb, xo + k * 6 + 4, none⟩) hxb).trans HCW.out.2.2.2.2.1)
      have C5_2 := Lib.hid ((HBW2.out.cell (p := ⟨xb, xo + k * 6 + 5, none⟩) hxb).trans HCW.out.2.2.2.2.2)
      go_wp2
      refine Fx.regionM (fun W g f w' => Kp (PfQ m q L 97 7) W g w') (fun i (x : Pick2) => .tuple #[.slice x.1.1 q x.1.2, .int .i64 F]) (by kernel_rfl) ?_ ?_
      · intro f hf0
        exact Kp.start
      first
      | (refine Fx.WM.skip 0 (by rfl) (by kernel_rfl) (by kernel_rfl) (by kernel_rfl) (by rfl) (fun g f w h => h) ?_; simp only [Act.put, List.setIfInBounds_toArray, List.set_cons_zero, List.set_cons_succ])
      | (refine Fx.WM.val_ 0 ?_ (by rfl) (by kernel_rfl) (by kernel_rfl) (by kernel_rfl) (by rfl) ?_ (fun g f w h => h) ?_
         rotate_left
         · intro g f w' hx hD hk
           obtain hkp := id hD
           have y0_0 := (K0_2.out.below hkp.bel l0_2).cell 0
           have y0_1 := (K0_2.out.below hkp.bel l0_2).cell 1
           have y0_2 := (K0_2.out.below hkp.bel l0_2).cell 2
           have y0_3 := (K0_2.out.below hkp.bel l0_2).cell 3
           have y0_4 := (K0_2.out.below hkp.bel l0_2).cell 4
           have y0_5 := (K0_2.out.below hkp.bel l0_2).cell 5
           have y0_6 := (K0_2.out.below hkp.bel l0_2).cell 6
           clear hx hk hD hkp
           go_simp
           try rfl
         simp only [Act.put, List.setIfInBounds_toArray, List.set_cons_zero, List.set_cons_succ])
      first
      | (refine Fx.WM.skip 1 (by rfl) (by kernel_rfl) (by kernel_rfl) (by kernel_rfl) (by rfl) (fun g f w h => h) ?_; simp only [Act.put, List.setIfInBounds_toArray, List.set_cons_zero, List.set_cons_succ])
      | (refine Fx.WM.val_ 1 ?_ (by rfl) (by kernel_rfl) (by kernel_rfl) (by kernel_rfl) (by rfl) ?_ (fun g f w h => h) ?_
         rotate_left
         · intro g f w' hx hD hk
           obtain hkp := id hD
           clear hx hk hD hkp
           go_simp
           try rfl
         simp only [Act.put, List.setIfInBounds_toArray, List.set_cons_zero, List.set_cons_succ])
      first
      | (refine Fx.WM.skip 2 (by rfl) (by kernel_rfl) (by kernel_rfl) (by kernel_rfl) (by rfl) (fun g f w h => h) ?_; simp only [Act.put, List.setIfInBounds_toArray, List.set_cons_zero, List.set_cons_succ])
      | (refine Fx.WM.val_ 2 ?_ (by rfl) (by kernel_rfl) (by kernel_rfl) (by kernel_rfl) (by rfl) ?_ (fun g f w h => h) ?_
         rotate_left
         · intro g f w' hx hD hk
           obtain hkp := id hD
           clear hx hk hD hkp
           go_simp
           try rfl
         simp only [Act.put, List.setIfInBounds_toArray, List.set_cons_zero, List.set_cons_succ])
      first
      | (refine Fx.WM.skip 3 (by rfl) (by kernel_rfl) (by kernel_rfl) (by kernel_rfl) (by rfl) (fun g f w h => h) ?_; simp only [Act.put, List.setIfInBounds_toArray, List.set_cons_zero, List.set_cons_succ])
      | (refine Fx.WM.val_ 3 ?_ (by rfl) (by kernel_rfl) (by kernel_rfl) (by kernel_rfl) (by rfl) ?_ (fun g f w h => h) ?_
         rotate_left
         · intro g f w' hx hD hk
           obtain hkp := id hD
           clear hx hk hD hkp
           go_simp
           try rfl
         simp only [Act.put, List.setIfInBounds_toArray, List.set_cons_zero, List.set_cons_succ])
      first
      | (refine Fx.WM.skip 4 (by rfl) (by kernel_rfl) (by kernel_rfl) (by kernel_rfl) (by rfl) (fun g f w h => h) ?_; simp only [Act.put, List.setIfInBounds_toArray, List.set_cons_zero, List.set_cons_succ])
      | (refine Fx.WM.val_ 4 ?_ (by rfl) (by kernel_rfl) (by kernel_rfl) (by kernel_rfl) (by rfl) ?_ (fun g f w h => h) ?_
         rotate_left
         · intro g f w' hx hD hk
           obtain hkp := id hD
           have yc0 := (hkp.bel.cell (p := ⟨xb, xo + k * 6, none⟩) (by have := hxb2; show xb < _; omega)).trans C0_2.out
           have yc1 := (hkp.bel.cell (p := ⟨xb, xo + k * 6 + 1, none⟩) (by have := hxb2; show xb < _; omega)).trans C1_2.out
           have yc2 := (hkp.bel.cell (p := ⟨xb, xo + k * 6 + 2, none⟩) (by have := hxb2; show xb < _; omega)).trans C2_2.out
           have yc3 := (hkp.bel.cell (p := ⟨xb, xo + k * 6 + 3, none⟩) (by have := hxb2; show xb < _; omega)).trans C3_2.out
           have yc4 := (hkp.bel.cell (p := ⟨xb, xo + k * 6 + 4, none⟩) (by have := hxb2; show xb < _; omega)).trans C4_2.out
           have yc5 := (hkp.bel.cell (p := ⟨xb, xo + k * 6 + 5, none⟩) (by have := hxb2; show xb < _; omega)).trans C5_2.out
           clear hx hk hD hkp
           go_simp
           try rfl
         simp only [Act.put, List.setIfInBounds_toArray, List.set_cons_zero, List.set_cons_succ])
      first
      | (refine Fx.WM.skip 5 (by rfl) (by kernel_rfl) (by kernel_rfl) (by kernel_rfl) (by rfl) (fun g f w h => h) ?_; simp only [Act.put, List.setIfInBounds_toArray, List.set_cons_zero, List.set_cons_succ])
      | (refine Fx.WM.val_ 5 ?_ (by rfl) (by kernel_rfl) (by kernel_rfl) (by kernel_rfl) (by rfl) ?_ (fun g f w h => h) ?_
         rotate_left
         · intro g f w' hx hD hk
           obtain hkp := id hD
           have y1_0 := (K1_2.out.below hkp.bel l1_2).cell 0
           have y1_1 := (K1_2.out.below hkp.bel l1_2).cell 1
           clear hx hk hD hkp
           go_simp
           try rfl
         simp only [Act.put, List.setIfInBounds_toArray, List.set_cons_zero, List.set_cons_succ])
      first
      | (refine Fx.WM.skip 6 (by rfl) (by kernel_rfl) (by kernel_rfl) (by kernel_rfl) (by rfl) (fun g f w h => h) ?_; simp only [Act.put, List.setIfInBounds_toArray, List.set_cons_zero, List.set_cons_succ])
      | (refine Fx.WM.val_ 6 ?_ (by rfl) (by kernel_rfl) (by kernel_rfl) (by kernel_rfl) (by rfl) ?_ (fun g f w h => h) ?_
         rotate_left
         · intro g f w' hx hD hk
           obtain hkp := id hD
           have y1_0 := (K1_2.out.below hkp.bel l1_2).cell 0
           have y1_1 := (K1_2.out.below hkp.bel l1_2).cell 1
           clear hx hk hD hkp
           go_simp
           try rfl
         simp only [Act.put, List.setIfInBounds_toArray, List.set_cons_zero, List.set_cons_succ])
      refine Fx.WM.choose 7 (by rfl) (by kernel_rfl) (by rfl) ?_ ?_
      · skip
        refine Fx.Chooses.call ?_ ?_ (by rfl) ?_ ?_
        rotate_left 2
        · intro w'
          go_simp
          refine ⟨?_, ?_⟩ <;> rfl
        · intro f w' hD hk
          exact (rturns_is m t day X Y L F q HA.out HTA.out HQ.out w' (R0_2.out.lay hD.bel) HM.out HE1.out HD.out).mono fun e w'' ⟨A', c', he, hb, hr⟩ => ⟨((A', c'), (none, 0)), he, hD.choose PfQ.stb hb 7 _ ⟨fun e => absurd e (by decide), fun _ => hr⟩⟩
      intro x
      simp only [Act.put, List.setIfInBounds_toArray, List.set_cons_zero, List.set_cons_succ]
      first
      | (refine Fx.WM.skip 8 (by rfl) (by kernel_rfl) (by kernel_rfl) (by kernel_rfl) (by rfl) (fun g f w h => h) ?_; simp only [Act.put, List.setIfInBounds_toArray, List.set_cons_zero, List.set_cons_succ])
      | (refine Fx.WM.val_ 8 ?_ (by rfl) (by kernel_rfl) (by kernel_rfl) (by kernel_rfl) (by rfl) ?_ (fun g f w h => h) ?_
         rotate_left
         · intro g f w' hx hD hk
           obtain hkp := id hD
           clear hx hk hD hkp
           go_simp
           try rfl
         simp only [Act.put, List.setIfInBounds_toArray, List.set_cons_zero, List.set_cons_succ])
      first
      | (refine Fx.WM.skip 9 (by rfl) (by kernel_rfl) (by kernel_rfl) (by kernel_rfl) (by rfl) (fun g f w h => h) ?_; simp only [Act.put, List.setIfInBounds_toArray, List.set_cons_zero, List.set_cons_succ])
      | (refine Fx.WM.val_ 9 ?_ (by rfl) (by kernel_rfl) (by kernel_rfl) (by kernel_rfl) (by rfl) ?_ (fun g f w h => h) ?_
         rotate_left
         · intro g f w' hx hD hk
           obtain hkp := id hD
           clear hx hk hD hkp
           go_simp
           try rfl
         simp only [Act.put, List.setIfInBounds_toArray, List.set_cons_zero, List.set_cons_succ])
      first
      | (refine Fx.WM.skip 10 (by rfl) (by kernel_rfl) (by kernel_rfl) (by kernel_rfl) (by rfl) (fun g f w h => h) ?_; simp only [Act.put, List.setIfInBounds_toArray, List.set_cons_zero, List.set_cons_succ])
      | (refine Fx.WM.val_ 10 ?_ (by rfl) (by kernel_rfl) (by kernel_rfl) (by kernel_rfl) (by rfl) ?_ (fun g f w h => h) ?_
         rotate_left
         · intro g f w' hx hD hk
           obtain hkp := id hD
           clear hx hk hD hkp
           go_simp
           try rfl
         simp only [Act.put, List.setIfInBounds_toArray, List.set_cons_zero, List.set_cons_succ])
      first
      | (refine Fx.WM.skip 11 (by rfl) (by kernel_rfl) (by kernel_rfl) (by kernel_rfl) (by rfl) (fun g f w h => h) ?_; simp only [Act.put, List.setIfInBounds_toArray, List.set_cons_zero, List.set_cons_succ])
      | (refine Fx.WM.val_ 11 ?_ (by rfl) (by kernel_rfl) (by kernel_rfl) (by kernel_rfl) (by rfl) ?_ (fun g f w h => h) ?_
         rotate_left
         · intro g f w' hx hD hk
           obtain hkp := id hD
           clear hx hk hD hkp
           go_simp
           try rfl
         simp only [Act.put, List.setIfInBounds_toArray, List.set_cons_zero, List.set_cons_succ])
      first
      | (refine Fx.WM.skip 12 (by rfl) (by kernel_rfl) (by kernel_rfl) (by kernel_rfl) (by rfl) (fun g f w h => h) ?_; simp only [Act.put, List.setIfInBounds_toArray, List.set_cons_zero, List.set_cons_succ])
      | (refine Fx.WM.val_ 12 ?_ (by rfl) (by kernel_rfl) (by kernel_rfl) (by kernel_rfl) (by rfl) ?_ (fun g f w h => h) ?_
         rotate_left
         · intro g f w' hx hD hk
           obtain hkp := id hD
           clear hx hk hD hkp
           go_simp
           try rfl
         simp only [Act.put, List.setIfInBounds_toArray, List.set_cons_zero, List.set_cons_succ])
      refine Fx.WM.nil (by kernel_rfl) ?_
      intro wz hkp
      have hb := hkp.bel
      have p3 := (hb.cell (p := ⟨pb, po + k, none⟩) hpb2).trans p2
      clear hkp
      obtain ⟨w3, hnm⟩ : ∃ z : World, z = wz := ⟨_, rfl⟩
      subst hnm
      have HB13 := Lib.hid (HB12.out.trans (hb.mono HB12.out.size))
      have HB3 := Lib.hid (show Below w.heap.size w w3 from step_below hb (by repeat' (first | exact Below.refl _ _ | exact HB2.out | refine below_drewN ?_ _ | refine Below.drew ?_ | refine Below.alloc ?_ (by first | omega | (simp; done) | (simp; omega) | (simp [World.setCell]; omega)) _ | refine Below.setCell ?_ (by first | omega | (simp; done) | (simp; omega)) _ | assumption)))
      have K0_3 := Lib.hid (step_blk hb (show Blk _ (w.heap.size) 58 #[.int .i64 (m.ls), .int .i64 (m.ms), .int .i64 (m.lo), .int .i64 (m.hi), .int .i64 (m.sp), .slice m.A1 m.n1 m.c1, .slice m.A2 m.n2 m.c2] by repeat' (first | exact K0_2.out | exact K1_2.out | exact Blk.at_ _ (by first | rfl | (simp; done) | (simp; omega)) _ _ | refine Blk.drewN ?_ _ | refine Blk.drew ?_ | refine Blk.alloc ?_ _ | refine Blk.far ?_ (by first | omega | (simp; done) | (simp; omega)) _ | assumption)))
      have K1_3 := Lib.hid (step_blk hb (show Blk _ (w.heap.size + 1) 60 #[.int .i64 (day), .int .i64 (pos)] by repeat' (first | exact K0_2.out | exact K1_2.out | exact Blk.at_ _ (by first | rfl | (simp; done) | (simp; omega)) _ _ | refine Blk.drewN ?_ _ | refine Blk.drew ?_ | refine Blk.alloc ?_ _ | refine Blk.far ?_ (by first | omega | (simp; done) | (simp; omega)) _ | assumption)))
      have C0_3 := Lib.hid (step_cell hb (show World.cell? _ ⟨xb, xo + k * 6, none⟩ = some (.string t.name) by first | exact C0_2.out | go_simp) (by have := hxb2; first | omega | (simp; omega)))
      have C1_3 := Lib.hid (step_cell hb (show World.cell? _ ⟨xb, xo + k * 6 + 1, none⟩ = some (.int .i64 (t.az)) by first | exact C1_2.out | go_simp) (by have := hxb2; first | omega | (simp; omega)))
      have C2_3 := Lib.hid (step_cell hb (show World.cell? _ ⟨xb, xo + k * 6 + 2, none⟩ = some (.int .i64 (t.ht)) by first | exact C2_2.out | go_simp) (by have := hxb2; first | omega | (simp; omega)))
      have C3_3 := Lib.hid (step_cell hb (show World.cell? _ ⟨xb, xo + k * 6 + 3, none⟩ = some (.int .i64 (t.fr)) by first | exact C3_2.out | go_simp) (by have := hxb2; first | omega | (simp; omega)))
      have C4_3 := Lib.hid (step_cell hb (show World.cell? _ ⟨xb, xo + k * 6 + 4, none⟩ = some (.int .i64 (t.to)) by first | exact C4_2.out | go_simp) (by have := hxb2; first | omega | (simp; omega)))
      have C5_3 := Lib.hid (step_cell hb (show World.cell? _ ⟨xb, xo + k * 6 + 5, none⟩ = some (.int .i64 (t.dw)) by first | exact C5_2.out | go_simp) (by have := hxb2; first | omega | (simp; omega)))
      have hL3 := Lib.hid (show Below w2.heap.size w2 _ from reads_mid hb (by repeat' (first | exact Below.refl _ _ | refine below_drewN ?_ _ | refine Below.drew ?_ | refine Below.alloc ?_ (by first | omega | (simp; done) | (simp; omega) | (simp [World.setCell]; omega)) _ | refine Below.setCell ?_ (by first | omega | (simp; done) | (simp; omega)) _)))
      have R0_3 := Lib.hid (mnt_lay hb hL3.out R0_2.out)
      clear hL3 R0_2
      have hz3 := hb.size
      try simp only [World.size_alloc, World.drewN, World.drew] at hz3
      clear hb K0_2 K1_2 z0_0_2 z0_1_2 z0_2_2 z0_3_2 z0_4_2 z0_5_2 z0_6_2 l0_2 z1_0_2 z1_1_2 l1_2
      have l0_3 : w.heap.size < w3.heap.size := K0_3.out.lt
      have z0_0_3 : w3.cell? ⟨w.heap.size, 0, none⟩ = some (.int .i64 (m.ls)) := K0_3.out.cell 0
      have z0_1_3 : w3.cell? ⟨w.heap.size, 1, none⟩ = some (.int .i64 (m.ms)) := K0_3.out.cell 1
      have z0_2_3 : w3.cell? ⟨w.heap.size, 2, none⟩ = some (.int .i64 (m.lo)) := K0_3.out.cell 2
      have z0_3_3 : w3.cell? ⟨w.heap.size, 3, none⟩ = some (.int .i64 (m.hi)) := K0_3.out.cell 3
      have z0_4_3 : w3.cell? ⟨w.heap.size, 4, none⟩ = some (.int .i64 (m.sp)) := K0_3.out.cell 4
      have z0_5_3 : w3.cell? ⟨w.heap.size, 5, none⟩ = some (.slice m.A1 m.n1 m.c1) := K0_3.out.cell 5
      have z0_6_3 : w3.cell? ⟨w.heap.size, 6, none⟩ = some (.slice m.A2 m.n2 m.c2) := K0_3.out.cell 6
      have l1_3 : w.heap.size + 1 < w3.heap.size := K1_3.out.lt
      have z1_0_3 : w3.cell? ⟨w.heap.size + 1, 0, none⟩ = some (.int .i64 (day)) := K1_3.out.cell 0
      have z1_1_3 : w3.cell? ⟨w.heap.size + 1, 1, none⟩ = some (.int .i64 (pos)) := K1_3.out.cell 1
      by_cases hlen : r.n = q
      · have e2 : ((r.n : Int) != (q : Int)) = false := by rw [hlen]; simp
        have HLEN := Lib.hid hlen
        clear hlen
        go_wp2
        go_roundw
        case rel =>
          refine ⟨k + 1, by omega, by go_num, HB13.out, fun j p t hj hp ht => ?_⟩
          by_cases hjk : j < k
          · exact HPRE.out j p t hjk hp ht
          · obtain rfl : k = j := by omega
            obtain rfl := Option.some.inj (HPK.out.symm.trans hp)
            obtain rfl := Option.some.inj (HTT.out.symm.trans ht)
            rw [HV.out, HQ.out, HRL.out, HLEN.out]
        case measure => simp [intOf]; omega
      · have e2 : ((r.n : Int) != (q : Int)) = true := by rw [bne_iff_ne]; omega
        obtain ⟨rfl, rfl⟩ := HR.out.shape (fun h => hlen (by have := h.2 k _ _ HPK.out HTT.out; rw [HV.out, HQ.out, HRL.out] at this; exact this))
        clear hlen
        go_wp2
        go_ret2
        exact ⟨rfl, HB3.out⟩
    · obtain rfl : np = k := by omega
      have hshape : ShapeOk m day l ps := ⟨by rw [HPL.out, HLL.out], fun i p t hp ht => HPRE.out i p t (by have := (List.getElem?_eq_some_iff.1 hp).1; rw [HPL.out] at this; exact this) hp ht⟩
      have HSH := Lib.hid hshape
      clear hshape
      go_wp2
      go_loopw [13] (fun i wr => ∃ k : Nat, k ≤ np ∧ i = .int .i64 k ∧ wr = w2 ∧ ∀ (j : Nat) (p : List Int), j < k → ps[j]? = some p → smallL 1000000000000 p = true) (fun i _ => np - (intOf i).toNat)
      case atStart => exact ⟨0, by omega, rfl, by trivial, fun j p hj => absurd hj (by omega)⟩
      case round =>
        obtain ⟨k, hk, rfl, rfl, hpre⟩ := hrel
        obtain ⟨w2, hnm⟩ : ∃ z : World, z = wr := ⟨_, rfl⟩
        subst hnm
        have HPRE2 := Lib.hid hpre
        clear hpre
        have hk2 := (HK.out.below HBW2.out).more HBW2.out.size
        by_cases hlt2 : k < np
        · obtain ⟨pb, po, r, rfl, hpb, hr, p0, -, hrl, hrr⟩ := hk2.at_ hlt2
          have hpk := HPG.out k r hr
          have HPK := Lib.hid hpk
          have HRR := Lib.hid hrr
          have HRL := Lib.hid hrl
          have hr1 := HRN.out r (List.mem_of_getElem? hr)
          have hkk : (k : Int) < (np : Int) := by omega
          clear hr hrl hpk hrr hk2
          go_wp2
          go_loopw [14] (fun i wr => ∃ j : Nat, j ≤ r.n ∧ i = .int .i64 j ∧ wr = w2 ∧ smallL 1000000000000 (r.xs.take j) = true) (fun i _ => r.n - (intOf i).toNat)
          case atStart => exact ⟨0, by omega, rfl, by trivial, rfl⟩
          case round =>
            obtain ⟨j, hjn, rfl, rfl, hsm⟩ := hrel
            obtain ⟨w2, hnm⟩ : ∃ z : World, z = wr := ⟨_, rfl⟩
            subst hnm
            have HSM := Lib.hid hsm
            clear hsm
            by_cases hlt3 : j < r.n
            · obtain ⟨zb, zo, z, hAz, -, hz, g0⟩ := HRR.out.int_ hlt3
              rw [hAz] at p0
              have hjj : (j : Int) < (r.n : Int) := by omega
              have hst : r.xs.take (j + 1) = r.xs.take j ++ [z] := by rw [List.take_add_one, hz]; rfl
              cases hwz : withinB z (-1000000000000) 1000000000000
              · have hs : ¬ RangeOk ps := fun h => by
                  have := List.all_eq_true.1 (h _ (List.mem_of_getElem? HPK.out)) z (List.mem_of_getElem? hz)
                  rw [hwz] at this; cases this
                obtain ⟨rfl, rfl⟩ := HR.out.range HSH.out hs
                have HWZ := Lib.hid hwz
                clear hz hst hwz hs
                go_wp2_with fail
                refine (withinref_is _ _ _ false HWZ.out _).mono ?_
                rintro e w' ⟨rfl, rfl⟩
                go_wp2
                go_ret2
                exact ⟨rfl, HBW2.out⟩
              · have hs2 : smallL 1000000000000 (r.xs.take (j + 1)) = true := by
                  have := HSM.out
                  unfold smallL at this ⊢
                  rw [hst, List.all_append, this]
                  simpa using hwz
                have HWZ := Lib.hid hwz
                have HS2 := Lib.hid hs2
                clear hz hst hwz hs2
                go_wp2_with fail
                refine (withinref_is _ _ _ true HWZ.out _).mono ?_
                rintro e w' ⟨rfl, rfl⟩
                go_wp2
                go_roundw
                case rel => exact ⟨j + 1, by omega, by go_num, by trivial, HS2.out⟩
                case measure => simp [intOf]; omega
            · obtain rfl : r.n = j := by omega
              have hall : smallL 1000000000000 r.xs = true := by
                have := HSM.out
                rwa [List.take_of_length_le (by rw [HRL.out]; exact Nat.le_refl _)] at this
              have HALL := Lib.hid hall
              clear hall
              go_wp2
              go_roundw
              case rel =>
                refine ⟨k + 1, by omega, by go_num, by trivial, fun j p hj hp => ?_⟩
                by_cases hjk : j < k
                · exact HPRE2.out j p hjk hp
                · obtain rfl : k = j := by omega
                  obtain rfl := Option.some.inj (HPK.out.symm.trans hp)
                  exact HALL.out
              case measure => simp [intOf]; omega
        · obtain rfl : np = k := by omega
          have hrange : RangeOk ps := fun p hp => by
            obtain ⟨j, hj⟩ := List.getElem?_of_mem hp
            exact HPRE2.out j p (by have := (List.getElem?_eq_some_iff.1 hj).1; rw [HPL.out] at this; exact this) hj
          have HRG := Lib.hid hrange
          clear hrange hk2
          go_wp2
          go_loopw [15] (fun i wr => ∃ k : Nat, k ≤ np ∧ i = .int .i64 k ∧ Below w1.heap.size w1 wr ∧ ∀ j, j < k → ProofAt m day pos l ps j) (fun i _ => np - (intOf i).toNat)
          case atStart => exact ⟨0, by omega, rfl, HB1_2.out, fun j hj => absurd hj (by omega)⟩
          case round =>
            obtain ⟨k, hk, rfl, hb6, hpre⟩ := hrel
            obtain ⟨w6, hnm⟩ : ∃ z : World, z = wr := ⟨_, rfl⟩
            subst hnm
            have HPR := Lib.hid hpre
            have HB16 := Lib.hid hb6
            clear hpre hb6
            have hb1 := HB16.out
            have hk0 := Blk.below K0_1.out hb1 l0_1
            have hk1 := Blk.below K1_1.out hb1 l1_1
            have hbw := HB1.out.trans (hb1.mono HB1.out.size)
            have hxm := HX.out.lay hbw
            have HBW6 := Lib.hid hbw
            have HB1_6 := Lib.hid hb1
            have hsz6 := hbw.size
            clear hb1
            have HB6 := Lib.hid hbw
            have K0_6 := Lib.hid (show Blk w6 (w.heap.size) 58 #[.int .i64 (m.ls), .int .i64 (m.ms), .int .i64 (m.lo), .int .i64 (m.hi), .int .i64 (m.sp), .slice m.A1 m.n1 m.c1, .slice m.A2 m.n2 m.c2] from hk0)
            have K1_6 := Lib.hid (show Blk w6 (w.heap.size + 1) 60 #[.int .i64 (day), .int .i64 (pos)] from hk1)
            clear hbw hk0 hk1
            have l0_6 : w.heap.size < w6.heap.size := K0_6.out.lt
            have z0_0_6 : w6.cell? ⟨w.heap.size, 0, none⟩ = some (.int .i64 (m.ls)) := K0_6.out.cell 0
            have z0_1_6 : w6.cell? ⟨w.heap.size, 1, none⟩ = some (.int .i64 (m.ms)) := K0_6.out.cell 1
            have z0_2_6 : w6.cell? ⟨w.heap.size, 2, none⟩ = some (.int .i64 (m.lo)) := K0_6.out.cell 2
            have z0_3_6 : w6.cell? ⟨w.heap.size, 3, none⟩ = some (.int .i64 (m.hi)) := K0_6.out.cell 3
            have z0_4_6 : w6.cell? ⟨w.heap.size, 4, none⟩ = some (.int .i64 (m.sp)) := K0_6.out.cell 4
            have z0_5_6 : w6.cell? ⟨w.heap.size, 5, none⟩ = some (.slice m.A1 m.n1 m.c1) := K0_6.out.cell 5
            have z0_6_6 : w6.cell? ⟨w.heap.size, 6, none⟩ = some (.slice m.A2 m.n2 m.c2) := K0_6.out.cell 6
            have l1_6 : w.heap.size + 1 < w6.heap.size := K1_6.out.lt
            have z1_0_6 : w6.cell? ⟨w.heap.size + 1, 0, none⟩ = some (.int .i64 (day)) := K1_6.out.cell 0
            have z1_1_6 : w6.cell? ⟨w.heap.size + 1, 1, none⟩ = some (.int .i64 (pos)) := K1_6.out.cell 1
            have R0_6 := Lib.hid hxm
            clear hxm
            by_cases hlt4 : k < np
            · obtain ⟨xb, xo, t, hAx, hxb, ht, c0, c1, c2, c3, c4, c5⟩ := HL.out.tgt hlt4
              obtain ⟨pb, po, r, hAp, hpb, hr, p0, -, hrl, hrr⟩ := HK.out.at_ hlt4
              have HCW := Lib.hid (show TgtCells xb (xo + k * 6) t w from ⟨c0, c1, c2, c3, c4, c5⟩)
              have hpk := HPG.out k r hr
              have hr1 := HRN.out r (List.mem_of_getElem? hr)
              obtain ⟨rA, rn, rc, rx⟩ := r
              simp only at p0 hrl hrr hpk hr1
              have HP0 := Lib.hid p0
              have HRR := Lib.hid hrr
              have hxb6 : xb < w6.heap.size := by omega
              subst hAx hAp
              obtain ⟨te1, te2⟩ := tour_each HT0.out ht
              obtain ⟨X, Y, hA⟩ : ∃ X Y, appF m t day = (X, Y) := ⟨_, _, rfl⟩
              obtain ⟨L, F, hTA⟩ : ∃ L F, turnsAt m X Y = (L, F) := ⟨_, _, rfl⟩
              obtain ⟨q, hq⟩ : ∃ q, L.length = q := ⟨_, rfl⟩
              obtain ⟨hV, hVP⟩ := turnsV_eq hA hTA
              have hlen := HSH.out.2 k _ _ hpk ht
              rw [hV, hq, hrl] at hlen
              subst hlen
              have hzr := small_in (HRG.out _ (List.mem_of_getElem? hpk))
              have hkk : (k : Int) < (np : Int) := by omega
              have HA := Lib.hid hA
              have HTA := Lib.hid hTA
              have HQ := Lib.hid hq
              have HE1 := Lib.hid te1
              have HTT := Lib.hid ht
              have HPK := Lib.hid hpk
              have HV := Lib.hid hV
              have HVP := Lib.hid hVP
              have HZR := Lib.hid hzr
              clear ht hr te1 te2 hA hTA hq hV hVP hpk hrl c0 c1 c2 c3 c4 c5 p0 hrr hzr
              have C0_6 := Lib.hid ((HBW6.out.cell (p := ⟨xb, xo + k * 6, none⟩) hxb).trans HCW.out.1)
              have C1_6 := Lib.hid ((HBW6.out.cell (p := ⟨xb, xo + k * 6 + 1, none⟩) hxb).trans HCW.out.2.1)
              have C2_6 := Lib.hid ((HBW6.out.cell (p := ⟨xb, xo + k * 6 + 2, none⟩) hxb).trans HCW.out.2.2.1)
              have C3_6 := Lib.hid ((HBW6.out.cell (p := ⟨xb, xo + k * 6 + 3, none⟩) hxb).trans HCW.out.2.2.2.1)
              have C4_6 := Lib.hid ((HBW6.out.cell (p := ⟨xb, xo + k * 6 + 4, none⟩) hxb).trans HCW.out.2.2.2.2.1)
              have C5_6 := Lib.hid ((HBW6.out.cell (p := ⟨xb, xo + k * 6 + 5, none⟩) hxb).trans HCW.out.2.2.2.2.2)
              go_wp2
              refine Fx.regionM (fun W g f w' => Kp (PfQ m rn L 97 7) W g w') (fun i (x : Pick2) => .tuple #[.slice x.1.1 rn x.1.2, .int .i64 F]) (by kernel_rfl) ?_ ?_
              · intro f hf0
                exact Kp.start
              first
              | (refine Fx.WM.skip 0 (by rfl) (by kernel_rfl) (by kernel_rfl) (by kernel_rfl) (by rfl) (fun g f w h => h) ?_; simp only [Act.put, List.setIfInBounds_toArray, List.set_cons_zero, List.set_cons_succ])
              | (refine Fx.WM.val_ 0 ?_ (by rfl) (by kernel_rfl) (by kernel_rfl) (by kernel_rfl) (by rfl) ?_ (fun g f w h => h) ?_
                 rotate_left
                 · intro g f w' hx hD hk
                   obtain hkp := id hD
                   have y0_0 := (K0_6.out.below hkp.bel l0_6).cell 0
                   have y0_1 := (K0_6.out.below hkp.bel l0_6).cell 1
                   have y0_2 := (K0_6.out.below hkp.bel l0_6).cell 2
                   have y0_3 := (K0_6.out.below hkp.bel l0_6).cell 3
                   have y0_4 := (K0_6.out.below hkp.bel l0_6).cell 4
                   have y0_5 := (K0_6.out.below hkp.bel l0_6).cell 5
                   have y0_6 := (K0_6.out.below hkp.bel l0_6).cell 6
                   clear hx hk hD hkp
                   go_simp
                   try rfl
                 simp only [Act.put, List.setIfInBounds_toArray, List.set_cons_zero, List.set_cons_succ])
              first
              | (refine Fx.WM.skip 1 (by rfl) (by kernel_rfl) (by kernel_rfl) (by kernel_rfl) (by rfl) (fun g f w h => h) ?_; simp only [Act.put, List.setIfInBounds_toArray, List.set_cons_zero, List.set_cons_succ])
              | (refine Fx.WM.val_ 1 ?_ (by rfl) (by kernel_rfl) (by kernel_rfl) (by kernel_rfl) (by rfl) ?_ (fun g f w h => h) ?_
                 rotate_left
                 · intro g f w' hx hD hk
                   obtain hkp := id hD
                   clear hx hk hD hkp
                   go_simp
                   try rfl
                 simp only [Act.put, List.setIfInBounds_toArray, List.set_cons_zero, List.set_cons_succ])
              first
              | (refine Fx.WM.skip 2 (by rfl) (by kernel_rfl) (by kernel_rfl) (by kernel_rfl) (by rfl) (fun g f w h => h) ?_; simp only [Act.put, List.setIfInBounds_toArray, List.set_cons_zero, List.set_cons_succ])
              | (refine Fx.WM.val_ 2 ?_ (by rfl) (by kernel_rfl) (by kernel_rfl) (by kernel_rfl) (by rfl) ?_ (fun g f w h => h) ?_
                 rotate_left
                 · intro g f w' hx hD hk
                   obtain hkp := id hD
                   clear hx hk hD hkp
                   go_simp
                   try rfl
                 simp only [Act.put, List.setIfInBounds_toArray, List.set_cons_zero, List.set_cons_succ])
              first
              | (refine Fx.WM.skip 3 (by rfl) (by kernel_rfl) (by kernel_rfl) (by kernel_rfl) (by rfl) (fun g f w h => h) ?_; simp only [Act.put, List.setIfInBounds_toArray, List.set_cons_zero, List.set_cons_succ])
              | (refine Fx.WM.val_ 3 ?_ (by rfl) (by kernel_rfl) (by kernel_rfl) (by kernel_rfl) (by rfl) ?_ (fun g f w h => h) ?_
                 rotate_left
                 · intro g f w' hx hD hk
                   obtain hkp := id hD
                   clear hx hk hD hkp
                   go_simp
                   try rfl
                 simp only [Act.put, List.setIfInBounds_toArray, List.set_cons_zero, List.set_cons_succ])
              first
              | (refine Fx.WM.skip 4 (by rfl) (by kernel_rfl) (by kernel_rfl) (by kernel_rfl) (by rfl) (fun g f w h => h) ?_; simp only [Act.put, List.setIfInBounds_toArray, List.set_cons_zero, List.set_cons_succ])
              | (refine Fx.WM.val_ 4 ?_ (by rfl) (by kernel_rfl) (by kernel_rfl) (by kernel_rfl) (by rfl) ?_ (fun g f w h => h) ?_
                 rotate_left
                 · intro g f w' hx hD hk
                   obtain hkp := id hD
                   have yc0 := (hkp.bel.cell (p := ⟨xb, xo + k * 6, none⟩) (by have := hxb6; show xb < _; omega)).trans C0_6.out
                   have yc1 := (hkp.bel.cell (p := ⟨xb, xo + k * 6 + 1, none⟩) (by have := hxb6; show xb < _; omega)).trans C1_6.out
                   have yc2 := (hkp.bel.cell (p := ⟨xb, xo + k * 6 + 2, none⟩) (by have := hxb6; show xb < _; omega)).trans C2_6.out
                   have yc3 := (hkp.bel.cell (p := ⟨xb, xo + k * 6 + 3, none⟩) (by have := hxb6; show xb < _; omega)).trans C3_6.out
                   have yc4 := (hkp.bel.cell (p := ⟨xb, xo + k * 6 + 4, none⟩) (by have := hxb6; show xb < _; omega)).trans C4_6.out
                   have yc5 := (hkp.bel.cell (p := ⟨xb, xo + k * 6 + 5, none⟩) (by have := hxb6; show xb < _; omega)).trans C5_6.out
                   clear hx hk hD hkp
                   go_simp
                   try rfl
                 simp only [Act.put, List.setIfInBounds_toArray, List.set_cons_zero, List.set_cons_succ])
              first
              | (refine Fx.WM.skip 5 (by rfl) (by kernel_rfl) (by kernel_rfl) (by kernel_rfl) (by rfl) (fun g f w h => h) ?_; simp only [Act.put, List.setIfInBounds_toArray, List.set_cons_zero, List.set_cons_succ])
              | (refine Fx.WM.val_ 5 ?_ (by rfl) (by kernel_rfl) (by kernel_rfl) (by kernel_rfl) (by rfl) ?_ (fun g f w h => h) ?_
                 rotate_left
                 · intro g f w' hx hD hk
                   obtain hkp := id hD
                   have y1_0 := (K1_6.out.below hkp.bel l1_6).cell 0
                   have y1_1 := (K1_6.out.below hkp.bel l1_6).cell 1
                   clear hx hk hD hkp
                   go_simp
                   try rfl
                 simp only [Act.put, List.setIfInBounds_toArray, List.set_cons_zero, List.set_cons_succ])
              first
              | (refine Fx.WM.skip 6 (by rfl) (by kernel_rfl) (by kernel_rfl) (by kernel_rfl) (by rfl) (fun g f w h => h) ?_; simp only [Act.put, List.setIfInBounds_toArray, List.set_cons_zero, List.set_cons_succ])
              | (refine Fx.WM.val_ 6 ?_ (by rfl) (by kernel_rfl) (by kernel_rfl) (by kernel_rfl) (by rfl) ?_ (fun g f w h => h) ?_
                 rotate_left
                 · intro g f w' hx hD hk
                   obtain hkp := id hD
                   have y1_0 := (K1_6.out.below hkp.bel l1_6).cell 0
                   have y1_1 := (K1_6.out.below hkp.bel l1_6).cell 1
                   clear hx hk hD hkp
                   go_simp
                   try rfl
                 simp only [Act.put, List.setIfInBounds_toArray, List.set_cons_zero, List.set_cons_succ])
              refine Fx.WM.choose 7 (by rfl) (by kernel_rfl) (by rfl) ?_ ?_
              · skip
                refine Fx.Chooses.call ?_ ?_ (by rfl) ?_ ?_
                rotate_left 2
                · intro w'
                  go_simp
                  refine ⟨?_, ?_⟩ <;> rfl
                · intro f w' hD hk
                  exact (rturns_is m t day X Y L F rn HA.out HTA.out HQ.out w' (R0_6.out.lay hD.bel) HM.out HE1.out HD.out).mono fun e w'' ⟨A', c', he, hb, hr⟩ => ⟨((A', c'), (none, 0)), he, hD.choose PfQ.stb hb 7 _ ⟨fun e => absurd e (by decide), fun _ => hr⟩⟩
              intro x
              simp only [Act.put, List.setIfInBounds_toArray, List.set_cons_zero, List.set_cons_succ]
              first
              | (refine Fx.WM.skip 8 (by rfl) (by kernel_rfl) (by kernel_rfl) (by kernel_rfl) (by rfl) (fun g f w h => h) ?_; simp only [Act.put, List.setIfInBounds_toArray, List.set_cons_zero, List.set_cons_succ])
              | (refine Fx.WM.val_ 8 ?_ (by rfl) (by kernel_rfl) (by kernel_rfl) (by kernel_rfl) (by rfl) ?_ (fun g f w h => h) ?_
                 rotate_left
                 · intro g f w' hx hD hk
                   obtain hkp := id hD
                   clear hx hk hD hkp
                   go_simp
                   try rfl
                 simp only [Act.put, List.setIfInBounds_toArray, List.set_cons_zero, List.set_cons_succ])
              first
              | (refine Fx.WM.skip 9 (by rfl) (by kernel_rfl) (by kernel_rfl) (by kernel_rfl) (by rfl) (fun g f w h => h) ?_; simp only [Act.put, List.setIfInBounds_toArray, List.set_cons_zero, List.set_cons_succ])
              | (refine Fx.WM.val_ 9 ?_ (by rfl) (by kernel_rfl) (by kernel_rfl) (by kernel_rfl) (by rfl) ?_ (fun g f w h => h) ?_
                 rotate_left
                 · intro g f w' hx hD hk
                   obtain hkp := id hD
                   clear hx hk hD hkp
                   go_simp
                   try rfl
                 simp only [Act.put, List.setIfInBounds_toArray, List.set_cons_zero, List.set_cons_succ])
              first
              | (refine Fx.WM.skip 10 (by rfl) (by kernel_rfl) (by kernel_rfl) (by kernel_rfl) (by rfl) (fun g f w h => h) ?_; simp only [Act.put, List.setIfInBounds_toArray, List.set_cons_zero, List.set_cons_succ])
              | (refine Fx.WM.val_ 10 ?_ (by rfl) (by kernel_rfl) (by kernel_rfl) (by kernel_rfl) (by rfl) ?_ (fun g f w h => h) ?_
                 rotate_left
                 · intro g f w' hx hD hk
                   obtain hkp := id hD
                   clear hx hk hD hkp
                   go_simp
                   try rfl
                 simp only [Act.put, List.setIfInBounds_toArray, List.set_cons_zero, List.set_cons_succ])
              first
              | (refine Fx.WM.skip 11 (by rfl) (by kernel_rfl) (by kernel_rfl) (by kernel_rfl) (by rfl) (fun g f w h => h) ?_; simp only [Act.put, List.setIfInBounds_toArray, List.set_cons_zero, List.set_cons_succ])
              | (refine Fx.WM.val_ 11 ?_ (by rfl) (by kernel_rfl) (by kernel_rfl) (by kernel_rfl) (by rfl) ?_ (fun g f w h => h) ?_
                 rotate_left
                 · intro g f w' hx hD hk
                   obtain hkp := id hD
                   clear hx hk hD hkp
                   go_simp
                   try rfl
                 simp only [Act.put, List.setIfInBounds_toArray, List.set_cons_zero, List.set_cons_succ])
              first
              | (refine Fx.WM.skip 12 (by rfl) (by kernel_rfl) (by kernel_rfl) (by kernel_rfl) (by rfl) (fun g f w h => h) ?_; simp only [Act.put, List.setIfInBounds_toArray, List.set_cons_zero, List.set_cons_succ])
              | (refine Fx.WM.val_ 12 ?_ (by rfl) (by kernel_rfl) (by kernel_rfl) (by kernel_rfl) (by rfl) ?_ (fun g f w h => h) ?_
                 rotate_left
                 · intro g f w' hx hD hk
                   obtain hkp := id hD
                   clear hx hk hD hkp
                   go_simp
                   try rfl
                 simp only [Act.put, List.setIfInBounds_toArray, List.set_cons_zero, List.set_cons_succ])
              refine Fx.WM.nil (by kernel_rfl) ?_
              intro wz hkp
              obtain ⟨⟨xA, xc⟩, x2⟩ := x
              have hb := hkp.bel
              have hr := (hkp.has 7 _ (by rfl)).2 rfl
              clear hkp
              simp only at hr
              obtain ⟨w7, hnm⟩ : ∃ z : World, z = wz := ⟨_, rfl⟩
              subst hnm
              have HB17 := Lib.hid (HB16.out.trans (hb.mono HB16.out.size))
              have HR7 := Lib.hid hr
              clear hr
              have HB7 := Lib.hid (show Below w.heap.size w w7 from step_below hb (by repeat' (first | exact Below.refl _ _ | exact HB6.out | refine below_drewN ?_ _ | refine Below.drew ?_ | refine Below.alloc ?_ (by first | omega | (simp; done) | (simp; omega) | (simp [World.setCell]; omega)) _ | refine Below.setCell ?_ (by first | omega | (simp; done) | (simp; omega)) _ | assumption)))
              have K0_7 := Lib.hid (step_blk hb (show Blk _ (w.heap.size) 58 #[.int .i64 (m.ls), .int .i64 (m.ms), .int .i64 (m.lo), .int .i64 (m.hi), .int .i64 (m.sp), .slice m.A1 m.n1 m.c1, .slice m.A2 m.n2 m.c2] by repeat' (first | exact K0_6.out | exact K1_6.out | exact Blk.at_ _ (by first | rfl | (simp; done) | (simp; omega)) _ _ | refine Blk.drewN ?_ _ | refine Blk.drew ?_ | refine Blk.alloc ?_ _ | refine Blk.far ?_ (by first | omega | (simp; done) | (simp; omega)) _ | assumption)))
              have K1_7 := Lib.hid (step_blk hb (show Blk _ (w.heap.size + 1) 60 #[.int .i64 (day), .int .i64 (pos)] by repeat' (first | exact K0_6.out | exact K1_6.out | exact Blk.at_ _ (by first | rfl | (simp; done) | (simp; omega)) _ _ | refine Blk.drewN ?_ _ | refine Blk.drew ?_ | refine Blk.alloc ?_ _ | refine Blk.far ?_ (by first | omega | (simp; done) | (simp; omega)) _ | assumption)))
              have C0_7 := Lib.hid (step_cell hb (show World.cell? _ ⟨xb, xo + k * 6, none⟩ = some (.string t.name) by first | exact C0_6.out | go_simp) (by have := hxb6; first | omega | (simp; omega)))
              have C1_7 := Lib.hid (step_cell hb (show World.cell? _ ⟨xb, xo + k * 6 + 1, none⟩ = some (.int .i64 (t.az)) by first | exact C1_6.out | go_simp) (by have := hxb6; first | omega | (simp; omega)))
              have C2_7 := Lib.hid (step_cell hb (show World.cell? _ ⟨xb, xo + k * 6 + 2, none⟩ = some (.int .i64 (t.ht)) by first | exact C2_6.out | go_simp) (by have := hxb6; first | omega | (simp; omega)))
              have C3_7 := Lib.hid (step_cell hb (show World.cell? _ ⟨xb, xo + k * 6 + 3, none⟩ = some (.int .i64 (t.fr)) by first | exact C3_6.out | go_simp) (by have := hxb6; first | omega | (simp; omega)))
              have C4_7 := Lib.hid (step_cell hb (show World.cell? _ ⟨xb, xo + k * 6 + 4, none⟩ = some (.int .i64 (t.to)) by first | exact C4_6.out | go_simp) (by have := hxb6; first | omega | (simp; omega)))
              have C5_7 := Lib.hid (step_cell hb (show World.cell? _ ⟨xb, xo + k * 6 + 5, none⟩ = some (.int .i64 (t.dw)) by first | exact C5_6.out | go_simp) (by have := hxb6; first | omega | (simp; omega)))
              have hL7 := Lib.hid (show Below w6.heap.size w6 _ from reads_mid hb (by repeat' (first | exact Below.refl _ _ | refine below_drewN ?_ _ | refine Below.drew ?_ | refine Below.alloc ?_ (by first | omega | (simp; done) | (simp; omega) | (simp [World.setCell]; omega)) _ | refine Below.setCell ?_ (by first | omega | (simp; done) | (simp; omega)) _)))
              have R0_7 := Lib.hid (mnt_lay hb hL7.out R0_6.out)
              clear hL7 R0_6
              have hz7 := hb.size
              try simp only [World.size_alloc, World.drewN, World.drew] at hz7
              clear hb K0_6 K1_6 z0_0_6 z0_1_6 z0_2_6 z0_3_6 z0_4_6 z0_5_6 z0_6_6 l0_6 z1_0_6 z1_1_6 l1_6
              have l0_7 : w.heap.size < w7.heap.size := K0_7.out.lt
              have z0_0_7 : w7.cell? ⟨w.heap.size, 0, none⟩ = some (.int .i64 (m.ls)) := K0_7.out.cell 0
              have z0_1_7 : w7.cell? ⟨w.heap.size, 1, none⟩ = some (.int .i64 (m.ms)) := K0_7.out.cell 1
              have z0_2_7 : w7.cell? ⟨w.heap.size, 2, none⟩ = some (.int .i64 (m.lo)) := K0_7.out.cell 2
              have z0_3_7 : w7.cell? ⟨w.heap.size, 3, none⟩ = some (.int .i64 (m.hi)) := K0_7.out.cell 3
              have z0_4_7 : w7.cell? ⟨w.heap.size, 4, none⟩ = some (.int .i64 (m.sp)) := K0_7.out.cell 4
              have z0_5_7 : w7.cell? ⟨w.heap.size, 5, none⟩ = some (.slice m.A1 m.n1 m.c1) := K0_7.out.cell 5
              have z0_6_7 : w7.cell? ⟨w.heap.size, 6, none⟩ = some (.slice m.A2 m.n2 m.c2) := K0_7.out.cell 6
              have l1_7 : w.heap.size + 1 < w7.heap.size := K1_7.out.lt
              have z1_0_7 : w7.cell? ⟨w.heap.size + 1, 0, none⟩ = some (.int .i64 (day)) := K1_7.out.cell 0
              have z1_1_7 : w7.cell? ⟨w.heap.size + 1, 1, none⟩ = some (.int .i64 (pos)) := K1_7.out.cell 1
              go_wp2
              go_loopw [18] (fun i wr => ∃ j : Nat, j ≤ rn ∧ i = .int .i64 j ∧ Below w7.heap.size w7 wr ∧ ∀ (j' : Nat) (z to : Int), j' < j → rx[j']? = some z → (posV m day t)[j']? = some to → ∀ (n' : Nat) (b a : Int), (befL ps k)[n']? = some b → (froL m day pos l k)[n']? = some a → z ≤ b + costF a to) (fun i _ => rn - (intOf i).toNat)
              case atStart => exact ⟨0, by omega, rfl, Below.refl _ _, fun j' z to hj => absurd hj (by omega)⟩
              case round =>
                obtain ⟨j, hj, rfl, hb8, hpre⟩ := hrel
                obtain ⟨w8, hnm⟩ : ∃ z : World, z = wr := ⟨_, rfl⟩
                subst hnm
                have HPRJ := Lib.hid hpre
                have HB78 := Lib.hid hb8
                have hr8 := (HR7.out.below hb8).more hb8.size
                clear hpre hb8
                have hb1 := (HB17.out.trans (HB78.out.mono HB17.out.size))
                have hk0 := Blk.below K0_1.out hb1 l0_1
                have hk1 := Blk.below K1_1.out hb1 l1_1
                have hbw := HB1.out.trans (hb1.mono HB1.out.size)
                have hxm := HX.out.lay hbw
                have HBW8 := Lib.hid hbw
                have HB1_8 := Lib.hid hb1
                have hsz8 := hbw.size
                clear hb1
                have HB8 := Lib.hid hbw
                have K0_8 := Lib.hid (show Blk w8 (w.heap.size) 58 #[.int .i64 (m.ls), .int .i64 (m.ms), .int .i64 (m.lo), .int .i64 (m.hi), .int .i64 (m.sp), .slice m.A1 m.n1 m.c1, .slice m.A2 m.n2 m.c2] from hk0)
                have K1_8 := Lib.hid (show Blk w8 (w.heap.size + 1) 60 #[.int .i64 (day), .int .i64 (pos)] from hk1)
                clear hbw hk0 hk1
                have l0_8 : w.heap.size < w8.heap.size := K0_8.out.lt
                have z0_0_8 : w8.cell? ⟨w.heap.size, 0, none⟩ = some (.int .i64 (m.ls)) := K0_8.out.cell 0
                have z0_1_8 : w8.cell? ⟨w.heap.size, 1, none⟩ = some (.int .i64 (m.ms)) := K0_8.out.cell 1
                have z0_2_8 : w8.cell? ⟨w.heap.size, 2, none⟩ = some (.int .i64 (m.lo)) := K0_8.out.cell 2
                have z0_3_8 : w8.cell? ⟨w.heap.size, 3, none⟩ = some (.int .i64 (m.hi)) := K0_8.out.cell 3
                have z0_4_8 : w8.cell? ⟨w.heap.size, 4, none⟩ = some (.int .i64 (m.sp)) := K0_8.out.cell 4
                have z0_5_8 : w8.cell? ⟨w.heap.size, 5, none⟩ = some (.slice m.A1 m.n1 m.c1) := K0_8.out.cell 5
                have z0_6_8 : w8.cell? ⟨w.heap.size, 6, none⟩ = some (.slice m.A2 m.n2 m.c2) := K0_8.out.cell 6
                have l1_8 : w.heap.size + 1 < w8.heap.size := K1_8.out.lt
                have z1_0_8 : w8.cell? ⟨w.heap.size + 1, 0, none⟩ = some (.int .i64 (day)) := K1_8.out.cell 0
                have z1_1_8 : w8.cell? ⟨w.heap.size + 1, 1, none⟩ = some (.int .i64 (pos)) := K1_8.out.cell 1
                have R0_8 := Lib.hid hxm
                clear hxm
                by_cases hlt5 : j < rn
                · obtain ⟨kb, ko, kz, rfl, hkb, hkz, d0⟩ := hr8.int_ hlt5
                  obtain ⟨rb, ro, z, rfl, hrb, hz, g0⟩ := HRR.out.int_ hlt5
                  have hto := HVP.out j kz hkz
                  have htn := turn_range (show kz ∈ turnsV m day t by rw [HV.out]; exact List.mem_of_getElem? hkz)
                  obtain ⟨to, hto2⟩ : ∃ to, X + kz * 1296000 = to := ⟨_, rfl⟩
                  rw [hto2] at hto
                  have htr := posV_in (List.mem_of_getElem? hto)
                  have hptr : PosR to := by unfold PosR; omega
                  have hzr := HZR.out z (List.mem_of_getElem? hz)
                  obtain ⟨-, -, t3, t4⟩ := htn
                  have hjj : (j : Int) < (rn : Int) := by omega
                  have HTO := Lib.hid hto
                  have HTO2 := Lib.hid hto2
                  have HZ := Lib.hid hz
                  have HG0 := Lib.hid g0
                  have HPT := Lib.hid hptr
                  have hxb8 : xb < w8.heap.size := by omega
                  clear hto hto2 hz hptr htr hkz g0
                  have C0_8 := Lib.hid ((HBW8.out.cell (p := ⟨xb, xo + k * 6, none⟩) hxb).trans HCW.out.1)
                  have C1_8 := Lib.hid ((HBW8.out.cell (p := ⟨xb, xo + k * 6 + 1, none⟩) hxb).trans HCW.out.2.1)
                  have C2_8 := Lib.hid ((HBW8.out.cell (p := ⟨xb, xo + k * 6 + 2, none⟩) hxb).trans HCW.out.2.2.1)
                  have C3_8 := Lib.hid ((HBW8.out.cell (p := ⟨xb, xo + k * 6 + 3, none⟩) hxb).trans HCW.out.2.2.2.1)
                  have C4_8 := Lib.hid ((HBW8.out.cell (p := ⟨xb, xo + k * 6 + 4, none⟩) hxb).trans HCW.out.2.2.2.2.1)
                  have C5_8 := Lib.hid ((HBW8.out.cell (p := ⟨xb, xo + k * 6 + 5, none⟩) hxb).trans HCW.out.2.2.2.2.2)
                  go_wp2
                  refine Fx.regionW (fun W f w' => Below W.heap.size W w') (by kernel_rfl) (by kernel_rfl) ?_ ?_
                  · intro f hf0
                    exact below_drewN (Below.refl _ _) 1
                  repeat (first
                    | (refine Fx.skip_ (by rfl) (fun f w h => h) ?_; simp only [Act.put, List.setIfInBounds_toArray, List.set_cons_zero, List.set_cons_succ])
                    | (refine Fx.val_ ?_ (by rfl) ?_ (fun f w h => h) ?_
                       rotate_left
                       · intro f w' hD hk
                         have hb := hD
                         have kb0 := step_blk hb (show Blk _ (w.heap.size) 58 #[.int .i64 (m.ls), .int .i64 (m.ms), .int .i64 (m.lo), .int .i64 (m.hi), .int .i64 (m.sp), .slice m.A1 m.n1 m.c1, .slice m.A2 m.n2 m.c2] by repeat' (first | exact K0_8.out | exact K1_8.out | exact Blk.at_ _ (by first | rfl | (simp; done) | (simp; omega)) _ _ | refine Blk.drewN ?_ _ | refine Blk.drew ?_ | refine Blk.alloc ?_ _ | refine Blk.far ?_ (by first | omega | (simp; done) | (simp; omega)) _ | assumption))
                         have y0_0 : w'.cell? ⟨w.heap.size, 0, none⟩ = some (.int .i64 (m.ls)) := kb0.cell 0
                         have y0_1 : w'.cell? ⟨w.heap.size, 1, none⟩ = some (.int .i64 (m.ms)) := kb0.cell 1
                         have y0_2 : w'.cell? ⟨w.heap.size, 2, none⟩ = some (.int .i64 (m.lo)) := kb0.cell 2
                         have y0_3 : w'.cell? ⟨w.heap.size, 3, none⟩ = some (.int .i64 (m.hi)) := kb0.cell 3
                         have y0_4 : w'.cell? ⟨w.heap.size, 4, none⟩ = some (.int .i64 (m.sp)) := kb0.cell 4
                         have y0_5 : w'.cell? ⟨w.heap.size, 5, none⟩ = some (.slice m.A1 m.n1 m.c1) := kb0.cell 5
                         have y0_6 : w'.cell? ⟨w.heap.size, 6, none⟩ = some (.slice m.A2 m.n2 m.c2) := kb0.cell 6
                         have kb1 := step_blk hb (show Blk _ (w.heap.size + 1) 60 #[.int .i64 (day), .int .i64 (pos)] by repeat' (first | exact K0_8.out | exact K1_8.out | exact Blk.at_ _ (by first | rfl | (simp; done) | (simp; omega)) _ _ | refine Blk.drewN ?_ _ | refine Blk.drew ?_ | refine Blk.alloc ?_ _ | refine Blk.far ?_ (by first | omega | (simp; done) | (simp; omega)) _ | assumption))
                         have y1_0 : w'.cell? ⟨w.heap.size + 1, 0, none⟩ = some (.int .i64 (day)) := kb1.cell 0
                         have y1_1 : w'.cell? ⟨w.heap.size + 1, 1, none⟩ = some (.int .i64 (pos)) := kb1.cell 1
                         have yc0 : w'.cell? ⟨xb, xo + k * 6, none⟩ = some (.string t.name) := step_cell hb (show World.cell? _ ⟨xb, xo + k * 6, none⟩ = some (.string t.name) by first | exact C0_8.out | go_simp) (by have := hxb8; first | omega | (simp; omega))
                         have yc1 : w'.cell? ⟨xb, xo + k * 6 + 1, none⟩ = some (.int .i64 (t.az)) := step_cell hb (show World.cell? _ ⟨xb, xo + k * 6 + 1, none⟩ = some (.int .i64 (t.az)) by first | exact C1_8.out | go_simp) (by have := hxb8; first | omega | (simp; omega))
                         have yc2 : w'.cell? ⟨xb, xo + k * 6 + 2, none⟩ = some (.int .i64 (t.ht)) := step_cell hb (show World.cell? _ ⟨xb, xo + k * 6 + 2, none⟩ = some (.int .i64 (t.ht)) by first | exact C2_8.out | go_simp) (by have := hxb8; first | omega | (simp; omega))
                         have yc3 : w'.cell? ⟨xb, xo + k * 6 + 3, none⟩ = some (.int .i64 (t.fr)) := step_cell hb (show World.cell? _ ⟨xb, xo + k * 6 + 3, none⟩ = some (.int .i64 (t.fr)) by first | exact C3_8.out | go_simp) (by have := hxb8; first | omega | (simp; omega))
                         have yc4 : w'.cell? ⟨xb, xo + k * 6 + 4, none⟩ = some (.int .i64 (t.to)) := step_cell hb (show World.cell? _ ⟨xb, xo + k * 6 + 4, none⟩ = some (.int .i64 (t.to)) by first | exact C4_8.out | go_simp) (by have := hxb8; first | omega | (simp; omega))
                         have yc5 : w'.cell? ⟨xb, xo + k * 6 + 5, none⟩ = some (.int .i64 (t.dw)) := step_cell hb (show World.cell? _ ⟨xb, xo + k * 6 + 5, none⟩ = some (.int .i64 (t.dw)) by first | exact C5_8.out | go_simp) (by have := hxb8; first | omega | (simp; omega))
                         have x9 := (hb.cell (p := ⟨kb, ko + j, none⟩) hkb).trans d0
                         clear kb0 kb1
                         clear hk hD hb
                         go_simp
                         try rfl
                       simp only [Act.put, List.setIfInBounds_toArray, List.set_cons_zero, List.set_cons_succ]))
                  refine Fx.call_ (.int .i64 (to)) ?_ ?_ (by rfl) ?_ ?_ ?_
                  rotate_left 2
                  · intro w'
                    go_simp
                    refine ⟨?_, ?_⟩ <;> rfl
                  · intro f w' hD hk
                    exact (rposition_is m t day kz X Y to HA.out HTO2.out ⟨by omega, by omega⟩ w' (R0_8.out.lay hD) HM.out HE1.out HD.out).mono fun e w'' ⟨he, hw⟩ => ⟨he, step_below hw hD⟩
                  simp only [Act.put, List.setIfInBounds_toArray, List.set_cons_zero, List.set_cons_succ]
                  repeat (first
                    | (refine Fx.skip_ (by rfl) (fun f w h => h) ?_; simp only [Act.put, List.setIfInBounds_toArray, List.set_cons_zero, List.set_cons_succ])
                    | (refine Fx.val_ ?_ (by rfl) ?_ (fun f w h => h) ?_
                       rotate_left
                       · intro f w' hD hk
                         have hb := hD
                         have kb0 := step_blk hb (show Blk _ (w.heap.size) 58 #[.int .i64 (m.ls), .int .i64 (m.ms), .int .i64 (m.lo), .int .i64 (m.hi), .int .i64 (m.sp), .slice m.A1 m.n1 m.c1, .slice m.A2 m.n2 m.c2] by repeat' (first | exact K0_8.out | exact K1_8.out | exact Blk.at_ _ (by first | rfl | (simp; done) | (simp; omega)) _ _ | refine Blk.drewN ?_ _ | refine Blk.drew ?_ | refine Blk.alloc ?_ _ | refine Blk.far ?_ (by first | omega | (simp; done) | (simp; omega)) _ | assumption))
                         have y0_0 : w'.cell? ⟨w.heap.size, 0, none⟩ = some (.int .i64 (m.ls)) := kb0.cell 0
                         have y0_1 : w'.cell? ⟨w.heap.size, 1, none⟩ = some (.int .i64 (m.ms)) := kb0.cell 1
                         have y0_2 : w'.cell? ⟨w.heap.size, 2, none⟩ = some (.int .i64 (m.lo)) := kb0.cell 2
                         have y0_3 : w'.cell? ⟨w.heap.size, 3, none⟩ = some (.int .i64 (m.hi)) := kb0.cell 3
                         have y0_4 : w'.cell? ⟨w.heap.size, 4, none⟩ = some (.int .i64 (m.sp)) := kb0.cell 4
                         have y0_5 : w'.cell? ⟨w.heap.size, 5, none⟩ = some (.slice m.A1 m.n1 m.c1) := kb0.cell 5
                         have y0_6 : w'.cell? ⟨w.heap.size, 6, none⟩ = some (.slice m.A2 m.n2 m.c2) := kb0.cell 6
                         have kb1 := step_blk hb (show Blk _ (w.heap.size + 1) 60 #[.int .i64 (day), .int .i64 (pos)] by repeat' (first | exact K0_8.out | exact K1_8.out | exact Blk.at_ _ (by first | rfl | (simp; done) | (simp; omega)) _ _ | refine Blk.drewN ?_ _ | refine Blk.drew ?_ | refine Blk.alloc ?_ _ | refine Blk.far ?_ (by first | omega | (simp; done) | (simp; omega)) _ | assumption))
                         have y1_0 : w'.cell? ⟨w.heap.size + 1, 0, none⟩ = some (.int .i64 (day)) := kb1.cell 0
                         have y1_1 : w'.cell? ⟨w.heap.size + 1, 1, none⟩ = some (.int .i64 (pos)) := kb1.cell 1
                         have yc0 : w'.cell? ⟨xb, xo + k * 6, none⟩ = some (.string t.name) := step_cell hb (show World.cell? _ ⟨xb, xo + k * 6, none⟩ = some (.string t.name) by first | exact C0_8.out | go_simp) (by have := hxb8; first | omega | (simp; omega))
                         have yc1 : w'.cell? ⟨xb, xo + k * 6 + 1, none⟩ = some (.int .i64 (t.az)) := step_cell hb (show World.cell? _ ⟨xb, xo + k * 6 + 1, none⟩ = some (.int .i64 (t.az)) by first | exact C1_8.out | go_simp) (by have := hxb8; first | omega | (simp; omega))
                         have yc2 : w'.cell? ⟨xb, xo + k * 6 + 2, none⟩ = some (.int .i64 (t.ht)) := step_cell hb (show World.cell? _ ⟨xb, xo + k * 6 + 2, none⟩ = some (.int .i64 (t.ht)) by first | exact C2_8.out | go_simp) (by have := hxb8; first | omega | (simp; omega))
                         have yc3 : w'.cell? ⟨xb, xo + k * 6 + 3, none⟩ = some (.int .i64 (t.fr)) := step_cell hb (show World.cell? _ ⟨xb, xo + k * 6 + 3, none⟩ = some (.int .i64 (t.fr)) by first | exact C3_8.out | go_simp) (by have := hxb8; first | omega | (simp; omega))
                         have yc4 : w'.cell? ⟨xb, xo + k * 6 + 4, none⟩ = some (.int .i64 (t.to)) := step_cell hb (show World.cell? _ ⟨xb, xo + k * 6 + 4, none⟩ = some (.int .i64 (t.to)) by first | exact C4_8.out | go_simp) (by have := hxb8; first | omega | (simp; omega))
                         have yc5 : w'.cell? ⟨xb, xo + k * 6 + 5, none⟩ = some (.int .i64 (t.dw)) := step_cell hb (show World.cell? _ ⟨xb, xo + k * 6 + 5, none⟩ = some (.int .i64 (t.dw)) by first | exact C5_8.out | go_simp) (by have := hxb8; first | omega | (simp; omega))
                         have x9 := (hb.cell (p := ⟨kb, ko + j, none⟩) hkb).trans d0
                         clear kb0 kb1
                         clear hk hD hb
                         go_simp
                         try rfl
                       simp only [Act.put, List.setIfInBounds_toArray, List.set_cons_zero, List.set_cons_succ]))
                  refine Fx.nil_ ?_
                  intro f w9 hall hb
                  try clear hall
                  have HB89 := Lib.hid hb
                  have HB9 := Lib.hid (show Below w.heap.size w w9 from step_below hb (by repeat' (first | exact Below.refl _ _ | exact HB8.out | refine below_drewN ?_ _ | refine Below.drew ?_ | refine Below.alloc ?_ (by first | omega | (simp; done) | (simp; omega) | (simp [World.setCell]; omega)) _ | refine Below.setCell ?_ (by first | omega | (simp; done) | (simp; omega)) _ | assumption)))
                  have K0_9 := Lib.hid (step_blk hb (show Blk _ (w.heap.size) 58 #[.int .i64 (m.ls), .int .i64 (m.ms), .int .i64 (m.lo), .int .i64 (m.hi), .int .i64 (m.sp), .slice m.A1 m.n1 m.c1, .slice m.A2 m.n2 m.c2] by repeat' (first | exact K0_8.out | exact K1_8.out | exact Blk.at_ _ (by first | rfl | (simp; done) | (simp; omega)) _ _ | refine Blk.drewN ?_ _ | refine Blk.drew ?_ | refine Blk.alloc ?_ _ | refine Blk.far ?_ (by first | omega | (simp; done) | (simp; omega)) _ | assumption)))
                  have K1_9 := Lib.hid (step_blk hb (show Blk _ (w.heap.size + 1) 60 #[.int .i64 (day), .int .i64 (pos)] by repeat' (first | exact K0_8.out | exact K1_8.out | exact Blk.at_ _ (by first | rfl | (simp; done) | (simp; omega)) _ _ | refine Blk.drewN ?_ _ | refine Blk.drew ?_ | refine Blk.alloc ?_ _ | refine Blk.far ?_ (by first | omega | (simp; done) | (simp; omega)) _ | assumption)))
                  have C0_9 := Lib.hid (step_cell hb (show World.cell? _ ⟨xb, xo + k * 6, none⟩ = some (.string t.name) by first | exact C0_8.out | go_simp) (by have := hxb8; first | omega | (simp; omega)))
                  have C1_9 := Lib.hid (step_cell hb (show World.cell? _ ⟨xb, xo + k * 6 + 1, none⟩ = some (.int .i64 (t.az)) by first | exact C1_8.out | go_simp) (by have := hxb8; first | omega | (simp; omega)))
                  have C2_9 := Lib.hid (step_cell hb (show World.cell? _ ⟨xb, xo + k * 6 + 2, none⟩ = some (.int .i64 (t.ht)) by first | exact C2_8.out | go_simp) (by have := hxb8; first | omega | (simp; omega)))
                  have C3_9 := Lib.hid (step_cell hb (show World.cell? _ ⟨xb, xo + k * 6 + 3, none⟩ = some (.int .i64 (t.fr)) by first | exact C3_8.out | go_simp) (by have := hxb8; first | omega | (simp; omega)))
                  have C4_9 := Lib.hid (step_cell hb (show World.cell? _ ⟨xb, xo + k * 6 + 4, none⟩ = some (.int .i64 (t.to)) by first | exact C4_8.out | go_simp) (by have := hxb8; first | omega | (simp; omega)))
                  have C5_9 := Lib.hid (step_cell hb (show World.cell? _ ⟨xb, xo + k * 6 + 5, none⟩ = some (.int .i64 (t.dw)) by first | exact C5_8.out | go_simp) (by have := hxb8; first | omega | (simp; omega)))
                  have hL9 := Lib.hid (show Below w8.heap.size w8 _ from reads_mid hb (by repeat' (first | exact Below.refl _ _ | refine below_drewN ?_ _ | refine Below.drew ?_ | refine Below.alloc ?_ (by first | omega | (simp; done) | (simp; omega) | (simp [World.setCell]; omega)) _ | refine Below.setCell ?_ (by first | omega | (simp; done) | (simp; omega)) _)))
                  have R0_9 := Lib.hid (mnt_lay hb hL9.out R0_8.out)
                  clear hL9 R0_8
                  have hz9 := hb.size
                  try simp only [World.size_alloc, World.drewN, World.drew] at hz9
                  clear hb K0_8 K1_8 z0_0_8 z0_1_8 z0_2_8 z0_3_8 z0_4_8 z0_5_8 z0_6_8 l0_8 z1_0_8 z1_1_8 l1_8
                  have l0_9 : w.heap.size < w9.heap.size := K0_9.out.lt
                  have z0_0_9 : w9.cell? ⟨w.heap.size, 0, none⟩ = some (.int .i64 (m.ls)) := K0_9.out.cell 0
                  have z0_1_9 : w9.cell? ⟨w.heap.size, 1, none⟩ = some (.int .i64 (m.ms)) := K0_9.out.cell 1
                  have z0_2_9 : w9.cell? ⟨w.heap.size, 2, none⟩ = some (.int .i64 (m.lo)) := K0_9.out.cell 2
                  have z0_3_9 : w9.cell? ⟨w.heap.size, 3, none⟩ = some (.int .i64 (m.hi)) := K0_9.out.cell 3
                  have z0_4_9 : w9.cell? ⟨w.heap.size, 4, none⟩ = some (.int .i64 (m.sp)) := K0_9.out.cell 4
                  have z0_5_9 : w9.cell? ⟨w.heap.size, 5, none⟩ = some (.slice m.A1 m.n1 m.c1) := K0_9.out.cell 5
                  have z0_6_9 : w9.cell? ⟨w.heap.size, 6, none⟩ = some (.slice m.A2 m.n2 m.c2) := K0_9.out.cell 6
                  have l1_9 : w.heap.size + 1 < w9.heap.size := K1_9.out.lt
                  have z1_0_9 : w9.cell? ⟨w.heap.size + 1, 0, none⟩ = some (.int .i64 (day)) := K1_9.out.cell 0
                  have z1_1_9 : w9.cell? ⟨w.heap.size + 1, 1, none⟩ = some (.int .i64 (pos)) := K1_9.out.cell 1
                  have HB79 := Lib.hid (HB78.out.trans (HB89.out.mono HB78.out.size))
                  have p9 := ((HB9.out).cell (p := ⟨pb, po + k, none⟩) hpb).trans HP0.out
                  have g9 := ((HB9.out).cell (p := ⟨rb, ro + j, none⟩) hrb).trans HG0.out
                  have hsz9 := HB9.out.size
                  have hpb9 : pb < w9.heap.size := by omega
                  have hrb9 : rb < w9.heap.size := by omega
                  clear d0
                  by_cases h0 : k = 0
                  · have p9' : w9.cell? ⟨pb, po, none⟩ = some (.slice (some ⟨rb, ro, none⟩) rn rc) := by rw [h0] at p9; simpa using p9
                    have e0 : ((k : Int) == 0) = true := by rw [h0]; rfl
                    have hnp0 : 0 < np := by omega
                    have HH0 := Lib.hid h0
                    clear h0
                    obtain ⟨v, hv⟩ : ∃ v, costF pos to = v := ⟨_, rfl⟩
                    have HVV := Lib.hid hv
                    clear hv p9
                    obtain ⟨tt, e2⟩ : ∃ tt, decide (v < z) = tt := ⟨_, rfl⟩
                    go_wp2
                    refine Fx.regionW (fun W f w' => Below W.heap.size W w') (by kernel_rfl) (by kernel_rfl) ?_ ?_
                    · intro f hf0
                      exact below_drewN (Below.refl _ _) 1
                    repeat (first
                      | (refine Fx.skip_ (by rfl) (fun f w h => h) ?_; simp only [Act.put, List.setIfInBounds_toArray, List.set_cons_zero, List.set_cons_succ])
                      | (refine Fx.val_ ?_ (by rfl) ?_ (fun f w h => h) ?_
                         rotate_left
                         · intro f w' hD hk
                           have hb := hD
                           have kb0 := step_blk hb (show Blk _ (w.heap.size) 58 #[.int .i64 (m.ls), .int .i64 (m.ms), .int .i64 (m.lo), .int .i64 (m.hi), .int .i64 (m.sp), .slice m.A1 m.n1 m.c1, .slice m.A2 m.n2 m.c2] by repeat' (first | exact K0_9.out | exact K1_9.out | exact Blk.at_ _ (by first | rfl | (simp; done) | (simp; omega)) _ _ | refine Blk.drewN ?_ _ | refine Blk.drew ?_ | refine Blk.alloc ?_ _ | refine Blk.far ?_ (by first | omega | (simp; done) | (simp; omega)) _ | assumption))
                           have y0_0 : w'.cell? ⟨w.heap.size, 0, none⟩ = some (.int .i64 (m.ls)) := kb0.cell 0
                           have y0_1 : w'.cell? ⟨w.heap.size, 1, none⟩ = some (.int .i64 (m.ms)) := kb0.cell 1
                           have y0_2 : w'.cell? ⟨w.heap.size, 2, none⟩ = some (.int .i64 (m.lo)) := kb0.cell 2
                           have y0_3 : w'.cell? ⟨w.heap.size, 3, none⟩ = some (.int .i64 (m.hi)) := kb0.cell 3
                           have y0_4 : w'.cell? ⟨w.heap.size, 4, none⟩ = some (.int .i64 (m.sp)) := kb0.cell 4
                           have y0_5 : w'.cell? ⟨w.heap.size, 5, none⟩ = some (.slice m.A1 m.n1 m.c1) := kb0.cell 5
                           have y0_6 : w'.cell? ⟨w.heap.size, 6, none⟩ = some (.slice m.A2 m.n2 m.c2) := kb0.cell 6
                           have kb1 := step_blk hb (show Blk _ (w.heap.size + 1) 60 #[.int .i64 (day), .int .i64 (pos)] by repeat' (first | exact K0_9.out | exact K1_9.out | exact Blk.at_ _ (by first | rfl | (simp; done) | (simp; omega)) _ _ | refine Blk.drewN ?_ _ | refine Blk.drew ?_ | refine Blk.alloc ?_ _ | refine Blk.far ?_ (by first | omega | (simp; done) | (simp; omega)) _ | assumption))
                           have y1_0 : w'.cell? ⟨w.heap.size + 1, 0, none⟩ = some (.int .i64 (day)) := kb1.cell 0
                           have y1_1 : w'.cell? ⟨w.heap.size + 1, 1, none⟩ = some (.int .i64 (pos)) := kb1.cell 1
                           have yc0 : w'.cell? ⟨xb, xo + k * 6, none⟩ = some (.string t.name) := step_cell hb (show World.cell? _ ⟨xb, xo + k * 6, none⟩ = some (.string t.name) by first | exact C0_9.out | go_simp) (by have := hxb8; first | omega | (simp; omega))
                           have yc1 : w'.cell? ⟨xb, xo + k * 6 + 1, none⟩ = some (.int .i64 (t.az)) := step_cell hb (show World.cell? _ ⟨xb, xo + k * 6 + 1, none⟩ = some (.int .i64 (t.az)) by first | exact C1_9.out | go_simp) (by have := hxb8; first | omega | (simp; omega))
                           have yc2 : w'.cell? ⟨xb, xo + k * 6 + 2, none⟩ = some (.int .i64 (t.ht)) := step_cell hb (show World.cell? _ ⟨xb, xo + k * 6 + 2, none⟩ = some (.int .i64 (t.ht)) by first | exact C2_9.out | go_simp) (by have := hxb8; first | omega | (simp; omega))
                           have yc3 : w'.cell? ⟨xb, xo + k * 6 + 3, none⟩ = some (.int .i64 (t.fr)) := step_cell hb (show World.cell? _ ⟨xb, xo + k * 6 + 3, none⟩ = some (.int .i64 (t.fr)) by first | exact C3_9.out | go_simp) (by have := hxb8; first | omega | (simp; omega))
                           have yc4 : w'.cell? ⟨xb, xo + k * 6 + 4, none⟩ = some (.int .i64 (t.to)) := step_cell hb (show World.cell? _ ⟨xb, xo + k * 6 + 4, none⟩ = some (.int .i64 (t.to)) by first | exact C4_9.out | go_simp) (by have := hxb8; first | omega | (simp; omega))
                           have yc5 : w'.cell? ⟨xb, xo + k * 6 + 5, none⟩ = some (.int .i64 (t.dw)) := step_cell hb (show World.cell? _ ⟨xb, xo + k * 6 + 5, none⟩ = some (.int .i64 (t.dw)) by first | exact C5_9.out | go_simp) (by have := hxb8; first | omega | (simp; omega))
                           have x8 := (hb.cell (p := ⟨pb, po, none⟩) hpb9).trans p9'
                           have x9 := (hb.cell (p := ⟨rb, ro + j, none⟩) hrb9).trans g9
                           clear kb0 kb1
                           clear hk hD hb
                           go_simp
                           try rfl
                         simp only [Act.put, List.setIfInBounds_toArray, List.set_cons_zero, List.set_cons_succ]))
                    refine Fx.call_ (.int .i64 (v)) ?_ ?_ (by rfl) ?_ ?_ ?_
                    rotate_left 2
                    · intro w'
                      go_simp
                      refine ⟨?_, ?_⟩ <;> rfl
                    · intro f w' hD hk
                      exact (rcost9_is pos to v HVV.out _ hposR HPT.out).mono fun e w'' ⟨he, hw⟩ => ⟨he, hw ▸ hD⟩
                    simp only [Act.put, List.setIfInBounds_toArray, List.set_cons_zero, List.set_cons_succ]
                    repeat (first
                      | (refine Fx.skip_ (by rfl) (fun f w h => h) ?_; simp only [Act.put, List.setIfInBounds_toArray, List.set_cons_zero, List.set_cons_succ])
                      | (refine Fx.val_ ?_ (by rfl) ?_ (fun f w h => h) ?_
                         rotate_left
                         · intro f w' hD hk
                           have hb := hD
                           have kb0 := step_blk hb (show Blk _ (w.heap.size) 58 #[.int .i64 (m.ls), .int .i64 (m.ms), .int .i64 (m.lo), .int .i64 (m.hi), .int .i64 (m.sp), .slice m.A1 m.n1 m.c1, .slice m.A2 m.n2 m.c2] by repeat' (first | exact K0_9.out | exact K1_9.out | exact Blk.at_ _ (by first | rfl | (simp; done) | (simp; omega)) _ _ | refine Blk.drewN ?_ _ | refine Blk.drew ?_ | refine Blk.alloc ?_ _ | refine Blk.far ?_ (by first | omega | (simp; done) | (simp; omega)) _ | assumption))
                           have y0_0 : w'.cell? ⟨w.heap.size, 0, none⟩ = some (.int .i64 (m.ls)) := kb0.cell 0
                           have y0_1 : w'.cell? ⟨w.heap.size, 1, none⟩ = some (.int .i64 (m.ms)) := kb0.cell 1
                           have y0_2 : w'.cell? ⟨w.heap.size, 2, none⟩ = some (.int .i64 (m.lo)) := kb0.cell 2
                           have y0_3 : w'.cell? ⟨w.heap.size, 3, none⟩ = some (.int .i64 (m.hi)) := kb0.cell 3
                           have y0_4 : w'.cell? ⟨w.heap.size, 4, none⟩ = some (.int .i64 (m.sp)) := kb0.cell 4
                           have y0_5 : w'.cell? ⟨w.heap.size, 5, none⟩ = some (.slice m.A1 m.n1 m.c1) := kb0.cell 5
                           have y0_6 : w'.cell? ⟨w.heap.size, 6, none⟩ = some (.slice m.A2 m.n2 m.c2) := kb0.cell 6
                           have kb1 := step_blk hb (show Blk _ (w.heap.size + 1) 60 #[.int .i64 (day), .int .i64 (pos)] by repeat' (first | exact K0_9.out | exact K1_9.out | exact Blk.at_ _ (by first | rfl | (simp; done) | (simp; omega)) _ _ | refine Blk.drewN ?_ _ | refine Blk.drew ?_ | refine Blk.alloc ?_ _ | refine Blk.far ?_ (by first | omega | (simp; done) | (simp; omega)) _ | assumption))
                           have y1_0 : w'.cell? ⟨w.heap.size + 1, 0, none⟩ = some (.int .i64 (day)) := kb1.cell 0
                           have y1_1 : w'.cell? ⟨w.heap.size + 1, 1, none⟩ = some (.int .i64 (pos)) := kb1.cell 1
                           have yc0 : w'.cell? ⟨xb, xo + k * 6, none⟩ = some (.string t.name) := step_cell hb (show World.cell? _ ⟨xb, xo + k * 6, none⟩ = some (.string t.name) by first | exact C0_9.out | go_simp) (by have := hxb8; first | omega | (simp; omega))
                           have yc1 : w'.cell? ⟨xb, xo + k * 6 + 1, none⟩ = some (.int .i64 (t.az)) := step_cell hb (show World.cell? _ ⟨xb, xo + k * 6 + 1, none⟩ = some (.int .i64 (t.az)) by first | exact C1_9.out | go_simp) (by have := hxb8; first | omega | (simp; omega))
                           have yc2 : w'.cell? ⟨xb, xo + k * 6 + 2, none⟩ = some (.int .i64 (t.ht)) := step_cell hb (show World.cell? _ ⟨xb, xo + k * 6 + 2, none⟩ = some (.int .i64 (t.ht)) by first | exact C2_9.out | go_simp) (by have := hxb8; first | omega | (simp; omega))
                           have yc3 : w'.cell? ⟨xb, xo + k * 6 + 3, none⟩ = some (.int .i64 (t.fr)) := step_cell hb (show World.cell? _ ⟨xb, xo + k * 6 + 3, none⟩ = some (.int .i64 (t.fr)) by first | exact C3_9.out | go_simp) (by have := hxb8; first | omega | (simp; omega))
                           have yc4 : w'.cell? ⟨xb, xo + k * 6 + 4, none⟩ = some (.int .i64 (t.to)) := step_cell hb (show World.cell? _ ⟨xb, xo + k * 6 + 4, none⟩ = some (.int .i64 (t.to)) by first | exact C4_9.out | go_simp) (by have := hxb8; first | omega | (simp; omega))
                           have yc5 : w'.cell? ⟨xb, xo + k * 6 + 5, none⟩ = some (.int .i64 (t.dw)) := step_cell hb (show World.cell? _ ⟨xb, xo + k * 6 + 5, none⟩ = some (.int .i64 (t.dw)) by first | exact C5_9.out | go_simp) (by have := hxb8; first | omega | (simp; omega))
                           have x8 := (hb.cell (p := ⟨pb, po, none⟩) hpb9).trans p9'
                           have x9 := (hb.cell (p := ⟨rb, ro + j, none⟩) hrb9).trans g9
                           clear kb0 kb1
                           clear hk hD hb
                           go_simp
                           try rfl
                         simp only [Act.put, List.setIfInBounds_toArray, List.set_cons_zero, List.set_cons_succ]))
                    refine Fx.nil_ ?_
                    intro f w10 hall hb
                    try clear hall
                    have HB910 := Lib.hid hb
                    have HB10 := Lib.hid (show Below w.heap.size w w10 from step_below hb (by repeat' (first | exact Below.refl _ _ | exact HB9.out | refine below_drewN ?_ _ | refine Below.drew ?_ | refine Below.alloc ?_ (by first | omega | (simp; done) | (simp; omega) | (simp [World.setCell]; omega)) _ | refine Below.setCell ?_ (by first | omega | (simp; done) | (simp; omega)) _ | assumption)))
                    have K0_10 := Lib.hid (step_blk hb (show Blk _ (w.heap.size) 58 #[.int .i64 (m.ls), .int .i64 (m.ms), .int .i64 (m.lo), .int .i64 (m.hi), .int .i64 (m.sp), .slice m.A1 m.n1 m.c1, .slice m.A2 m.n2 m.c2] by repeat' (first | exact K0_9.out | exact K1_9.out | exact Blk.at_ _ (by first | rfl | (simp; done) | (simp; omega)) _ _ | refine Blk.drewN ?_ _ | refine Blk.drew ?_ | refine Blk.alloc ?_ _ | refine Blk.far ?_ (by first | omega | (simp; done) | (simp; omega)) _ | assumption)))
                    have K1_10 := Lib.hid (step_blk hb (show Blk _ (w.heap.size + 1) 60 #[.int .i64 (day), .int .i64 (pos)] by repeat' (first | exact K0_9.out | exact K1_9.out | exact Blk.at_ _ (by first | rfl | (simp; done) | (simp; omega)) _ _ | refine Blk.drewN ?_ _ | refine Blk.drew ?_ | refine Blk.alloc ?_ _ | refine Blk.far ?_ (by first | omega | (simp; done) | (simp; omega)) _ | assumption)))
                    have C0_10 := Lib.hid (step_cell hb (show World.cell? _ ⟨xb, xo + k * 6, none⟩ = some (.string t.name) by first | exact C0_9.out | go_simp) (by have := hxb8; first | omega | (simp; omega)))
                    have C1_10 := Lib.hid (step_cell hb (show World.cell? _ ⟨xb, xo + k * 6 + 1, none⟩ = some (.int .i64 (t.az)) by first | exact C1_9.out | go_simp) (by have := hxb8; first | omega | (simp; omega)))
                    have C2_10 := Lib.hid (step_cell hb (show World.cell? _ ⟨xb, xo + k * 6 + 2, none⟩ = some (.int .i64 (t.ht)) by first | exact C2_9.out | go_simp) (by have := hxb8; first | omega | (simp; omega)))
                    have C3_10 := Lib.hid (step_cell hb (show World.cell? _ ⟨xb, xo + k * 6 + 3, none⟩ = some (.int .i64 (t.fr)) by first | exact C3_9.out | go_simp) (by have := hxb8; first | omega | (simp; omega)))
                    have C4_10 := Lib.hid (step_cell hb (show World.cell? _ ⟨xb, xo + k * 6 + 4, none⟩ = some (.int .i64 (t.to)) by first | exact C4_9.out | go_simp) (by have := hxb8; first | omega | (simp; omega)))
                    have C5_10 := Lib.hid (step_cell hb (show World.cell? _ ⟨xb, xo + k * 6 + 5, none⟩ = some (.int .i64 (t.dw)) by first | exact C5_9.out | go_simp) (by have := hxb8; first | omega | (simp; omega)))
                    have hL10 := Lib.hid (show Below w9.heap.size w9 _ from reads_mid hb (by repeat' (first | exact Below.refl _ _ | refine below_drewN ?_ _ | refine Below.drew ?_ | refine Below.alloc ?_ (by first | omega | (simp; done) | (simp; omega) | (simp [World.setCell]; omega)) _ | refine Below.setCell ?_ (by first | omega | (simp; done) | (simp; omega)) _)))
                    have R0_10 := Lib.hid (mnt_lay hb hL10.out R0_9.out)
                    clear hL10 R0_9
                    have hz10 := hb.size
                    try simp only [World.size_alloc, World.drewN, World.drew] at hz10
                    clear hb K0_9 K1_9 z0_0_9 z0_1_9 z0_2_9 z0_3_9 z0_4_9 z0_5_9 z0_6_9 l0_9 z1_0_9 z1_1_9 l1_9
                    have l0_10 : w.heap.size < w10.heap.size := K0_10.out.lt
                    have z0_0_10 : w10.cell? ⟨w.heap.size, 0, none⟩ = some (.int .i64 (m.ls)) := K0_10.out.cell 0
                    have z0_1_10 : w10.cell? ⟨w.heap.size, 1, none⟩ = some (.int .i64 (m.ms)) := K0_10.out.cell 1
                    have z0_2_10 : w10.cell? ⟨w.heap.size, 2, none⟩ = some (.int .i64 (m.lo)) := K0_10.out.cell 2
                    have z0_3_10 : w10.cell? ⟨w.heap.size, 3, none⟩ = some (.int .i64 (m.hi)) := K0_10.out.cell 3
                    have z0_4_10 : w10.cell? ⟨w.heap.size, 4, none⟩ = some (.int .i64 (m.sp)) := K0_10.out.cell 4
                    have z0_5_10 : w10.cell? ⟨w.heap.size, 5, none⟩ = some (.slice m.A1 m.n1 m.c1) := K0_10.out.cell 5
                    have z0_6_10 : w10.cell? ⟨w.heap.size, 6, none⟩ = some (.slice m.A2 m.n2 m.c2) := K0_10.out.cell 6
                    have l1_10 : w.heap.size + 1 < w10.heap.size := K1_10.out.lt
                    have z1_0_10 : w10.cell? ⟨w.heap.size + 1, 0, none⟩ = some (.int .i64 (day)) := K1_10.out.cell 0
                    have z1_1_10 : w10.cell? ⟨w.heap.size + 1, 1, none⟩ = some (.int .i64 (pos)) := K1_10.out.cell 1
                    cases tt
                    · have HNB := Lib.hid (of_decide_eq_false e2)
                      go_wp2
                      go_roundw
                      case rel =>
                        refine ⟨j + 1, by omega, by go_num, HB79.out.trans (HB910.out.mono HB79.out.size), fun j' z' to' hj' hz' hto' n' b' a' hb' ha' => ?_⟩
                        by_cases e : j' < j
                        · exact HPRJ.out j' z' to' e hz' hto' n' b' a' hb' ha'
                        · obtain rfl : j = j' := by omega
                          obtain rfl := Option.some.inj (HZ.out.symm.trans hz')
                          obtain rfl := Option.some.inj (HTO.out.symm.trans hto')
                          rw [HH0.out] at hb' ha'
                          have h1 : n' = 0 := by
                            have := (List.getElem?_eq_some_iff.1 hb').1
                            unfold befL at this
                            simp at this
                            exact this
                          subst h1
                          obtain rfl : (0 : Int) = b' := by simpa [befL] using hb'
                          obtain rfl : pos = a' := by simpa [froL] using ha'
                          rw [HVV.out]
                          have := HNB.out
                          omega
                      case measure => simp [intOf]; omega
                    · have hbad := of_decide_eq_true e2
                      obtain ⟨rfl, rfl⟩ := HR.out.proof HSH.out HRG.out (fun hp => by
                        have := hp k _ _ HPK.out HTT.out j z to HZ.out HTO.out 0 0 pos (by rw [HH0.out]; rfl) (by rw [HH0.out]; rfl)
                        rw [HVV.out] at this
                        omega)
                      clear hbad
                      go_wp2
                      go_ret2
                      exact ⟨rfl, HB10.out⟩
                  · skip
                    obtain ⟨k', hk'⟩ : ∃ k', k = k' + 1 := ⟨k - 1, by omega⟩
                    have hk'lt : k' < np := by omega
                    obtain ⟨_, _, t', hAy, -, ht', y0, y1, y2, y3, y4, y5⟩ := HL.out.tgt hk'lt
                    cases hAy
                    obtain ⟨_, _, r', hAp', -, hr', p1, -, hrl', hrr'⟩ := HK.out.at_ hk'lt
                    cases hAp'
                    have HCY := Lib.hid (show TgtCells xb (xo + k' * 6) t' w from ⟨y0, y1, y2, y3, y4, y5⟩)
                    have hpk' := HPG.out k' r' hr'
                    have hr1' := HRN.out r' (List.mem_of_getElem? hr')
                    obtain ⟨rA', rn', rc', rx'⟩ := r'
                    simp only at p1 hrl' hrr' hpk' hr1'
                    obtain ⟨te1', -⟩ := tour_each HT0.out ht'
                    obtain ⟨X', Y', hA'⟩ : ∃ X Y, appF m t' day = (X, Y) := ⟨_, _, rfl⟩
                    obtain ⟨L', F', hTA'⟩ : ∃ L F, turnsAt m X' Y' = (L, F) := ⟨_, _, rfl⟩
                    obtain ⟨q', hq'⟩ : ∃ q, L'.length = q := ⟨_, rfl⟩
                    obtain ⟨hV', hVP'⟩ := turnsV_eq hA' hTA'
                    have hlen' := HSH.out.2 k' _ _ hpk' ht'
                    rw [hV', hq', hrl'] at hlen'
                    subst hlen'
                    have hzr' := small_in (HRG.out _ (List.mem_of_getElem? hpk'))
                    have hfro : froL m day pos l k = posV m day t' := by rw [hk']; exact froL_succ ht'
                    have hbef : befL ps k = rx' := by rw [hk']; exact befL_succ hpk'
                    have v3 : IntKind.i64.wrap ((k : Int) - 1) = (k' : Int) := by rw [IntWalk.i64_in _ ⟨by omega, by omega⟩]; omega
                    have hkk' : (k' : Int) < (np : Int) := by omega
                    have e0 : ((k : Int) == 0) = false := by rw [beq_eq_false_iff_ne]; omega
                    have hxb9 : xb < w9.heap.size := by omega
                    have HP1 := Lib.hid p1
                    have HRR' := Lib.hid hrr'
                    have HA' := Lib.hid hA'
                    have HTA' := Lib.hid hTA'
                    have HQ' := Lib.hid hq'
                    have HE1' := Lib.hid te1'
                    have HV' := Lib.hid hV'
                    have HVP' := Lib.hid hVP'
                    have HZR' := Lib.hid hzr'
                    have HFRO := Lib.hid hfro
                    have HBEF := Lib.hid hbef
                    clear h0 hk' ht' hr' hpk' p1 hrl' hrr' te1' hA' hTA' hq' hV' hVP' hzr' hfro hbef y0 y1 y2 y3 y4 y5 p9 g9
                    have C6_9 := Lib.hid ((HB9.out.cell (p := ⟨xb, xo + k' * 6, none⟩) hxb).trans HCY.out.1)
                    have C7_9 := Lib.hid ((HB9.out.cell (p := ⟨xb, xo + k' * 6 + 1, none⟩) hxb).trans HCY.out.2.1)
                    have C8_9 := Lib.hid ((HB9.out.cell (p := ⟨xb, xo + k' * 6 + 2, none⟩) hxb).trans HCY.out.2.2.1)
                    have C9_9 := Lib.hid ((HB9.out.cell (p := ⟨xb, xo + k' * 6 + 3, none⟩) hxb).trans HCY.out.2.2.2.1)
                    have C10_9 := Lib.hid ((HB9.out.cell (p := ⟨xb, xo + k' * 6 + 4, none⟩) hxb).trans HCY.out.2.2.2.2.1)
                    have C11_9 := Lib.hid ((HB9.out.cell (p := ⟨xb, xo + k' * 6 + 5, none⟩) hxb).trans HCY.out.2.2.2.2.2)
                    go_wp2
                    refine Fx.regionM (fun W g f w' => Kp (PfQ m rn' L' 97 8) W g w') (fun i (x : Pick2) => .tuple #[.slice x.1.1 rn' x.1.2, .int .i64 F']) (by kernel_rfl) ?_ ?_
                    · intro f hf0
                      exact Kp.start
                    first
                    | (refine Fx.WM.skip 0 (by rfl) (by kernel_rfl) (by kernel_rfl) (by kernel_rfl) (by rfl) (fun g f w h => h) ?_; simp only [Act.put, List.setIfInBounds_toArray, List.set_cons_zero, List.set_cons_succ])
                    | (refine Fx.WM.val_ 0 ?_ (by rfl) (by kernel_rfl) (by kernel_rfl) (by kernel_rfl) (by rfl) ?_ (fun g f w h => h) ?_
                       rotate_left
                       · intro g f w' hx hD hk
                         obtain hkp := id hD
                         have y0_0 := (K0_9.out.below hkp.bel l0_9).cell 0
                         have y0_1 := (K0_9.out.below hkp.bel l0_9).cell 1
                         have y0_2 := (K0_9.out.below hkp.bel l0_9).cell 2
                         have y0_3 := (K0_9.out.below hkp.bel l0_9).cell 3
                         have y0_4 := (K0_9.out.below hkp.bel l0_9).cell 4
                         have y0_5 := (K0_9.out.below hkp.bel l0_9).cell 5
                         have y0_6 := (K0_9.out.below hkp.bel l0_9).cell 6
                         clear hx hk hD hkp
                         go_simp
                         try rfl
                       simp only [Act.put, List.setIfInBounds_toArray, List.set_cons_zero, List.set_cons_succ])
                    first
                    | (refine Fx.WM.skip 1 (by rfl) (by kernel_rfl) (by kernel_rfl) (by kernel_rfl) (by rfl) (fun g f w h => h) ?_; simp only [Act.put, List.setIfInBounds_toArray, List.set_cons_zero, List.set_cons_succ])
                    | (refine Fx.WM.val_ 1 ?_ (by rfl) (by kernel_rfl) (by kernel_rfl) (by kernel_rfl) (by rfl) ?_ (fun g f w h => h) ?_
                       rotate_left
                       · intro g f w' hx hD hk
                         obtain hkp := id hD
                         clear hx hk hD hkp
                         go_simp
                         try rfl
                       simp only [Act.put, List.setIfInBounds_toArray, List.set_cons_zero, List.set_cons_succ])
                    first
                    | (refine Fx.WM.skip 2 (by rfl) (by kernel_rfl) (by kernel_rfl) (by kernel_rfl) (by rfl) (fun g f w h => h) ?_; simp only [Act.put, List.setIfInBounds_toArray, List.set_cons_zero, List.set_cons_succ])
                    | (refine Fx.WM.val_ 2 ?_ (by rfl) (by kernel_rfl) (by kernel_rfl) (by kernel_rfl) (by rfl) ?_ (fun g f w h => h) ?_
                       rotate_left
                       · intro g f w' hx hD hk
                         obtain hkp := id hD
                         clear hx hk hD hkp
                         go_simp
                         try rfl
                       simp only [Act.put, List.setIfInBounds_toArray, List.set_cons_zero, List.set_cons_succ])
                    first
                    | (refine Fx.WM.skip 3 (by rfl) (by kernel_rfl) (by kernel_rfl) (by kernel_rfl) (by rfl) (fun g f w h => h) ?_; simp only [Act.put, List.setIfInBounds_toArray, List.set_cons_zero, List.set_cons_succ])
                    | (refine Fx.WM.val_ 3 ?_ (by rfl) (by kernel_rfl) (by kernel_rfl) (by kernel_rfl) (by rfl) ?_ (fun g f w h => h) ?_
                       rotate_left
                       · intro g f w' hx hD hk
                         obtain hkp := id hD
                         clear hx hk hD hkp
                         go_simp
                         try rfl
                       simp only [Act.put, List.setIfInBounds_toArray, List.set_cons_zero, List.set_cons_succ])
                    first
                    | (refine Fx.WM.skip 4 (by rfl) (by kernel_rfl) (by kernel_rfl) (by kernel_rfl) (by rfl) (fun g f w h => h) ?_; simp only [Act.put, List.setIfInBounds_toArray, List.set_cons_zero, List.set_cons_succ])
                    | (refine Fx.WM.val_ 4 ?_ (by rfl) (by kernel_rfl) (by kernel_rfl) (by kernel_rfl) (by rfl) ?_ (fun g f w h => h) ?_
                       rotate_left
                       · intro g f w' hx hD hk
                         obtain hkp := id hD
                         clear hx hk hD hkp
                         go_simp
                         try rfl
                       simp only [Act.put, List.setIfInBounds_toArray, List.set_cons_zero, List.set_cons_succ])
                    first
                    | (refine Fx.WM.skip 5 (by rfl) (by kernel_rfl) (by kernel_rfl) (by kernel_rfl) (by rfl) (fun g f w h => h) ?_; simp only [Act.put, List.setIfInBounds_toArray, List.set_cons_zero, List.set_cons_succ])
                    | (refine Fx.WM.val_ 5 ?_ (by rfl) (by kernel_rfl) (by kernel_rfl) (by kernel_rfl) (by rfl) ?_ (fun g f w h => h) ?_
                       rotate_left
                       · intro g f w' hx hD hk
                         obtain hkp := id hD
                         have yc0 := (hkp.bel.cell (p := ⟨xb, xo + k * 6, none⟩) (by have := hxb8; show xb < _; omega)).trans C0_9.out
                         have yc1 := (hkp.bel.cell (p := ⟨xb, xo + k * 6 + 1, none⟩) (by have := hxb8; show xb < _; omega)).trans C1_9.out
                         have yc2 := (hkp.bel.cell (p := ⟨xb, xo + k * 6 + 2, none⟩) (by have := hxb8; show xb < _; omega)).trans C2_9.out
                         have yc3 := (hkp.bel.cell (p := ⟨xb, xo + k * 6 + 3, none⟩) (by have := hxb8; show xb < _; omega)).trans C3_9.out
                         have yc4 := (hkp.bel.cell (p := ⟨xb, xo + k * 6 + 4, none⟩) (by have := hxb8; show xb < _; omega)).trans C4_9.out
                         have yc5 := (hkp.bel.cell (p := ⟨xb, xo + k * 6 + 5, none⟩) (by have := hxb8; show xb < _; omega)).trans C5_9.out
                         have yc6 := (hkp.bel.cell (p := ⟨xb, xo + k' * 6, none⟩) (by have := hxb9; show xb < _; omega)).trans C6_9.out
                         have yc7 := (hkp.bel.cell (p := ⟨xb, xo + k' * 6 + 1, none⟩) (by have := hxb9; show xb < _; omega)).trans C7_9.out
                         have yc8 := (hkp.bel.cell (p := ⟨xb, xo + k' * 6 + 2, none⟩) (by have := hxb9; show xb < _; omega)).trans C8_9.out
                         have yc9 := (hkp.bel.cell (p := ⟨xb, xo + k' * 6 + 3, none⟩) (by have := hxb9; show xb < _; omega)).trans C9_9.out
                         have yc10 := (hkp.bel.cell (p := ⟨xb, xo + k' * 6 + 4, none⟩) (by have := hxb9; show xb < _; omega)).trans C10_9.out
                         have yc11 := (hkp.bel.cell (p := ⟨xb, xo + k' * 6 + 5, none⟩) (by have := hxb9; show xb < _; omega)).trans C11_9.out
                         clear hx hk hD hkp
                         go_simp
                         try rfl
                       simp only [Act.put, List.setIfInBounds_toArray, List.set_cons_zero, List.set_cons_succ])
                    first
                    | (refine Fx.WM.skip 6 (by rfl) (by kernel_rfl) (by kernel_rfl) (by kernel_rfl) (by rfl) (fun g f w h => h) ?_; simp only [Act.put, List.setIfInBounds_toArray, List.set_cons_zero, List.set_cons_succ])
                    | (refine Fx.WM.val_ 6 ?_ (by rfl) (by kernel_rfl) (by kernel_rfl) (by kernel_rfl) (by rfl) ?_ (fun g f w h => h) ?_
                       rotate_left
                       · intro g f w' hx hD hk
                         obtain hkp := id hD
                         have y1_0 := (K1_9.out.below hkp.bel l1_9).cell 0
                         have y1_1 := (K1_9.out.below hkp.bel l1_9).cell 1
                         clear hx hk hD hkp
                         go_simp
                         try rfl
                       simp only [Act.put, List.setIfInBounds_toArray, List.set_cons_zero, List.set_cons_succ])
                    first
                    | (refine Fx.WM.skip 7 (by rfl) (by kernel_rfl) (by kernel_rfl) (by kernel_rfl) (by rfl) (fun g f w h => h) ?_; simp only [Act.put, List.setIfInBounds_toArray, List.set_cons_zero, List.set_cons_succ])
                    | (refine Fx.WM.val_ 7 ?_ (by rfl) (by kernel_rfl) (by kernel_rfl) (by kernel_rfl) (by rfl) ?_ (fun g f w h => h) ?_
                       rotate_left
                       · intro g f w' hx hD hk
                         obtain hkp := id hD
                         have y1_0 := (K1_9.out.below hkp.bel l1_9).cell 0
                         have y1_1 := (K1_9.out.below hkp.bel l1_9).cell 1
                         clear hx hk hD hkp
                         go_simp
                         try rfl
                       simp only [Act.put, List.setIfInBounds_toArray, List.set_cons_zero, List.set_cons_succ])
                    refine Fx.WM.choose 8 (by rfl) (by kernel_rfl) (by rfl) ?_ ?_
                    · skip
                      refine Fx.Chooses.call ?_ ?_ (by rfl) ?_ ?_
                      rotate_left 2
                      · intro w'
                        go_simp
                        refine ⟨?_, ?_⟩ <;> rfl
                      · intro f w' hD hk
                        exact (rturns_is m t' day X' Y' L' F' rn' HA'.out HTA'.out HQ'.out w' (R0_9.out.lay hD.bel) HM.out HE1'.out HD.out).mono fun e w'' ⟨A', c', he, hb, hr⟩ => ⟨((A', c'), (none, 0)), he, hD.choose PfQ.stb hb 8 _ ⟨fun e => absurd e (by decide), fun _ => hr⟩⟩
                    intro x
                    simp only [Act.put, List.setIfInBounds_toArray, List.set_cons_zero, List.set_cons_succ]
                    first
                    | (refine Fx.WM.skip 9 (by rfl) (by kernel_rfl) (by kernel_rfl) (by kernel_rfl) (by rfl) (fun g f w h => h) ?_; simp only [Act.put, List.setIfInBounds_toArray, List.set_cons_zero, List.set_cons_succ])
                    | (refine Fx.WM.val_ 9 ?_ (by rfl) (by kernel_rfl) (by kernel_rfl) (by kernel_rfl) (by rfl) ?_ (fun g f w h => h) ?_
                       rotate_left
                       · intro g f w' hx hD hk
                         obtain hkp := id hD
                         clear hx hk hD hkp
                         go_simp
                         try rfl
                       simp only [Act.put, List.setIfInBounds_toArray, List.set_cons_zero, List.set_cons_succ])
                    first
                    | (refine Fx.WM.skip 10 (by rfl) (by kernel_rfl) (by kernel_rfl) (by kernel_rfl) (by rfl) (fun g f w h => h) ?_; simp only [Act.put, List.setIfInBounds_toArray, List.set_cons_zero, List.set_cons_succ])
                    | (refine Fx.WM.val_ 10 ?_ (by rfl) (by kernel_rfl) (by kernel_rfl) (by kernel_rfl) (by rfl) ?_ (fun g f w h => h) ?_
                       rotate_left
                       · intro g f w' hx hD hk
                         obtain hkp := id hD
                         clear hx hk hD hkp
                         go_simp
                         try rfl
                       simp only [Act.put, List.setIfInBounds_toArray, List.set_cons_zero, List.set_cons_succ])
                    first
                    | (refine Fx.WM.skip 11 (by rfl) (by kernel_rfl) (by kernel_rfl) (by kernel_rfl) (by rfl) (fun g f w h => h) ?_; simp only [Act.put, List.setIfInBounds_toArray, List.set_cons_zero, List.set_cons_succ])
                    | (refine Fx.WM.val_ 11 ?_ (by rfl) (by kernel_rfl) (by kernel_rfl) (by kernel_rfl) (by rfl) ?_ (fun g f w h => h) ?_
                       rotate_left
                       · intro g f w' hx hD hk
                         obtain hkp := id hD
                         clear hx hk hD hkp
                         go_simp
                         try rfl
                       simp only [Act.put, List.setIfInBounds_toArray, List.set_cons_zero, List.set_cons_succ])
                    first
                    | (refine Fx.WM.skip 12 (by rfl) (by kernel_rfl) (by kernel_rfl) (by kernel_rfl) (by rfl) (fun g f w h => h) ?_; simp only [Act.put, List.setIfInBounds_toArray, List.set_cons_zero, List.set_cons_succ])
                    | (refine Fx.WM.val_ 12 ?_ (by rfl) (by kernel_rfl) (by kernel_rfl) (by kernel_rfl) (by rfl) ?_ (fun g f w h => h) ?_
                       rotate_left
                       · intro g f w' hx hD hk
                         obtain hkp := id hD
                         clear hx hk hD hkp
                         go_simp
                         try rfl
                       simp only [Act.put, List.setIfInBounds_toArray, List.set_cons_zero, List.set_cons_succ])
                    first
                    | (refine Fx.WM.skip 13 (by rfl) (by kernel_rfl) (by kernel_rfl) (by kernel_rfl) (by rfl) (fun g f w h => h) ?_; simp only [Act.put, List.setIfInBounds_toArray, List.set_cons_zero, List.set_cons_succ])
                    | (refine Fx.WM.val_ 13 ?_ (by rfl) (by kernel_rfl) (by kernel_rfl) (by kernel_rfl) (by rfl) ?_ (fun g f w h => h) ?_
                       rotate_left
                       · intro g f w' hx hD hk
                         obtain hkp := id hD
                         clear hx hk hD hkp
                         go_simp
                         try rfl
                       simp only [Act.put, List.setIfInBounds_toArray, List.set_cons_zero, List.set_cons_succ])
                    refine Fx.WM.nil (by kernel_rfl) ?_
                    intro wz hkp
                    obtain ⟨⟨yA, yc⟩, y2⟩ := x
                    have hb := hkp.bel
                    have hr := (hkp.has 8 _ (by rfl)).2 rfl
                    clear hkp
                    simp only at hr
                    obtain ⟨w10, hnm⟩ : ∃ z : World, z = wz := ⟨_, rfl⟩
                    subst hnm
                    have HB710 := Lib.hid (HB79.out.trans (hb.mono HB79.out.size))
                    have HR10 := Lib.hid hr
                    clear hr
                    have HB10 := Lib.hid (show Below w.heap.size w w10 from step_below hb (by repeat' (first | exact Below.refl _ _ | exact HB9.out | refine below_drewN ?_ _ | refine Below.drew ?_ | refine Below.alloc ?_ (by first | omega | (simp; done) | (simp; omega) | (simp [World.setCell]; omega)) _ | refine Below.setCell ?_ (by first | omega | (simp; done) | (simp; omega)) _ | assumption)))
                    have K0_10 := Lib.hid (step_blk hb (show Blk _ (w.heap.size) 58 #[.int .i64 (m.ls), .int .i64 (m.ms), .int .i64 (m.lo), .int .i64 (m.hi), .int .i64 (m.sp), .slice m.A1 m.n1 m.c1, .slice m.A2 m.n2 m.c2] by repeat' (first | exact K0_9.out | exact K1_9.out | exact Blk.at_ _ (by first | rfl | (simp; done) | (simp; omega)) _ _ | refine Blk.drewN ?_ _ | refine Blk.drew ?_ | refine Blk.alloc ?_ _ | refine Blk.far ?_ (by first | omega | (simp; done) | (simp; omega)) _ | assumption)))
                    have K1_10 := Lib.hid (step_blk hb (show Blk _ (w.heap.size + 1) 60 #[.int .i64 (day), .int .i64 (pos)] by repeat' (first | exact K0_9.out | exact K1_9.out | exact Blk.at_ _ (by first | rfl | (simp; done) | (simp; omega)) _ _ | refine Blk.drewN ?_ _ | refine Blk.drew ?_ | refine Blk.alloc ?_ _ | refine Blk.far ?_ (by first | omega | (simp; done) | (simp; omega)) _ | assumption)))
                    have C0_10 := Lib.hid (step_cell hb (show World.cell? _ ⟨xb, xo + k * 6, none⟩ = some (.string t.name) by first | exact C0_9.out | go_simp) (by have := hxb8; first | omega | (simp; omega)))
                    have C1_10 := Lib.hid (step_cell hb (show World.cell? _ ⟨xb, xo + k * 6 + 1, none⟩ = some (.int .i64 (t.az)) by first | exact C1_9.out | go_simp) (by have := hxb8; first | omega | (simp; omega)))
                    have C2_10 := Lib.hid (step_cell hb (show World.cell? _ ⟨xb, xo + k * 6 + 2, none⟩ = some (.int .i64 (t.ht)) by first | exact C2_9.out | go_simp) (by have := hxb8; first | omega | (simp; omega)))
                    have C3_10 := Lib.hid (step_cell hb (show World.cell? _ ⟨xb, xo + k * 6 + 3, none⟩ = some (.int .i64 (t.fr)) by first | exact C3_9.out | go_simp) (by have := hxb8; first | omega | (simp; omega)))
                    have C4_10 := Lib.hid (step_cell hb (show World.cell? _ ⟨xb, xo + k * 6 + 4, none⟩ = some (.int .i64 (t.to)) by first | exact C4_9.out | go_simp) (by have := hxb8; first | omega | (simp; omega)))
                    have C5_10 := Lib.hid (step_cell hb (show World.cell? _ ⟨xb, xo + k * 6 + 5, none⟩ = some (.int .i64 (t.dw)) by first | exact C5_9.out | go_simp) (by have := hxb8; first | omega | (simp; omega)))
                    have C6_10 := Lib.hid (step_cell hb (show World.cell? _ ⟨xb, xo + k' * 6, none⟩ = some (.string t'.name) by first | exact C6_9.out | go_simp) (by have := hxb9; first | omega | (simp; omega)))
                    have C7_10 := Lib.hid (step_cell hb (show World.cell? _ ⟨xb, xo + k' * 6 + 1, none⟩ = some (.int .i64 (t'.az)) by first | exact C7_9.out | go_simp) (by have := hxb9; first | omega | (simp; omega)))
                    have C8_10 := Lib.hid (step_cell hb (show World.cell? _ ⟨xb, xo + k' * 6 + 2, none⟩ = some (.int .i64 (t'.ht)) by first | exact C8_9.out | go_simp) (by have := hxb9; first | omega | (simp; omega)))
                    have C9_10 := Lib.hid (step_cell hb (show World.cell? _ ⟨xb, xo + k' * 6 + 3, none⟩ = some (.int .i64 (t'.fr)) by first | exact C9_9.out | go_simp) (by have := hxb9; first | omega | (simp; omega)))
                    have C10_10 := Lib.hid (step_cell hb (show World.cell? _ ⟨xb, xo + k' * 6 + 4, none⟩ = some (.int .i64 (t'.to)) by first | exact C10_9.out | go_simp) (by have := hxb9; first | omega | (simp; omega)))
                    have C11_10 := Lib.hid (step_cell hb (show World.cell? _ ⟨xb, xo + k' * 6 + 5, none⟩ = some (.int .i64 (t'.dw)) by first | exact C11_9.out | go_simp) (by have := hxb9; first | omega | (simp; omega)))
                    have hL10 := Lib.hid (show Below w9.heap.size w9 _ from reads_mid hb (by repeat' (first | exact Below.refl _ _ | refine below_drewN ?_ _ | refine Below.drew ?_ | refine Below.alloc ?_ (by first | omega | (simp; done) | (simp; omega) | (simp [World.setCell]; omega)) _ | refine Below.setCell ?_ (by first | omega | (simp; done) | (simp; omega)) _)))
                    have R0_10 := Lib.hid (mnt_lay hb hL10.out R0_9.out)
                    clear hL10 R0_9
                    have hz10 := hb.size
                    try simp only [World.size_alloc, World.drewN, World.drew] at hz10
                    clear hb K0_9 K1_9 z0_0_9 z0_1_9 z0_2_9 z0_3_9 z0_4_9 z0_5_9 z0_6_9 l0_9 z1_0_9 z1_1_9 l1_9
                    have l0_10 : w.heap.size < w10.heap.size := K0_10.out.lt
                    have z0_0_10 : w10.cell? ⟨w.heap.size, 0, none⟩ = some (.int .i64 (m.ls)) := K0_10.out.cell 0
                    have z0_1_10 : w10.cell? ⟨w.heap.size, 1, none⟩ = some (.int .i64 (m.ms)) := K0_10.out.cell 1
                    have z0_2_10 : w10.cell? ⟨w.heap.size, 2, none⟩ = some (.int .i64 (m.lo)) := K0_10.out.cell 2
                    have z0_3_10 : w10.cell? ⟨w.heap.size, 3, none⟩ = some (.int .i64 (m.hi)) := K0_10.out.cell 3
                    have z0_4_10 : w10.cell? ⟨w.heap.size, 4, none⟩ = some (.int .i64 (m.sp)) := K0_10.out.cell 4
                    have z0_5_10 : w10.cell? ⟨w.heap.size, 5, none⟩ = some (.slice m.A1 m.n1 m.c1) := K0_10.out.cell 5
                    have z0_6_10 : w10.cell? ⟨w.heap.size, 6, none⟩ = some (.slice m.A2 m.n2 m.c2) := K0_10.out.cell 6
                    have l1_10 : w.heap.size + 1 < w10.heap.size := K1_10.out.lt
                    have z1_0_10 : w10.cell? ⟨w.heap.size + 1, 0, none⟩ = some (.int .i64 (day)) := K1_10.out.cell 0
                    have z1_1_10 : w10.cell? ⟨w.heap.size + 1, 1, none⟩ = some (.int .i64 (pos)) := K1_10.out.cell 1
                    go_wp2
                    go_loopw [22] (fun i wr => ∃ h : Nat, h ≤ rn' ∧ i = .int .i64 h ∧ Below w10.heap.size w10 wr ∧ ∀ (n' : Nat) (b a : Int), n' < h → (befL ps k)[n']? = some b → (froL m day pos l k)[n']? = some a → z ≤ b + costF a to) (fun i _ => rn' - (intOf i).toNat)
                    case atStart => exact ⟨0, by omega, rfl, Below.refl _ _, fun n' b a hj => absurd hj (by omega)⟩
                    case round =>
                      obtain ⟨h, hh, rfl, hb11, hpre⟩ := hrel
                      obtain ⟨w11, hnm⟩ : ∃ z : World, z = wr := ⟨_, rfl⟩
                      subst hnm
                      have HPRH := Lib.hid hpre
                      have HB1011 := Lib.hid hb11
                      have hr11 := (HR10.out.below hb11).more hb11.size
                      have HB711 := Lib.hid (HB710.out.trans (hb11.mono HB710.out.size))
                      clear hpre hb11
                      have hb1 := (HB17.out.trans (HB711.out.mono HB17.out.size))
                      have hk0 := Blk.below K0_1.out hb1 l0_1
                      have hk1 := Blk.below K1_1.out hb1 l1_1
                      have hbw := HB1.out.trans (hb1.mono HB1.out.size)
                      have hxm := HX.out.lay hbw
                      have HBW11 := Lib.hid hbw
                      have HB1_11 := Lib.hid hb1
                      have hsz11 := hbw.size
                      clear hb1
                      have HB11 := Lib.hid hbw
                      have K0_11 := Lib.hid (show Blk w11 (w.heap.size) 58 #[.int .i64 (m.ls), .int .i64 (m.ms), .int .i64 (m.lo), .int .i64 (m.hi), .int .i64 (m.sp), .slice m.A1 m.n1 m.c1, .slice m.A2 m.n2 m.c2] from hk0)
                      have K1_11 := Lib.hid (show Blk w11 (w.heap.size + 1) 60 #[.int .i64 (day), .int .i64 (pos)] from hk1)
                      clear hbw hk0 hk1
                      have l0_11 : w.heap.size < w11.heap.size := K0_11.out.lt
                      have z0_0_11 : w11.cell? ⟨w.heap.size, 0, none⟩ = some (.int .i64 (m.ls)) := K0_11.out.cell 0
                      have z0_1_11 : w11.cell? ⟨w.heap.size, 1, none⟩ = some (.int .i64 (m.ms)) := K0_11.out.cell 1
                      have z0_2_11 : w11.cell? ⟨w.heap.size, 2, none⟩ = some (.int .i64 (m.lo)) := K0_11.out.cell 2
                      have z0_3_11 : w11.cell? ⟨w.heap.size, 3, none⟩ = some (.int .i64 (m.hi)) := K0_11.out.cell 3
                      have z0_4_11 : w11.cell? ⟨w.heap.size, 4, none⟩ = some (.int .i64 (m.sp)) := K0_11.out.cell 4
                      have z0_5_11 : w11.cell? ⟨w.heap.size, 5, none⟩ = some (.slice m.A1 m.n1 m.c1) := K0_11.out.cell 5
                      have z0_6_11 : w11.cell? ⟨w.heap.size, 6, none⟩ = some (.slice m.A2 m.n2 m.c2) := K0_11.out.cell 6
                      have l1_11 : w.heap.size + 1 < w11.heap.size := K1_11.out.lt
                      have z1_0_11 : w11.cell? ⟨w.heap.size + 1, 0, none⟩ = some (.int .i64 (day)) := K1_11.out.cell 0
                      have z1_1_11 : w11.cell? ⟨w.heap.size + 1, 1, none⟩ = some (.int .i64 (pos)) := K1_11.out.cell 1
                      have R0_11 := Lib.hid hxm
                      clear hxm
                      by_cases hlt6 : h < rn'
                      · obtain ⟨bb, bo, kz', rfl, hbb, hkz', d1⟩ := hr11.int_ hlt6
                        obtain ⟨sb, so, b, rfl, hsb, hb', g1⟩ := HRR'.out.int_ hlt6
                        have ha0 := HVP'.out h kz' hkz'
                        obtain ⟨-, -, t3', t4'⟩ := turn_range (show kz' ∈ turnsV m day t' by rw [HV'.out]; exact List.mem_of_getElem? hkz')
                        obtain ⟨a, hae⟩ : ∃ a, X' + kz' * 1296000 = a := ⟨_, rfl⟩
                        rw [hae] at ha0
                        have har0 := posV_in (List.mem_of_getElem? ha0)
                        have har : PosR a := by unfold PosR; omega
                        have hbr := HZR'.out b (List.mem_of_getElem? hb')
                        obtain ⟨v, hv⟩ : ∃ v, costF a to = v := ⟨_, rfl⟩
                        have hcb := cost_bound har HPT.out
                        rw [hv] at hcb
                        have v4 := IntWalk.i64_in (b + v) ⟨by omega, by omega⟩
                        have hhq : (h : Int) < (rn' : Int) := by omega
                        have p11 := (HBW11.out.cell (p := ⟨pb, po + k, none⟩) hpb).trans HP0.out
                        have g11 := (HBW11.out.cell (p := ⟨rb, ro + j, none⟩) hrb).trans HG0.out
                        have s11 := (HBW11.out.cell (p := ⟨pb, po + k', none⟩) hpb).trans HP1.out
                        have u11 := (HBW11.out.cell (p := ⟨sb, so + h, none⟩) hsb).trans g1
                        have hpb11 : pb < w11.heap.size := by omega
                        have hrb11 : rb < w11.heap.size := by omega
                        have hsb11 : sb < w11.heap.size := by omega
                        have hxb11 : xb < w11.heap.size := by omega
                        have HAE := Lib.hid hae
                        have HVV := Lib.hid hv
                        have HAR := Lib.hid har
                        have HBB := Lib.hid (show (befL ps k)[h]? = some b by rw [HBEF.out]; exact hb')
                        have HAA := Lib.hid (show (froL m day pos l k)[h]? = some a by rw [HFRO.out]; exact ha0)
                        clear hkz' hb' g1 ha0 hae har0 har hv hcb hbr
                        have C0_11 := Lib.hid ((HBW11.out.cell (p := ⟨xb, xo + k' * 6, none⟩) hxb).trans HCY.out.1)
                        have C1_11 := Lib.hid ((HBW11.out.cell (p := ⟨xb, xo + k' * 6 + 1, none⟩) hxb).trans HCY.out.2.1)
                        have C2_11 := Lib.hid ((HBW11.out.cell (p := ⟨xb, xo + k' * 6 + 2, none⟩) hxb).trans HCY.out.2.2.1)
                        have C3_11 := Lib.hid ((HBW11.out.cell (p := ⟨xb, xo + k' * 6 + 3, none⟩) hxb).trans HCY.out.2.2.2.1)
                        have C4_11 := Lib.hid ((HBW11.out.cell (p := ⟨xb, xo + k' * 6 + 4, none⟩) hxb).trans HCY.out.2.2.2.2.1)
                        have C5_11 := Lib.hid ((HBW11.out.cell (p := ⟨xb, xo + k' * 6 + 5, none⟩) hxb).trans HCY.out.2.2.2.2.2)
                        obtain ⟨tt, e2⟩ : ∃ tt, decide (b + v < z) = tt := ⟨_, rfl⟩
                        go_wp2
                        refine Fx.regionW (fun W f w' => Below W.heap.size W w') (by kernel_rfl) (by kernel_rfl) ?_ ?_
                        · intro f hf0
                          exact below_drewN (Below.refl _ _) 1
                        repeat (first
                          | (refine Fx.skip_ (by rfl) (fun f w h => h) ?_; simp only [Act.put, List.setIfInBounds_toArray, List.set_cons_zero, List.set_cons_succ])
                          | (refine Fx.val_ ?_ (by rfl) ?_ (fun f w h => h) ?_
                             rotate_left
                             · intro f w' hD hk
                               have hb := hD
                               have kb0 := step_blk hb (show Blk _ (w.heap.size) 58 #[.int .i64 (m.ls), .int .i64 (m.ms), .int .i64 (m.lo), .int .i64 (m.hi), .int .i64 (m.sp), .slice m.A1 m.n1 m.c1, .slice m.A2 m.n2 m.c2] by repeat' (first | exact K0_11.out | exact K1_11.out | exact Blk.at_ _ (by first | rfl | (simp; done) | (simp; omega)) _ _ | refine Blk.drewN ?_ _ | refine Blk.drew ?_ | refine Blk.alloc ?_ _ | refine Blk.far ?_ (by first | omega | (simp; done) | (simp; omega)) _ | assumption))
                               have y0_0 : w'.cell? ⟨w.heap.size, 0, none⟩ = some (.int .i64 (m.ls)) := kb0.cell 0
                               have y0_1 : w'.cell? ⟨w.heap.size, 1, none⟩ = some (.int .i64 (m.ms)) := kb0.cell 1
                               have y0_2 : w'.cell? ⟨w.heap.size, 2, none⟩ = some (.int .i64 (m.lo)) := kb0.cell 2
                               have y0_3 : w'.cell? ⟨w.heap.size, 3, none⟩ = some (.int .i64 (m.hi)) := kb0.cell 3
                               have y0_4 : w'.cell? ⟨w.heap.size, 4, none⟩ = some (.int .i64 (m.sp)) := kb0.cell 4
                               have y0_5 : w'.cell? ⟨w.heap.size, 5, none⟩ = some (.slice m.A1 m.n1 m.c1) := kb0.cell 5
                               have y0_6 : w'.cell? ⟨w.heap.size, 6, none⟩ = some (.slice m.A2 m.n2 m.c2) := kb0.cell 6
                               have kb1 := step_blk hb (show Blk _ (w.heap.size + 1) 60 #[.int .i64 (day), .int .i64 (pos)] by repeat' (first | exact K0_11.out | exact K1_11.out | exact Blk.at_ _ (by first | rfl | (simp; done) | (simp; omega)) _ _ | refine Blk.drewN ?_ _ | refine Blk.drew ?_ | refine Blk.alloc ?_ _ | refine Blk.far ?_ (by first | omega | (simp; done) | (simp; omega)) _ | assumption))
                               have y1_0 : w'.cell? ⟨w.heap.size + 1, 0, none⟩ = some (.int .i64 (day)) := kb1.cell 0
                               have y1_1 : w'.cell? ⟨w.heap.size + 1, 1, none⟩ = some (.int .i64 (pos)) := kb1.cell 1
                               have yc0 : w'.cell? ⟨xb, xo + k' * 6, none⟩ = some (.string t'.name) := step_cell hb (show World.cell? _ ⟨xb, xo + k' * 6, none⟩ = some (.string t'.name) by first | exact C0_11.out | go_simp) (by have := hxb11; first | omega | (simp; omega))
                               have yc1 : w'.cell? ⟨xb, xo + k' * 6 + 1, none⟩ = some (.int .i64 (t'.az)) := step_cell hb (show World.cell? _ ⟨xb, xo + k' * 6 + 1, none⟩ = some (.int .i64 (t'.az)) by first | exact C1_11.out | go_simp) (by have := hxb11; first | omega | (simp; omega))
                               have yc2 : w'.cell? ⟨xb, xo + k' * 6 + 2, none⟩ = some (.int .i64 (t'.ht)) := step_cell hb (show World.cell? _ ⟨xb, xo + k' * 6 + 2, none⟩ = some (.int .i64 (t'.ht)) by first | exact C2_11.out | go_simp) (by have := hxb11; first | omega | (simp; omega))
                               have yc3 : w'.cell? ⟨xb, xo + k' * 6 + 3, none⟩ = some (.int .i64 (t'.fr)) := step_cell hb (show World.cell? _ ⟨xb, xo + k' * 6 + 3, none⟩ = some (.int .i64 (t'.fr)) by first | exact C3_11.out | go_simp) (by have := hxb11; first | omega | (simp; omega))
                               have yc4 : w'.cell? ⟨xb, xo + k' * 6 + 4, none⟩ = some (.int .i64 (t'.to)) := step_cell hb (show World.cell? _ ⟨xb, xo + k' * 6 + 4, none⟩ = some (.int .i64 (t'.to)) by first | exact C4_11.out | go_simp) (by have := hxb11; first | omega | (simp; omega))
                               have yc5 : w'.cell? ⟨xb, xo + k' * 6 + 5, none⟩ = some (.int .i64 (t'.dw)) := step_cell hb (show World.cell? _ ⟨xb, xo + k' * 6 + 5, none⟩ = some (.int .i64 (t'.dw)) by first | exact C5_11.out | go_simp) (by have := hxb11; first | omega | (simp; omega))
                               have x5 := (hb.cell (p := ⟨pb, po + k, none⟩) hpb11).trans p11
                               have x6 := (hb.cell (p := ⟨rb, ro + j, none⟩) hrb11).trans g11
                               have x7 := (hb.cell (p := ⟨pb, po + k', none⟩) hpb11).trans s11
                               have x8 := (hb.cell (p := ⟨sb, so + h, none⟩) hsb11).trans u11
                               have x9 := (hb.cell (p := ⟨bb, bo + h, none⟩) hbb).trans d1
                               clear kb0 kb1
                               clear hk hD hb
                               go_simp
                               try rfl
                             simp only [Act.put, List.setIfInBounds_toArray, List.set_cons_zero, List.set_cons_succ]))
                        refine Fx.call_ (.int .i64 (a)) ?_ ?_ (by rfl) ?_ ?_ ?_
                        rotate_left 2
                        · intro w'
                          go_simp
                          refine ⟨?_, ?_⟩ <;> rfl
                        · intro f w' hD hk
                          exact (rposition_is m t' day kz' X' Y' a HA'.out HAE.out ⟨by omega, by omega⟩ w' (R0_11.out.lay hD) HM.out HE1'.out HD.out).mono fun e w'' ⟨he, hw⟩ => ⟨he, step_below hw hD⟩
                        simp only [Act.put, List.setIfInBounds_toArray, List.set_cons_zero, List.set_cons_succ]
                        repeat (first
                          | (refine Fx.skip_ (by rfl) (fun f w h => h) ?_; simp only [Act.put, List.setIfInBounds_toArray, List.set_cons_zero, List.set_cons_succ])
                          | (refine Fx.val_ ?_ (by rfl) ?_ (fun f w h => h) ?_
                             rotate_left
                             · intro f w' hD hk
                               have hb := hD
                               have kb0 := step_blk hb (show Blk _ (w.heap.size) 58 #[.int .i64 (m.ls), .int .i64 (m.ms), .int .i64 (m.lo), .int .i64 (m.hi), .int .i64 (m.sp), .slice m.A1 m.n1 m.c1, .slice m.A2 m.n2 m.c2] by repeat' (first | exact K0_11.out | exact K1_11.out | exact Blk.at_ _ (by first | rfl | (simp; done) | (simp; omega)) _ _ | refine Blk.drewN ?_ _ | refine Blk.drew ?_ | refine Blk.alloc ?_ _ | refine Blk.far ?_ (by first | omega | (simp; done) | (simp; omega)) _ | assumption))
                               have y0_0 : w'.cell? ⟨w.heap.size, 0, none⟩ = some (.int .i64 (m.ls)) := kb0.cell 0
                               have y0_1 : w'.cell? ⟨w.heap.size, 1, none⟩ = some (.int .i64 (m.ms)) := kb0.cell 1
                               have y0_2 : w'.cell? ⟨w.heap.size, 2, none⟩ = some (.int .i64 (m.lo)) := kb0.cell 2
                               have y0_3 : w'.cell? ⟨w.heap.size, 3, none⟩ = some (.int .i64 (m.hi)) := kb0.cell 3
                               have y0_4 : w'.cell? ⟨w.heap.size, 4, none⟩ = some (.int .i64 (m.sp)) := kb0.cell 4
                               have y0_5 : w'.cell? ⟨w.heap.size, 5, none⟩ = some (.slice m.A1 m.n1 m.c1) := kb0.cell 5
                               have y0_6 : w'.cell? ⟨w.heap.size, 6, none⟩ = some (.slice m.A2 m.n2 m.c2) := kb0.cell 6
                               have kb1 := step_blk hb (show Blk _ (w.heap.size + 1) 60 #[.int .i64 (day), .int .i64 (pos)] by repeat' (first | exact K0_11.out | exact K1_11.out | exact Blk.at_ _ (by first | rfl | (simp; done) | (simp; omega)) _ _ | refine Blk.drewN ?_ _ | refine Blk.drew ?_ | refine Blk.alloc ?_ _ | refine Blk.far ?_ (by first | omega | (simp; done) | (simp; omega)) _ | assumption))
                               have y1_0 : w'.cell? ⟨w.heap.size + 1, 0, none⟩ = some (.int .i64 (day)) := kb1.cell 0
                               have y1_1 : w'.cell? ⟨w.heap.size + 1, 1, none⟩ = some (.int .i64 (pos)) := kb1.cell 1
                               have yc0 : w'.cell? ⟨xb, xo + k' * 6, none⟩ = some (.string t'.name) := step_cell hb (show World.cell? _ ⟨xb, xo + k' * 6, none⟩ = some (.string t'.name) by first | exact C0_11.out | go_simp) (by have := hxb11; first | omega | (simp; omega))
                               have yc1 : w'.cell? ⟨xb, xo + k' * 6 + 1, none⟩ = some (.int .i64 (t'.az)) := step_cell hb (show World.cell? _ ⟨xb, xo + k' * 6 + 1, none⟩ = some (.int .i64 (t'.az)) by first | exact C1_11.out | go_simp) (by have := hxb11; first | omega | (simp; omega))
                               have yc2 : w'.cell? ⟨xb, xo + k' * 6 + 2, none⟩ = some (.int .i64 (t'.ht)) := step_cell hb (show World.cell? _ ⟨xb, xo + k' * 6 + 2, none⟩ = some (.int .i64 (t'.ht)) by first | exact C2_11.out | go_simp) (by have := hxb11; first | omega | (simp; omega))
                               have yc3 : w'.cell? ⟨xb, xo + k' * 6 + 3, none⟩ = some (.int .i64 (t'.fr)) := step_cell hb (show World.cell? _ ⟨xb, xo + k' * 6 + 3, none⟩ = some (.int .i64 (t'.fr)) by first | exact C3_11.out | go_simp) (by have := hxb11; first | omega | (simp; omega))
                               have yc4 : w'.cell? ⟨xb, xo + k' * 6 + 4, none⟩ = some (.int .i64 (t'.to)) := step_cell hb (show World.cell? _ ⟨xb, xo + k' * 6 + 4, none⟩ = some (.int .i64 (t'.to)) by first | exact C4_11.out | go_simp) (by have := hxb11; first | omega | (simp; omega))
                               have yc5 : w'.cell? ⟨xb, xo + k' * 6 + 5, none⟩ = some (.int .i64 (t'.dw)) := step_cell hb (show World.cell? _ ⟨xb, xo + k' * 6 + 5, none⟩ = some (.int .i64 (t'.dw)) by first | exact C5_11.out | go_simp) (by have := hxb11; first | omega | (simp; omega))
                               have x5 := (hb.cell (p := ⟨pb, po + k, none⟩) hpb11).trans p11
                               have x6 := (hb.cell (p := ⟨rb, ro + j, none⟩) hrb11).trans g11
                               have x7 := (hb.cell (p := ⟨pb, po + k', none⟩) hpb11).trans s11
                               have x8 := (hb.cell (p := ⟨sb, so + h, none⟩) hsb11).trans u11
                               have x9 := (hb.cell (p := ⟨bb, bo + h, none⟩) hbb).trans d1
                               clear kb0 kb1
                               clear hk hD hb
                               go_simp
                               try rfl
                             simp only [Act.put, List.setIfInBounds_toArray, List.set_cons_zero, List.set_cons_succ]))
                        refine Fx.call_ (.int .i64 (v)) ?_ ?_ (by rfl) ?_ ?_ ?_
                        rotate_left 2
                        · intro w'
                          go_simp
                          refine ⟨?_, ?_⟩ <;> rfl
                        · intro f w' hD hk
                          exact (rcost9_is a to v HVV.out _ HAR.out HPT.out).mono fun e w'' ⟨he, hw⟩ => ⟨he, hw ▸ hD⟩
                        simp only [Act.put, List.setIfInBounds_toArray, List.set_cons_zero, List.set_cons_succ]
                        repeat (first
                          | (refine Fx.skip_ (by rfl) (fun f w h => h) ?_; simp only [Act.put, List.setIfInBounds_toArray, List.set_cons_zero, List.set_cons_succ])
                          | (refine Fx.val_ ?_ (by rfl) ?_ (fun f w h => h) ?_
                             rotate_left
                             · intro f w' hD hk
                               have hb := hD
                               have kb0 := step_blk hb (show Blk _ (w.heap.size) 58 #[.int .i64 (m.ls), .int .i64 (m.ms), .int .i64 (m.lo), .int .i64 (m.hi), .int .i64 (m.sp), .slice m.A1 m.n1 m.c1, .slice m.A2 m.n2 m.c2] by repeat' (first | exact K0_11.out | exact K1_11.out | exact Blk.at_ _ (by first | rfl | (simp; done) | (simp; omega)) _ _ | refine Blk.drewN ?_ _ | refine Blk.drew ?_ | refine Blk.alloc ?_ _ | refine Blk.far ?_ (by first | omega | (simp; done) | (simp; omega)) _ | assumption))
                               have y0_0 : w'.cell? ⟨w.heap.size, 0, none⟩ = some (.int .i64 (m.ls)) := kb0.cell 0
                               have y0_1 : w'.cell? ⟨w.heap.size, 1, none⟩ = some (.int .i64 (m.ms)) := kb0.cell 1
                               have y0_2 : w'.cell? ⟨w.heap.size, 2, none⟩ = some (.int .i64 (m.lo)) := kb0.cell 2
                               have y0_3 : w'.cell? ⟨w.heap.size, 3, none⟩ = some (.int .i64 (m.hi)) := kb0.cell 3
                               have y0_4 : w'.cell? ⟨w.heap.size, 4, none⟩ = some (.int .i64 (m.sp)) := kb0.cell 4
                               have y0_5 : w'.cell? ⟨w.heap.size, 5, none⟩ = some (.slice m.A1 m.n1 m.c1) := kb0.cell 5
                               have y0_6 : w'.cell? ⟨w.heap.size, 6, none⟩ = some (.slice m.A2 m.n2 m.c2) := kb0.cell 6
                               have kb1 := step_blk hb (show Blk _ (w.heap.size + 1) 60 #[.int .i64 (day), .int .i64 (pos)] by repeat' (first | exact K0_11.out | exact K1_11.out | exact Blk.at_ _ (by first | rfl | (simp; done) | (simp; omega)) _ _ | refine Blk.drewN ?_ _ | refine Blk.drew ?_ | refine Blk.alloc ?_ _ | refine Blk.far ?_ (by first | omega | (simp; done) | (simp; omega)) _ | assumption))
                               have y1_0 : w'.cell? ⟨w.heap.size + 1, 0, none⟩ = some (.int .i64 (day)) := kb1.cell 0
                               have y1_1 : w'.cell? ⟨w.heap.size + 1, 1, none⟩ = some (.int .i64 (pos)) := kb1.cell 1
                               have yc0 : w'.cell? ⟨xb, xo + k' * 6, none⟩ = some (.string t'.name) := step_cell hb (show World.cell? _ ⟨xb, xo + k' * 6, none⟩ = some (.string t'.name) by first | exact C0_11.out | go_simp) (by have := hxb11; first | omega | (simp; omega))
                               have yc1 : w'.cell? ⟨xb, xo + k' * 6 + 1, none⟩ = some (.int .i64 (t'.az)) := step_cell hb (show World.cell? _ ⟨xb, xo + k' * 6 + 1, none⟩ = some (.int .i64 (t'.az)) by first | exact C1_11.out | go_simp) (by have := hxb11; first | omega | (simp; omega))
                               have yc2 : w'.cell? ⟨xb, xo + k' * 6 + 2, none⟩ = some (.int .i64 (t'.ht)) := step_cell hb (show World.cell? _ ⟨xb, xo + k' * 6 + 2, none⟩ = some (.int .i64 (t'.ht)) by first | exact C2_11.out | go_simp) (by have := hxb11; first | omega | (simp; omega))
                               have yc3 : w'.cell? ⟨xb, xo + k' * 6 + 3, none⟩ = some (.int .i64 (t'.fr)) := step_cell hb (show World.cell? _ ⟨xb, xo + k' * 6 + 3, none⟩ = some (.int .i64 (t'.fr)) by first | exact C3_11.out | go_simp) (by have := hxb11; first | omega | (simp; omega))
                               have yc4 : w'.cell? ⟨xb, xo + k' * 6 + 4, none⟩ = some (.int .i64 (t'.to)) := step_cell hb (show World.cell? _ ⟨xb, xo + k' * 6 + 4, none⟩ = some (.int .i64 (t'.to)) by first | exact C4_11.out | go_simp) (by have := hxb11; first | omega | (simp; omega))
                               have yc5 : w'.cell? ⟨xb, xo + k' * 6 + 5, none⟩ = some (.int .i64 (t'.dw)) := step_cell hb (show World.cell? _ ⟨xb, xo + k' * 6 + 5, none⟩ = some (.int .i64 (t'.dw)) by first | exact C5_11.out | go_simp) (by have := hxb11; first | omega | (simp; omega))
                               have x5 := (hb.cell (p := ⟨pb, po + k, none⟩) hpb11).trans p11
                               have x6 := (hb.cell (p := ⟨rb, ro + j, none⟩) hrb11).trans g11
                               have x7 := (hb.cell (p := ⟨pb, po + k', none⟩) hpb11).trans s11
                               have x8 := (hb.cell (p := ⟨sb, so + h, none⟩) hsb11).trans u11
                               have x9 := (hb.cell (p := ⟨bb, bo + h, none⟩) hbb).trans d1
                               clear kb0 kb1
                               clear hk hD hb
                               go_simp
                               try rfl
                             simp only [Act.put, List.setIfInBounds_toArray, List.set_cons_zero, List.set_cons_succ]))
                        refine Fx.nil_ ?_
                        intro f w12 hall hb
                        try clear hall
                        have HB1112 := Lib.hid hb
                        have HB12 := Lib.hid (show Below w.heap.size w w12 from step_below hb (by repeat' (first | exact Below.refl _ _ | exact HB11.out | refine below_drewN ?_ _ | refine Below.drew ?_ | refine Below.alloc ?_ (by first | omega | (simp; done) | (simp; omega) | (simp [World.setCell]; omega)) _ | refine Below.setCell ?_ (by first | omega | (simp; done) | (simp; omega)) _ | assumption)))
                        have K0_12 := Lib.hid (step_blk hb (show Blk _ (w.heap.size) 58 #[.int .i64 (m.ls), .int .i64 (m.ms), .int .i64 (m.lo), .int .i64 (m.hi), .int .i64 (m.sp), .slice m.A1 m.n1 m.c1, .slice m.A2 m.n2 m.c2] by repeat' (first | exact K0_11.out | exact K1_11.out | exact Blk.at_ _ (by first | rfl | (simp; done) | (simp; omega)) _ _ | refine Blk.drewN ?_ _ | refine Blk.drew ?_ | refine Blk.alloc ?_ _ | refine Blk.far ?_ (by first | omega | (simp; done) | (simp; omega)) _ | assumption)))
                        have K1_12 := Lib.hid (step_blk hb (show Blk _ (w.heap.size + 1) 60 #[.int .i64 (day), .int .i64 (pos)] by repeat' (first | exact K0_11.out | exact K1_11.out | exact Blk.at_ _ (by first | rfl | (simp; done) | (simp; omega)) _ _ | refine Blk.drewN ?_ _ | refine Blk.drew ?_ | refine Blk.alloc ?_ _ | refine Blk.far ?_ (by first | omega | (simp; done) | (simp; omega)) _ | assumption)))
                        have C0_12 := Lib.hid (step_cell hb (show World.cell? _ ⟨xb, xo + k' * 6, none⟩ = some (.string t'.name) by first | exact C0_11.out | go_simp) (by have := hxb11; first | omega | (simp; omega)))
                        have C1_12 := Lib.hid (step_cell hb (show World.cell? _ ⟨xb, xo + k' * 6 + 1, none⟩ = some (.int .i64 (t'.az)) by first | exact C1_11.out | go_simp) (by have := hxb11; first | omega | (simp; omega)))
                        have C2_12 := Lib.hid (step_cell hb (show World.cell? _ ⟨xb, xo + k' * 6 + 2, none⟩ = some (.int .i64 (t'.ht)) by first | exact C2_11.out | go_simp) (by have := hxb11; first | omega | (simp; omega)))
                        have C3_12 := Lib.hid (step_cell hb (show World.cell? _ ⟨xb, xo + k' * 6 + 3, none⟩ = some (.int .i64 (t'.fr)) by first | exact C3_11.out | go_simp) (by have := hxb11; first | omega | (simp; omega)))
                        have C4_12 := Lib.hid (step_cell hb (show World.cell? _ ⟨xb, xo + k' * 6 + 4, none⟩ = some (.int .i64 (t'.to)) by first | exact C4_11.out | go_simp) (by have := hxb11; first | omega | (simp; omega)))
                        have C5_12 := Lib.hid (step_cell hb (show World.cell? _ ⟨xb, xo + k' * 6 + 5, none⟩ = some (.int .i64 (t'.dw)) by first | exact C5_11.out | go_simp) (by have := hxb11; first | omega | (simp; omega)))
                        have hL12 := Lib.hid (show Below w11.heap.size w11 _ from reads_mid hb (by repeat' (first | exact Below.refl _ _ | refine below_drewN ?_ _ | refine Below.drew ?_ | refine Below.alloc ?_ (by first | omega | (simp; done) | (simp; omega) | (simp [World.setCell]; omega)) _ | refine Below.setCell ?_ (by first | omega | (simp; done) | (simp; omega)) _)))
                        have R0_12 := Lib.hid (mnt_lay hb hL12.out R0_11.out)
                        clear hL12 R0_11
                        have hz12 := hb.size
                        try simp only [World.size_alloc, World.drewN, World.drew] at hz12
                        clear hb K0_11 K1_11 z0_0_11 z0_1_11 z0_2_11 z0_3_11 z0_4_11 z0_5_11 z0_6_11 l0_11 z1_0_11 z1_1_11 l1_11
                        have l0_12 : w.heap.size < w12.heap.size := K0_12.out.lt
                        have z0_0_12 : w12.cell? ⟨w.heap.size, 0, none⟩ = some (.int .i64 (m.ls)) := K0_12.out.cell 0
                        have z0_1_12 : w12.cell? ⟨w.heap.size, 1, none⟩ = some (.int .i64 (m.ms)) := K0_12.out.cell 1
                        have z0_2_12 : w12.cell? ⟨w.heap.size, 2, none⟩ = some (.int .i64 (m.lo)) := K0_12.out.cell 2
                        have z0_3_12 : w12.cell? ⟨w.heap.size, 3, none⟩ = some (.int .i64 (m.hi)) := K0_12.out.cell 3
                        have z0_4_12 : w12.cell? ⟨w.heap.size, 4, none⟩ = some (.int .i64 (m.sp)) := K0_12.out.cell 4
                        have z0_5_12 : w12.cell? ⟨w.heap.size, 5, none⟩ = some (.slice m.A1 m.n1 m.c1) := K0_12.out.cell 5
                        have z0_6_12 : w12.cell? ⟨w.heap.size, 6, none⟩ = some (.slice m.A2 m.n2 m.c2) := K0_12.out.cell 6
                        have l1_12 : w.heap.size + 1 < w12.heap.size := K1_12.out.lt
                        have z1_0_12 : w12.cell? ⟨w.heap.size + 1, 0, none⟩ = some (.int .i64 (day)) := K1_12.out.cell 0
                        have z1_1_12 : w12.cell? ⟨w.heap.size + 1, 1, none⟩ = some (.int .i64 (pos)) := K1_12.out.cell 1
                        cases tt
                        · have HNB := Lib.hid (of_decide_eq_false e2)
                          go_wp2
                          go_roundw
                          case rel =>
                            refine ⟨h + 1, by omega, by go_num, HB1011.out.trans (HB1112.out.mono HB1011.out.size), fun n' b' a' hn' hb' ha' => ?_⟩
                            by_cases e : n' < h
                            · exact HPRH.out n' b' a' e hb' ha'
                            · obtain rfl : h = n' := by omega
                              obtain rfl := Option.some.inj (HBB.out.symm.trans hb')
                              obtain rfl := Option.some.inj (HAA.out.symm.trans ha')
                              rw [HVV.out]
                              have := HNB.out
                              omega
                          case measure => simp [intOf]; omega
                        · have hbad := of_decide_eq_true e2
                          obtain ⟨rfl, rfl⟩ := HR.out.proof HSH.out HRG.out (fun hp => by
                            have := hp k _ _ HPK.out HTT.out j z to HZ.out HTO.out h b a HBB.out HAA.out
                            rw [HVV.out] at this
                            omega)
                          clear hbad
                          go_wp2
                          go_ret2
                          exact ⟨rfl, HB12.out⟩
                      · obtain rfl : rn' = h := by omega
                        go_wp2
                        go_roundw
                        case rel =>
                          refine ⟨j + 1, by omega, by go_num, HB711.out, fun j' z' to' hj' hz' hto' n' b' a' hb' ha' => ?_⟩
                          by_cases e : j' < j
                          · exact HPRJ.out j' z' to' e hz' hto' n' b' a' hb' ha'
                          · obtain rfl : j = j' := by omega
                            obtain rfl := Option.some.inj (HZ.out.symm.trans hz')
                            obtain rfl := Option.some.inj (HTO.out.symm.trans hto')
                            refine HPRH.out n' b' a' ?_ hb' ha'
                            have h1 := (List.getElem?_eq_some_iff.1 hb').1
                            rw [HBEF.out] at h1
                            have h2 := HRR'.out.ilen
                            omega
                        case measure => simp [intOf]; omega
                · obtain rfl : rn = j := by omega
                  have hpa : ProofAt m day pos l ps k := fun p t0 hp ht k' z' to' hz' hto' n' b' a' hb' ha' => by
                    obtain rfl := Option.some.inj (HPK.out.symm.trans hp)
                    obtain rfl := Option.some.inj (HTT.out.symm.trans ht)
                    refine HPRJ.out k' z' to' ?_ hz' hto' n' b' a' hb' ha'
                    have h1 := (List.getElem?_eq_some_iff.1 hz').1
                    have h2 := HRR.out.ilen
                    omega
                  have HPA := Lib.hid hpa
                  clear hpa
                  go_wp2
                  go_roundw
                  case rel =>
                    refine ⟨k + 1, by omega, by go_num, HB1_8.out, fun j hj => ?_⟩
                    by_cases e : j < k
                    · exact HPR.out j e
                    · obtain rfl : k = j := by omega
                      exact HPA.out
                  case measure => simp [intOf]; omega
            · obtain rfl : np = k := by omega
              have hproof : ProofOk m day pos l ps := fun i => by
                by_cases hi : i < np
                · exact HPR.out i hi
                · intro p t hp
                  have := (List.getElem?_eq_some_iff.1 hp).1
                  rw [HPL.out] at this
                  omega
              obtain ⟨rfl, rfl⟩ := HR.out.ok HSH.out HRG.out hproof
              clear hproof
              by_cases hz : np = 0
              · have e2 : ((np : Int) == 0) = true := by rw [hz]; rfl
                have hC : minF (befL ps l.length) = 0 := by rw [HLL.out, hz]; rfl
                have HC0 := Lib.hid hC
                clear hz hC
                go_wp2
                go_ret2
                exact ⟨by rw [HC0.out]; rfl, HB6.out⟩
              · have e2 : ((np : Int) == 0) = false := by rw [beq_eq_false_iff_ne]; omega
                obtain ⟨k', hk'⟩ : ∃ k', np = k' + 1 := ⟨np - 1, by omega⟩
                have hk'lt : k' < np := by omega
                obtain ⟨pb, po, r, rfl, hpb, hr, p0, -, hrl, hrr⟩ := (HK.out.below HBW6.out).at_ hk'lt
                have hpk := HPG.out k' r hr
                have hr1 := HRN.out r (List.mem_of_getElem? hr)
                have hlk : l[k']? = some (l[k']'(by rw [HLL.out]; exact hk'lt)) := List.getElem?_eq_getElem _
                have hlen := HSH.out.2 k' _ _ hpk hlk
                have hts := turns_some ((tour_right HT0.out).2.2.2.2 k' _ hlk)
                have hC : minF r.xs = minF (befL ps l.length) := by rw [HLL.out, hk', befL_succ hpk]
                have v3 : IntKind.i64.wrap ((np : Int) - 1) = (k' : Int) := by rw [IntWalk.i64_in _ ⟨by omega, by omega⟩]; omega
                have hkk : (k' : Int) < (np : Int) := by omega
                have hrn0 : 0 < r.n := by omega
                have HCC := Lib.hid hC
                have HRR := Lib.hid hrr
                clear hz hk' hr hpk hlk hlen hts hC hrl hrr
                go_wp2_with fail
                refine (rleast_is r.A r.n r.c _ _ _ HCC.out hrn0 _ HRR.out (by omega)).mono ?_
                rintro e w' ⟨rfl, rfl⟩
                go_wp2
                go_ret2
                exact ⟨rfl, HBW6.out⟩
end Go.Proofs.Ytdidcpealabaiaa

end
