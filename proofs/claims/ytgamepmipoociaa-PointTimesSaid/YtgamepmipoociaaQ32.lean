import Derived.Test.YtgamepmipoociaaQ31

section
/- The contract of the minutes of a choice, as the reference finds them. -/
namespace Go.Proofs.Ytgamepmipoociaa
open Go Go.RowKit

theorem ceilr_is (a b q : Int) (hq : ceilQ a b = q) (w : World) (h1 : -4000000000000000000 ≤ a) (h2 : a ≤ 4000000000000000000) (h3 : 1 ≤ b) (h4 : b ≤ 9223372036854775807) :
    Calls Try.prog 98 #[.int .i64 a, .int .i64 b] w fun e w' => e = .returned (.int .i64 q) ∧ w = w' := by
  subst hq; exact ceilref_any a b w h1 h2 h3 h4
set_option maxRecDepth 100000 in
set_option maxHeartbeats 4000000 in
theorem rtimes_is (m : Mnt) (day pos mi : Int) (l : List Tgt) (A : Option Addr) (n c : Nat) (At : Option Addr) (nt ct : Nat) (ks : List Int) (hp : pathErr m day l ks = 0) (hT0 : (tourF m l day pos).2 = 0) (h0 : withinB mi 0 10000000 = true) (w : World) (hx : MntAt m w) (hl : Reads w w.heap.size 6 A n (tgtCells l)) (hn : n ≤ 9223372036854775807)
    (hk : Reads w w.heap.size 1 At nt (ks.map (.int .i64))) (hnt : nt ≤ 9223372036854775807) (Q : (List Int × Int) × Int) (hQ : timesQ m.sp (mi, pos) (tgtPos m day l ks) = Q) (r : Nat) (hr : Q.1.1.length = r) :
    Calls Try.prog 53 #[m.val, .slice A n c, .agg #[.int .i64 day, .int .i64 pos, .int .i64 mi], .slice At nt ct] w (TimesPost Q.1.1 Q.1.2 Q.2 r w) := by
  obtain ⟨r1, r2, ⟨r3, r4⟩, r5, -⟩ := tour_right hT0
  obtain ⟨⟨q1, q2, q3, q4⟩, ⟨-, -, sp1, sp2⟩, -⟩ := mnt_right r1
  have hmi := (withinB_iff _ _ _).1 h0
  have hposR : PosR pos := by unfold PosR; omega
  have hll := hl.tlen
  have hn20 : n ≤ 20 := by omega
  obtain ⟨hkl, hpo⟩ := pathErr_ok hp
  obtain ⟨Z, hZ⟩ : ∃ Z, tgtPos m day l ks = Z := ⟨_, rfl⟩
  have hZR := zip_mem hT0 hpo
  rw [hZ] at hZR hQ
  obtain ⟨P, hPl⟩ : ∃ P, pathL m day l ks = P := ⟨_, rfl⟩
  have hZP : Z = l.zip P := by rw [← hZ, ← hPl]; rfl
  have hplen : P.length = n := by rw [← hPl, pathL_len hkl, hll]
  have hZl : Z.length = n := by rw [hZP, List.length_zip, hplen, hll]; omega
  have hntn : nt = n := by rw [← hll, ← hkl]; exact hk.ilen.symm
  subst hntn
  have HX := Lib.hid hx
  have HL := Lib.hid hl
  have HK := Lib.hid hk
  have HT0 := Lib.hid hT0
  have HLL := Lib.hid hll
  have HM := Lib.hid r1
  have HD := Lib.hid r2
  have HPO := Lib.hid hpo
  have HQZ := Lib.hid hQ
  have HRR := Lib.hid hr
  have HZP := Lib.hid hZP
  have HZR := Lib.hid hZR
  have HZL := Lib.hid hZl
  have HMI := Lib.hid hmi
  have HP := Lib.hid hPl
  clear hx hl hk hT0 hll r1 r2 h0 hp hQ hr hpo hZ hZR hPl hZP hplen hZl hmi hkl
  unfold Mnt.val
  go_enter Try.func53, Try.ntmps53
  go_wp2_with fail
  generalize hwn : ((w.alloc (.cells #[.int .i64 (m.ls), .int .i64 (m.ms), .int .i64 (m.lo), .int .i64 (m.hi), .int .i64 (m.sp), .slice m.A1 m.n1 m.c1, .slice m.A2 m.n2 m.c2] 42)).alloc (.cells #[.int .i64 (day), .int .i64 (pos), .int .i64 (mi)] 85)) = w1
  have hbn : Below w.heap.size w w1 := by rw [← hwn]; repeat' (first | exact Below.refl _ _ | refine below_drewN ?_ _ | refine Below.drew ?_ | refine Below.alloc ?_ (by first | omega | (simp; done) | (simp; omega) | (simp [World.setCell]; omega)) _ | refine Below.setCell ?_ (by first | omega | (simp; done) | (simp; omega)) _)
  have HB1 := Lib.hid (show Below w.heap.size w w1 from hbn)
  have K0_1 := Lib.hid (show Blk w1 (w.heap.size) 42 #[.int .i64 (m.ls), .int .i64 (m.ms), .int .i64 (m.lo), .int .i64 (m.hi), .int .i64 (m.sp), .slice m.A1 m.n1 m.c1, .slice m.A2 m.n2 m.c2] by rw [← hwn]; repeat' (first | exact Blk.at_ _ (by first | rfl | (simp; done) | (simp; omega)) _ _ | refine Blk.drewN ?_ _ | refine Blk.drew ?_ | refine Blk.alloc ?_ _ | refine Blk.far ?_ (by first | omega | (simp; done) | (simp; omega)) _ | assumption))
  have K1_1 := Lib.hid (show Blk w1 (w.heap.size + 1) 85 #[.int .i64 (day), .int .i64 (pos), .int .i64 (mi)] by rw [← hwn]; repeat' (first | exact Blk.at_ _ (by first | rfl | (simp; done) | (simp; omega)) _ _ | refine Blk.drewN ?_ _ | refine Blk.drew ?_ | refine Blk.alloc ?_ _ | refine Blk.far ?_ (by first | omega | (simp; done) | (simp; omega)) _ | assumption))
  have HN1 := Lib.hid hbn
  have hz1 := hbn.size
  clear hwn hbn
  have l0_1 : w.heap.size < w1.heap.size := K0_1.out.lt
  have z0_0_1 : w1.cell? ⟨w.heap.size, 0, none⟩ = some (.int .i64 (m.ls)) := K0_1.out.cell 0
  have z0_1_1 : w1.cell? ⟨w.heap.size, 1, none⟩ = some (.int .i64 (m.ms)) := K0_1.out.cell 1
  have z0_2_1 : w1.cell? ⟨w.heap.size, 2, none⟩ = some (.int .i64 (m.lo)) := K0_1.out.cell 2
  have z0_3_1 : w1.cell? ⟨w.heap.size, 3, none⟩ = some (.int .i64 (m.hi)) := K0_1.out.cell 3
  have z0_4_1 : w1.cell? ⟨w.heap.size, 4, none⟩ = some (.int .i64 (m.sp)) := K0_1.out.cell 4
  have z0_5_1 : w1.cell? ⟨w.heap.size, 5, none⟩ = some (.slice m.A1 m.n1 m.c1) := K0_1.out.cell 5
  have z0_6_1 : w1.cell? ⟨w.heap.size, 6, none⟩ = some (.slice m.A2 m.n2 m.c2) := K0_1.out.cell 6
  have l1_1 : w.heap.size + 1 < w1.heap.size := K1_1.out.lt
  have z1_0_1 : w1.cell? ⟨w.heap.size + 1, 0, none⟩ = some (.int .i64 (day)) := K1_1.out.cell 0
  have z1_1_1 : w1.cell? ⟨w.heap.size + 1, 1, none⟩ = some (.int .i64 (pos)) := K1_1.out.cell 1
  have z1_2_1 : w1.cell? ⟨w.heap.size + 1, 2, none⟩ = some (.int .i64 (mi)) := K1_1.out.cell 2
  go_quiet (fail)
  go_wp2
  go_loopw [11, 12, 13, 14] (fun v mn f i wr => ∃ k : Nat, k ≤ nt ∧ mn = .int .i64 (stT m.sp (mi, pos) Z k).1 ∧ f = .int .i64 (stT m.sp (mi, pos) Z k).2 ∧ i = .int .i64 k ∧ Below w1.heap.size w1 wr ∧ wr.ownsRow w1.heap.size 3 1 v k ((begL m.sp (mi, pos) Z k).map (.int .i64)) ∧ (∀ j q, j < k → Z[j]? = some q → lateE m.sp (mi, pos) Z j q = 0)) (fun _ _ _ i _ => nt - (intOf i).toNat)
  case atStart => exact ⟨0, by omega, rfl, rfl, rfl, by repeat' (first | exact Below.refl _ _ | refine below_drewN ?_ _ | refine Below.drew ?_ | refine Below.alloc ?_ (by first | omega | (simp; done) | (simp; omega) | (simp [World.setCell]; omega)) _ | refine Below.setCell ?_ (by first | omega | (simp; done) | (simp; omega)) _), World.ownsRow_nil _ _ _ _, fun j q h => absurd h (by omega)⟩
  case round =>
    obtain ⟨k, hk, rfl, rfl, rfl, hb, ho, hpre⟩ := hrel
    obtain ⟨w2, hnm⟩ : ∃ z : World, z = wr := ⟨_, rfl⟩
    subst hnm
    obtain ⟨b1, b2, b3⟩ := stT_in (s0 := (mi, pos)) sp1 HMI.out hposR HZR.out (by rw [HZL.out]; exact hk) hpre
    obtain ⟨a1, ha⟩ : ∃ a, (stT m.sp (mi, pos) Z k).1 = a := ⟨_, rfl⟩
    obtain ⟨f1, hf⟩ : ∃ a, (stT m.sp (mi, pos) Z k).2 = a := ⟨_, rfl⟩
    rw [ha] at b1 b2 ⊢
    rw [hf] at b3 ⊢
    have hst : stT m.sp (mi, pos) Z k = (a1, f1) := Prod.ext ha hf
    have HST := Lib.hid hst
    have HO := Lib.hid ho
    have HPRE := Lib.hid hpre
    have HBR := Lib.hid hb
    have hk0 := Blk.below K0_1.out hb l0_1
    have hk1 := Blk.below K1_1.out hb l1_1
    have hb' := HB1.out.trans (hb.mono HB1.out.size)
    have hs5 := hb'.size
    have hs1 := HB1.out.size
    have hrd := HL.out.below hb'
    have hrk := HK.out.below hb'
    have hxm := HX.out.lay hb'
    clear hb ho hpre ha hf hst
    have HB2 := Lib.hid hb'
    have K0_2 := Lib.hid (show Blk w2 (w.heap.size) 42 #[.int .i64 (m.ls), .int .i64 (m.ms), .int .i64 (m.lo), .int .i64 (m.hi), .int .i64 (m.sp), .slice m.A1 m.n1 m.c1, .slice m.A2 m.n2 m.c2] from hk0)
    have K1_2 := Lib.hid (show Blk w2 (w.heap.size + 1) 85 #[.int .i64 (day), .int .i64 (pos), .int .i64 (mi)] from hk1)
    clear hb' hk0 hk1
    have l0_2 : w.heap.size < w2.heap.size := K0_2.out.lt
    have z0_0_2 : w2.cell? ⟨w.heap.size, 0, none⟩ = some (.int .i64 (m.ls)) := K0_2.out.cell 0
    have z0_1_2 : w2.cell? ⟨w.heap.size, 1, none⟩ = some (.int .i64 (m.ms)) := K0_2.out.cell 1
    have z0_2_2 : w2.cell? ⟨w.heap.size, 2, none⟩ = some (.int .i64 (m.lo)) := K0_2.out.cell 2
    have z0_3_2 : w2.cell? ⟨w.heap.size, 3, none⟩ = some (.int .i64 (m.hi)) := K0_2.out.cell 3
    have z0_4_2 : w2.cell? ⟨w.heap.size, 4, none⟩ = some (.int .i64 (m.sp)) := K0_2.out.cell 4
    have z0_5_2 : w2.cell? ⟨w.heap.size, 5, none⟩ = some (.slice m.A1 m.n1 m.c1) := K0_2.out.cell 5
    have z0_6_2 : w2.cell? ⟨w.heap.size, 6, none⟩ = some (.slice m.A2 m.n2 m.c2) := K0_2.out.cell 6
    have l1_2 : w.heap.size + 1 < w2.heap.size := K1_2.out.lt
    have z1_0_2 : w2.cell? ⟨w.heap.size + 1, 0, none⟩ = some (.int .i64 (day)) := K1_2.out.cell 0
    have z1_1_2 : w2.cell? ⟨w.heap.size + 1, 1, none⟩ = some (.int .i64 (pos)) := K1_2.out.cell 1
    have z1_2_2 : w2.cell? ⟨w.heap.size + 1, 2, none⟩ = some (.int .i64 (mi)) := K1_2.out.cell 2
    by_cases hlt : k < nt
    rotate_left
    · obtain rfl : nt = k := by omega
      have hall := times_all fun j q hj hq => HPRE.out j q (by rw [← HZL.out]; exact hj) hq
      have hqq := HQZ.out
      rw [hall, HZL.out] at hqq
      subst hqq
      have hrr := HRR.out
      simp only [begL_len] at hrr
      subst hrr
      obtain ⟨A6, c6, rfl, hr6⟩ := own_reads HO.out
      have HR6 := Lib.hid hr6
      clear hall hr6 hrd hrk hxm
      go_wp2
      go_ret3
      exact TimesPost.mk' rfl HB2.out HR6.out
    obtain ⟨xb, xo, t, rfl, hxb, ht, c0, c1, c2, c3, c4, c5⟩ := hrd.tgt hlt
    obtain ⟨yb, yo, z, rfl, hyb, hz, c6⟩ := hrk.int_ hlt
    obtain ⟨te1, te2⟩ := tour_each HT0.out ht
    have hok := path_at HPO.out ht hz
    obtain ⟨X, Y, hA⟩ : ∃ X Y, appF m t day = (X, Y) := ⟨_, _, rfl⟩
    obtain ⟨L, F, hTA⟩ : ∃ L F, turnsAt m X Y = (L, F) := ⟨_, _, rfl⟩
    have hto := (turn_ok_iff (k := z) hA hTA).2
    obtain ⟨g1, g2, g3, g4⟩ := turn_range (of_decide_eq_true hok)
    obtain ⟨v, hv⟩ : ∃ v, posK m day t z = v := ⟨_, rfl⟩
    have hPv : P[k]? = some v := by
      rw [← HP.out]
      unfold pathL
      rw [List.getElem?_zipWith, ht, hz, ← hv]
    have hzt : Z[k]? = some (t, v) := by rw [HZP.out]; exact zip_at ht hPv
    obtain ⟨z1, z2, z3, z4, z5⟩ := HZR.out _ (List.mem_of_getElem? hzt)
    simp only at z1 z2 z3 z4 z5
    have htd := (tgt_right te1).2.2.2.2.2
    rw [hv] at hto
    obtain ⟨u, hu⟩ : ∃ u, wayF f1 v = u := ⟨_, rfl⟩
    obtain ⟨cq, hcq⟩ : ∃ c, ceilQ u m.sp = c := ⟨_, rfl⟩
    obtain ⟨g, hg⟩ : ∃ g, (if a1 + cq < t.fr then t.fr else a1 + cq) = g := ⟨_, rfl⟩
    have hu0 := way_in b3 z1
    rw [hu] at hu0
    have hc0 := ceilQ_in hu0 sp1
    rw [hcq] at hc0
    obtain ⟨u1, u2⟩ := hu0
    obtain ⟨s1, s2⟩ := hc0
    have hgb : begT m.sp (a1, f1) (t, v) = g := by unfold begT; simp only; rw [hu, hcq, hg]
    have hg0 : a1 ≤ g ∧ g ≤ 300000000000 := by rw [← hg]; split <;> omega
    obtain ⟨g5, g6⟩ := hg0
    have e1 := IntWalk.i64_in (a1 + cq) ⟨by omega, by omega⟩
    have e2 := IntWalk.i64_in (g + t.dw) ⟨by omega, by omega⟩
    have hstp : stepT m.sp (stT m.sp (mi, pos) Z k) (t, v) = (g + t.dw, v) := by rw [HST.out]; unfold stepT; rw [hgb]
    have HZT := Lib.hid hzt
    have HU := Lib.hid hu
    have HCQ := Lib.hid hcq
    have HG := Lib.hid hg
    have HGB := Lib.hid hgb
    have HSTP := Lib.hid hstp
    have HA := Lib.hid hA
    have HV := Lib.hid hto.symm
    have HE1 := Lib.hid te1
    have hkk : (k : Int) < (nt : Int) := by omega
    have C0_2 := Lib.hid c0
    have C1_2 := Lib.hid c1
    have C2_2 := Lib.hid c2
    have C3_2 := Lib.hid c3
    have C4_2 := Lib.hid c4
    have C5_2 := Lib.hid c5
    have C6_2 := Lib.hid c6
    clear c0 c1 c2 c3 c4 c5 c6 ht hz hzt hu hcq hg hgb hstp hrd hrk hA hTA hto hv hPv te1 te2 hok
    have R0_2 := Lib.hid hxm
    clear hxm
    go_wp2
    refine Fx.regionM (fun W g f w' => Kp (PfT m 0 [] 0 [] 97 99 98) W g w') (fun i (x : Pick2) => undef) (by kernel_rfl) ?_ ?_
    · intro f hf0
      exact Kp.start
    first
    | (refine Fx.WM.skip 0 (by rfl) (by kernel_rfl) (by kernel_rfl) (by kernel_rfl) (by rfl) (fun g f w h => h) ?_; simp only [Act.put, List.setIfInBounds_toArray, List.set_cons_zero, List.set_cons_succ])
    | (refine Fx.WM.val_ 0 ?_ (by rfl) (by kernel_rfl) (by kernel_rfl) (by kernel_rfl) (by rfl) ?_ (fun g f w h => h) ?_
       rotate_left
       · intro g f w' hx hD hk
         obtain hkp := id hD
         have y0_0 := (K0_2.out.below hkp.bel l0_2).cell 0
         have y0_1 := (K0_2.out.below hkp.bel l0_2).cell 1
         have y0_2 := (K0_2.out.below hkp.bel l0_2).cell 2
         have y0_3 := (K0_2.out.below hkp.bel l0_2).cell 3
         have y0_4 := (K0_2.out.below hkp.bel l0_2).cell 4
         have y0_5 := (K0_2.out.below hkp.bel l0_2).cell 5
         have y0_6 := (K0_2.out.below hkp.bel l0_2).cell 6
         clear hx hk hD hkp
         go_simp
         try rfl
       simp only [Act.put, List.setIfInBounds_toArray, List.set_cons_zero, List.set_cons_succ])
    first
    | (refine Fx.WM.skip 1 (by rfl) (by kernel_rfl) (by kernel_rfl) (by kernel_rfl) (by rfl) (fun g f w h => h) ?_; simp only [Act.put, List.setIfInBounds_toArray, List.set_cons_zero, List.set_cons_succ])
    | (refine Fx.WM.val_ 1 ?_ (by rfl) (by kernel_rfl) (by kernel_rfl) (by kernel_rfl) (by rfl) ?_ (fun g f w h => h) ?_
       rotate_left
       · intro g f w' hx hD hk
         obtain hkp := id hD
         clear hx hk hD hkp
         go_simp
         try rfl
       simp only [Act.put, List.setIfInBounds_toArray, List.set_cons_zero, List.set_cons_succ])
    first
    | (refine Fx.WM.skip 2 (by rfl) (by kernel_rfl) (by kernel_rfl) (by kernel_rfl) (by rfl) (fun g f w h => h) ?_; simp only [Act.put, List.setIfInBounds_toArray, List.set_cons_zero, List.set_cons_succ])
    | (refine Fx.WM.val_ 2 ?_ (by rfl) (by kernel_rfl) (by kernel_rfl) (by kernel_rfl) (by rfl) ?_ (fun g f w h => h) ?_
       rotate_left
       · intro g f w' hx hD hk
         obtain hkp := id hD
         clear hx hk hD hkp
         go_simp
         try rfl
       simp only [Act.put, List.setIfInBounds_toArray, List.set_cons_zero, List.set_cons_succ])
    first
    | (refine Fx.WM.skip 3 (by rfl) (by kernel_rfl) (by kernel_rfl) (by kernel_rfl) (by rfl) (fun g f w h => h) ?_; simp only [Act.put, List.setIfInBounds_toArray, List.set_cons_zero, List.set_cons_succ])
    | (refine Fx.WM.val_ 3 ?_ (by rfl) (by kernel_rfl) (by kernel_rfl) (by kernel_rfl) (by rfl) ?_ (fun g f w h => h) ?_
       rotate_left
       · intro g f w' hx hD hk
         obtain hkp := id hD
         clear hx hk hD hkp
         go_simp
         try rfl
       simp only [Act.put, List.setIfInBounds_toArray, List.set_cons_zero, List.set_cons_succ])
    first
    | (refine Fx.WM.skip 4 (by rfl) (by kernel_rfl) (by kernel_rfl) (by kernel_rfl) (by rfl) (fun g f w h => h) ?_; simp only [Act.put, List.setIfInBounds_toArray, List.set_cons_zero, List.set_cons_succ])
    | (refine Fx.WM.val_ 4 ?_ (by rfl) (by kernel_rfl) (by kernel_rfl) (by kernel_rfl) (by rfl) ?_ (fun g f w h => h) ?_
       rotate_left
       · intro g f w' hx hD hk
         obtain hkp := id hD
         have yc0 := (hkp.bel.cell (p := ⟨xb, xo + k * 6, none⟩) (by have := hxb; show xb < _; omega)).trans C0_2.out
         have yc1 := (hkp.bel.cell (p := ⟨xb, xo + k * 6 + 1, none⟩) (by have := hxb; show xb < _; omega)).trans C1_2.out
         have yc2 := (hkp.bel.cell (p := ⟨xb, xo + k * 6 + 2, none⟩) (by have := hxb; show xb < _; omega)).trans C2_2.out
         have yc3 := (hkp.bel.cell (p := ⟨xb, xo + k * 6 + 3, none⟩) (by have := hxb; show xb < _; omega)).trans C3_2.out
         have yc4 := (hkp.bel.cell (p := ⟨xb, xo + k * 6 + 4, none⟩) (by have := hxb; show xb < _; omega)).trans C4_2.out
         have yc5 := (hkp.bel.cell (p := ⟨xb, xo + k * 6 + 5, none⟩) (by have := hxb; show xb < _; omega)).trans C5_2.out
         have yc6 := (hkp.bel.cell (p := ⟨yb, yo + k, none⟩) (by have := hyb; show yb < _; omega)).trans C6_2.out
         clear hx hk hD hkp
         go_simp
         try rfl
       simp only [Act.put, List.setIfInBounds_toArray, List.set_cons_zero, List.set_cons_succ])
    first
    | (refine Fx.WM.skip 5 (by rfl) (by kernel_rfl) (by kernel_rfl) (by kernel_rfl) (by rfl) (fun g f w h => h) ?_; simp only [Act.put, List.setIfInBounds_toArray, List.set_cons_zero, List.set_cons_succ])
    | (refine Fx.WM.val_ 5 ?_ (by rfl) (by kernel_rfl) (by kernel_rfl) (by kernel_rfl) (by rfl) ?_ (fun g f w h => h) ?_
       rotate_left
       · intro g f w' hx hD hk
         obtain hkp := id hD
         have y1_0 := (K1_2.out.below hkp.bel l1_2).cell 0
         have y1_1 := (K1_2.out.below hkp.bel l1_2).cell 1
         have y1_2 := (K1_2.out.below hkp.bel l1_2).cell 2
         clear hx hk hD hkp
         go_simp
         try rfl
       simp only [Act.put, List.setIfInBounds_toArray, List.set_cons_zero, List.set_cons_succ])
    first
    | (refine Fx.WM.skip 6 (by rfl) (by kernel_rfl) (by kernel_rfl) (by kernel_rfl) (by rfl) (fun g f w h => h) ?_; simp only [Act.put, List.setIfInBounds_toArray, List.set_cons_zero, List.set_cons_succ])
    | (refine Fx.WM.val_ 6 ?_ (by rfl) (by kernel_rfl) (by kernel_rfl) (by kernel_rfl) (by rfl) ?_ (fun g f w h => h) ?_
       rotate_left
       · intro g f w' hx hD hk
         obtain hkp := id hD
         have y1_0 := (K1_2.out.below hkp.bel l1_2).cell 0
         have y1_1 := (K1_2.out.below hkp.bel l1_2).cell 1
         have y1_2 := (K1_2.out.below hkp.bel l1_2).cell 2
         clear hx hk hD hkp
         go_simp
         try rfl
       simp only [Act.put, List.setIfInBounds_toArray, List.set_cons_zero, List.set_cons_succ])
    first
    | (refine Fx.WM.skip 7 (by rfl) (by kernel_rfl) (by kernel_rfl) (by kernel_rfl) (by rfl) (fun g f w h => h) ?_; simp only [Act.put, List.setIfInBounds_toArray, List.set_cons_zero, List.set_cons_succ])
    | (refine Fx.WM.val_ 7 ?_ (by rfl) (by kernel_rfl) (by kernel_rfl) (by kernel_rfl) (by rfl) ?_ (fun g f w h => h) ?_
       rotate_left
       · intro g f w' hx hD hk
         obtain hkp := id hD
         clear hx hk hD hkp
         go_simp
         try rfl
       simp only [Act.put, List.setIfInBounds_toArray, List.set_cons_zero, List.set_cons_succ])
    first
    | (refine Fx.WM.skip 8 (by rfl) (by kernel_rfl) (by kernel_rfl) (by kernel_rfl) (by rfl) (fun g f w h => h) ?_; simp only [Act.put, List.setIfInBounds_toArray, List.set_cons_zero, List.set_cons_succ])
    | (refine Fx.WM.val_ 8 ?_ (by rfl) (by kernel_rfl) (by kernel_rfl) (by kernel_rfl) (by rfl) ?_ (fun g f w h => h) ?_
       rotate_left
       · intro g f w' hx hD hk
         obtain hkp := id hD
         clear hx hk hD hkp
         go_simp
         try rfl
       simp only [Act.put, List.setIfInBounds_toArray, List.set_cons_zero, List.set_cons_succ])
    first
    | (refine Fx.WM.skip 9 (by rfl) (by kernel_rfl) (by kernel_rfl) (by kernel_rfl) (by rfl) (fun g f w h => h) ?_; simp only [Act.put, List.setIfInBounds_toArray, List.set_cons_zero, List.set_cons_succ])
    | (refine Fx.WM.val_ 9 ?_ (by rfl) (by kernel_rfl) (by kernel_rfl) (by kernel_rfl) (by rfl) ?_ (fun g f w h => h) ?_
       rotate_left
       · intro g f w' hx hD hk
         obtain hkp := id hD
         clear hx hk hD hkp
         go_simp
         try rfl
       simp only [Act.put, List.setIfInBounds_toArray, List.set_cons_zero, List.set_cons_succ])
    first
    | (refine Fx.WM.skip 10 (by rfl) (by kernel_rfl) (by kernel_rfl) (by kernel_rfl) (by rfl) (fun g f w h => h) ?_; simp only [Act.put, List.setIfInBounds_toArray, List.set_cons_zero, List.set_cons_succ])
    | (refine Fx.WM.val_ 10 ?_ (by rfl) (by kernel_rfl) (by kernel_rfl) (by kernel_rfl) (by rfl) ?_ (fun g f w h => h) ?_
       rotate_left
       · intro g f w' hx hD hk
         obtain hkp := id hD
         have yc0 := (hkp.bel.cell (p := ⟨xb, xo + k * 6, none⟩) (by have := hxb; show xb < _; omega)).trans C0_2.out
         have yc1 := (hkp.bel.cell (p := ⟨xb, xo + k * 6 + 1, none⟩) (by have := hxb; show xb < _; omega)).trans C1_2.out
         have yc2 := (hkp.bel.cell (p := ⟨xb, xo + k * 6 + 2, none⟩) (by have := hxb; show xb < _; omega)).trans C2_2.out
         have yc3 := (hkp.bel.cell (p := ⟨xb, xo + k * 6 + 3, none⟩) (by have := hxb; show xb < _; omega)).trans C3_2.out
         have yc4 := (hkp.bel.cell (p := ⟨xb, xo + k * 6 + 4, none⟩) (by have := hxb; show xb < _; omega)).trans C4_2.out
         have yc5 := (hkp.bel.cell (p := ⟨xb, xo + k * 6 + 5, none⟩) (by have := hxb; show xb < _; omega)).trans C5_2.out
         have yc6 := (hkp.bel.cell (p := ⟨yb, yo + k, none⟩) (by have := hyb; show yb < _; omega)).trans C6_2.out
         clear hx hk hD hkp
         go_simp
         try rfl
       simp only [Act.put, List.setIfInBounds_toArray, List.set_cons_zero, List.set_cons_succ])
    refine Fx.WM.call 11 (.int .i64 (v)) ?_ ?_ (by rfl) (by kernel_rfl) (by kernel_rfl) (by kernel_rfl) (by rfl) ?_ ?_ ?_
    rotate_left 2
    · intro w'
      go_simp
      refine ⟨?_, ?_⟩ <;> rfl
    · intro g f w' hx hD hk
      exact (rposition_is m t day z X Y v HA.out HV.out ⟨by omega, by omega⟩ w' (R0_2.out.lay hD.bel) HM.out HE1.out HD.out).mono fun e w'' ⟨he, hw⟩ => ⟨he, hD.call PfT.stb hw⟩
    simp only [Act.put, List.setIfInBounds_toArray, List.set_cons_zero, List.set_cons_succ]
    first
    | (refine Fx.WM.skip 12 (by rfl) (by kernel_rfl) (by kernel_rfl) (by kernel_rfl) (by rfl) (fun g f w h => h) ?_; simp only [Act.put, List.setIfInBounds_toArray, List.set_cons_zero, List.set_cons_succ])
    | (refine Fx.WM.val_ 12 ?_ (by rfl) (by kernel_rfl) (by kernel_rfl) (by kernel_rfl) (by rfl) ?_ (fun g f w h => h) ?_
       rotate_left
       · intro g f w' hx hD hk
         obtain hkp := id hD
         clear hx hk hD hkp
         go_simp
         try rfl
       simp only [Act.put, List.setIfInBounds_toArray, List.set_cons_zero, List.set_cons_succ])
    refine Fx.WM.nil (by kernel_rfl) ?_
    intro wz hkp
    have hb := hkp.bel
    clear hkp
    obtain ⟨w3, hnm⟩ : ∃ z : World, z = wz := ⟨_, rfl⟩
    subst hnm
    have HA2 := Lib.hid (show Below w2.heap.size w2 w2 from Below.refl _ _)
    have HB3 := Lib.hid (show Below w.heap.size w w3 from step_below hb (by repeat' (first | exact Below.refl _ _ | exact HB2.out | refine below_drewN ?_ _ | refine Below.drew ?_ | refine Below.alloc ?_ (by first | omega | (simp; done) | (simp; omega) | (simp [World.setCell]; omega)) _ | refine Below.setCell ?_ (by first | omega | (simp; done) | (simp; omega)) _ | assumption)))
    have K0_3 := Lib.hid (step_blk hb (show Blk _ (w.heap.size) 42 #[.int .i64 (m.ls), .int .i64 (m.ms), .int .i64 (m.lo), .int .i64 (m.hi), .int .i64 (m.sp), .slice m.A1 m.n1 m.c1, .slice m.A2 m.n2 m.c2] by repeat' (first | exact K0_2.out | exact K1_2.out | exact Blk.at_ _ (by first | rfl | (simp; done) | (simp; omega)) _ _ | refine Blk.drewN ?_ _ | refine Blk.drew ?_ | refine Blk.alloc ?_ _ | refine Blk.far ?_ (by first | omega | (simp; done) | (simp; omega)) _ | assumption)))
    have K1_3 := Lib.hid (step_blk hb (show Blk _ (w.heap.size + 1) 85 #[.int .i64 (day), .int .i64 (pos), .int .i64 (mi)] by repeat' (first | exact K0_2.out | exact K1_2.out | exact Blk.at_ _ (by first | rfl | (simp; done) | (simp; omega)) _ _ | refine Blk.drewN ?_ _ | refine Blk.drew ?_ | refine Blk.alloc ?_ _ | refine Blk.far ?_ (by first | omega | (simp; done) | (simp; omega)) _ | assumption)))
    have C0_3 := Lib.hid (step_cell hb (show World.cell? _ ⟨xb, xo + k * 6, none⟩ = some (.string t.name) by first | exact C0_2.out | go_simp) (by have := hxb; first | omega | (simp; omega)))
    have C1_3 := Lib.hid (step_cell hb (show World.cell? _ ⟨xb, xo + k * 6 + 1, none⟩ = some (.int .i64 (t.az)) by first | exact C1_2.out | go_simp) (by have := hxb; first | omega | (simp; omega)))
    have C2_3 := Lib.hid (step_cell hb (show World.cell? _ ⟨xb, xo + k * 6 + 2, none⟩ = some (.int .i64 (t.ht)) by first | exact C2_2.out | go_simp) (by have := hxb; first | omega | (simp; omega)))
    have C3_3 := Lib.hid (step_cell hb (show World.cell? _ ⟨xb, xo + k * 6 + 3, none⟩ = some (.int .i64 (t.fr)) by first | exact C3_2.out | go_simp) (by have := hxb; first | omega | (simp; omega)))
    have C4_3 := Lib.hid (step_cell hb (show World.cell? _ ⟨xb, xo + k * 6 + 4, none⟩ = some (.int .i64 (t.to)) by first | exact C4_2.out | go_simp) (by have := hxb; first | omega | (simp; omega)))
    have C5_3 := Lib.hid (step_cell hb (show World.cell? _ ⟨xb, xo + k * 6 + 5, none⟩ = some (.int .i64 (t.dw)) by first | exact C5_2.out | go_simp) (by have := hxb; first | omega | (simp; omega)))
    have C6_3 := Lib.hid (step_cell hb (show World.cell? _ ⟨yb, yo + k, none⟩ = some (.int .i64 (z)) by first | exact C6_2.out | go_simp) (by have := hyb; first | omega | (simp; omega)))
    have hL3 := Lib.hid (show Below w2.heap.size w2 _ from reads_mid hb (by repeat' (first | exact Below.refl _ _ | refine below_drewN ?_ _ | refine Below.drew ?_ | refine Below.alloc ?_ (by first | omega | (simp; done) | (simp; omega) | (simp [World.setCell]; omega)) _ | refine Below.setCell ?_ (by first | omega | (simp; done) | (simp; omega)) _)))
    have R0_3 := Lib.hid (mnt_lay hb hL3.out R0_2.out)
    clear hL3 R0_2
    have HA3 := Lib.hid (step_below hb HA2.out)
    clear HA2
    have hz3 := hb.size
    try simp only [World.size_alloc, World.drewN, World.drew] at hz3
    clear hb K0_2 K1_2 z0_0_2 z0_1_2 z0_2_2 z0_3_2 z0_4_2 z0_5_2 z0_6_2 l0_2 z1_0_2 z1_1_2 z1_2_2 l1_2
    have l0_3 : w.heap.size < w3.heap.size := K0_3.out.lt
    have z0_0_3 : w3.cell? ⟨w.heap.size, 0, none⟩ = some (.int .i64 (m.ls)) := K0_3.out.cell 0
    have z0_1_3 : w3.cell? ⟨w.heap.size, 1, none⟩ = some (.int .i64 (m.ms)) := K0_3.out.cell 1
    have z0_2_3 : w3.cell? ⟨w.heap.size, 2, none⟩ = some (.int .i64 (m.lo)) := K0_3.out.cell 2
    have z0_3_3 : w3.cell? ⟨w.heap.size, 3, none⟩ = some (.int .i64 (m.hi)) := K0_3.out.cell 3
    have z0_4_3 : w3.cell? ⟨w.heap.size, 4, none⟩ = some (.int .i64 (m.sp)) := K0_3.out.cell 4
    have z0_5_3 : w3.cell? ⟨w.heap.size, 5, none⟩ = some (.slice m.A1 m.n1 m.c1) := K0_3.out.cell 5
    have z0_6_3 : w3.cell? ⟨w.heap.size, 6, none⟩ = some (.slice m.A2 m.n2 m.c2) := K0_3.out.cell 6
    have l1_3 : w.heap.size + 1 < w3.heap.size := K1_3.out.lt
    have z1_0_3 : w3.cell? ⟨w.heap.size + 1, 0, none⟩ = some (.int .i64 (day)) := K1_3.out.cell 0
    have z1_1_3 : w3.cell? ⟨w.heap.size + 1, 1, none⟩ = some (.int .i64 (pos)) := K1_3.out.cell 1
    have z1_2_3 : w3.cell? ⟨w.heap.size + 1, 2, none⟩ = some (.int .i64 (mi)) := K1_3.out.cell 2
    go_wp2_with fail
    refine (rway9_is f1 v u _ HU.out rfl _ b3 z1).mono ?_
    rintro e w' ⟨rfl, rfl⟩
    go_wp2
    refine Fx.regionM (fun W g f w' => Kp (PfT m 0 [] 0 [] 97 99 98) W g w') (fun i (x : Pick2) => undef) (by kernel_rfl) ?_ ?_
    · intro f hf0
      exact Kp.start
    first
    | (refine Fx.WM.skip 0 (by rfl) (by kernel_rfl) (by kernel_rfl) (by kernel_rfl) (by rfl) (fun g f w h => h) ?_; simp only [Act.put, List.setIfInBounds_toArray, List.set_cons_zero, List.set_cons_succ])
    | (refine Fx.WM.val_ 0 ?_ (by rfl) (by kernel_rfl) (by kernel_rfl) (by kernel_rfl) (by rfl) ?_ (fun g f w h => h) ?_
       rotate_left
       · intro g f w' hx hD hk
         obtain hkp := id hD
         clear hx hk hD hkp
         go_simp
         try rfl
       simp only [Act.put, List.setIfInBounds_toArray, List.set_cons_zero, List.set_cons_succ])
    first
    | (refine Fx.WM.skip 1 (by rfl) (by kernel_rfl) (by kernel_rfl) (by kernel_rfl) (by rfl) (fun g f w h => h) ?_; simp only [Act.put, List.setIfInBounds_toArray, List.set_cons_zero, List.set_cons_succ])
    | (refine Fx.WM.val_ 1 ?_ (by rfl) (by kernel_rfl) (by kernel_rfl) (by kernel_rfl) (by rfl) ?_ (fun g f w h => h) ?_
       rotate_left
       · intro g f w' hx hD hk
         obtain hkp := id hD
         clear hx hk hD hkp
         go_simp
         try rfl
       simp only [Act.put, List.setIfInBounds_toArray, List.set_cons_zero, List.set_cons_succ])
    first
    | (refine Fx.WM.skip 2 (by rfl) (by kernel_rfl) (by kernel_rfl) (by kernel_rfl) (by rfl) (fun g f w h => h) ?_; simp only [Act.put, List.setIfInBounds_toArray, List.set_cons_zero, List.set_cons_succ])
    | (refine Fx.WM.val_ 2 ?_ (by rfl) (by kernel_rfl) (by kernel_rfl) (by kernel_rfl) (by rfl) ?_ (fun g f w h => h) ?_
       rotate_left
       · intro g f w' hx hD hk
         obtain hkp := id hD
         clear hx hk hD hkp
         go_simp
         try rfl
       simp only [Act.put, List.setIfInBounds_toArray, List.set_cons_zero, List.set_cons_succ])
    first
    | (refine Fx.WM.skip 3 (by rfl) (by kernel_rfl) (by kernel_rfl) (by kernel_rfl) (by rfl) (fun g f w h => h) ?_; simp only [Act.put, List.setIfInBounds_toArray, List.set_cons_zero, List.set_cons_succ])
    | (refine Fx.WM.val_ 3 ?_ (by rfl) (by kernel_rfl) (by kernel_rfl) (by kernel_rfl) (by rfl) ?_ (fun g f w h => h) ?_
       rotate_left
       · intro g f w' hx hD hk
         obtain hkp := id hD
         have y0_0 := (K0_3.out.below hkp.bel l0_3).cell 0
         have y0_1 := (K0_3.out.below hkp.bel l0_3).cell 1
         have y0_2 := (K0_3.out.below hkp.bel l0_3).cell 2
         have y0_3 := (K0_3.out.below hkp.bel l0_3).cell 3
         have y0_4 := (K0_3.out.below hkp.bel l0_3).cell 4
         have y0_5 := (K0_3.out.below hkp.bel l0_3).cell 5
         have y0_6 := (K0_3.out.below hkp.bel l0_3).cell 6
         clear hx hk hD hkp
         go_simp
         try rfl
       simp only [Act.put, List.setIfInBounds_toArray, List.set_cons_zero, List.set_cons_succ])
    refine Fx.WM.call 4 (.int .i64 (cq)) ?_ ?_ (by rfl) (by kernel_rfl) (by kernel_rfl) (by kernel_rfl) (by rfl) ?_ ?_ ?_
    rotate_left 2
    · intro w'
      go_simp
      refine ⟨?_, ?_⟩ <;> rfl
    · intro g f w' hx hD hk
      exact (ceilr_is u m.sp cq HCQ.out w' (by omega) (by omega) sp1 (by omega)).mono fun e w'' ⟨he, hw⟩ => ⟨he, by subst hw; exact hD⟩
    simp only [Act.put, List.setIfInBounds_toArray, List.set_cons_zero, List.set_cons_succ]
    first
    | (refine Fx.WM.skip 5 (by rfl) (by kernel_rfl) (by kernel_rfl) (by kernel_rfl) (by rfl) (fun g f w h => h) ?_; simp only [Act.put, List.setIfInBounds_toArray, List.set_cons_zero, List.set_cons_succ])
    | (refine Fx.WM.val_ 5 ?_ (by rfl) (by kernel_rfl) (by kernel_rfl) (by kernel_rfl) (by rfl) ?_ (fun g f w h => h) ?_
       rotate_left
       · intro g f w' hx hD hk
         obtain hkp := id hD
         clear hx hk hD hkp
         go_simp
         try rfl
       simp only [Act.put, List.setIfInBounds_toArray, List.set_cons_zero, List.set_cons_succ])
    first
    | (refine Fx.WM.skip 6 (by rfl) (by kernel_rfl) (by kernel_rfl) (by kernel_rfl) (by rfl) (fun g f w h => h) ?_; simp only [Act.put, List.setIfInBounds_toArray, List.set_cons_zero, List.set_cons_succ])
    | (refine Fx.WM.val_ 6 ?_ (by rfl) (by kernel_rfl) (by kernel_rfl) (by kernel_rfl) (by rfl) ?_ (fun g f w h => h) ?_
       rotate_left
       · intro g f w' hx hD hk
         obtain hkp := id hD
         clear hx hk hD hkp
         go_simp
         try rfl
       simp only [Act.put, List.setIfInBounds_toArray, List.set_cons_zero, List.set_cons_succ])
    first
    | (refine Fx.WM.skip 7 (by rfl) (by kernel_rfl) (by kernel_rfl) (by kernel_rfl) (by rfl) (fun g f w h => h) ?_; simp only [Act.put, List.setIfInBounds_toArray, List.set_cons_zero, List.set_cons_succ])
    | (refine Fx.WM.val_ 7 ?_ (by rfl) (by kernel_rfl) (by kernel_rfl) (by kernel_rfl) (by rfl) ?_ (fun g f w h => h) ?_
       rotate_left
       · intro g f w' hx hD hk
         obtain hkp := id hD
         clear hx hk hD hkp
         go_simp
         try rfl
       simp only [Act.put, List.setIfInBounds_toArray, List.set_cons_zero, List.set_cons_succ])
    first
    | (refine Fx.WM.skip 8 (by rfl) (by kernel_rfl) (by kernel_rfl) (by kernel_rfl) (by rfl) (fun g f w h => h) ?_; simp only [Act.put, List.setIfInBounds_toArray, List.set_cons_zero, List.set_cons_succ])
    | (refine Fx.WM.val_ 8 ?_ (by rfl) (by kernel_rfl) (by kernel_rfl) (by kernel_rfl) (by rfl) ?_ (fun g f w h => h) ?_
       rotate_left
       · intro g f w' hx hD hk
         obtain hkp := id hD
         clear hx hk hD hkp
         go_simp
         try rfl
       simp only [Act.put, List.setIfInBounds_toArray, List.set_cons_zero, List.set_cons_succ])
    first
    | (refine Fx.WM.skip 9 (by rfl) (by kernel_rfl) (by kernel_rfl) (by kernel_rfl) (by rfl) (fun g f w h => h) ?_; simp only [Act.put, List.setIfInBounds_toArray, List.set_cons_zero, List.set_cons_succ])
    | (refine Fx.WM.val_ 9 ?_ (by rfl) (by kernel_rfl) (by kernel_rfl) (by kernel_rfl) (by rfl) ?_ (fun g f w h => h) ?_
       rotate_left
       · intro g f w' hx hD hk
         obtain hkp := id hD
         clear hx hk hD hkp
         go_simp
         try rfl
       simp only [Act.put, List.setIfInBounds_toArray, List.set_cons_zero, List.set_cons_succ])
    first
    | (refine Fx.WM.skip 10 (by rfl) (by kernel_rfl) (by kernel_rfl) (by kernel_rfl) (by rfl) (fun g f w h => h) ?_; simp only [Act.put, List.setIfInBounds_toArray, List.set_cons_zero, List.set_cons_succ])
    | (refine Fx.WM.val_ 10 ?_ (by rfl) (by kernel_rfl) (by kernel_rfl) (by kernel_rfl) (by rfl) ?_ (fun g f w h => h) ?_
       rotate_left
       · intro g f w' hx hD hk
         obtain hkp := id hD
         have yc0 := (hkp.bel.cell (p := ⟨xb, xo + k * 6, none⟩) (by have := hxb; show xb < _; omega)).trans C0_3.out
         have yc1 := (hkp.bel.cell (p := ⟨xb, xo + k * 6 + 1, none⟩) (by have := hxb; show xb < _; omega)).trans C1_3.out
         have yc2 := (hkp.bel.cell (p := ⟨xb, xo + k * 6 + 2, none⟩) (by have := hxb; show xb < _; omega)).trans C2_3.out
         have yc3 := (hkp.bel.cell (p := ⟨xb, xo + k * 6 + 3, none⟩) (by have := hxb; show xb < _; omega)).trans C3_3.out
         have yc4 := (hkp.bel.cell (p := ⟨xb, xo + k * 6 + 4, none⟩) (by have := hxb; show xb < _; omega)).trans C4_3.out
         have yc5 := (hkp.bel.cell (p := ⟨xb, xo + k * 6 + 5, none⟩) (by have := hxb; show xb < _; omega)).trans C5_3.out
         have yc6 := (hkp.bel.cell (p := ⟨yb, yo + k, none⟩) (by have := hyb; show yb < _; omega)).trans C6_3.out
         clear hx hk hD hkp
         go_simp
         try rfl
       simp only [Act.put, List.setIfInBounds_toArray, List.set_cons_zero, List.set_cons_succ])
    first
    | (refine Fx.WM.skip 11 (by rfl) (by kernel_rfl) (by kernel_rfl) (by kernel_rfl) (by rfl) (fun g f w h => h) ?_; simp only [Act.put, List.setIfInBounds_toArray, List.set_cons_zero, List.set_cons_succ])
    | (refine Fx.WM.val_ 11 ?_ (by rfl) (by kernel_rfl) (by kernel_rfl) (by kernel_rfl) (by rfl) ?_ (fun g f w h => h) ?_
       rotate_left
       · intro g f w' hx hD hk
         obtain hkp := id hD
         clear hx hk hD hkp
         go_simp
         try rfl
       simp only [Act.put, List.setIfInBounds_toArray, List.set_cons_zero, List.set_cons_succ])
    first
    | (refine Fx.WM.skip 12 (by rfl) (by kernel_rfl) (by kernel_rfl) (by kernel_rfl) (by rfl) (fun g f w h => h) ?_; simp only [Act.put, List.setIfInBounds_toArray, List.set_cons_zero, List.set_cons_succ])
    | (refine Fx.WM.val_ 12 ?_ (by rfl) (by kernel_rfl) (by kernel_rfl) (by kernel_rfl) (by rfl) ?_ (fun g f w h => h) ?_
       rotate_left
       · intro g f w' hx hD hk
         obtain hkp := id hD
         clear hx hk hD hkp
         go_simp
         try rfl
       simp only [Act.put, List.setIfInBounds_toArray, List.set_cons_zero, List.set_cons_succ])
    refine Fx.WM.nil (by kernel_rfl) ?_
    intro wz hkp
    have hb := hkp.bel
    clear hkp
    obtain ⟨w4, hnm⟩ : ∃ z : World, z = wz := ⟨_, rfl⟩
    subst hnm
    have HB4 := Lib.hid (show Below w.heap.size w w4 from step_below hb (by repeat' (first | exact Below.refl _ _ | exact HB3.out | refine below_drewN ?_ _ | refine Below.drew ?_ | refine Below.alloc ?_ (by first | omega | (simp; done) | (simp; omega) | (simp [World.setCell]; omega)) _ | refine Below.setCell ?_ (by first | omega | (simp; done) | (simp; omega)) _ | assumption)))
    have K0_4 := Lib.hid (step_blk hb (show Blk _ (w.heap.size) 42 #[.int .i64 (m.ls), .int .i64 (m.ms), .int .i64 (m.lo), .int .i64 (m.hi), .int .i64 (m.sp), .slice m.A1 m.n1 m.c1, .slice m.A2 m.n2 m.c2] by repeat' (first | exact K0_3.out | exact K1_3.out | exact Blk.at_ _ (by first | rfl | (simp; done) | (simp; omega)) _ _ | refine Blk.drewN ?_ _ | refine Blk.drew ?_ | refine Blk.alloc ?_ _ | refine Blk.far ?_ (by first | omega | (simp; done) | (simp; omega)) _ | assumption)))
    have K1_4 := Lib.hid (step_blk hb (show Blk _ (w.heap.size + 1) 85 #[.int .i64 (day), .int .i64 (pos), .int .i64 (mi)] by repeat' (first | exact K0_3.out | exact K1_3.out | exact Blk.at_ _ (by first | rfl | (simp; done) | (simp; omega)) _ _ | refine Blk.drewN ?_ _ | refine Blk.drew ?_ | refine Blk.alloc ?_ _ | refine Blk.far ?_ (by first | omega | (simp; done) | (simp; omega)) _ | assumption)))
    have C0_4 := Lib.hid (step_cell hb (show World.cell? _ ⟨xb, xo + k * 6, none⟩ = some (.string t.name) by first | exact C0_3.out | go_simp) (by have := hxb; first | omega | (simp; omega)))
    have C1_4 := Lib.hid (step_cell hb (show World.cell? _ ⟨xb, xo + k * 6 + 1, none⟩ = some (.int .i64 (t.az)) by first | exact C1_3.out | go_simp) (by have := hxb; first | omega | (simp; omega)))
    have C2_4 := Lib.hid (step_cell hb (show World.cell? _ ⟨xb, xo + k * 6 + 2, none⟩ = some (.int .i64 (t.ht)) by first | exact C2_3.out | go_simp) (by have := hxb; first | omega | (simp; omega)))
    have C3_4 := Lib.hid (step_cell hb (show World.cell? _ ⟨xb, xo + k * 6 + 3, none⟩ = some (.int .i64 (t.fr)) by first | exact C3_3.out | go_simp) (by have := hxb; first | omega | (simp; omega)))
    have C4_4 := Lib.hid (step_cell hb (show World.cell? _ ⟨xb, xo + k * 6 + 4, none⟩ = some (.int .i64 (t.to)) by first | exact C4_3.out | go_simp) (by have := hxb; first | omega | (simp; omega)))
    have C5_4 := Lib.hid (step_cell hb (show World.cell? _ ⟨xb, xo + k * 6 + 5, none⟩ = some (.int .i64 (t.dw)) by first | exact C5_3.out | go_simp) (by have := hxb; first | omega | (simp; omega)))
    have C6_4 := Lib.hid (step_cell hb (show World.cell? _ ⟨yb, yo + k, none⟩ = some (.int .i64 (z)) by first | exact C6_3.out | go_simp) (by have := hyb; first | omega | (simp; omega)))
    have hL4 := Lib.hid (show Below w3.heap.size w3 _ from reads_mid hb (by repeat' (first | exact Below.refl _ _ | refine below_drewN ?_ _ | refine Below.drew ?_ | refine Below.alloc ?_ (by first | omega | (simp; done) | (simp; omega) | (simp [World.setCell]; omega)) _ | refine Below.setCell ?_ (by first | omega | (simp; done) | (simp; omega)) _)))
    have R0_4 := Lib.hid (mnt_lay hb hL4.out R0_3.out)
    clear hL4 R0_3
    have HA4 := Lib.hid (step_below hb HA3.out)
    clear HA3
    have hz4 := hb.size
    try simp only [World.size_alloc, World.drewN, World.drew] at hz4
    clear hb K0_3 K1_3 z0_0_3 z0_1_3 z0_2_3 z0_3_3 z0_4_3 z0_5_3 z0_6_3 l0_3 z1_0_3 z1_1_3 z1_2_3 l1_3
    have l0_4 : w.heap.size < w4.heap.size := K0_4.out.lt
    have z0_0_4 : w4.cell? ⟨w.heap.size, 0, none⟩ = some (.int .i64 (m.ls)) := K0_4.out.cell 0
    have z0_1_4 : w4.cell? ⟨w.heap.size, 1, none⟩ = some (.int .i64 (m.ms)) := K0_4.out.cell 1
    have z0_2_4 : w4.cell? ⟨w.heap.size, 2, none⟩ = some (.int .i64 (m.lo)) := K0_4.out.cell 2
    have z0_3_4 : w4.cell? ⟨w.heap.size, 3, none⟩ = some (.int .i64 (m.hi)) := K0_4.out.cell 3
    have z0_4_4 : w4.cell? ⟨w.heap.size, 4, none⟩ = some (.int .i64 (m.sp)) := K0_4.out.cell 4
    have z0_5_4 : w4.cell? ⟨w.heap.size, 5, none⟩ = some (.slice m.A1 m.n1 m.c1) := K0_4.out.cell 5
    have z0_6_4 : w4.cell? ⟨w.heap.size, 6, none⟩ = some (.slice m.A2 m.n2 m.c2) := K0_4.out.cell 6
    have l1_4 : w.heap.size + 1 < w4.heap.size := K1_4.out.lt
    have z1_0_4 : w4.cell? ⟨w.heap.size + 1, 0, none⟩ = some (.int .i64 (day)) := K1_4.out.cell 0
    have z1_1_4 : w4.cell? ⟨w.heap.size + 1, 1, none⟩ = some (.int .i64 (pos)) := K1_4.out.cell 1
    have z1_2_4 : w4.cell? ⟨w.heap.size + 1, 2, none⟩ = some (.int .i64 (mi)) := K1_4.out.cell 2
    simp only [HG.out]
    have hbx := HBR.out.trans (HA4.out.mono HBR.out.size)
    have HO7 := Lib.hid (own_below HO.out HA4.out (Nat.le_refl _))
    obtain ⟨v', W2, hrun, ho2, hb2⟩ := snocint_run w1.heap.size _ k _ g w4 HO7.out hbx.size (by omega)
    have y5 := (hb2.cell (p := ⟨xb, xo + k * 6 + 5, none⟩) (by show xb < _; omega)).trans C5_4.out
    have y4 := (hb2.cell (p := ⟨xb, xo + k * 6 + 4, none⟩) (by show xb < _; omega)).trans C4_4.out
    have HRUN := Lib.hid hrun
    have HO2 := Lib.hid ho2
    have HBX := Lib.hid (hbx.trans hb2)
    clear hrun ho2 hb2 hbx
    by_cases hlate : t.to < g + t.dw
    · have hqq := HQZ.out
      rw [times_stop HPRE.out HZT.out (by rw [HSTP.out]; exact hlate)] at hqq
      subst hqq
      have hrr := HRR.out
      simp only [List.length_nil] at hrr
      subst hrr
      go_wp2_with (first | (at_builtin; refine wpList_app _ W2 v' rfl _ _ _ rfl _ _ rfl rfl HRUN.out ?_))
      go_ret3
      exact TimesPost.mk' rfl (HB1.out.trans (HBX.out.mono HB1.out.size)) Reads.none_
    go_wp2_with (first | (at_builtin; refine wpList_app _ W2 v' rfl _ _ _ rfl _ _ rfl rfl HRUN.out ?_))
    go_roundw
    case rel => exact ⟨k + 1, by omega, by rw [stT_succ HZT.out, HSTP.out], by rw [stT_succ HZT.out, HSTP.out], by go_num, HBX.out, by rw [begL_succ HZT.out, HST.out, HGB.out, List.map_append]; exact HO2.out, fun j q hj hq => by
      rcases Nat.lt_or_ge j k with h | h
      · exact HPRE.out j q h hq
      · obtain rfl : j = k := by omega
        rw [HZT.out] at hq
        cases hq
        unfold lateE
        rw [HSTP.out, if_neg hlate]⟩
    case measure => simp [intOf]; omega
end Go.Proofs.Ytgamepmipoociaa

end
