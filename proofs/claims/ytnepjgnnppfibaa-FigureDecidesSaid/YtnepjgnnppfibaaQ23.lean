import Derived.Test.YtnepjgnnppfibaaQ22

section
/- The reference's first zone whose exact height decides. -/
namespace Go.Proofs.Ytnepjgnnppfibaa
open Go Go.RowKit

set_option maxRecDepth 100000 in
set_option maxHeartbeats 4000000 in
theorem rdeciding_is (A : Option Addr) (n c : Nat) (l : List (Int × Int)) (p s : Int) (hE : judgeErr l p s = 0) (x : Int × Int) (hd : deciF l p s = x) (w : World) (hx : Reads w w.heap.size 2 A n (cells2 l)) :
    Calls Try.prog 54 #[.slice A n c, .agg #[.int .i64 p, .int .i64 s]] w fun e w' => e = .returned (deciV x) ∧ Below w.heap.size w w' := by
  have hl := hx.len2
  have HX := Lib.hid hx
  have HL := Lib.hid hl
  have HD := Lib.hid hd
  have HE := Lib.hid hE
  clear hl hd hE
  obtain ⟨hE1, hE2⟩ := judgeErr_ok HE.out
  obtain ⟨n1, n2, hr⟩ := encl_ok hE1
  rw [HL.out] at n1 n2
  have HRG := Lib.hid hr
  obtain ⟨⟨v, i0, k0⟩, hv⟩ : ∃ V, judgeF l p s = V := ⟨_, rfl⟩
  have HV := Lib.hid hv
  clear hE1 hE2 hr hv
  go_enter Try.func54, Try.ntmps54
  have R0_0 := Lib.hid hx
  clear hx
  go_wp2_with fail
  generalize hwn : (w.alloc (.cells #[.int .i64 (p), .int .i64 (s)] 38)) = w1
  have hbn : Below w.heap.size w w1 := by rw [← hwn]; repeat' (first | exact Below.refl _ _ | refine below_drewN ?_ _ | refine Below.drew ?_ | refine Below.alloc ?_ (by first | omega | (simp; done) | (simp; omega) | (simp [World.setCell]; omega)) _ | refine Below.setCell ?_ (by first | omega | (simp; done) | (simp; omega)) _)
  have HB1 := Lib.hid (show Below w.heap.size w w1 from hbn)
  have K0_1 := Lib.hid (show Blk w1 (w.heap.size) 38 #[.int .i64 (p), .int .i64 (s)] by rw [← hwn]; repeat' (first | exact Blk.at_ _ (by first | rfl | (simp; done) | (simp; omega)) _ _ | refine Blk.drewN ?_ _ | refine Blk.drew ?_ | refine Blk.alloc ?_ _ | refine Blk.far ?_ (by first | omega | (simp; done) | (simp; omega)) _ | assumption))
  have R0_1 := Lib.hid ((R0_0.out.below hbn).more hbn.size)
  have HN1 := Lib.hid hbn
  have hz1 := hbn.size
  clear hwn hbn R0_0
  have l0_1 : w.heap.size < w1.heap.size := K0_1.out.lt
  have z0_0_1 : w1.cell? ⟨w.heap.size, 0, none⟩ = some (.int .i64 (p)) := K0_1.out.cell 0
  have z0_1_1 : w1.cell? ⟨w.heap.size, 1, none⟩ = some (.int .i64 (s)) := K0_1.out.cell 1
  refine (rjudge_is A n c l p s HE.out v i0 k0 HV.out _ R0_1.out).mono ?_
  rintro e w2 ⟨rfl, hb⟩
  have HB2 := Lib.hid (show Below w.heap.size w w2 from step_below hb (by repeat' (first | exact Below.refl _ _ | exact HB1.out | refine below_drewN ?_ _ | refine Below.drew ?_ | refine Below.alloc ?_ (by first | omega | (simp; done) | (simp; omega) | (simp [World.setCell]; omega)) _ | refine Below.setCell ?_ (by first | omega | (simp; done) | (simp; omega)) _ | assumption)))
  have K0_2 := Lib.hid (step_blk hb (show Blk _ (w.heap.size) 38 #[.int .i64 (p), .int .i64 (s)] by repeat' (first | exact K0_1.out | exact Blk.at_ _ (by first | rfl | (simp; done) | (simp; omega)) _ _ | refine Blk.drewN ?_ _ | refine Blk.drew ?_ | refine Blk.alloc ?_ _ | refine Blk.far ?_ (by first | omega | (simp; done) | (simp; omega)) _ | assumption)))
  have hL2 := Lib.hid (show Below w1.heap.size w1 _ from reads_mid hb (by repeat' (first | exact Below.refl _ _ | refine below_drewN ?_ _ | refine Below.drew ?_ | refine Below.alloc ?_ (by first | omega | (simp; done) | (simp; omega) | (simp [World.setCell]; omega)) _ | refine Below.setCell ?_ (by first | omega | (simp; done) | (simp; omega)) _)))
  have R0_2 := Lib.hid (reads_lay hb hL2.out R0_1.out)
  clear hL2 R0_1
  have hz2 := hb.size
  try simp only [World.size_alloc, World.drewN, World.drew] at hz2
  clear hb K0_1 z0_0_1 z0_1_1 l0_1
  have l0_2 : w.heap.size < w2.heap.size := K0_2.out.lt
  have z0_0_2 : w2.cell? ⟨w.heap.size, 0, none⟩ = some (.int .i64 (p)) := K0_2.out.cell 0
  have z0_1_2 : w2.cell? ⟨w.heap.size, 1, none⟩ = some (.int .i64 (s)) := K0_2.out.cell 1
  by_cases hv0 : v = 0
  rotate_left
  · have e1 : (v != 0) = true := by simpa using hv0
    have HVV := Lib.hid (show deciV x = .tuple #[.int .i64 0, .int .i64 24] by rw [← HD.out, deci_open HE.out (by rw [HV.out]; exact hv0)]; rfl)
    clear hv0
    go_wp2
    generalize hwn : (w2.alloc (.cells #[.int .i64 ((i0 : Int)), .int .i64 ((k0 : Int))] 39)) = w3
    have hbn : Below w2.heap.size w2 w3 := by rw [← hwn]; repeat' (first | exact Below.refl _ _ | refine below_drewN ?_ _ | refine Below.drew ?_ | refine Below.alloc ?_ (by first | omega | (simp; done) | (simp; omega) | (simp [World.setCell]; omega)) _ | refine Below.setCell ?_ (by first | omega | (simp; done) | (simp; omega)) _)
    have HB3 := Lib.hid (show Below w.heap.size w w3 from HB2.out.trans (hbn.mono HB2.out.size))
    have K0_3 := Lib.hid (step_blk hbn K0_2.out)
    have K1_3 := Lib.hid (show Blk w3 (w2.heap.size) 39 #[.int .i64 ((i0 : Int)), .int .i64 ((k0 : Int))] by rw [← hwn]; repeat' (first | exact Blk.at_ _ (by first | rfl | (simp; done) | (simp; omega)) _ _ | refine Blk.drewN ?_ _ | refine Blk.drew ?_ | refine Blk.alloc ?_ _ | refine Blk.far ?_ (by first | omega | (simp; done) | (simp; omega)) _ | assumption))
    have R0_3 := Lib.hid ((R0_2.out.below hbn).more hbn.size)
    have HN3 := Lib.hid hbn
    have hz3 := hbn.size
    clear hwn hbn K0_2 l0_2 z0_0_2 z0_1_2 R0_2
    have l0_3 : w.heap.size < w3.heap.size := K0_3.out.lt
    have z0_0_3 : w3.cell? ⟨w.heap.size, 0, none⟩ = some (.int .i64 (p)) := K0_3.out.cell 0
    have z0_1_3 : w3.cell? ⟨w.heap.size, 1, none⟩ = some (.int .i64 (s)) := K0_3.out.cell 1
    have l1_3 : w2.heap.size < w3.heap.size := K1_3.out.lt
    have z1_0_3 : w3.cell? ⟨w2.heap.size, 0, none⟩ = some (.int .i64 ((i0 : Int))) := K1_3.out.cell 0
    have z1_1_3 : w3.cell? ⟨w2.heap.size, 1, none⟩ = some (.int .i64 ((k0 : Int))) := K1_3.out.cell 1
    go_ret2
    exact ⟨by rw [HVV.out]; rfl, by repeat' (first | exact Below.refl _ _ | exact HB3.out | refine below_drewN ?_ _ | refine Below.drew ?_ | refine Below.alloc ?_ (by first | omega | (simp; done) | (simp; omega) | (simp [World.setCell]; omega)) _ | refine Below.setCell ?_ (by first | omega | (simp; done) | (simp; omega)) _ | assumption)⟩
  subst hv0
  have HV0 := Lib.hid (show (judgeF l p s).1 = 0 by rw [HV.out])
  have e0 : ((0 : Int) != 0) = false := by simp
  go_wp2
  generalize hwn : (w2.alloc (.cells #[.int .i64 ((i0 : Int)), .int .i64 ((k0 : Int))] 39)) = w3
  have hbn : Below w2.heap.size w2 w3 := by rw [← hwn]; repeat' (first | exact Below.refl _ _ | refine below_drewN ?_ _ | refine Below.drew ?_ | refine Below.alloc ?_ (by first | omega | (simp; done) | (simp; omega) | (simp [World.setCell]; omega)) _ | refine Below.setCell ?_ (by first | omega | (simp; done) | (simp; omega)) _)
  have HB3 := Lib.hid (show Below w.heap.size w w3 from HB2.out.trans (hbn.mono HB2.out.size))
  have K0_3 := Lib.hid (step_blk hbn K0_2.out)
  have K1_3 := Lib.hid (show Blk w3 (w2.heap.size) 39 #[.int .i64 ((i0 : Int)), .int .i64 ((k0 : Int))] by rw [← hwn]; repeat' (first | exact Blk.at_ _ (by first | rfl | (simp; done) | (simp; omega)) _ _ | refine Blk.drewN ?_ _ | refine Blk.drew ?_ | refine Blk.alloc ?_ _ | refine Blk.far ?_ (by first | omega | (simp; done) | (simp; omega)) _ | assumption))
  have R0_3 := Lib.hid ((R0_2.out.below hbn).more hbn.size)
  have HN3 := Lib.hid hbn
  have hz3 := hbn.size
  clear hwn hbn K0_2 l0_2 z0_0_2 z0_1_2 R0_2
  have l0_3 : w.heap.size < w3.heap.size := K0_3.out.lt
  have z0_0_3 : w3.cell? ⟨w.heap.size, 0, none⟩ = some (.int .i64 (p)) := K0_3.out.cell 0
  have z0_1_3 : w3.cell? ⟨w.heap.size, 1, none⟩ = some (.int .i64 (s)) := K0_3.out.cell 1
  have l1_3 : w2.heap.size < w3.heap.size := K1_3.out.lt
  have z1_0_3 : w3.cell? ⟨w2.heap.size, 0, none⟩ = some (.int .i64 ((i0 : Int))) := K1_3.out.cell 0
  have z1_1_3 : w3.cell? ⟨w2.heap.size, 1, none⟩ = some (.int .i64 ((k0 : Int))) := K1_3.out.cell 1
  have RX := R0_3
  have KP := K0_3
  clear R0_3
  go_loopw [8] (fun v wr => ∃ i : Nat, i ≤ n ∧ v = .int .i64 i ∧ (l.take i).any (fun p => decide (200 < p.2 - p.1)) = false ∧ Below w3.heap.size w3 wr) (fun v _ => n - (intOf v).toNat)
  case atStart => exact ⟨0, by omega, rfl, by simp, Below.refl _ _⟩
  case round =>
    obtain ⟨i, hi, rfl, hbf, hb⟩ := hrel
    obtain ⟨w4, hnm⟩ : ∃ z : World, z = wr := ⟨_, rfl⟩
    subst hnm
    have HBF := Lib.hid hbf
    have HBW := Lib.hid hb
    have hb' := HB3.out.trans (hb.mono HB3.out.size)
    have k0' := Blk.below KP.out hb KP.out.lt
    have hr4 := (RX.out.below hb).more hb.size
    clear hbf hb
    by_cases hlt : i < n
    · have hii : (i : Int) < (n : Int) := by omega
      obtain ⟨xb, xo, ⟨a, b⟩, rfl, hxb, hz, c0, c1⟩ := hr4.pair hlt
      simp only at c0 c1
      have hab := HRG.out _ (List.mem_of_getElem? hz)
      simp only at hab
      have e1 := IntWalk.i64_in (b - a) ⟨by omega, by omega⟩
      have HZ := Lib.hid hz
      have HB' := Lib.hid hb'
      clear hz hb' k0' hr4
      cases hp : decide (200 < b - a) with
      | false =>
        have HP := Lib.hid hp
        go_wp2
        go_quiet (fail)
        go_wp2
        go_roundw
        case rel => exact ⟨i + 1, by omega, by go_num, wide_take HZ.out HBF.out HP.out, below_drewN HBW.out _⟩
        case measure => simp [intOf]; omega
      | true =>
        have HP := Lib.hid hp
        have hw : wideL l = true := List.any_eq_true.2 ⟨_, List.mem_of_getElem? HZ.out, HP.out⟩
        have HVV := Lib.hid (show deciV x = .tuple #[.int .i64 0, .int .i64 8] by rw [← HD.out, deci_wide HE.out HV0.out hw]; rfl)
        clear hw
        go_wp2
        go_quiet (fail)
        go_wp2
        go_ret2
        exact ⟨by rw [HVV.out]; rfl, below_drewN HB'.out _⟩
    obtain rfl : n = i := by omega
    have HTW := Lib.hid (show wideL l = false by
      have ht := HBF.out
      rw [List.take_of_length_le (by rw [HL.out]; omega)] at ht
      exact ht)
    have RX4 := Lib.hid hr4
    have KP4 := Lib.hid k0'
    have HB4 := Lib.hid hb'
    clear hr4 k0' hb'
    go_wp2
    go_loopw [9] (fun v wr => ∃ i : Nat, i ≤ n ∧ v = .int .i64 i ∧ (∀ j, j < i → decF l p s j = false) ∧ Below w4.heap.size w4 wr) (fun v _ => n - (intOf v).toNat)
    case atStart => exact ⟨0, by omega, rfl, fun j hj => absurd hj (by omega), Below.refl _ _⟩
    case round =>
      obtain ⟨i, hi, rfl, hbf, hb⟩ := hrel
      obtain ⟨w5, hnm⟩ : ∃ z : World, z = wr := ⟨_, rfl⟩
      subst hnm
      have HDF := Lib.hid hbf
      have HB5 := Lib.hid hb
      have HB05 := Lib.hid (HB4.out.trans (hb.mono HB4.out.size))
      have hr5 := (RX4.out.below hb).more hb.size
      clear hbf hb
      by_cases hlt : i < n
      rotate_left
      · obtain rfl : n = i := by omega
        have HVV := Lib.hid (show deciV x = .tuple #[.int .i64 0, .int .i64 12] by rw [← HD.out, deci_none HE.out HV0.out HTW.out (by rw [HL.out]; exact HDF.out)]; rfl)
        clear hr5
        go_wp2
        go_ret2
        exact ⟨by rw [HVV.out]; rfl, HB05.out⟩
      have hii : (i : Int) < (n : Int) := by omega
      obtain ⟨xb, xo, ⟨lo, hh⟩, rfl, hxb, hpi, ci0, ci1⟩ := hr5.pair hlt
      have hlh := HRG.out _ (List.mem_of_getElem? hpi)
      have hg : l.getD i (0, 0) = (lo, hh) := getD_of hpi
      simp only at ci0 ci1 hlh
      have HG := Lib.hid hg
      have HR5 := Lib.hid hr5
      clear hpi hg hr5 ci1
      go_wp2
      go_loopw [10, 11] (fun b v wr => ∃ (k : Nat) (z : Int), b = .bool (decN l p s i k) ∧ v = .int .i64 z ∧ z = lo + (k : Int) ∧ z ≤ hh + 1 ∧ Below w5.heap.size w5 wr) (fun _ v _ => (hh + 1 - intOf v).toNat)
      case atStart => exact ⟨0, lo, by unfold decN; rfl, rfl, by omega, by omega, Below.refl _ _⟩
      case round =>
        clear ci0
        obtain ⟨k, z, rfl, rfl, hz, hzh, hb⟩ := hrel
        obtain ⟨w6, hnm⟩ : ∃ z : World, z = wr := ⟨_, rfl⟩
        subst hnm
        obtain ⟨bb, hbb⟩ : ∃ b, decN l p s i k = b := ⟨_, rfl⟩
        rw [hbb]
        have HBB := Lib.hid hbb
        have HBC6 := Lib.hid hb
        have HB06 := Lib.hid (HB05.out.trans (hb.mono HB05.out.size))
        have k0' := Blk.below (Blk.below KP4.out HB5.out KP4.out.lt) hb (Blk.lt (Blk.below KP4.out HB5.out KP4.out.lt))
        have hr6 := (HR5.out.below hb).more hb.size
        obtain ⟨yb, yo, ⟨lo2, hh2⟩, hA2, hyb3, hpi2, cj0, cj1⟩ := hr6.pair hlt
        obtain ⟨rfl, rfl⟩ : xb = yb ∧ xo = yo := by simpa using hA2
        obtain ⟨rfl, rfl⟩ : lo = lo2 ∧ hh = hh2 := by
          have h1 := HG.out
          rw [getD_of hpi2] at h1
          have := Prod.mk.inj h1
          exact ⟨this.1.symm, this.2.symm⟩
        simp only at cj0 cj1
        have hz3 : -100000 ≤ z ∧ z ≤ 100001 := by omega
        have HZ := Lib.hid hz
        clear hbb hb hA2 hpi2 hz
        by_cases hex : z ≤ hh ∧ bb = true
        rotate_left
        · have hdf : decF l p s i = bb := by
            have hgo := HG.out
            unfold decF
            rw [hgo]
            by_cases h1 : z ≤ hh
            · have hb0 : bb = false := by
                cases bb with
                | false => rfl
                | true => exact absurd ⟨h1, rfl⟩ hex
              rw [hb0]
              exact decN_false (HBB.out.trans hb0) (by have := HZ.out; show k ≤ (hh - lo + 1).toNat; omega)
            · rw [← HBB.out, show ((lo, hh) : Int × Int).2 - ((lo, hh) : Int × Int).1 + 1 = (k : Int) by have := HZ.out; show hh - lo + 1 = _; omega]
              rfl
          have HDD := Lib.hid hdf
          have HK0 := Lib.hid k0'
          have HR6 := Lib.hid hr6
          have hcs : (decide (z ≤ hh) = true ∧ bb = false) ∨ (decide (z ≤ hh) = false ∧ bb = true) ∨ (decide (z ≤ hh) = false ∧ bb = false) := by
            by_cases h1 : z ≤ hh
            · cases bb with
              | false => exact .inl ⟨by simpa using h1, rfl⟩
              | true => exact absurd ⟨h1, rfl⟩ hex
            · cases bb with
              | false => exact .inr (.inr ⟨by simpa using h1, rfl⟩)
              | true => exact .inr (.inl ⟨by simpa using h1, rfl⟩)
          have HB56 := Lib.hid (HB5.out.trans (HBC6.out.mono HB5.out.size))
          clear hdf k0' hr6 hex
          rcases hcs with ⟨d1, rfl⟩ | ⟨d1, rfl⟩ | ⟨d1, rfl⟩
          · go_wp2
            go_roundw
            case rel => exact ⟨i + 1, by omega, by go_num, fun j hj => by rcases Nat.lt_succ_iff_lt_or_eq.1 hj with h | h; exact HDF.out j h; rw [h]; exact HDD.out, HB56.out⟩
            case measure => simp [intOf]; omega
          · have HVV := Lib.hid (show deciV x = .tuple #[.int .i64 (i : Int), .int .i64 0] by rw [← HD.out, deci_at HE.out HV0.out HTW.out (by rw [HL.out]; exact hlt) HDF.out HDD.out]; rfl)
            go_wp2
            go_ret2
            exact ⟨by rw [HVV.out]; rfl, HB06.out⟩
          · go_wp2
            go_roundw
            case rel => exact ⟨i + 1, by omega, by go_num, fun j hj => by rcases Nat.lt_succ_iff_lt_or_eq.1 hj with h | h; exact HDF.out j h; rw [h]; exact HDD.out, HB56.out⟩
            case measure => simp [intOf]; omega
        obtain ⟨hle, rfl⟩ := hex
        have hd1 : decide (z ≤ hh) = true := by simpa using hle
        have hb' := HB06.out
        have HB6 := Lib.hid hb'
        have K0_6 := Lib.hid (show Blk w6 (w.heap.size) 38 #[.int .i64 (p), .int .i64 (s)] from k0')
        clear hb' k0'
        have l0_6 : w.heap.size < w6.heap.size := K0_6.out.lt
        have z0_0_6 : w6.cell? ⟨w.heap.size, 0, none⟩ = some (.int .i64 (p)) := K0_6.out.cell 0
        have z0_1_6 : w6.cell? ⟨w.heap.size, 1, none⟩ = some (.int .i64 (s)) := K0_6.out.cell 1
        have R0_6 := Lib.hid hr6
        clear hr6
        have KQ := K0_6
        have HA6 := Lib.hid (show Below w6.heap.size w6 w6 from Below.refl _ _)
        go_wp2_with fail
        refine (copyranges_any (some ⟨xb, xo, none⟩) n c _ l _ R0_6.out (Nat.le_refl _) (by omega)).mono ?_
        rintro e w7 ⟨A7, c7, rfl, hb, hr7, ho7⟩
        have HB7 := Lib.hid (show Below w.heap.size w w7 from step_below hb (by repeat' (first | exact Below.refl _ _ | exact HB6.out | refine below_drewN ?_ _ | refine Below.drew ?_ | refine Below.alloc ?_ (by first | omega | (simp; done) | (simp; omega) | (simp [World.setCell]; omega)) _ | refine Below.setCell ?_ (by first | omega | (simp; done) | (simp; omega)) _ | assumption)))
        have K0_7 := Lib.hid (step_blk hb (show Blk _ (w.heap.size) 38 #[.int .i64 (p), .int .i64 (s)] by repeat' (first | exact K0_6.out | exact Blk.at_ _ (by first | rfl | (simp; done) | (simp; omega)) _ _ | refine Blk.drewN ?_ _ | refine Blk.drew ?_ | refine Blk.alloc ?_ _ | refine Blk.far ?_ (by first | omega | (simp; done) | (simp; omega)) _ | assumption)))
        have hL7 := Lib.hid (show Below w6.heap.size w6 _ from reads_mid hb (by repeat' (first | exact Below.refl _ _ | refine below_drewN ?_ _ | refine Below.drew ?_ | refine Below.alloc ?_ (by first | omega | (simp; done) | (simp; omega) | (simp [World.setCell]; omega)) _ | refine Below.setCell ?_ (by first | omega | (simp; done) | (simp; omega)) _)))
        have R0_7 := Lib.hid (reads_lay hb hL7.out R0_6.out)
        clear hL7 R0_6
        have HA7 := Lib.hid (step_below hb HA6.out)
        clear HA6
        have hz7 := hb.size
        try simp only [World.size_alloc, World.drewN, World.drew] at hz7
        clear hb K0_6 z0_0_6 z0_1_6 l0_6
        have l0_7 : w.heap.size < w7.heap.size := K0_7.out.lt
        have z0_0_7 : w7.cell? ⟨w.heap.size, 0, none⟩ = some (.int .i64 (p)) := K0_7.out.cell 0
        have z0_1_7 : w7.cell? ⟨w.heap.size, 1, none⟩ = some (.int .i64 (s)) := K0_7.out.cell 1
        obtain ⟨g, ext, rfl, hgb, hcn, hbz⟩ := own_blockZ ho7 (by omega)
        obtain ⟨a, b, o0, o1⟩ := hbz.cell (show i < l.length by rw [HL.out]; exact hlt)
        have of0 := Blk.frozen hbz (i * 2)
        have of1 := Blk.frozen hbz (i * 2 + 1)
        have hl6 : w.heap.size < w6.heap.size := KQ.out.lt
        have hgne : ¬ g = w.heap.size := by omega
        have hgne2 : ¬ w.heap.size = g := by omega
        have HBZ := Lib.hid hbz
        have HA := HA7
        clear R0_7
        clear hr7 ho7 hbz
        go_wp2_with fail
        obtain ⟨w8, hw8⟩ : ∃ w8, (w7.setCell ⟨g, i * 2, none⟩ (.int .i64 z)).setCell ⟨g, i * 2 + 1, none⟩ (.int .i64 z) = w8 := ⟨_, rfl⟩
        rw [hw8]
        have hbz8 : BlkZ w8 g (l.set i (z, z)) ext := by rw [← hw8]; exact BlkZ.set HBZ.out (by rw [HL.out]; exact hlt) z z
        have hb8 : Below w6.heap.size w6 w8 := by rw [← hw8]; exact (HA.out.setCell (p := ⟨g, i * 2, none⟩) hgb _).setCell (p := ⟨g, i * 2 + 1, none⟩) hgb _
        have hb' := HB06.out.trans (hb8.mono HB06.out.size)
        have k0' := Blk.below KQ.out hb8 KQ.out.lt
        have hr8 := hbz8.reads (n := n) (by rw [List.length_set]; exact HL.out)
        obtain ⟨⟨v, i1, k1⟩, hv⟩ : ∃ V, judgeF (l.set i (z, z)) p s = V := ⟨_, rfl⟩
        have HV8 := Lib.hid hv
        have HB68 := Lib.hid hb8
        clear hw8 hbz8 hb8 hv
        have HB8 := Lib.hid hb'
        have K0_8 := Lib.hid (show Blk w8 (w.heap.size) 38 #[.int .i64 (p), .int .i64 (s)] from k0')
        clear hb' k0'
        have l0_8 : w.heap.size < w8.heap.size := K0_8.out.lt
        have z0_0_8 : w8.cell? ⟨w.heap.size, 0, none⟩ = some (.int .i64 (p)) := K0_8.out.cell 0
        have z0_1_8 : w8.cell? ⟨w.heap.size, 1, none⟩ = some (.int .i64 (s)) := K0_8.out.cell 1
        have R0_8 := Lib.hid hr8
        clear hr8
        have HA8 := Lib.hid (show Below w8.heap.size w8 w8 from Below.refl _ _)
        refine (rjudge_is (some ⟨g, 0, none⟩) n c7 (l.set i (z, z)) p s (set_ok HE.out (by omega)) v i1 k1 HV8.out w8 R0_8.out).mono ?_
        rintro e w9 ⟨rfl, hb⟩
        have HB9 := Lib.hid (show Below w.heap.size w w9 from step_below hb (by repeat' (first | exact Below.refl _ _ | exact HB8.out | refine below_drewN ?_ _ | refine Below.drew ?_ | refine Below.alloc ?_ (by first | omega | (simp; done) | (simp; omega) | (simp [World.setCell]; omega)) _ | refine Below.setCell ?_ (by first | omega | (simp; done) | (simp; omega)) _ | assumption)))
        have K0_9 := Lib.hid (step_blk hb (show Blk _ (w.heap.size) 38 #[.int .i64 (p), .int .i64 (s)] by repeat' (first | exact K0_8.out | exact Blk.at_ _ (by first | rfl | (simp; done) | (simp; omega)) _ _ | refine Blk.drewN ?_ _ | refine Blk.drew ?_ | refine Blk.alloc ?_ _ | refine Blk.far ?_ (by first | omega | (simp; done) | (simp; omega)) _ | assumption)))
        have hL9 := Lib.hid (show Below w8.heap.size w8 _ from reads_mid hb (by repeat' (first | exact Below.refl _ _ | refine below_drewN ?_ _ | refine Below.drew ?_ | refine Below.alloc ?_ (by first | omega | (simp; done) | (simp; omega) | (simp [World.setCell]; omega)) _ | refine Below.setCell ?_ (by first | omega | (simp; done) | (simp; omega)) _)))
        have R0_9 := Lib.hid (reads_lay hb hL9.out R0_8.out)
        clear hL9 R0_8
        have HA9 := Lib.hid (step_below hb HA8.out)
        clear HA8
        have hz9 := hb.size
        try simp only [World.size_alloc, World.drewN, World.drew] at hz9
        clear hb K0_8 z0_0_8 z0_1_8 l0_8
        have l0_9 : w.heap.size < w9.heap.size := K0_9.out.lt
        have z0_0_9 : w9.cell? ⟨w.heap.size, 0, none⟩ = some (.int .i64 (p)) := K0_9.out.cell 0
        have z0_1_9 : w9.cell? ⟨w.heap.size, 1, none⟩ = some (.int .i64 (s)) := K0_9.out.cell 1
        have HB69 := Lib.hid (HB68.out.trans (HA9.out.mono HB68.out.size))
        clear R0_9
        have HA9 := Lib.hid (show Below w9.heap.size w9 w9 from Below.refl _ _)
        have hdk : decN l p s i (k + 1) = (v != 0) := by
          rw [decN_succ, HBB.out, HG.out, ← HZ.out, HV8.out]
          rfl
        have HDK := Lib.hid hdk
        have e1 := IntWalk.i64_in (z + 1) ⟨by omega, by omega⟩
        clear hdk
        go_wp2
        generalize hwn : (w9.alloc (.cells #[.int .i64 ((i1 : Int)), .int .i64 ((k1 : Int))] 39)) = w10
        have hbn : Below w9.heap.size w9 w10 := by rw [← hwn]; repeat' (first | exact Below.refl _ _ | refine below_drewN ?_ _ | refine Below.drew ?_ | refine Below.alloc ?_ (by first | omega | (simp; done) | (simp; omega) | (simp [World.setCell]; omega)) _ | refine Below.setCell ?_ (by first | omega | (simp; done) | (simp; omega)) _)
        have HB10 := Lib.hid (show Below w.heap.size w w10 from HB9.out.trans (hbn.mono HB9.out.size))
        have K0_10 := Lib.hid (step_blk hbn K0_9.out)
        have K1_10 := Lib.hid (show Blk w10 (w9.heap.size) 39 #[.int .i64 ((i1 : Int)), .int .i64 ((k1 : Int))] by rw [← hwn]; repeat' (first | exact Blk.at_ _ (by first | rfl | (simp; done) | (simp; omega)) _ _ | refine Blk.drewN ?_ _ | refine Blk.drew ?_ | refine Blk.alloc ?_ _ | refine Blk.far ?_ (by first | omega | (simp; done) | (simp; omega)) _ | assumption))
        have HA10 := Lib.hid (step_below hbn HA9.out)
        clear HA9
        have HN10 := Lib.hid hbn
        have hz10 := hbn.size
        clear hwn hbn K0_9 l0_9 z0_0_9 z0_1_9
        have l0_10 : w.heap.size < w10.heap.size := K0_10.out.lt
        have z0_0_10 : w10.cell? ⟨w.heap.size, 0, none⟩ = some (.int .i64 (p)) := K0_10.out.cell 0
        have z0_1_10 : w10.cell? ⟨w.heap.size, 1, none⟩ = some (.int .i64 (s)) := K0_10.out.cell 1
        have l1_10 : w9.heap.size < w10.heap.size := K1_10.out.lt
        have z1_0_10 : w10.cell? ⟨w9.heap.size, 0, none⟩ = some (.int .i64 ((i1 : Int))) := K1_10.out.cell 0
        have z1_1_10 : w10.cell? ⟨w9.heap.size, 1, none⟩ = some (.int .i64 ((k1 : Int))) := K1_10.out.cell 1
        have HB610 := Lib.hid (HBC6.out.trans ((HB69.out.trans (HA10.out.mono HB69.out.size)).mono HBC6.out.size))
        go_roundw
        case rel => exact ⟨k + 1, z + 1, by rw [HDK.out], rfl, by have := HZ.out; push_cast; omega, by omega, HB610.out⟩
        case measure => simp [intOf]; omega
end Go.Proofs.Ytnepjgnnppfibaa

end
