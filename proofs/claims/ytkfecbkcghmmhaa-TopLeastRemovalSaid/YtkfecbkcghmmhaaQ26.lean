import Derived.Deep.CutBlock
import Derived.Deep.RegionLaw
import Derived.Test.YtkfecbkcghmmhaaQ25
import Derived.Test.YtkfecbkcghmmhaaQ1
import Derived.Test.YtkfecbkcghmmhaaQ16

section
/- The readings of a measured profile. -/
namespace Go.Proofs.Ytkfecbkcghmmhaa
open Go Go.RowKit

/-- The numbers fit. -/
structure MeasOk (hs : List Int) (ps es : List (Int × Int)) : Prop where
  n : 1 ≤ hs.length ∧ hs.length ≤ 8
  k : ps.length ≤ 12
  same : es.length = ps.length
  hgt : ∀ z ∈ hs, -100000 ≤ z ∧ z ≤ 100000
  par : ∀ p ∈ ps, (0 ≤ p.1 ∧ p.1 < (hs.length : Int)) ∧ (0 ≤ p.2 ∧ p.2 < (hs.length : Int)) ∧ p.1 ≠ p.2
  err : ∀ e ∈ es, (0 ≤ e.1 ∧ e.1 ≤ 100000) ∧ (0 ≤ e.2 ∧ e.2 ≤ 100000)
/-- One reading. -/
def measQ (hs : List Int) (part : Int) (p e : Int × Int) : Quad := (p.1, p.2, hgtF hs p.2.toNat - hgtF hs p.1.toNat - e.1 / part, hgtF hs p.2.toNat - hgtF hs p.1.toNat + e.2 / part)
def measL (hs : List Int) (part : Int) (ps es : List (Int × Int)) : List Quad := (ps.zip es).map fun x => measQ hs part x.1 x.2
theorem meas_succ {hs : List Int} {part : Int} {ps es : List (Int × Int)} {i : Nat} {p e : Int × Int} (hp : ps[i]? = some p) (he : es[i]? = some e) : (measL hs part ps es).take (i + 1) = (measL hs part ps es).take i ++ [measQ hs part p e] := by
  rw [List.take_add_one]
  unfold measL
  rw [List.getElem?_map, (List.getElem?_zip_eq_some (z := (p, e))).2 ⟨hp, he⟩]
  rfl
theorem within_bounds {n lo hi : Int} (h : withinB n lo hi = true) : lo ≤ n ∧ n ≤ hi := (withinB_iff n lo hi).1 h
/-- What readings returns. -/
def MeasPost (hs : List Int) (ps es : List (Int × Int)) (part : Int) (w : World) (e : Ending) (w' : World) : Prop :=
  Below w.heap.size w w' ∧ ∃ A k c b, e = .returned (.tuple #[.slice A k c, .bool b]) ∧ (b = true → k = ps.length ∧ MeasOk hs ps es ∧ Reads w' w'.heap.size 4 A k (cells4 (measL hs part ps es)))
theorem MeasPost.no {hs : List Int} {ps es : List (Int × Int)} {part : Int} {w w' : World} (hb : Below w.heap.size w w') : MeasPost hs ps es part w (.returned (.tuple #[.slice none 0 0, .bool false])) w' := ⟨hb, none, 0, 0, false, rfl, fun h => by cases h⟩
theorem snocq_run (B : Nat) (v : Value) (k : Nat) (l : List Quad) (p : Quad) (w : World) (ho : w.ownsRow B 54 4 v k (cells4 l)) (hB : B ≤ w.heap.size) (hk : k ≤ 100000) :
    ∃ v' W2, (Builtin.append_ #[27, 27] 27 #[v, .slice (some ⟨w.heap.size, 0, none⟩) 1 1]).run Try.prog (w.alloc (.cells #[.int .i64 p.1, .int .i64 p.2.1, .int .i64 p.2.2.1, .int .i64 p.2.2.2] 54)) = .ok v' W2 ∧ W2.ownsRow B 54 4 v' (k + 1) (cells4 (l ++ [p])) ∧ Below B w W2 := by
  have info_hr : (Try.prog.info? 54).map (fun i => (i.zero, i.size, i.bytes)) = some (some (.agg #[.int .i64 0, .int .i64 0, .int .i64 0, .int .i64 0]), 4, 32) := by kernel_rfl
  obtain ⟨i0, hi0, hz0, hz1, hz2⟩ := info_parts info_hr
  have hbW : Below B w (w.alloc (.cells #[.int .i64 p.1, .int .i64 p.2.1, .int .i64 p.2.2.1, .int .i64 p.2.2.2] 54)) := (Below.refl _ _).alloc hB _
  obtain ⟨v', W2, hrun, o2', hg2, -⟩ := run_append_any (P := Try.prog) (w.alloc (.cells #[.int .i64 p.1, .int .i64 p.2.1, .int .i64 p.2.2.1, .int .i64 p.2.2.2] 54)) B 27 27 54 i0 _ 4 32 Try.underlying27 hi0 hz0 hz1 hz2 rfl (by omega) v k _ (ho.alloc _) (w.alloc (.cells #[.int .i64 p.1, .int .i64 p.2.1, .int .i64 p.2.2.1, .int .i64 p.2.2.2] 54)).heap.size (some ⟨w.heap.size, 0, none⟩) 1 1 (cells4 [p]) (Blk.reads (Blk.new _ _ _) rfl) (one_cells4 _) (by unfold maxLen; omega) (by first | omega | (simp; omega)) (by first | omega | (simp; omega))
  exact ⟨v', W2, hrun, by rw [cells4_append]; exact o2', hbW.grown hg2 (Nat.le_trans hB hbW.size) (fun g hg => (own_lt ho hg).1)⟩
set_option maxRecDepth 100000 in
set_option maxHeartbeats 8000000 in
theorem readingsof_is (A1 : Option Addr) (n1 c1 : Nat) (hs : List Int) (A2 : Option Addr) (n2 c2 : Nat) (ps : List (Int × Int)) (A3 : Option Addr) (n3 c3 : Nat) (es : List (Int × Int)) (part : Int) (hpart : part = 1 ∨ part = 2) (w : World) (hx1 : Reads w w.heap.size 1 A1 n1 (hs.map (.int .i64))) (hx2 : Reads w w.heap.size 2 A2 n2 (cells2 ps)) (hx3 : Reads w w.heap.size 2 A3 n3 (cells2 es)) :
    Calls Try.prog 5 #[.agg #[.slice A1 n1 c1, .slice A2 n2 c2, .slice A3 n3 c3], .int .i64 part] w (MeasPost hs ps es part w) := by
  have h1 := hx1.ilen
  have h2 := hx2.len2
  have h3 := hx3.len2
  obtain ⟨t1, ht1⟩ : ∃ t, withinB (n1 : Int) 1 8 = t := ⟨_, rfl⟩
  have HT1 := Lib.hid ht1
  have HX1 := Lib.hid hx1
  have HX2 := Lib.hid hx2
  have HX3 := Lib.hid hx3
  clear ht1 hx1 hx2 hx3
  have em := IntWalk.i64_in ((n1 : Int) - 1)
  go_enter Try.func5, Try.ntmps5
  go_upto_region 2 with fail
  generalize hW : w.alloc _ = w1
  have hb1 : Below w.heap.size w w1 := by rw [← hW]; exact (Below.refl _ _).alloc (Nat.le_refl _) _
  have hk1 : Blk w1 w.heap.size 25 #[.slice A1 n1 c1, .slice A2 n2 c2, .slice A3 n3 c3] := by rw [← hW]; exact Blk.new _ _ _
  have z0 := hk1.cell 0
  have z1 := hk1.cell 1
  have z2 := hk1.cell 2
  have HB1 := Lib.hid hb1
  have HK1 := Lib.hid hk1
  have HX11 := Lib.hid ((HX1.out.below hb1).more hb1.size)
  have HX12 := Lib.hid ((HX2.out.below hb1).more hb1.size)
  have HX13 := Lib.hid ((HX3.out.below hb1).more hb1.size)
  have hkl := hk1.lt
  clear hW hb1 hk1 HX1 HX2 HX3
  go_wp2_with fail
  refine (withinref_is _ _ _ t1 HT1.out _).mono ?_
  rintro e w' ⟨rfl, rfl⟩
  cases t1 with
  | false =>
    go_wp2
    go_ret2
    exact MeasPost.no HB1.out
  | true =>
  have hn1 := within_bounds HT1.out
  have em := em ⟨by omega, by omega⟩
  by_cases hk12 : (12 : Int) < (n2 : Int)
  · have d1 : decide ((12 : Int) < (n2 : Int)) = true := by simpa using hk12
    go_wp2
    go_ret2
    exact MeasPost.no HB1.out
  have d1 : decide ((12 : Int) < (n2 : Int)) = false := by simpa using hk12
  by_cases hk3 : n3 = n2
  rotate_left
  · have d2 : ((n3 : Int) != (n2 : Int)) = true := by simp; omega
    go_wp2
    go_ret2
    exact MeasPost.no HB1.out
  subst hk3
  have d2 : ((n3 : Int) != (n3 : Int)) = false := by simp
  go_wp2
  go_loopw [7] (fun i wr => ∃ k : Nat, k ≤ n1 ∧ i = .int .i64 k ∧ (∀ z ∈ hs.take k, -100000 ≤ z ∧ z ≤ 100000) ∧ w1 = wr) (fun i _ => n1 - (intOf i).toNat)
  case atStart => exact ⟨0, by omega, rfl, by simp, rfl⟩
  case round =>
    obtain ⟨k, hk, rfl, hz, rfl⟩ := hrel
    have HZ := Lib.hid hz
    clear hz
    by_cases hlt : k < n1
    · have hkk : (k : Int) < (n1 : Int) := by omega
      obtain ⟨yb, yo, z, hAe, hyb, hzr, d0⟩ := HX11.out.int_ hlt
      subst hAe
      obtain ⟨t, ht⟩ : ∃ t, withinB z (-100000) 100000 = t := ⟨_, rfl⟩
      have HT := Lib.hid ht
      have HZR := Lib.hid hzr
      have e1 := IntWalk.i64_in ((k : Int) + 1) ⟨by omega, by omega⟩
      clear ht hzr
      go_wp2_with fail
      refine (withinref_is _ _ _ t HT.out _).mono ?_
      rintro e w' ⟨rfl, rfl⟩
      cases t with
      | false =>
        go_wp2
        go_ret2
        exact MeasPost.no HB1.out
      | true =>
        have hzz := within_bounds HT.out
        go_wp2
        go_roundw
        case rel => exact ⟨k + 1, by omega, by go_num, fun q hq => by
          rw [List.take_add_one, HZR.out] at hq
          rcases List.mem_append.1 hq with h | h
          · exact HZ.out q h
          · obtain rfl : q = z := by simpa using h
            exact hzz, trivial⟩
        case measure => simp [intOf]; omega
    obtain rfl : n1 = k := by omega
    have HHG := Lib.hid (show ∀ z ∈ hs, -100000 ≤ z ∧ z ≤ 100000 by have := HZ.out; rwa [List.take_of_length_le (by omega)] at this)
    clear HZ
    go_wp2
    go_loopw [8, 9] (fun o i wr => ∃ k : Nat, k ≤ n3 ∧ i = .int .i64 k ∧ Below w1.heap.size w1 wr ∧ wr.ownsRow w1.heap.size 54 4 o k (cells4 ((measL hs part ps es).take k)) ∧ (∀ p ∈ ps.take k, (0 ≤ p.1 ∧ p.1 < (hs.length : Int)) ∧ (0 ≤ p.2 ∧ p.2 < (hs.length : Int)) ∧ p.1 ≠ p.2) ∧ (∀ e ∈ es.take k, (0 ≤ e.1 ∧ e.1 ≤ 100000) ∧ (0 ≤ e.2 ∧ e.2 ≤ 100000))) (fun _ i _ => n3 - (intOf i).toNat)
    case atStart => exact ⟨0, by omega, rfl, Below.refl _ _, World.ownsRow_nil _ _ _ _, by simp, by simp⟩
    case round =>
      obtain ⟨i, hi, rfl, hb2, ho2, hpp, hee⟩ := hrel
      obtain ⟨w2, hnm⟩ : ∃ z : World, z = wr := ⟨_, rfl⟩
      subst hnm
      have HB2 := Lib.hid hb2
      have HO2 := Lib.hid ho2
      have HPP := Lib.hid hpp
      have HEE := Lib.hid hee
      have hk2 := HK1.out.below hb2 HK1.out.lt
      have z0 := hk2.cell 0
      have z1 := hk2.cell 1
      have z2 := hk2.cell 2
      have hkl2 := hk2.lt
      have HK2 := Lib.hid hk2
      have HX21 := Lib.hid ((HX11.out.below hb2).more hb2.size)
      have HX22 := Lib.hid ((HX12.out.below hb2).more hb2.size)
      have HX23 := Lib.hid ((HX13.out.below hb2).more hb2.size)
      clear hb2 ho2 hpp hee hk2
      by_cases hlt2 : i < n3
      rotate_left
      · obtain rfl : n3 = i := by omega
        have hm : (measL hs part ps es).take n3 = measL hs part ps es := List.take_of_length_le (by unfold measL; simp; omega)
        have ho := HO2.out
        have hp := HPP.out
        have he := HEE.out
        rw [hm] at ho
        rw [List.take_of_length_le (by omega)] at hp he
        obtain ⟨A', c', rfl, hr⟩ := own_reads ho
        have HR := Lib.hid hr
        have HP := Lib.hid hp
        have HE := Lib.hid he
        clear hr ho hp he
        go_wp2
        go_ret2
        exact ⟨HB1.out.trans (HB2.out.mono HB1.out.size), A', n3, c', true, rfl, fun _ => ⟨h2.symm, ⟨by omega, by omega, by omega, HHG.out, HP.out, HE.out⟩, HR.out⟩⟩
      have hii : (i : Int) < (n3 : Int) := by omega
      obtain ⟨xb, xo, ⟨p0, p1⟩, hAe, hxb, hpr, x0, x1⟩ := HX22.out.pair hlt2
      obtain ⟨yb, yo, ⟨q0, q1⟩, hBe, hyb, her, y0, y1⟩ := HX23.out.pair hlt2
      simp only at x0 x1 y0 y1
      subst hAe hBe
      have HPR := Lib.hid hpr
      have HER := Lib.hid her
      clear hpr her
      go_upto_region 13 with fail
      go_cut [10, 11] from 53 to 63 (fun a b wx => ∃ ga gb, a = .pointer (some ⟨ga, 0, none⟩) ∧ b = .pointer (some ⟨gb, 0, none⟩) ∧ Below w2.heap.size w2 wx ∧ Blk wx ga 43 #[.int .i64 p0, .int .i64 p1] ∧ Blk wx gb 43 #[.int .i64 q0, .int .i64 q1])
      case first =>
        go_region
        · go_wp2_with fail
          go_meet
          exact ⟨_, _, rfl, rfl, by repeat' (first | exact Below.refl _ _ | refine below_drewN ?_ _ | refine Below.drew ?_ | refine Below.alloc ?_ (by first | omega | (simp; done) | (simp; omega) | (simp [World.setCell]; omega)) _ | refine Below.setCell ?_ (by first | omega | (simp; done) | (simp; omega)) _), ((Blk.at_ _ rfl _ _).alloc _).drew, (Blk.at_ _ (by simp) _ _).drew⟩
        · go_wp2_with fail
          go_meet
          exact ⟨_, _, rfl, rfl, by repeat' (first | exact Below.refl _ _ | refine below_drewN ?_ _ | refine Below.drew ?_ | refine Below.alloc ?_ (by first | omega | (simp; done) | (simp; omega) | (simp [World.setCell]; omega)) _ | refine Below.setCell ?_ (by first | omega | (simp; done) | (simp; omega)) _), (Blk.at_ _ (by simp) _ _).drew, ((Blk.at_ _ rfl _ _).alloc _).drew⟩
      case rest =>
      obtain ⟨ga, gb, rfl, rfl, hb3, hka, hkb⟩ := hcut
      obtain ⟨w3, hnm⟩ : ∃ z : World, z = wc := ⟨_, rfl⟩
      subst hnm
      have x0 := hka.cell 0
      have x1 := hka.cell 1
      have y0 := hkb.cell 0
      have y1 := hkb.cell 1
      have hk3 := HK2.out.below hb3 HK2.out.lt
      have z0 := hk3.cell 0
      have z1 := hk3.cell 1
      have z2 := hk3.cell 2
      have hkl3 := hk3.lt
      have hal := hka.lt
      have hbl := hkb.lt
      have HKA := Lib.hid hka
      have HKB := Lib.hid hkb
      have HB3 := Lib.hid (HB2.out.trans (hb3.mono HB2.out.size))
      have HO3 := Lib.hid (own_below HO2.out hb3 (Nat.le_refl _))
      have HX31 := Lib.hid ((HX21.out.below hb3).more hb3.size)
      clear hb3 hka hkb hk3 HO2 HB2 HX21 HX22 HX23 HK2
      obtain ⟨t2, ht2⟩ : ∃ t, withinB p0 0 ((n1 : Int) - 1) = t := ⟨_, rfl⟩
      obtain ⟨t3, ht3⟩ : ∃ t, withinB p1 0 ((n1 : Int) - 1) = t := ⟨_, rfl⟩
      obtain ⟨t4, ht4⟩ : ∃ t, withinB q0 0 100000 = t := ⟨_, rfl⟩
      obtain ⟨t5, ht5⟩ : ∃ t, withinB q1 0 100000 = t := ⟨_, rfl⟩
      have HT2 := Lib.hid ht2
      have HT3 := Lib.hid ht3
      have HT4 := Lib.hid ht4
      have HT5 := Lib.hid ht5
      clear ht2 ht3 ht4 ht5
      go_wp2_with fail
      refine (withinref_is _ _ _ t2 HT2.out _).mono ?_
      rintro e w' ⟨rfl, rfl⟩
      cases t2 with
      | false =>
        go_wp2
        go_ret2
        exact MeasPost.no (HB1.out.trans (HB3.out.mono HB1.out.size))
      | true =>
      go_wp2_with fail
      refine (withinref_is _ _ _ t3 HT3.out _).mono ?_
      rintro e w' ⟨rfl, rfl⟩
      cases t3 with
      | false =>
        go_wp2
        go_ret2
        exact MeasPost.no (HB1.out.trans (HB3.out.mono HB1.out.size))
      | true =>
      by_cases hpp : p0 = p1
      · have d3 : (p0 == p1) = true := by simpa using hpp
        go_wp2
        go_ret2
        exact MeasPost.no (HB1.out.trans (HB3.out.mono HB1.out.size))
      have d3 : (p0 == p1) = false := by simpa using hpp
      go_wp2_with fail
      refine (withinref_is _ _ _ t4 HT4.out _).mono ?_
      rintro e w' ⟨rfl, rfl⟩
      cases t4 with
      | false =>
        go_wp2
        go_ret2
        exact MeasPost.no (HB1.out.trans (HB3.out.mono HB1.out.size))
      | true =>
      go_wp2_with fail
      refine (withinref_is _ _ _ t5 HT5.out _).mono ?_
      rintro e w' ⟨rfl, rfl⟩
      cases t5 with
      | false =>
        go_wp2
        go_ret2
        exact MeasPost.no (HB1.out.trans (HB3.out.mono HB1.out.size))
      | true =>
      have i2 := within_bounds HT2.out
      have i3 := within_bounds HT3.out
      have i4 := within_bounds HT4.out
      have i5 := within_bounds HT5.out
      obtain ⟨u, rfl⟩ : ∃ u : Nat, p0 = (u : Int) := ⟨p0.toNat, by omega⟩
      obtain ⟨v, rfl⟩ : ∃ v : Nat, p1 = (v : Int) := ⟨p1.toNat, by omega⟩
      have hun : u < n1 := by omega
      have hvn : v < n1 := by omega
      obtain ⟨sb, so, hu, hCe, hsb, hur, s0⟩ := HX31.out.int_ hun
      obtain ⟨sb2, so2, hv, hCe2, -, hvr, s1⟩ := HX31.out.int_ hvn
      subst hCe
      obtain ⟨rfl, rfl⟩ : sb = sb2 ∧ so = so2 := by simpa using hCe2
      have j1 := HHG.out _ (List.mem_of_getElem? hur)
      have j2 := HHG.out _ (List.mem_of_getElem? hvr)
      obtain ⟨df, hdf⟩ : ∃ df, hv - hu = df := ⟨_, rfl⟩
      have e2 : IntKind.i64.wrap (hv - hu) = df := by rw [hdf]; exact IntWalk.i64_in df ⟨by omega, by omega⟩
      have HUR := Lib.hid (hgtF_at hur)
      have HVR := Lib.hid (hgtF_at hvr)
      have HDF := Lib.hid hdf
      have hdb : -200000 ≤ df ∧ df ≤ 200000 := by omega
      clear hCe2 hur hvr hdf
      go_upto_region 16 with fail
      go_quiet (fail)
      generalize hW : World.drewN w3 _ = w4
      have hb34 : Below w3.heap.size w3 w4 := by rw [← hW]; exact below_drewN (Below.refl _ _) _
      have hka := HKA.out.below hb34 HKA.out.lt
      have hkb := HKB.out.below hb34 HKB.out.lt
      have hb4 := HB3.out.trans (hb34.mono HB3.out.size)
      have ho4 := own_below HO3.out hb34 (Nat.le_refl _)
      clear hW hb34 x0 x1 y0 y1 z0 z1 z2 s0 s1 HKA HKB HO3 HB3
      have x0 := hka.cell 0
      have x1 := hka.cell 1
      have y0 := hkb.cell 0
      have y1 := hkb.cell 1
      have hal := hka.lt
      have hbl := hkb.lt
      obtain ⟨a0, ha0⟩ : ∃ a0, q0.tdiv part = a0 := ⟨_, rfl⟩
      obtain ⟨a1, ha1⟩ : ∃ a1, q1.tdiv part = a1 := ⟨_, rfl⟩
      have r0 : q0 / part = a0 := by rw [← ha0, Int.tdiv_eq_ediv_of_nonneg i4.1]
      have r1 : q1 / part = a1 := by rw [← ha1, Int.tdiv_eq_ediv_of_nonneg i5.1]
      have r2 : 0 ≤ a0 ∧ a0 ≤ 100000 ∧ 0 ≤ a1 ∧ a1 ≤ 100000 := by rcases hpart with rfl | rfl <;> omega
      have hpn : part ≠ 0 := by rcases hpart with rfl | rfl <;> omega
      have hpb : (part == 0) = false := by simpa using hpn
      have hpw := IntWalk.i64_in a0 ⟨by omega, by omega⟩
      have hpw1 := IntWalk.i64_in a1 ⟨by omega, by omega⟩
      obtain ⟨lo, hlo⟩ : ∃ lo, df - a0 = lo := ⟨_, rfl⟩
      obtain ⟨hi', hhi⟩ : ∃ hi', df + a1 = hi' := ⟨_, rfl⟩
      have e3 : IntKind.i64.wrap (df - a0) = lo := by rw [hlo]; exact IntWalk.i64_in lo ⟨by omega, by omega⟩
      have e4 : IntKind.i64.wrap (df + a1) = hi' := by rw [hhi]; exact IntWalk.i64_in hi' ⟨by omega, by omega⟩
      have e1 := IntWalk.i64_in ((i : Int) + 1) ⟨by omega, by omega⟩
      have ha0' : IntKind.i64.wrap (q0.tdiv part) = a0 := by rw [ha0]; exact hpw
      have ha1' : IntKind.i64.wrap (q1.tdiv part) = a1 := by rw [ha1]; exact hpw1
      obtain ⟨W0, hW0⟩ : ∃ W0, W0 = w4.drewN 1 := ⟨_, rfl⟩
      obtain ⟨W1, hW1⟩ : ∃ W1, W1 = W0.alloc (.cells #[.int .i64 u, .int .i64 v, .int .i64 lo, .int .i64 hi'] 54) := ⟨_, rfl⟩
      have d1 : W0.cell? ⟨ga, 0, none⟩ = some (.int .i64 u) := by rw [hW0]; exact x0
      have d2 : W0.cell? ⟨ga, 1, none⟩ = some (.int .i64 v) := by rw [hW0]; exact x1
      have d3 : W0.cell? ⟨gb, 0, none⟩ = some (.int .i64 q0) := by rw [hW0]; exact y0
      have d4 : W0.cell? ⟨gb, 1, none⟩ = some (.int .i64 q1) := by rw [hW0]; exact y1
      obtain ⟨v', W2, hrun, ho5, hb5⟩ := snocq_run w1.heap.size _ i _ ((u : Int), (v : Int), lo, hi') W0 (by rw [hW0]; exact own_drewN ho4 1) (by rw [hW0]; have := hb4.size; simpa using this) (by omega)
      simp only at hrun
      rw [← hW1] at hrun
      have HRUN := Lib.hid hrun
      have hq : measQ hs part ((u : Int), (v : Int)) (q0, q1) = ((u : Int), (v : Int), lo, hi') := by
        unfold measQ
        simp only [Int.toNat_natCast]
        rw [HUR.out, HVR.out, HDF.out, r0, r1, hlo, hhi]
      have ho6 : W2.ownsRow w1.heap.size 54 4 v' (i + 1) (cells4 ((measL hs part ps es).take (i + 1))) := by rw [meas_succ HPR.out HER.out, hq]; exact ho5
      have HO6 := Lib.hid ho6
      have HB5 := Lib.hid ((show Below w1.heap.size w1 W0 by rw [hW0]; exact below_drewN hb4 1).trans hb5)
      clear hq ho6 ho5 hb4 ho4 hb5 ha0 ha1 hlo hhi hpw hpw1 r0 r1 hrun
      go_wp2_with fail
      refine Fx.region (fun f w' => (w' = if f 20 then W2 else if f 19 then W1 else W0) ∧ True) (by kernel_rfl) (by kernel_rfl) ?_ ?_
      · intro f hf0
        rw [hf0 20, hf0 19]; exact ⟨hW0.symm, trivial⟩
      repeat (first
        | (refine Fx.skip_ (by rfl) (fun f w h => h) ?_; simp only [Act.put, List.setIfInBounds_toArray, List.set_cons_zero, List.set_cons_succ])
        | (refine Fx.val_ ?_ (by rfl) ?_ (fun f w h => h) ?_
           rotate_left
           · intro f w' hD hk
             obtain ⟨jw, _⟩ := id hD
             clear hk hD jw
             go_simp
             try rfl
           simp only [Act.put, List.setIfInBounds_toArray, List.set_cons_zero, List.set_cons_succ]))
      refine Fx.val_ ?_ (by rfl) ?_ (fun f w h => h) ?_
      rotate_left
      · intro f w' hD hk
        obtain ⟨jw, _⟩ := id hD
        have hp18_ : f 18 = false := hk.2.1 18 (by kernel_rfl)
        have hb_ : f 19 = false := hk.un 19 18 (by kernel_rfl) hp18_
        have ha_ : f 20 = false := hk.un 20 19 (by kernel_rfl) hb_
        rw [hb_, ha_] at jw
        simp only [Bool.false_eq_true, if_false] at jw
        have q1 : w'.cell? ⟨ga, 0, none⟩ = some (.int .i64 u) := by rw [jw]; exact d1
        clear hk hD jw hb_ ha_ hp18_
        go_simp
        try rfl
      simp only [Act.put, List.setIfInBounds_toArray, List.set_cons_zero, List.set_cons_succ]
      repeat (first
        | (refine Fx.skip_ (by rfl) (fun f w h => h) ?_; simp only [Act.put, List.setIfInBounds_toArray, List.set_cons_zero, List.set_cons_succ])
        | (refine Fx.val_ ?_ (by rfl) ?_ (fun f w h => h) ?_
           rotate_left
           · intro f w' hD hk
             obtain ⟨jw, _⟩ := id hD
             clear hk hD jw
             go_simp
             try rfl
           simp only [Act.put, List.setIfInBounds_toArray, List.set_cons_zero, List.set_cons_succ]))
      refine Fx.val_ ?_ (by rfl) ?_ (fun f w h => h) ?_
      rotate_left
      · intro f w' hD hk
        obtain ⟨jw, _⟩ := id hD
        have hp18_ : f 18 = false := hk.2.1 18 (by kernel_rfl)
        have hb_ : f 19 = false := hk.un 19 18 (by kernel_rfl) hp18_
        have ha_ : f 20 = false := hk.un 20 19 (by kernel_rfl) hb_
        rw [hb_, ha_] at jw
        simp only [Bool.false_eq_true, if_false] at jw
        have q1 : w'.cell? ⟨ga, 1, none⟩ = some (.int .i64 v) := by rw [jw]; exact d2
        clear hk hD jw hb_ ha_ hp18_
        go_simp
        try rfl
      simp only [Act.put, List.setIfInBounds_toArray, List.set_cons_zero, List.set_cons_succ]
      repeat (first
        | (refine Fx.skip_ (by rfl) (fun f w h => h) ?_; simp only [Act.put, List.setIfInBounds_toArray, List.set_cons_zero, List.set_cons_succ])
        | (refine Fx.val_ ?_ (by rfl) ?_ (fun f w h => h) ?_
           rotate_left
           · intro f w' hD hk
             obtain ⟨jw, _⟩ := id hD
             clear hk hD jw
             go_simp
             try rfl
           simp only [Act.put, List.setIfInBounds_toArray, List.set_cons_zero, List.set_cons_succ]))
      refine Fx.val_ ?_ (by rfl) ?_ (fun f w h => h) ?_
      rotate_left
      · intro f w' hD hk
        obtain ⟨jw, _⟩ := id hD
        have hp9_ : f 9 = false := hk.2.1 9 (by kernel_rfl)
        have hp10_ : f 10 = false := hk.un 10 9 (by kernel_rfl) hp9_
        have hp17_ : f 17 = false := hk.un 17 10 (by kernel_rfl) hp10_
        have hp18_ : f 18 = false := hk.un 18 17 (by kernel_rfl) hp17_
        have hb_ : f 19 = false := hk.un 19 18 (by kernel_rfl) hp18_
        have ha_ : f 20 = false := hk.un 20 19 (by kernel_rfl) hb_
        rw [hb_, ha_] at jw
        simp only [Bool.false_eq_true, if_false] at jw
        have q1 : w'.cell? ⟨gb, 0, none⟩ = some (.int .i64 q0) := by rw [jw]; exact d3
        clear hk hD jw hb_ ha_ hp9_ hp10_ hp17_ hp18_
        go_simp
        try rfl
      simp only [Act.put, List.setIfInBounds_toArray, List.set_cons_zero, List.set_cons_succ]
      repeat (first
        | (refine Fx.skip_ (by rfl) (fun f w h => h) ?_; simp only [Act.put, List.setIfInBounds_toArray, List.set_cons_zero, List.set_cons_succ])
        | (refine Fx.val_ ?_ (by rfl) ?_ (fun f w h => h) ?_
           rotate_left
           · intro f w' hD hk
             obtain ⟨jw, _⟩ := id hD
             clear hk hD jw
             go_simp
             try rfl
           simp only [Act.put, List.setIfInBounds_toArray, List.set_cons_zero, List.set_cons_succ]))
      refine Fx.val_ ?_ (by rfl) ?_ (fun f w h => h) ?_
      rotate_left
      · intro f w' hD hk
        obtain ⟨jw, _⟩ := id hD
        have hp15_ : f 15 = false := hk.2.1 15 (by kernel_rfl)
        have hp16_ : f 16 = false := hk.un 16 15 (by kernel_rfl) hp15_
        have hp17_ : f 17 = false := hk.un 17 16 (by kernel_rfl) hp16_
        have hp18_ : f 18 = false := hk.un 18 17 (by kernel_rfl) hp17_
        have hb_ : f 19 = false := hk.un 19 18 (by kernel_rfl) hp18_
        have ha_ : f 20 = false := hk.un 20 19 (by kernel_rfl) hb_
        rw [hb_, ha_] at jw
        simp only [Bool.false_eq_true, if_false] at jw
        have q1 : w'.cell? ⟨gb, 1, none⟩ = some (.int .i64 q1) := by rw [jw]; exact d4
        clear hk hD jw hb_ ha_ hp15_ hp16_ hp17_ hp18_
        go_simp
        try rfl
      simp only [Act.put, List.setIfInBounds_toArray, List.set_cons_zero, List.set_cons_succ]
      repeat (first
        | (refine Fx.skip_ (by rfl) (fun f w h => h) ?_; simp only [Act.put, List.setIfInBounds_toArray, List.set_cons_zero, List.set_cons_succ])
        | (refine Fx.val_ ?_ (by rfl) ?_ (fun f w h => h) ?_
           rotate_left
           · intro f w' hD hk
             obtain ⟨jw, _⟩ := id hD
             clear hk hD jw
             go_simp
             try rfl
           simp only [Act.put, List.setIfInBounds_toArray, List.set_cons_zero, List.set_cons_succ]))
      refine Fx.eff_ (.slice (some ⟨W0.heap.size, 0, none⟩) 1 1) (fun w' => W1) (by rfl) ?_ ?_ ?_
      · intro f w' hD hk
        obtain ⟨jw, _⟩ := id hD
        have hb_ : f 19 = false := hk.1
        have ha_ : f 20 = false := hk.un 20 19 (by kernel_rfl) hb_
        rw [hb_, ha_] at jw
        simp only [Bool.false_eq_true, if_false] at jw
        subst jw
        clear hk hD
        rw [hW1]
        go_simp
      · intro f w' hD hk
        obtain ⟨jw, _⟩ := id hD
        have hb_ : f 19 = false := hk.1
        have ha_ : f 20 = false := hk.un 20 19 (by kernel_rfl) hb_
        rw [hb_, ha_] at jw
        simp only [Bool.false_eq_true, if_false] at jw
        subst jw
        exact ⟨by simp [Fx.add, ha_], trivial⟩
      simp only [Act.put, List.setIfInBounds_toArray, List.set_cons_zero, List.set_cons_succ]
      refine Fx.eff_ (v') (fun w' => W2) (by rfl) ?_ ?_ ?_
      · intro f w' hD hk
        obtain ⟨jw, _⟩ := id hD
        have hb_ : f 19 = true := hk.2.2.1 19 (by kernel_rfl)
        have ha_ : f 20 = false := hk.1
        rw [hb_, ha_] at jw
        simp only [Bool.false_eq_true, if_false, if_true] at jw
        subst jw
        exact exec_append (.tmp 109) (.tmp 128) _ rfl HRUN.out
      · intro f w' hD hk
        obtain ⟨jw, _⟩ := id hD
        have hb_ : f 19 = true := hk.2.2.1 19 (by kernel_rfl)
        have ha_ : f 20 = false := hk.1
        rw [hb_, ha_] at jw
        simp only [Bool.false_eq_true, if_false, if_true] at jw
        subst jw
        exact ⟨by simp [Fx.add], trivial⟩
      simp only [Act.put, List.setIfInBounds_toArray, List.set_cons_zero, List.set_cons_succ]
      repeat (first
        | (refine Fx.skip_ (by rfl) (fun f w h => h) ?_; simp only [Act.put, List.setIfInBounds_toArray, List.set_cons_zero, List.set_cons_succ])
        | (refine Fx.val_ ?_ (by rfl) ?_ (fun f w h => h) ?_
           rotate_left
           · intro f w' hD hk
             obtain ⟨jw, _⟩ := id hD
             clear hk hD jw
             go_simp
             try rfl
           simp only [Act.put, List.setIfInBounds_toArray, List.set_cons_zero, List.set_cons_succ]))
      refine Fx.nil_ ?_
      intro f w1 hall hD
      have hf20 := hall 20 (by simp)
      obtain ⟨jw, _⟩ := hD
      simp only [hf20, if_true] at *
      subst jw
      try clear hall
      clear d1 d2 d3 d4 x0 x1 y0 y1
      go_wp2
      go_roundw
      case rel => exact ⟨i + 1, by omega, by go_num, HB5.out, HO6.out, fun q hq => by
          rw [List.take_add_one, HPR.out] at hq
          rcases List.mem_append.1 hq with h | h
          · exact HPP.out q h
          · obtain rfl : q = ((u : Int), (v : Int)) := by simpa using h
            exact ⟨⟨by simp only; omega, by simp only; omega⟩, ⟨by simp only; omega, by simp only; omega⟩, by simp only; omega⟩, fun q hq => by
          rw [List.take_add_one, HER.out] at hq
          rcases List.mem_append.1 hq with h | h
          · exact HEE.out q h
          · obtain rfl : q = (q0, q1) := by simpa using h
            exact ⟨⟨by simp only; omega, by simp only; omega⟩, ⟨by simp only; omega, by simp only; omega⟩⟩⟩
      case measure => simp [intOf]; omega
end Go.Proofs.Ytkfecbkcghmmhaa

end

section
/- Plain law of measured profiles: readings of a true profile are right, and half the errors never widen the table. -/
namespace Go.Proofs.Ytkfecbkcghmmhaa

theorem measL_mem {hs : List Int} {part : Int} {ps es : List (Int × Int)} {q : Quad} (h : q ∈ measL hs part ps es) : ∃ p e, p ∈ ps ∧ e ∈ es ∧ q = measQ hs part p e := by
  unfold measL at h
  obtain ⟨⟨p, e⟩, hx, rfl⟩ := List.mem_map.1 h
  exact ⟨p, e, (List.of_mem_zip hx).1, (List.of_mem_zip hx).2, rfl⟩
theorem hgt_in {hs : List Int} (hh : ∀ z ∈ hs, -100000 ≤ z ∧ z ≤ 100000) (v : Nat) : -100000 ≤ hgtF hs v ∧ hgtF hs v ≤ 100000 := by
  unfold hgtF
  rw [List.getD_eq_getElem?_getD]
  cases h : hs[v]? with
  | none => show (-100000 : Int) ≤ 0 ∧ (0 : Int) ≤ 100000; omega
  | some z => exact hh z (List.mem_of_getElem? h)
theorem half_in {e part : Int} (hp : part = 1 ∨ part = 2) (h : 0 ≤ e ∧ e ≤ 100000) : 0 ≤ e / part ∧ e / part ≤ 100000 := by
  rcases hp with rfl | rfl <;> omega
theorem meas_rd {hs : List Int} {ps es : List (Int × Int)} (h : MeasOk hs ps es) {part : Int} (hp : part = 1 ∨ part = 2) : RdOk hs.length (measL hs part ps es) := by
  intro q hq
  obtain ⟨p, e, h1, h2, rfl⟩ := measL_mem hq
  have a1 := h.par p h1
  have a2 := h.err e h2
  have b1 := half_in hp a2.1
  have b2 := half_in hp a2.2
  have c1 := hgt_in h.hgt p.1.toNat
  have c2 := hgt_in h.hgt p.2.toNat
  refine ⟨a1.1, a1.2.1, a1.2.2, ?_, ?_, ?_⟩ <;> (show _ ≤ _; simp only [measQ]; omega)
theorem meas_keep {hs : List Int} {ps es : List (Int × Int)} (h : MeasOk hs ps es) {part : Int} (hp : part = 1 ∨ part = 2) : KeepQ (hgtF hs) (measL hs part ps es) := by
  intro q hq
  obtain ⟨p, e, h1, h2, rfl⟩ := measL_mem hq
  have a2 := h.err e h2
  have b1 := half_in hp a2.1
  have b2 := half_in hp a2.2
  refine ⟨?_, ?_⟩ <;> (show _ ≤ _; simp only [measQ]; omega)
/-- Two lists of arcs that lead alike, the first ones not longer. -/
inductive ArsLe : List Arc → List Arc → Prop
  | nil : ArsLe [] []
  | cons {a b : Arc} {l m : List Arc} : a.1 = b.1 → a.2.1 = b.2.1 → a.2.2 ≤ b.2.2 → ArsLe l m → ArsLe (a :: l) (b :: m)
theorem ArsLe.append {l m l' m' : List Arc} (h : ArsLe l m) (h' : ArsLe l' m') : ArsLe (l ++ l') (m ++ m') := by
  induction h with
  | nil => exact h'
  | cons a b c _ ih => exact .cons a b c ih
end Go.Proofs.Ytkfecbkcghmmhaa

end

section
/- A mirror of two zones is judged by a reading. -/
namespace Go.Proofs.Ytkfecbkcghmmhaa
open Go Go.RowKit

def knownJ : List Quad := [(0, 1, 5, 7)]
theorem knownj_enc : encR (tabT 2 (arsOf knownJ)) 2 = [(0, 0), (5, 7)] := by decide
theorem knownj_whole : wholeT 2 (tabT 2 (arsOf knownJ)) = true := by decide
theorem knownj_rd : RdOk 2 knownJ := by
  intro r hr
  obtain rfl : r = (0, 1, 5, 7) := by simpa [knownJ] using hr
  simp
theorem knownj_keep : KeepQ (fun v => if v = 1 then 6 else 0) knownJ := by
  intro r hr
  obtain rfl : r = (0, 1, 5, 7) := by simpa [knownJ] using hr
  simp
theorem knownj_e1 : judgeErr [(0, 0), (5, 7)] 7 7 = 0 := by decide
theorem knownj_e2 : judgeErr [(0, 0), (5, 7)] 4 9 = 0 := by decide
theorem knownj_1 : judgeF [(0, 0), (5, 7)] 7 7 = (1, (0, 0)) := by decide
theorem knownj_2 : judgeF [(0, 0), (5, 7)] 4 9 = (-1, (1, 0)) := by decide
set_option maxRecDepth 100000 in
set_option maxHeartbeats 4000000 in
theorem judges_is (w : World) : Calls Try.prog 4 #[] w fun e w' => e = .returned (.bool true) ∧ Below w.heap.size w w' := by
  have HENC := Lib.hid (fun (c : Nat) (A : Option Addr) (w : World) => enclosure_is A 1 c 2 knownJ (fun v => if v = 1 then 6 else 0) _ true rfl knownj_whole (by omega) (by omega) (by omega) knownj_rd (fun v _ => by split <;> omega) knownj_keep w)
  go_enter Try.func4, Try.ntmps4
  go_wp2_with fail
  generalize hW : w.alloc _ = w1
  have hb1 : Below w.heap.size w w1 := by rw [← hW]; exact (Below.refl _ _).alloc (Nat.le_refl _) _
  have hk1 : Blk w1 w.heap.size 54 (cells4 knownJ).toArray := by rw [← hW]; exact Blk.new _ _ _
  have HB1 := Lib.hid hb1
  refine (HENC.out 1 _ w1 (Blk.reads hk1 rfl)).mono ?_
  clear hW hb1 hk1
  rintro e w2 ⟨hb, A, c, rfl, hr⟩
  rw [knownj_enc] at hr
  have HB2 := Lib.hid (show Below w.heap.size w w2 from step_below hb (by repeat' (first | exact Below.refl _ _ | exact HB1.out | refine below_drewN ?_ _ | refine Below.drew ?_ | refine Below.alloc ?_ (by first | omega | (simp; done) | (simp; omega) | (simp [World.setCell]; omega)) _ | refine Below.setCell ?_ (by first | omega | (simp; done) | (simp; omega)) _ | assumption)))
  have hz2 := hb.size
  try simp only [World.size_alloc, World.drewN, World.drew] at hz2
  clear hb
  have R0_2 := Lib.hid hr
  clear hr
  go_wp2_with fail
  refine (Judge_ok A 2 c [(0, 0), (5, 7)] 7 7 knownj_e1 1 0 0 knownj_1 _ R0_2.out).mono ?_
  rintro e w3 ⟨rfl, hb⟩
  have HB3 := Lib.hid (show Below w.heap.size w w3 from step_below hb (by repeat' (first | exact Below.refl _ _ | exact HB2.out | refine below_drewN ?_ _ | refine Below.drew ?_ | refine Below.alloc ?_ (by first | omega | (simp; done) | (simp; omega) | (simp [World.setCell]; omega)) _ | refine Below.setCell ?_ (by first | omega | (simp; done) | (simp; omega)) _ | assumption)))
  have hL3 := Lib.hid (show Below w2.heap.size w2 _ from reads_mid hb (by repeat' (first | exact Below.refl _ _ | refine below_drewN ?_ _ | refine Below.drew ?_ | refine Below.alloc ?_ (by first | omega | (simp; done) | (simp; omega) | (simp [World.setCell]; omega)) _ | refine Below.setCell ?_ (by first | omega | (simp; done) | (simp; omega)) _)))
  have R0_3 := Lib.hid (reads_lay hb hL3.out R0_2.out)
  clear hL3 R0_2
  have hz3 := hb.size
  try simp only [World.size_alloc, World.drewN, World.drew] at hz3
  clear hb
  go_wp2_with fail
  generalize hwn : (w3.alloc (.cells #[.int .i64 (0), .int .i64 (0)] 43)) = w4
  have hbn : Below w3.heap.size w3 w4 := by rw [← hwn]; repeat' (first | exact Below.refl _ _ | refine below_drewN ?_ _ | refine Below.drew ?_ | refine Below.alloc ?_ (by first | omega | (simp; done) | (simp; omega) | (simp [World.setCell]; omega)) _ | refine Below.setCell ?_ (by first | omega | (simp; done) | (simp; omega)) _)
  have HB4 := Lib.hid (show Below w.heap.size w w4 from HB3.out.trans (hbn.mono HB3.out.size))
  have K0_4 := Lib.hid (show Blk w4 (w3.heap.size) 43 #[.int .i64 (0), .int .i64 (0)] by rw [← hwn]; repeat' (first | exact Blk.at_ _ (by first | rfl | (simp; done) | (simp; omega)) _ _ | refine Blk.drewN ?_ _ | refine Blk.drew ?_ | refine Blk.alloc ?_ _ | refine Blk.far ?_ (by first | omega | (simp; done) | (simp; omega)) _ | assumption))
  have R0_4 := Lib.hid ((R0_3.out.below hbn).more hbn.size)
  have HN4 := Lib.hid hbn
  have hz4 := hbn.size
  clear hwn hbn R0_3
  have l0_4 : w3.heap.size < w4.heap.size := K0_4.out.lt
  have z0_0_4 : w4.cell? ⟨w3.heap.size, 0, none⟩ = some (.int .i64 (0)) := K0_4.out.cell 0
  have z0_1_4 : w4.cell? ⟨w3.heap.size, 1, none⟩ = some (.int .i64 (0)) := K0_4.out.cell 1
  refine (Judge_ok A 2 c [(0, 0), (5, 7)] 4 9 knownj_e2 (-1) 1 0 knownj_2 _ R0_4.out).mono ?_
  rintro e w5 ⟨rfl, hb⟩
  have HB5 := Lib.hid (show Below w.heap.size w w5 from step_below hb (by repeat' (first | exact Below.refl _ _ | exact HB4.out | refine below_drewN ?_ _ | refine Below.drew ?_ | refine Below.alloc ?_ (by first | omega | (simp; done) | (simp; omega) | (simp [World.setCell]; omega)) _ | refine Below.setCell ?_ (by first | omega | (simp; done) | (simp; omega)) _ | assumption)))
  have K0_5 := Lib.hid (step_blk hb (show Blk _ (w3.heap.size) 43 #[.int .i64 (0), .int .i64 (0)] by repeat' (first | exact K0_4.out | exact Blk.at_ _ (by first | rfl | (simp; done) | (simp; omega)) _ _ | refine Blk.drewN ?_ _ | refine Blk.drew ?_ | refine Blk.alloc ?_ _ | refine Blk.far ?_ (by first | omega | (simp; done) | (simp; omega)) _ | assumption)))
  have hL5 := Lib.hid (show Below w4.heap.size w4 _ from reads_mid hb (by repeat' (first | exact Below.refl _ _ | refine below_drewN ?_ _ | refine Below.drew ?_ | refine Below.alloc ?_ (by first | omega | (simp; done) | (simp; omega) | (simp [World.setCell]; omega)) _ | refine Below.setCell ?_ (by first | omega | (simp; done) | (simp; omega)) _)))
  have R0_5 := Lib.hid (reads_lay hb hL5.out R0_4.out)
  clear hL5 R0_4
  have hz5 := hb.size
  try simp only [World.size_alloc, World.drewN, World.drew] at hz5
  clear hb K0_4 z0_0_4 z0_1_4 l0_4
  have l0_5 : w3.heap.size < w5.heap.size := K0_5.out.lt
  have z0_0_5 : w5.cell? ⟨w3.heap.size, 0, none⟩ = some (.int .i64 (0)) := K0_5.out.cell 0
  have z0_1_5 : w5.cell? ⟨w3.heap.size, 1, none⟩ = some (.int .i64 (0)) := K0_5.out.cell 1
  go_wp2
  generalize hwn : (w5.alloc (.cells #[.int .i64 (1), .int .i64 (0)] 43)) = w6
  have hbn : Below w5.heap.size w5 w6 := by rw [← hwn]; repeat' (first | exact Below.refl _ _ | refine below_drewN ?_ _ | refine Below.drew ?_ | refine Below.alloc ?_ (by first | omega | (simp; done) | (simp; omega) | (simp [World.setCell]; omega)) _ | refine Below.setCell ?_ (by first | omega | (simp; done) | (simp; omega)) _)
  have HB6 := Lib.hid (show Below w.heap.size w w6 from HB5.out.trans (hbn.mono HB5.out.size))
  have K0_6 := Lib.hid (step_blk hbn K0_5.out)
  have K1_6 := Lib.hid (show Blk w6 (w5.heap.size) 43 #[.int .i64 (1), .int .i64 (0)] by rw [← hwn]; repeat' (first | exact Blk.at_ _ (by first | rfl | (simp; done) | (simp; omega)) _ _ | refine Blk.drewN ?_ _ | refine Blk.drew ?_ | refine Blk.alloc ?_ _ | refine Blk.far ?_ (by first | omega | (simp; done) | (simp; omega)) _ | assumption))
  have R0_6 := Lib.hid ((R0_5.out.below hbn).more hbn.size)
  have HN6 := Lib.hid hbn
  have hz6 := hbn.size
  clear hwn hbn K0_5 l0_5 z0_0_5 z0_1_5 R0_5
  have l0_6 : w3.heap.size < w6.heap.size := K0_6.out.lt
  have z0_0_6 : w6.cell? ⟨w3.heap.size, 0, none⟩ = some (.int .i64 (0)) := K0_6.out.cell 0
  have z0_1_6 : w6.cell? ⟨w3.heap.size, 1, none⟩ = some (.int .i64 (0)) := K0_6.out.cell 1
  have l1_6 : w5.heap.size < w6.heap.size := K1_6.out.lt
  have z1_0_6 : w6.cell? ⟨w5.heap.size, 0, none⟩ = some (.int .i64 (1)) := K1_6.out.cell 0
  have z1_1_6 : w6.cell? ⟨w5.heap.size, 1, none⟩ = some (.int .i64 (0)) := K1_6.out.cell 1
  go_ret
  exact ⟨rfl, by repeat' (first | exact Below.refl _ _ | exact HB6.out | refine below_drewN ?_ _ | refine Below.drew ?_ | refine Below.alloc ?_ (by first | omega | (simp; done) | (simp; omega) | (simp [World.setCell]; omega)) _ | refine Below.setCell ?_ (by first | omega | (simp; done) | (simp; omega)) _ | assumption)⟩
end Go.Proofs.Ytkfecbkcghmmhaa

end
