import Derived.Test.YtfigbdhfmlhjdaaQ23
import Derived.Test.YtfigbdhfmlhjdaaQ24
import Derived.Test.YtfigbdhfmlhjdaaRows
import Derived.Test.YtfigbdhfmlhjdaaQ1
import Derived.ProofKit
import Derived.OpenShut
import Derived.ReadAgain
import Derived.Lib.SmallJoins
import Derived.Deep.Slices
import Derived.Deep.Fields
import Derived.Test.YtfigbdhfmlhjdaaQ5
import Derived.Test.YtfigbdhfmlhjdaaQ4
import Derived.JoinedOf

section
/- The reference's pivots of all rockers. -/
namespace Go.Proofs.Ytfigbdhfmlhjdaa
open Go Go.RowKit Go.Maps

theorem pv_none {l : List Rk} {g : ByteArray → Int} {s : ByteArray} (h : flV l g s = true) : pvF l g l.length s = none := by
  rw [pvF_eq]; unfold flV at h; rw [if_pos h]
theorem pv_some {l : List Rk} {g : ByteArray → Int} {s : ByteArray} {p : Int × Int} (h : flV l g s = false) (hp : plV l g s = p) : pvF l g l.length s = some p := by
  rw [pvF_eq]; unfold flV at h; rw [if_neg (by rw [h]; simp)]; unfold plV at hp; rw [hp]

set_option maxRecDepth 100000 in
set_option maxHeartbeats 8000000 in
theorem rpivots_ok (l : List Rk) (hfits : ∀ r ∈ l, r.Fits) (A : Option Addr) (n c : Nat) (B : Option Addr) (m cb : Nat) (xs : List (Int × Int)) (w : World) (hx : Reads w w.heap.size 5 A n (rkCells l)) (hy : Reads w w.heap.size 2 B m (cells2 xs)) (hn : n ≤ 1000) (h0 : openErr l = 0) (ps : List ByteArray) (hp : ptsOf l = some ps) (hps : ps.length ≤ 1000000) (hm : ps.length = m) :
    Calls Try.prog 10 #[.slice A n c, .slice B m cb] w (PivotsPost l ps xs n w) := by
  have hnd := Lib.hid (points_nodup h0 hp)
  have hln := hx.len5
  have hxl : xs.length = m := hy.len2
  have H0 := Lib.hid h0
  have HP := Lib.hid hp
  have HM := Lib.hid hm
  have HXL := Lib.hid hxl
  have HX := Lib.hid hx
  have HY := Lib.hid hy
  have hmM : m ≤ 1000000 := by omega
  have harms := Lib.hid (arms_of h0)
  clear h0 hp hm hxl hx hy
  go_enter Try.func10, Try.ntmps10
  go_wp2_with fail
  refine (rpoints_any l hfits A n c _ _ HX.out (Nat.le_refl _) (by omega) H0.out ps HP.out hps).mono ?_
  rintro e w1 ⟨hb, A1, c1, rfl, ho⟩
  have HB1 := Lib.hid (show Below w.heap.size w w1 from step_below hb (by repeat' (first | exact Below.refl _ _ | exact HB0.out | refine below_drewN ?_ _ | refine Below.drew ?_ | refine Below.alloc ?_ (by first | omega | (simp; done) | (simp; omega) | (simp [World.setCell]; omega)) _ | refine Below.setCell ?_ (by first | omega | (simp; done) | (simp; omega)) _ | assumption)))
  have hz1 := hb.size
  try simp only [World.size_alloc, World.drewN, World.drew] at hz1
  clear hb
  have hr1 := own_reads2 ho
  rw [HM.out] at hr1
  have HR1 := Lib.hid hr1
  have hs01 := HB1.out.size
  rw [HM.out]
  have e1 : ((m : Int) != (m : Int)) = false := by simp
  clear ho hr1
  go_wp2
  go_loopw [7] (fun i wr => ∃ k : Nat, k ≤ m ∧ i = .int .i64 k ∧ (∀ (q : Nat) (p : Int × Int), q < k → xs[q]? = some p → (withinB p.1 (-1000000) 1000000 && withinB p.2 (-1000000) 1000000) = true) ∧ w1 = wr) (fun i _ => m - (intOf i).toNat)
  case atStart => exact ⟨0, by omega, rfl, fun q p hq => absurd hq (by omega), rfl⟩
  case round =>
    obtain ⟨k, hk, rfl, hup, rfl⟩ := hrel
    have HUP := Lib.hid hup
    clear hup
    by_cases hkt : k < m
    · have hkk : (k : Int) < (m : Int) := by omega
      obtain ⟨xb, xo, ⟨a, b⟩, hBe, hxb, hgx, c0, c1⟩ := (HY.out.below HB1.out).pair hkt
      simp only at c0 c1
      have HGX := Lib.hid hgx
      subst hBe
      obtain ⟨ta, hta⟩ : ∃ t, withinB a (-1000000) 1000000 = t := ⟨_, rfl⟩
      obtain ⟨tb, htb⟩ : ∃ t, withinB b (-1000000) 1000000 = t := ⟨_, rfl⟩
      have HTA := Lib.hid hta
      have HTB := Lib.hid htb
      clear hgx hta htb
      cases ta with
      | false =>
        have HAT := Lib.hid (at_no HGX.out (show (withinB a _ _ && withinB b _ _) = false by rw [HTA.out]; rfl))
        go_wp2_with fail
        refine (withinref_is _ _ _ false HTA.out _).mono ?_
        rintro e w' ⟨rfl, rfl⟩
        go_wp2
        go_ret2
        exact ⟨HB1.out, .inl ⟨HAT.out, rfl⟩⟩
      | true =>
        go_wp2_with fail
        refine (withinref_is _ _ _ true HTA.out _).mono ?_
        rintro e w' ⟨rfl, rfl⟩
        cases tb with
        | false =>
          have HAT := Lib.hid (at_no HGX.out (show (withinB a _ _ && withinB b _ _) = false by rw [HTA.out, HTB.out]; rfl))
          go_wp2_with fail
          refine (withinref_is _ _ _ false HTB.out _).mono ?_
          rintro e w' ⟨rfl, rfl⟩
          go_wp2
          go_ret2
          exact ⟨HB1.out, .inl ⟨HAT.out, rfl⟩⟩
        | true =>
          go_wp2_with fail
          refine (withinref_is _ _ _ true HTB.out _).mono ?_
          rintro e w' ⟨rfl, rfl⟩
          have HUP' := Lib.hid (show ∀ (q : Nat) (p : Int × Int), q < k + 1 → xs[q]? = some p → (withinB p.1 (-1000000) 1000000 && withinB p.2 (-1000000) 1000000) = true from fun q p hq hp => by
            rcases Nat.lt_succ_iff_lt_or_eq.1 hq with h | h
            · exact HUP.out q p h hp
            · subst h
              obtain rfl := Option.some.inj (HGX.out.symm.trans hp)
              show (withinB a _ _ && withinB b _ _) = true
              rw [HTA.out, HTB.out]; rfl)
          go_wp2
          go_roundw
          case rel => exact ⟨k + 1, by omega, by go_num, HUP'.out, trivial⟩
          case measure => simp [intOf]; omega
    obtain rfl : m = k := by omega
    have hat := at_yes (xs := xs) fun q p hq hp => HUP.out q p (by rw [HXL.out] at hq; exact hq) hp
    have HAT := Lib.hid hat
    have HPV0 := Lib.hid (show ∀ (i : Nat) (r : Rk), l[i]? = some r → ∀ w', Below w1.heap.size w1 w' → Calls Try.prog 34 #[.slice A n c, .string r.name, .slice A1 m c1, .slice B m cb, .int .i64 0] w' (fun e w'' => e = pvE (pvF l (atG0 ps xs) l.length r.name) ∧ Below w'.heap.size w' w'') from fun i r hr w' hb =>
      rpivot_any l harms.out (atG0 ps xs) (atG0_in hat) A n c w1.heap.size A1 m c1 B cb ps xs 0 (by omega) (by omega) hmM (fun k s p hs hp => by rw [if_pos rfl]; exact (at_val hnd.out hs hp).1.symm) HXL.out HM.out l.length r.name _ w' (below_pts H0.out _) (below_rk H0.out hr HP.out) hb.size (((HX.out.below HB1.out).more hs01).below hb) (HR1.out.below hb) (((HY.out.below HB1.out).more hs01).below hb))
    have HPV1 := Lib.hid (show ∀ (i : Nat) (r : Rk), l[i]? = some r → ∀ w', Below w1.heap.size w1 w' → Calls Try.prog 34 #[.slice A n c, .string r.name, .slice A1 m c1, .slice B m cb, .int .i64 1] w' (fun e w'' => e = pvE (pvF l (atG1 ps xs) l.length r.name) ∧ Below w'.heap.size w' w'') from fun i r hr w' hb =>
      rpivot_any l harms.out (atG1 ps xs) (atG1_in hat) A n c w1.heap.size A1 m c1 B cb ps xs 1 (by omega) (by omega) hmM (fun k s p hs hp => by rw [if_neg (by omega)]; exact (at_val hnd.out hs hp).2.symm) HXL.out HM.out l.length r.name _ w' (below_pts H0.out _) (below_rk H0.out hr HP.out) hb.size (((HX.out.below HB1.out).more hs01).below hb) (HR1.out.below hb) (((HY.out.below HB1.out).more hs01).below hb))
    clear hkt HUP hat
    go_wp2
    go_loopw [8, 9] (fun o i wr => ∃ k : Nat, k ≤ n ∧ i = .int .i64 k ∧ Below w1.heap.size w1 wr ∧ (∀ (q : Nat) (r : Rk), q < k → l[q]? = some r → fl2 l (atG0 ps xs) (atG1 ps xs) r.name = false) ∧ wr.ownsRow w1.heap.size 36 4 o k (pvCells l (atG0 ps xs) (atG1 ps xs) (l.take k))) (fun _ i _ => n - (intOf i).toNat)
    case atStart => exact ⟨0, by omega, rfl, Below.refl _ _, fun q r hq => absurd hq (by omega), World.ownsRow_nil _ _ _ _⟩
    case round =>
      obtain ⟨k, hk, rfl, hb12, hfl, ho2⟩ := hrel
      obtain ⟨w2, hnm⟩ : ∃ z : World, z = wr := ⟨_, rfl⟩
      subst hnm
      have HB12 := Lib.hid hb12
      have HB2 := Lib.hid (HB1.out.trans (hb12.mono hs01))
      have HFL := Lib.hid hfl
      have HO2 := Lib.hid ho2
      have hs12 := hb12.size
      clear hb12 hfl ho2
      by_cases hkt : k < n
      rotate_left
      · obtain rfl : n = k := by omega
        have HLG := Lib.hid (show largeB l (atG0 ps xs) (atG1 ps xs) = false by
          unfold largeB
          rw [List.any_eq_false]
          intro r hr
          obtain ⟨i, hi⟩ := List.getElem?_of_mem hr
          rw [HFL.out i r (by rw [← hln]; exact (List.getElem?_eq_some_iff.1 hi).1) hi]
          simp)
        have HOO := Lib.hid (own_base hs01 HO2.out)
        have HTK := Lib.hid (show l.take n = l from List.take_of_length_le (by rw [hln]; exact Nat.le_refl _))
        obtain ⟨A5, c5, rfl, -⟩ := own_reads HOO.out
        go_wp2
        go_ret2
        exact ⟨HB2.out, .inr (.inr ⟨HAT.out, HLG.out, A5, c5, rfl, by have := HOO.out; rw [HTK.out] at this; exact this⟩)⟩
      have hkk : (k : Int) < (n : Int) := by omega
      obtain ⟨rb, ro, r, hAe, hrb, hgr, c0, -, -, -, -⟩ := (HX.out.below HB2.out).rk hkt
      have HGR := Lib.hid hgr
      subst hAe
      have HC0 := Lib.hid c0
      have hrb2 : rb < w2.heap.size := Nat.lt_of_lt_of_le hrb HB2.out.size
      obtain ⟨⟨a0, b0⟩, hq0⟩ : ∃ p, plV l (atG0 ps xs) r.name = p := ⟨_, rfl⟩
      obtain ⟨⟨a1, b1⟩, hq1⟩ : ∃ p, plV l (atG1 ps xs) r.name = p := ⟨_, rfl⟩
      have HQ0 := Lib.hid hq0
      have HQ1 := Lib.hid hq1
      have PV0 := Lib.hid (HPV0.out k r hgr)
      have PV1 := Lib.hid (HPV1.out k r hgr)
      have HLB := Lib.hid (fun (e : fl2 l (atG0 ps xs) (atG1 ps xs) r.name = true) => (show largeB l (atG0 ps xs) (atG1 ps xs) = true from List.any_eq_true.2 ⟨r, List.mem_of_getElem? hgr, e⟩))
      clear hgr c0 hq0 hq1
      obtain ⟨gb, hgb⟩ : ∃ g, w2.heap.size = g := ⟨_, rfl⟩
      obtain ⟨w3, hw3⟩ : ∃ z : World, z = w2.alloc (.cells #[.int .i64 0, .int .i64 0, .int .i64 0, .int .i64 0] 36) := ⟨_, rfl⟩
      have hb23 : Below gb w2 w3 := by rw [hw3]; exact (Below.refl _ _).alloc (by omega) _
      have hk3 : Blk w3 gb 36 #[.int .i64 0, .int .i64 0, .int .i64 0, .int .i64 0] := by rw [hw3, ← hgb]; exact Blk.new _ _ _
      have HK3 := Lib.hid hk3
      have HB23 := Lib.hid hb23
      have hs23 := hb23.size
      have hg3 : gb < w3.heap.size := hk3.lt
      clear hb23 hk3
      go_upto_region 14 with fail
      rw [← hw3]
      have HW3 := Lib.hid hw3
      have HGB := Lib.hid hgb
      clear hw3 hgb
      go_wp2
      go_loopw [11] (fun i wr => Below gb w3 wr ∧ ((i = .int .i64 0 ∧ Blk wr gb 36 #[.int .i64 0, .int .i64 0, .int .i64 0, .int .i64 0]) ∨ (i = .int .i64 1 ∧ flV l (atG0 ps xs) r.name = false ∧ Blk wr gb 36 #[.int .i64 a0, .int .i64 b0, .int .i64 0, .int .i64 0]) ∨ (i = .int .i64 2 ∧ flV l (atG0 ps xs) r.name = false ∧ flV l (atG1 ps xs) r.name = false ∧ Blk wr gb 36 #[.int .i64 a0, .int .i64 b0, .int .i64 a1, .int .i64 b1]))) (fun i _ => 2 - (intOf i).toNat)
      case atStart => exact ⟨Below.refl _ _, .inl ⟨rfl, HK3.out⟩⟩
      case round =>
        obtain ⟨hb34, hcase⟩ := hrel
        obtain ⟨w4, hnm⟩ : ∃ z : World, z = wr := ⟨_, rfl⟩
        subst hnm
        have HB34 := Lib.hid hb34
        have HB24 := Lib.hid (HB23.out.trans hb34)
        have hs34 := hb34.size
        have HB14 := Lib.hid (HB12.out.trans (HB24.out.mono (by have := HGB.out; omega)))
        have hb4 := HB2.out.trans (HB24.out.mono (by have := HGB.out; have := HB2.out.size; omega))
        have d0 := (HB24.out.cell (p := ⟨rb, ro + k * 5, none⟩) (by have := HGB.out; show rb < gb; omega)).trans HC0.out
        clear hb34
        rcases hcase with ⟨rfl, hk4⟩ | ⟨rfl, hf0, hk4⟩ | ⟨rfl, hf0, hf1, hk4⟩
        · have HB4 := Lib.hid hb4
          have K0_4 := Lib.hid (show Blk w4 (gb) 36 #[.int .i64 (0), .int .i64 (0), .int .i64 (0), .int .i64 (0)] from hk4)
          clear hb4 hk4
          have l0_4 : gb < w4.heap.size := K0_4.out.lt
          have z0_0_4 : w4.cell? ⟨gb, 0, none⟩ = some (.int .i64 (0)) := K0_4.out.cell 0
          have z0_1_4 : w4.cell? ⟨gb, 1, none⟩ = some (.int .i64 (0)) := K0_4.out.cell 1
          have z0_2_4 : w4.cell? ⟨gb, 2, none⟩ = some (.int .i64 (0)) := K0_4.out.cell 2
          have z0_3_4 : w4.cell? ⟨gb, 3, none⟩ = some (.int .i64 (0)) := K0_4.out.cell 3
          have HA4 := Lib.hid (show Below w4.heap.size w4 w4 from Below.refl _ _)
          cases hf0 : flV l (atG0 ps xs) r.name with
          | true =>
            have PVN := Lib.hid (show ∀ w', Below w1.heap.size w1 w' → Calls Try.prog 34 #[.slice (some ⟨rb, ro, none⟩) n c, .string r.name, .slice A1 m c1, .slice B m cb, .int .i64 0] w' (fun e w'' => e = .returned (.tuple #[.agg #[.int .i64 0, .int .i64 0], .bool false]) ∧ Below w'.heap.size w' w'') from fun w' hb => by
              have h := PV0.out w' hb
              rw [pv_none hf0] at h
              exact h)
            have HLG := Lib.hid (HLB.out (by unfold fl2; rw [hf0]; simp))
            go_wp2_with fail
            refine (PVN.out _ HB14.out).mono ?_
            rintro e w5 ⟨rfl, hb⟩
            have HB5 := Lib.hid (show Below w.heap.size w w5 from step_below hb (by repeat' (first | exact Below.refl _ _ | exact HB4.out | refine below_drewN ?_ _ | refine Below.drew ?_ | refine Below.alloc ?_ (by first | omega | (simp; done) | (simp; omega) | (simp [World.setCell]; omega)) _ | refine Below.setCell ?_ (by first | omega | (simp; done) | (simp; omega)) _ | assumption)))
            have K0_5 := Lib.hid (step_blk hb (show Blk _ (gb) 36 #[.int .i64 (0), .int .i64 (0), .int .i64 (0), .int .i64 (0)] by repeat' (first | exact K0_4.out | exact Blk.at_ _ (by first | rfl | (simp; done) | (simp; omega)) _ _ | refine Blk.drewN ?_ _ | refine Blk.drew ?_ | refine Blk.alloc ?_ _ | refine Blk.far ?_ (by first | omega | (simp; done) | (simp; omega)) _ | assumption)))
            have HA5 := Lib.hid (step_below hb HA4.out)
            clear HA4
            have hz5 := hb.size
            try simp only [World.size_alloc, World.drewN, World.drew] at hz5
            clear hb K0_4 z0_0_4 z0_1_4 z0_2_4 z0_3_4 l0_4
            have l0_5 : gb < w5.heap.size := K0_5.out.lt
            have z0_0_5 : w5.cell? ⟨gb, 0, none⟩ = some (.int .i64 (0)) := K0_5.out.cell 0
            have z0_1_5 : w5.cell? ⟨gb, 1, none⟩ = some (.int .i64 (0)) := K0_5.out.cell 1
            have z0_2_5 : w5.cell? ⟨gb, 2, none⟩ = some (.int .i64 (0)) := K0_5.out.cell 2
            have z0_3_5 : w5.cell? ⟨gb, 3, none⟩ = some (.int .i64 (0)) := K0_5.out.cell 3
            go_wp2
            go_ret2
            exact ⟨by repeat' (first | exact Below.refl _ _ | exact HB5.out | refine below_drewN ?_ _ | refine Below.drew ?_ | refine Below.alloc ?_ (by first | omega | (simp; done) | (simp; omega) | (simp [World.setCell]; omega)) _ | refine Below.setCell ?_ (by first | omega | (simp; done) | (simp; omega)) _ | assumption), .inr (.inl ⟨HAT.out, HLG.out, rfl⟩)⟩
          | false =>
            have PVN := Lib.hid (show ∀ w', Below w1.heap.size w1 w' → Calls Try.prog 34 #[.slice (some ⟨rb, ro, none⟩) n c, .string r.name, .slice A1 m c1, .slice B m cb, .int .i64 0] w' (fun e w'' => e = .returned (.tuple #[.agg #[.int .i64 a0, .int .i64 b0], .bool true]) ∧ Below w'.heap.size w' w'') from fun w' hb => by
              have h := PV0.out w' hb
              rw [pv_some hf0 HQ0.out] at h
              exact h)
            have HF0 := Lib.hid hf0
            go_wp2_with fail
            refine (PVN.out _ HB14.out).mono ?_
            rintro e w5 ⟨rfl, hb⟩
            have HB5 := Lib.hid (show Below w.heap.size w w5 from step_below hb (by repeat' (first | exact Below.refl _ _ | exact HB4.out | refine below_drewN ?_ _ | refine Below.drew ?_ | refine Below.alloc ?_ (by first | omega | (simp; done) | (simp; omega) | (simp [World.setCell]; omega)) _ | refine Below.setCell ?_ (by first | omega | (simp; done) | (simp; omega)) _ | assumption)))
            have K0_5 := Lib.hid (step_blk hb (show Blk _ (gb) 36 #[.int .i64 (0), .int .i64 (0), .int .i64 (0), .int .i64 (0)] by repeat' (first | exact K0_4.out | exact Blk.at_ _ (by first | rfl | (simp; done) | (simp; omega)) _ _ | refine Blk.drewN ?_ _ | refine Blk.drew ?_ | refine Blk.alloc ?_ _ | refine Blk.far ?_ (by first | omega | (simp; done) | (simp; omega)) _ | assumption)))
            have HA5 := Lib.hid (step_below hb HA4.out)
            clear HA4
            have hz5 := hb.size
            try simp only [World.size_alloc, World.drewN, World.drew] at hz5
            clear hb K0_4 z0_0_4 z0_1_4 z0_2_4 z0_3_4 l0_4
            have l0_5 : gb < w5.heap.size := K0_5.out.lt
            have z0_0_5 : w5.cell? ⟨gb, 0, none⟩ = some (.int .i64 (0)) := K0_5.out.cell 0
            have z0_1_5 : w5.cell? ⟨gb, 1, none⟩ = some (.int .i64 (0)) := K0_5.out.cell 1
            have z0_2_5 : w5.cell? ⟨gb, 2, none⟩ = some (.int .i64 (0)) := K0_5.out.cell 2
            have z0_3_5 : w5.cell? ⟨gb, 3, none⟩ = some (.int .i64 (0)) := K0_5.out.cell 3
            go_upto_region 20 with fail
            generalize hwn : (w5.alloc (.cells #[.int .i64 (a0), .int .i64 (b0)] 35)) = w6
            have hbn : Below w5.heap.size w5 w6 := by rw [← hwn]; repeat' (first | exact Below.refl _ _ | refine below_drewN ?_ _ | refine Below.drew ?_ | refine Below.alloc ?_ (by first | omega | (simp; done) | (simp; omega) | (simp [World.setCell]; omega)) _ | refine Below.setCell ?_ (by first | omega | (simp; done) | (simp; omega)) _)
            have HB6 := Lib.hid (show Below w.heap.size w w6 from HB5.out.trans (hbn.mono HB5.out.size))
            have K0_6 := Lib.hid (step_blk hbn K0_5.out)
            have K1_6 := Lib.hid (show Blk w6 (w5.heap.size) 35 #[.int .i64 (a0), .int .i64 (b0)] by rw [← hwn]; repeat' (first | exact Blk.at_ _ (by first | rfl | (simp; done) | (simp; omega)) _ _ | refine Blk.drewN ?_ _ | refine Blk.drew ?_ | refine Blk.alloc ?_ _ | refine Blk.far ?_ (by first | omega | (simp; done) | (simp; omega)) _ | assumption))
            have HA6 := Lib.hid (step_below hbn HA5.out)
            clear HA5
            have HN6 := Lib.hid hbn
            have hz6 := hbn.size
            clear hwn hbn K0_5 l0_5 z0_0_5 z0_1_5 z0_2_5 z0_3_5
            have l0_6 : gb < w6.heap.size := K0_6.out.lt
            have z0_0_6 : w6.cell? ⟨gb, 0, none⟩ = some (.int .i64 (0)) := K0_6.out.cell 0
            have z0_1_6 : w6.cell? ⟨gb, 1, none⟩ = some (.int .i64 (0)) := K0_6.out.cell 1
            have z0_2_6 : w6.cell? ⟨gb, 2, none⟩ = some (.int .i64 (0)) := K0_6.out.cell 2
            have z0_3_6 : w6.cell? ⟨gb, 3, none⟩ = some (.int .i64 (0)) := K0_6.out.cell 3
            have l1_6 : w5.heap.size < w6.heap.size := K1_6.out.lt
            have z1_0_6 : w6.cell? ⟨w5.heap.size, 0, none⟩ = some (.int .i64 (a0)) := K1_6.out.cell 0
            have z1_1_6 : w6.cell? ⟨w5.heap.size, 1, none⟩ = some (.int .i64 (b0)) := K1_6.out.cell 1
            have zf0_0 := K0_6.out.frozen 0
            have zf0_1 := K0_6.out.frozen 1
            have zf0_2 := K0_6.out.frozen 2
            have zf0_3 := K0_6.out.frozen 3
            have HB36 := Lib.hid (HB34.out.trans (HA6.out.mono (by omega)))
            have hkn : Blk ((w6.setCell ⟨gb, 0, none⟩ (.int .i64 a0)).setCell ⟨gb, 1, none⟩ (.int .i64 b0)) gb 36 #[.int .i64 a0, .int .i64 b0, .int .i64 0, .int .i64 0] := by simpa using (K0_6.out.set_ 0 (.int .i64 a0)).set_ 1 (.int .i64 b0)
            have HKN := Lib.hid hkn
            clear hkn
            go_wp2
            go_roundw
            case rel => exact ⟨(HB36.out.setCell (p := ⟨gb, 0, none⟩) (Nat.le_refl _) _).setCell (p := ⟨gb, 1, none⟩) (Nat.le_refl _) _, .inr (.inl ⟨by first | rfl | go_num, by first | trivial | exact HF0.out, HKN.out⟩)⟩
            case measure => simp [intOf]
        · have HB4 := Lib.hid hb4
          have K0_4 := Lib.hid (show Blk w4 (gb) 36 #[.int .i64 (a0), .int .i64 (b0), .int .i64 (0), .int .i64 (0)] from hk4)
          clear hb4 hk4
          have l0_4 : gb < w4.heap.size := K0_4.out.lt
          have z0_0_4 : w4.cell? ⟨gb, 0, none⟩ = some (.int .i64 (a0)) := K0_4.out.cell 0
          have z0_1_4 : w4.cell? ⟨gb, 1, none⟩ = some (.int .i64 (b0)) := K0_4.out.cell 1
          have z0_2_4 : w4.cell? ⟨gb, 2, none⟩ = some (.int .i64 (0)) := K0_4.out.cell 2
          have z0_3_4 : w4.cell? ⟨gb, 3, none⟩ = some (.int .i64 (0)) := K0_4.out.cell 3
          have HA4 := Lib.hid (show Below w4.heap.size w4 w4 from Below.refl _ _)
          cases hf1 : flV l (atG1 ps xs) r.name with
          | true =>
            have PVN := Lib.hid (show ∀ w', Below w1.heap.size w1 w' → Calls Try.prog 34 #[.slice (some ⟨rb, ro, none⟩) n c, .string r.name, .slice A1 m c1, .slice B m cb, .int .i64 1] w' (fun e w'' => e = .returned (.tuple #[.agg #[.int .i64 0, .int .i64 0], .bool false]) ∧ Below w'.heap.size w' w'') from fun w' hb => by
              have h := PV1.out w' hb
              rw [pv_none hf1] at h
              exact h)
            have HLG := Lib.hid (HLB.out (by unfold fl2; rw [hf1]; simp))
            go_wp2_with fail
            refine (PVN.out _ HB14.out).mono ?_
            rintro e w5 ⟨rfl, hb⟩
            have HB5 := Lib.hid (show Below w.heap.size w w5 from step_below hb (by repeat' (first | exact Below.refl _ _ | exact HB4.out | refine below_drewN ?_ _ | refine Below.drew ?_ | refine Below.alloc ?_ (by first | omega | (simp; done) | (simp; omega) | (simp [World.setCell]; omega)) _ | refine Below.setCell ?_ (by first | omega | (simp; done) | (simp; omega)) _ | assumption)))
            have K0_5 := Lib.hid (step_blk hb (show Blk _ (gb) 36 #[.int .i64 (a0), .int .i64 (b0), .int .i64 (0), .int .i64 (0)] by repeat' (first | exact K0_4.out | exact Blk.at_ _ (by first | rfl | (simp; done) | (simp; omega)) _ _ | refine Blk.drewN ?_ _ | refine Blk.drew ?_ | refine Blk.alloc ?_ _ | refine Blk.far ?_ (by first | omega | (simp; done) | (simp; omega)) _ | assumption)))
            have HA5 := Lib.hid (step_below hb HA4.out)
            clear HA4
            have hz5 := hb.size
            try simp only [World.size_alloc, World.drewN, World.drew] at hz5
            clear hb K0_4 z0_0_4 z0_1_4 z0_2_4 z0_3_4 l0_4
            have l0_5 : gb < w5.heap.size := K0_5.out.lt
            have z0_0_5 : w5.cell? ⟨gb, 0, none⟩ = some (.int .i64 (a0)) := K0_5.out.cell 0
            have z0_1_5 : w5.cell? ⟨gb, 1, none⟩ = some (.int .i64 (b0)) := K0_5.out.cell 1
            have z0_2_5 : w5.cell? ⟨gb, 2, none⟩ = some (.int .i64 (0)) := K0_5.out.cell 2
            have z0_3_5 : w5.cell? ⟨gb, 3, none⟩ = some (.int .i64 (0)) := K0_5.out.cell 3
            go_wp2
            go_ret2
            exact ⟨by repeat' (first | exact Below.refl _ _ | exact HB5.out | refine below_drewN ?_ _ | refine Below.drew ?_ | refine Below.alloc ?_ (by first | omega | (simp; done) | (simp; omega) | (simp [World.setCell]; omega)) _ | refine Below.setCell ?_ (by first | omega | (simp; done) | (simp; omega)) _ | assumption), .inr (.inl ⟨HAT.out, HLG.out, rfl⟩)⟩
          | false =>
            have PVN := Lib.hid (show ∀ w', Below w1.heap.size w1 w' → Calls Try.prog 34 #[.slice (some ⟨rb, ro, none⟩) n c, .string r.name, .slice A1 m c1, .slice B m cb, .int .i64 1] w' (fun e w'' => e = .returned (.tuple #[.agg #[.int .i64 a1, .int .i64 b1], .bool true]) ∧ Below w'.heap.size w' w'') from fun w' hb => by
              have h := PV1.out w' hb
              rw [pv_some hf1 HQ1.out] at h
              exact h)
            have HF1 := Lib.hid hf1
            go_wp2_with fail
            refine (PVN.out _ HB14.out).mono ?_
            rintro e w5 ⟨rfl, hb⟩
            have HB5 := Lib.hid (show Below w.heap.size w w5 from step_below hb (by repeat' (first | exact Below.refl _ _ | exact HB4.out | refine below_drewN ?_ _ | refine Below.drew ?_ | refine Below.alloc ?_ (by first | omega | (simp; done) | (simp; omega) | (simp [World.setCell]; omega)) _ | refine Below.setCell ?_ (by first | omega | (simp; done) | (simp; omega)) _ | assumption)))
            have K0_5 := Lib.hid (step_blk hb (show Blk _ (gb) 36 #[.int .i64 (a0), .int .i64 (b0), .int .i64 (0), .int .i64 (0)] by repeat' (first | exact K0_4.out | exact Blk.at_ _ (by first | rfl | (simp; done) | (simp; omega)) _ _ | refine Blk.drewN ?_ _ | refine Blk.drew ?_ | refine Blk.alloc ?_ _ | refine Blk.far ?_ (by first | omega | (simp; done) | (simp; omega)) _ | assumption)))
            have HA5 := Lib.hid (step_below hb HA4.out)
            clear HA4
            have hz5 := hb.size
            try simp only [World.size_alloc, World.drewN, World.drew] at hz5
            clear hb K0_4 z0_0_4 z0_1_4 z0_2_4 z0_3_4 l0_4
            have l0_5 : gb < w5.heap.size := K0_5.out.lt
            have z0_0_5 : w5.cell? ⟨gb, 0, none⟩ = some (.int .i64 (a0)) := K0_5.out.cell 0
            have z0_1_5 : w5.cell? ⟨gb, 1, none⟩ = some (.int .i64 (b0)) := K0_5.out.cell 1
            have z0_2_5 : w5.cell? ⟨gb, 2, none⟩ = some (.int .i64 (0)) := K0_5.out.cell 2
            have z0_3_5 : w5.cell? ⟨gb, 3, none⟩ = some (.int .i64 (0)) := K0_5.out.cell 3
            go_upto_region 20 with fail
            generalize hwn : (w5.alloc (.cells #[.int .i64 (a1), .int .i64 (b1)] 35)) = w6
            have hbn : Below w5.heap.size w5 w6 := by rw [← hwn]; repeat' (first | exact Below.refl _ _ | refine below_drewN ?_ _ | refine Below.drew ?_ | refine Below.alloc ?_ (by first | omega | (simp; done) | (simp; omega) | (simp [World.setCell]; omega)) _ | refine Below.setCell ?_ (by first | omega | (simp; done) | (simp; omega)) _)
            have HB6 := Lib.hid (show Below w.heap.size w w6 from HB5.out.trans (hbn.mono HB5.out.size))
            have K0_6 := Lib.hid (step_blk hbn K0_5.out)
            have K1_6 := Lib.hid (show Blk w6 (w5.heap.size) 35 #[.int .i64 (a1), .int .i64 (b1)] by rw [← hwn]; repeat' (first | exact Blk.at_ _ (by first | rfl | (simp; done) | (simp; omega)) _ _ | refine Blk.drewN ?_ _ | refine Blk.drew ?_ | refine Blk.alloc ?_ _ | refine Blk.far ?_ (by first | omega | (simp; done) | (simp; omega)) _ | assumption))
            have HA6 := Lib.hid (step_below hbn HA5.out)
            clear HA5
            have HN6 := Lib.hid hbn
            have hz6 := hbn.size
            clear hwn hbn K0_5 l0_5 z0_0_5 z0_1_5 z0_2_5 z0_3_5
            have l0_6 : gb < w6.heap.size := K0_6.out.lt
            have z0_0_6 : w6.cell? ⟨gb, 0, none⟩ = some (.int .i64 (a0)) := K0_6.out.cell 0
            have z0_1_6 : w6.cell? ⟨gb, 1, none⟩ = some (.int .i64 (b0)) := K0_6.out.cell 1
            have z0_2_6 : w6.cell? ⟨gb, 2, none⟩ = some (.int .i64 (0)) := K0_6.out.cell 2
            have z0_3_6 : w6.cell? ⟨gb, 3, none⟩ = some (.int .i64 (0)) := K0_6.out.cell 3
            have l1_6 : w5.heap.size < w6.heap.size := K1_6.out.lt
            have z1_0_6 : w6.cell? ⟨w5.heap.size, 0, none⟩ = some (.int .i64 (a1)) := K1_6.out.cell 0
            have z1_1_6 : w6.cell? ⟨w5.heap.size, 1, none⟩ = some (.int .i64 (b1)) := K1_6.out.cell 1
            have zf0_0 := K0_6.out.frozen 0
            have zf0_1 := K0_6.out.frozen 1
            have zf0_2 := K0_6.out.frozen 2
            have zf0_3 := K0_6.out.frozen 3
            have HB36 := Lib.hid (HB34.out.trans (HA6.out.mono (by omega)))
            have hkn : Blk ((w6.setCell ⟨gb, 2, none⟩ (.int .i64 a1)).setCell ⟨gb, 3, none⟩ (.int .i64 b1)) gb 36 #[.int .i64 a0, .int .i64 b0, .int .i64 a1, .int .i64 b1] := by simpa using (K0_6.out.set_ 2 (.int .i64 a1)).set_ 3 (.int .i64 b1)
            have HKN := Lib.hid hkn
            clear hkn
            go_wp2
            go_roundw
            case rel => exact ⟨(HB36.out.setCell (p := ⟨gb, 2, none⟩) (Nat.le_refl _) _).setCell (p := ⟨gb, 3, none⟩) (Nat.le_refl _) _, .inr (.inr ⟨by first | rfl | go_num, by first | trivial | exact hf0, by first | trivial | exact HF1.out, HKN.out⟩)⟩
            case measure => simp [intOf]
        · have HB4 := Lib.hid hb4
          have K0_4 := Lib.hid (show Blk w4 (gb) 36 #[.int .i64 (a0), .int .i64 (b0), .int .i64 (a1), .int .i64 (b1)] from hk4)
          clear hb4 hk4
          have l0_4 : gb < w4.heap.size := K0_4.out.lt
          have z0_0_4 : w4.cell? ⟨gb, 0, none⟩ = some (.int .i64 (a0)) := K0_4.out.cell 0
          have z0_1_4 : w4.cell? ⟨gb, 1, none⟩ = some (.int .i64 (b0)) := K0_4.out.cell 1
          have z0_2_4 : w4.cell? ⟨gb, 2, none⟩ = some (.int .i64 (a1)) := K0_4.out.cell 2
          have z0_3_4 : w4.cell? ⟨gb, 3, none⟩ = some (.int .i64 (b1)) := K0_4.out.cell 3
          have ho4 := own_below HO2.out HB24.out (by have := HGB.out; omega)
          obtain ⟨v', W2, hrun, ho8, hbW⟩ := snocf_run w1.heap.size _ k _ a0 b0 a1 b1 w4 ho4 HB14.out.size (by omega)
          have HRUN := Lib.hid hrun
          have HO8 := Lib.hid (show W2.ownsRow w1.heap.size 36 4 v' (k + 1) (pvCells l (atG0 ps xs) (atG1 ps xs) (l.take (k + 1))) by rw [pvCells_snoc HGR.out, HQ0.out, HQ1.out]; exact ho8)
          have HBW := Lib.hid (HB14.out.trans hbW)
          have HFN := Lib.hid (show ∀ (q : Nat) (r : Rk), q < k + 1 → l[q]? = some r → fl2 l (atG0 ps xs) (atG1 ps xs) r.name = false from fun q r' hq hr => by
            rcases Nat.lt_succ_iff_lt_or_eq.1 hq with h | h
            · exact HFL.out q r' h hr
            · subst h
              obtain rfl := Option.some.inj (HGR.out.symm.trans hr)
              unfold fl2
              rw [hf0, hf1]
              rfl)
          clear hrun ho8 hbW ho4
          go_wp2_with (first | (at_builtin; refine wpList_app _ W2 v' rfl _ _ _ rfl _ _ rfl rfl HRUN.out ?_))
          go_roundw
          case rel => exact ⟨k + 1, by omega, by go_num, HBW.out, HFN.out, HO8.out⟩
          case measure => simp [intOf]; omega
end Go.Proofs.Ytfigbdhfmlhjdaa

end

section
/- What every row of a statement needs: the arguments of a call that only makes memory read behind it as they did before. -/
namespace Go.Proofs.Ytfigbdhfmlhjdaa
open Go.RowKit Go.ChangeShapes Go.WideShapes Go.ChangeAt

theorem own_knob : ownKnob Try.prog.godebug = none := by kernel_rfl
theorem laid_rows : laidOutB Try.prog = true := by kernel_rfl
theorem maps_rowed : mapsRowed Try.prog = true := by kernel_rfl
theorem slices_full : ∀ t e, t < Try.prog.types.size → Try.prog.underlying t = some (.slice e) → 0 < Try.prog.cellsOf e := slices_full_of _ (by kernel_rfl)

section
variable {H : Type} {enc : TypeId × Value → H} {P : Program} {W W' : World}

theorem sameAt_of_below {B : Nat} (hb : Below B W W') {p : MemPlace} (hp : p.block < B) : W.sameAt W' p := by
  cases p with
  | cell b o => exact hb.cell (p := ⟨b, o, none⟩) hp
  | map b => exact hb.block b hp

theorem trodAll_carry {base : Nat} {sp : Nat → Bool} {hd : Bool} : ∀ {ts : List TypeId} {vs : List Value} {ds : List (DataW H)} {ps : List MemPlace},
    DataW.TrodAll enc P W base sp hd ts vs ds ps → (∀ p ∈ ps, W.sameAt W' p) → DataW.TrodAll enc P W' base sp hd ts vs ds ps
  | [], [], [], _, h, _ => h
  | _ :: _, _ :: _, _ :: _, _, ⟨p, q, ⟨n, h1⟩, h2, e⟩, hs => ⟨p, q, ⟨n, DataW.trod_carry n _ _ _ h1 fun x hx => hs x (by rw [e]; exact List.mem_append_left _ hx)⟩,
      trodAll_carry h2 (fun x hx => hs x (by rw [e]; exact List.mem_append_right _ hx)), e⟩

set_option maxRecDepth 100000 in
/-- THE POST OF A LAW: it returned true, and made memory alone. -/
theorem post_law {f : Func} {s : ChangeSpec} {t : TypeId} {W W' : World} {args : Array Value} {ds gs : List (DataW H)} {before : List MemPlace}
    (hW : DataW.Whole enc Try.prog f.params.toList s.vars false W args.toList ds gs before) (hv : s.vars = []) (hr : f.resultTypes = #[t]) (ht : Try.prog.underlying t = some .bool)
    (hp : f.params.toList.all (fun t => decide (t < Try.prog.types.size)) = true) (hs : (s.fn H (ds ++ gs)).results = [.lit (.bool true)]) (ha : (s.fn H (ds ++ gs)).args = ds) (hg : (s.fn H (ds ++ gs)).vars = [])
    (hb : Below W.heap.size W W') : s.post enc Try.prog f false true false false W args (.bool true) W' := by
  have hW' := hW
  obtain ⟨p, q, hA, hV, rfl, hfz, hnd⟩ := hW'
  rw [hv] at hV
  have hV' : gs = [] ∧ q = [] := by
    cases gs with
    | nil => exact ⟨rfl, hV⟩
    | cons x l => exact hV.elim
  obtain ⟨rfl, rfl⟩ := hV'
  rw [List.append_nil] at hW
  have hT : ∀ t ∈ f.params.toList, t < Try.prog.types.size := fun t ht => by simpa using List.all_eq_true.1 hp t ht
  refine post_of_below (pa := p) (pv := []) hW (fun b sp hd => ?_) (fun sp hsp => ?_) (fun sp hsp => ?_) (by simp) hb ?_
  · rw [hr, hs]
    exact ⟨[], [], ⟨1, by simp [DataW.trod, ht, Value.cells]⟩, rfl, rfl⟩
  · rw [ha]
    exact trodAll_carry (DataW.TrodAll.respare (kids_rows laid_rows maps_rowed) slices_full hT hA hsp) fun x hx => sameAt_of_below hb (hW.lt x hx)
  · rw [hv, hg]
    rfl
  · exact ok_one hr rfl (okWide_bool_mk ht _)
end

end Go.Proofs.Ytfigbdhfmlhjdaa

end

section
/- Arguments that are slices of structs of whole numbers or of texts: their cells as a row of memory. -/
namespace Go.Proofs.Ytfigbdhfmlhjdaa
open Go Go.RowKit Go.ChangeShapes Go.WideShapes Go.ChangeAt Go.Joins Go.Deep

def I64 (z : Int) : Prop := -9223372036854775808 ≤ z ∧ z ≤ 9223372036854775807
theorem I64.of_wf {z : Int} (h : (Lit.int .i64 z).wf = true) : I64 z := by
  simpa [I64, Lit.wf, IntKind.min, IntKind.max, IntKind.signed, IntKind.bits] using h

/-- A choice of a number for each place. -/
theorem choose_list {R : Nat → Int → Prop} (m : Nat) (h : ∀ q, q < m → ∃ z, R q z) : ∃ xs : List Int, xs.length = m ∧ ∀ q z, xs[q]? = some z → R q z := by
  induction m with
  | zero => exact ⟨[], rfl, fun q z h => by simp at h⟩
  | succ m ih =>
    obtain ⟨xs, hl, hx⟩ := ih fun q hq => h q (by omega)
    obtain ⟨z, hz⟩ := h m (by omega)
    refine ⟨xs ++ [z], by simp [hl], fun q u hu => ?_⟩
    rcases Nat.lt_trichotomy q m with hq | hq | hq
    · rw [List.getElem?_append_left (by omega)] at hu
      exact hx q u hu
    · subst hq
      rw [List.getElem?_append_right (by omega), hl, Nat.sub_self] at hu
      simp at hu
      exact hu ▸ hz
    · rw [List.getElem?_eq_none (by simp; omega)] at hu
      cases hu

theorem pairs_of_ints : ∀ (n : Nat) (xs : List Int), xs.length = n * 2 → ∃ l : List (Int × Int), l.length = n ∧ cells2 l = xs.map (.int .i64) ∧ ∀ p ∈ l, p.1 ∈ xs ∧ p.2 ∈ xs
  | 0, xs, h => by
    obtain rfl : xs = [] := List.length_eq_zero_iff.1 (by simpa using h)
    exact ⟨[], rfl, rfl, by simp⟩
  | n + 1, xs, h => by
    match xs, h with
    | x :: y :: t, h =>
      obtain ⟨l, h1, h2, h3⟩ := pairs_of_ints n t (by simp at h; omega)
      refine ⟨(x, y) :: l, by simp [h1], by simpa [cells2] using h2, fun p hp => ?_⟩
      rcases List.mem_cons.1 hp with rfl | hp
      · simp
      · have := h3 p hp
        exact ⟨by simp [this.1], by simp [this.2]⟩
    | [_], h => simp at h; omega
    | [], h => simp at h

section
variable {H : Type} {enc : TypeId × Value → H} {P : Program} {w : World} {base : Nat} {spare : Nat → Bool} {held : Bool}
theorem open_slice_fields {t e : TypeId} {fs : Array Field} {fuel : Nat} {cs : List Value} {x : DataW H × List MemPlace} (ht : P.underlying t = some (.slice e)) (he : P.underlying e = some (.struct fs))
    (hone : oneCellFields P fs = true) (hC : P.cellsOf e = fs.size) (h : DataW.trod enc P w base spare held fuel t cs = some x) :
    (cs = [.slice none 0 0] ∧ x = (.nil, [])) ∨
    ∃ (a : Addr) (len cap : Nat), cs = [.slice (some a) len cap] ∧ (len ≤ cap ∧ cap ≤ maxLen) ∧
      ∀ i, i < len → ∀ (j : Nat) (f : Field), fs[j]? = some f → ∃ (v : Value) (y : DataW H × List MemPlace) (n : Nat), w.cell? (a.add (i * fs.size + j)) = some v ∧ DataW.trod enc P w base spare held n f.type [v] = some y := by
  rcases open_slice ht h with h0 | ⟨a, len, cap, m, n, D, Pl, hcs, hb, hl, hm, hmm, hx, hi⟩
  · exact .inl h0
  · have hlm : len ≤ m := by rw [hmm]; split <;> omega
    refine .inr ⟨a, len, cap, hcs, ⟨hl, hm⟩, fun i him => ?_⟩
    obtain ⟨cs', hc, ht'⟩ := hi i (by omega)
    rw [hC] at hc
    obtain ⟨ys, n', hn', hy, hlen, hyl, hf⟩ := DataW.trod_struct he ht'
    obtain ⟨_, hcl, hat⟩ := World.cells?_some hc
    intro j f hj
    obtain ⟨ho, hk⟩ := hone_of hone j f hj
    have hjl : j < fs.size := (Array.getElem?_eq_some_iff.1 hj).1
    have hcell := hat j hjl
    have hv : cs'[j]? = some (cs'[j]'(by omega)) := List.getElem?_eq_getElem (by omega)
    have h1 := hf j f hj
    rw [ho, hk] at h1
    have hone' : (cs'.drop j).take 1 = [cs'[j]'(by omega)] := by
      rw [List.drop_eq_getElem_cons (by omega)]
      rfl
    rw [hone'] at h1
    have hys : ys[j]? = some (ys[j]'(by omega)) := List.getElem?_eq_getElem (by omega)
    refine ⟨_, _, _, ?_, h1.trans hys⟩
    rw [← Go.Deep.add_add, hcell, hv]

theorem block_of_cell {p : Addr} {v : Value} (h : w.cell? p = some v) : p.block < w.heap.size := by
  unfold World.cell? at h
  split at h <;> first | cases h | (split at h <;> first | cases h | skip)
  all_goals
    first
    | (rename_i hh; exact (Array.getElem?_eq_some_iff.1 hh).1)
    | (rename_i hh _; exact (Array.getElem?_eq_some_iff.1 hh).1)
    | omega

end

section
variable {H : Type} {enc : TypeId × Value → H} {P : Program} {w : World} {base b0 : Nat} {spare : Nat → Bool} {held : Bool} {r : Reach} {t e tI : TypeId} {v : Value} {d : DataW H} {p : List MemPlace}
theorem slice_one (ht : P.underlying t = some (.slice e)) {A : Option Addr} {n c : Nat} (hv : Value.okWide P w r b0 t v) (h : v.cells.toList = [.slice A n c]) : v = .slice A n c := by
  cases v <;> first | (simp [Value.cells] at h; done) | (simp only [Value.cells] at h; simpa using h) | (exfalso; revert hv; simp [Value.okWide, ht, Cell.okWide, Cell.ok])
end

end Go.Proofs.Ytfigbdhfmlhjdaa

end
