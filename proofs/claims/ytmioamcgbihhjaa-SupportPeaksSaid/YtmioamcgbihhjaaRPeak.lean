/- The contract of the reference's PeakToValley. -/
import Derived.Test.YtmioamcgbihhjaaPeak
namespace Go.Proofs.Ytmioamcgbihhjaa
open Go.RowKit

set_option maxRecDepth 100000 in
set_option maxHeartbeats 4000000 in
theorem rpeak_any (A : Option Addr) (n c N : Nat) (l : List (Int × Int)) (w : World) (hx : Reads w N 2 A n (cells2 l)) (hN : N ≤ w.heap.size) (hn : n ≤ 9223372036854775807) (x y e : Int) (hR : peakF l = ((x, y), e)) :
    Calls Try.prog 40 #[.slice A n c] w fun en w' => en = .returned (.tuple #[.agg #[.int .i64 x, .int .i64 y], .int .i64 e]) ∧ Below w.heap.size w w' := by
  have hxl := hx.len2
  unfold peakF at hR
  rw [hxl] at hR
  have HXL := Lib.hid hxl
  have HX := Lib.hid hx
  clear hx hxl
  cases hw : withinB (n : Int) 1 40 with
  | false =>
    rw [if_pos hw] at hR
    cases hR
    have HW := Lib.hid hw
    clear hw
    go_enter Try.func40, Try.ntmps40
    go_wp2_with (go_at_call 31; refine (withinref_is _ _ _ _ HW.out _).mono ?_; rintro e w' ⟨rfl, rfl⟩)
    exact bodyPost_ret (v := .tuple #[.agg #[.int .i64 0, .int .i64 0], .int .i64 10]) (by simp [results, Try.results40, go_sem]) rfl ⟨rfl, by repeat' (first | exact Below.refl _ _ | exact HB0.out | assumption | refine below_drewN ?_ _ | refine Below.drew ?_ | refine Below.alloc ?_ (by first | omega | (simp; done) | (simp; omega) | (simp [World.setCell]; omega)) _ | refine Below.setCell ?_ (by first | omega | (simp; done) | (simp; omega)) _)⟩
  | true =>
    rw [if_neg (by rw [hw]; simp)] at hR
    obtain ⟨hw1, hw2⟩ := within_yes hw
    have HR := Lib.hid hR
    have HW := Lib.hid hw
    clear hw hR
    go_enter Try.func40, Try.ntmps40
    go_wp2_with fail
    refine (withinref_is _ _ _ _ HW.out _).mono ?_
    rintro en w' ⟨rfl, rfl⟩
    go_wp2
    go_loopw [4] (fun i wr => ∃ k : Nat, k ≤ n ∧ i = .int .i64 k ∧ (∀ p ∈ l.take k, rangeErr p = 0) ∧ Below w.heap.size w wr ∧ Blk wr w.heap.size 64 #[.int .i64 0, .int .i64 0]) (fun i _ => n - (intOf i).toNat)
    case atStart => exact ⟨0, by omega, rfl, by simp, (Below.refl _ _).alloc (Nat.le_refl _) _, Blk.new _ _ _⟩
    case round =>
      obtain ⟨k, hk, rfl, ht, hb, hk0⟩ := hrel
      have HT := Lib.hid ht
      clear ht
      have HB1 := Lib.hid hb
      have K0_1 := Lib.hid (show Blk wr (w.heap.size) 64 #[.int .i64 (0), .int .i64 (0)] from hk0)
      clear hb hk0
      have l0_1 : w.heap.size < wr.heap.size := K0_1.out.lt
      have z0_0_1 : wr.cell? ⟨w.heap.size, 0, none⟩ = some (.int .i64 (0)) := K0_1.out.cell 0
      have z0_1_1 : wr.cell? ⟨w.heap.size, 1, none⟩ = some (.int .i64 (0)) := K0_1.out.cell 1
      by_cases hlt : k < n
      · obtain ⟨xb, xo, p, rfl, hxb, hp, c0, c1⟩ := (HX.out.belowLe HB1.out hN).pair hlt
        obtain ⟨t, ht⟩ : ∃ t, rangeErr p = t := ⟨_, rfl⟩
        have HTT := Lib.hid ht
        have HP := Lib.hid hp
        clear ht hp
        go_wp2_with fail
        refine (rcheckrange_is p t HTT.out _).mono ?_
        rintro e w2 ⟨rfl, hb⟩
        have HB2 := Lib.hid (show Below w.heap.size w w2 from step_below hb (by repeat' (first | exact Below.refl _ _ | exact HB1.out | assumption | refine below_drewN ?_ _ | refine Below.drew ?_ | refine Below.alloc ?_ (by first | omega | (simp; done) | (simp; omega) | (simp [World.setCell]; omega)) _ | refine Below.setCell ?_ (by first | omega | (simp; done) | (simp; omega)) _)))
        have K0_2 := Lib.hid (step_blk hb (show Blk _ (w.heap.size) 64 #[.int .i64 (0), .int .i64 (0)] by repeat' (first | assumption | exact K0_1.out | exact Blk.at_ _ (by first | rfl | (simp; done) | (simp; omega)) _ _ | refine Blk.drewN ?_ _ | refine Blk.drew ?_ | refine Blk.alloc ?_ _ | refine Blk.far ?_ (by first | omega | (simp; done) | (simp; omega)) _)))
        have hz2 := hb.size
        try simp only [World.size_alloc, World.drewN, World.drew] at hz2
        clear hb K0_1 z0_0_1 z0_1_1 l0_1
        have l0_2 : w.heap.size < w2.heap.size := K0_2.out.lt
        have z0_0_2 : w2.cell? ⟨w.heap.size, 0, none⟩ = some (.int .i64 (0)) := K0_2.out.cell 0
        have z0_1_2 : w2.cell? ⟨w.heap.size, 1, none⟩ = some (.int .i64 (0)) := K0_2.out.cell 1
        by_cases h0 : t = 0
        · subst h0
          go_wp2
          go_roundw
          case rel => exact ⟨k + 1, by omega, by go_num, take_ok HP.out HT.out HTT.out, HB2.out, K0_2.out⟩
          case measure => simp [intOf]; omega
        · have e0 : (t != 0) = true := by simpa using h0
          have hF := HR.out
          rw [firstErr_at HP.out HT.out (by rw [HTT.out]; exact h0), HTT.out, if_pos h0] at hF
          cases hF
          have zf0_0 := K0_2.out.frozen 0
          have zf0_1 := K0_2.out.frozen 1
          go_wp2
          exact bodyPost_ret (v := .tuple #[.agg #[.int .i64 0, .int .i64 0], .int .i64 e]) (by simp [results, Try.results40, go_sem, z0_0_2, z0_1_2, l0_2]) rfl ⟨rfl, by repeat' (first | exact Below.refl _ _ | exact HB2.out | assumption | refine below_drewN ?_ _ | refine Below.drew ?_ | refine Below.alloc ?_ (by first | omega | (simp; done) | (simp; omega) | (simp [World.setCell]; omega)) _ | refine Below.setCell ?_ (by first | omega | (simp; done) | (simp; omega)) _)⟩
      · have hok : ∀ p ∈ l, rangeErr p = 0 := by
          have := HT.out
          rwa [List.take_of_length_le (by rw [HXL.out]; omega)] at this
        have hR := HR.out
        rw [firstErr_ok hok, if_neg (by simp)] at hR
        have HOK := Lib.hid hok
        have HR2 := Lib.hid hR
        clear hok hR HT HR
        have hget : ∀ k p, l[k]? = some p → l.getD k (0, 0) = p := fun k p h => by rw [List.getD, h]; rfl
        have HG := Lib.hid hget
        clear hget
        obtain ⟨wo, hwo⟩ : ∃ wo : World, wo = wr := ⟨_, rfl⟩
        subst hwo
        go_wp2
        go_loopw [7] (fun i wr => ∃ k : Nat, k ≤ n ∧ i = .int .i64 k ∧ 0 ≤ (spAll l k).1 ∧ (spAll l k).1 ≤ 2000000000000000 ∧ 0 ≤ (spAll l k).2 ∧ (spAll l k).2 ≤ 2000000000000000 ∧ Below w.heap.size w wr ∧ Blk wr w.heap.size 64 #[.int .i64 0, .int .i64 0] ∧
          Blk wr wo.heap.size 64 #[.int .i64 (spAll l k).1, .int .i64 (spAll l k).2]) (fun i _ => n - (intOf i).toNat)
        case atStart => exact ⟨0, by omega, rfl, by simp [spAll], by simp [spAll], by simp [spAll], by simp [spAll], HB1.out.alloc HB1.out.size _, K0_1.out.alloc _, Blk.new _ _ _⟩
        case round =>
          obtain ⟨i, hi, rfl, b1, b2, b3, b4, hb, hk0, hk1⟩ := hrel
          obtain ⟨R, hRR⟩ : ∃ R, spAll l i = R := ⟨_, rfl⟩
          rw [hRR] at b1 b2 b3 b4 hk1
          have HRR := Lib.hid hRR
          clear hRR
          obtain ⟨wp, hwo⟩ : ∃ wo : World, wo = wr := ⟨_, rfl⟩
          subst hwo
          by_cases hli : i < n
          · obtain ⟨xb, xo, p, rfl, hxb, hp, f0, f1⟩ := HX.out.pair hli
            obtain ⟨pz1, pz2, pz3⟩ := rangeErr_zero (HOK.out p (List.mem_of_getElem? hp))
            have hpd := HG.out i p hp
            have HPD := Lib.hid hpd
            have HC : Hid (∀ w', Below w.heap.size w w' → w'.cell? ⟨xb, xo + i * 2, none⟩ = some (.int .i64 p.1) ∧ w'.cell? ⟨xb, xo + i * 2 + 1, none⟩ = some (.int .i64 p.2)) :=
              fun w' hb => ⟨(hb.cell (p := ⟨xb, xo + i * 2, none⟩) (by show xb < _; omega)).trans f0, (hb.cell (p := ⟨xb, xo + i * 2 + 1, none⟩) (by show xb < _; omega)).trans f1⟩
            have HB5 := Lib.hid hb
            have K0 := Lib.hid hk0
            have K1 := Lib.hid hk1
            have l1 := hk1.lt
            clear hp hpd hb hk0 hk1 f0 f1
            go_wp2
            go_loopw [8] (fun j wr => ∃ k : Nat, k ≤ n ∧ j = .int .i64 k ∧ 0 ≤ (spRow l i k R).1 ∧ (spRow l i k R).1 ≤ 2000000000000000 ∧ 0 ≤ (spRow l i k R).2 ∧ (spRow l i k R).2 ≤ 2000000000000000 ∧ Below w.heap.size w wr ∧ Blk wr w.heap.size 64 #[.int .i64 0, .int .i64 0] ∧
              Blk wr wo.heap.size 64 #[.int .i64 (spRow l i k R).1, .int .i64 (spRow l i k R).2]) (fun j _ => n - (intOf j).toNat)
            case atStart => exact ⟨0, by omega, rfl, b1, b2, b3, b4, HB5.out, K0.out, K1.out⟩
            case round =>
              obtain ⟨k, hk, rfl, d1, d2, d3, d4, hb, hk0, hk1⟩ := hrel
              obtain ⟨Q, hQ⟩ : ∃ Q, spRow l i k R = Q := ⟨_, rfl⟩
              rw [hQ] at d1 d2 d3 d4 hk1
              have HQ := Lib.hid hQ
              clear hQ
              have lt1 := hk1.lt
              by_cases hlk : k < n
              · obtain ⟨xb', xo', q, hA, hxb', hp, e0, e1⟩ := (HX.out.belowLe hb hN).pair hlk
                cases hA
                obtain ⟨qz1, qz2, qz3⟩ := rangeErr_zero (HOK.out q (List.mem_of_getElem? hp))
                have hqd := HG.out k q hp
                have HQD := Lib.hid hqd
                clear hp hqd
                by_cases hik : i = k
                · have hst : spRow l i (k + 1) R = Q := by rw [spRow_succ, HQ.out]; unfold spStep; rw [if_pos hik]
                  have HST := Lib.hid hst
                  have hik' : (i : Int) = (k : Int) := by omega
                  have HB := Lib.hid hb
                  have K0 := Lib.hid hk0
                  have K1 := Lib.hid hk1
                  clear hst hb hk0 hk1
                  go_wp2
                  go_roundw
                  case rel => exact ⟨k + 1, by omega, by go_num, by rw [HST.out]; exact d1, by rw [HST.out]; exact d2, by rw [HST.out]; exact d3, by rw [HST.out]; exact d4, HB.out, K0.out, by rw [HST.out]; exact K1.out⟩
                  case measure => simp [intOf]; omega
                · have hik' : ¬ (i : Int) = (k : Int) := by omega
                  have hst : spRow l i (k + 1) R = (max Q.1 (p.1 - q.2), max Q.2 (p.2 - q.1)) := by rw [spRow_succ, HQ.out, spStep_ne hik, HPD.out, HQD.out]
                  have HST := Lib.hid hst
                  have v1 := IntWalk.i64_in (p.1 - q.2) ⟨by omega, by omega⟩
                  have v2 := IntWalk.i64_in (p.2 - q.1) ⟨by omega, by omega⟩
                  have v3 : IntKind.i64.wrap (i : Int) = (i : Int) := IntWalk.i64_in (i : Int) ⟨by omega, by omega⟩
                  have v4 : IntKind.i64.wrap (k : Int) = (k : Int) := IntWalk.i64_in (k : Int) ⟨by omega, by omega⟩
                  have v5 : (0 : Int) ≤ (i : Int) := by omega
                  have v6 : (i : Int) < (n : Int) := by omega
                  have v7 : (0 : Int) ≤ (k : Int) := by omega
                  have v8 : (k : Int) < (n : Int) := by omega
                  obtain ⟨c0, c1⟩ := HC.out _ hb
                  have hz1 := HB1.out.size
                  have hxg : xb < wo.heap.size := by omega
                  have HB := Lib.hid hb
                  have K0 := Lib.hid hk0
                  have K1 := Lib.hid hk1
                  have hm : (Q.1 < p.1 - q.2 ∨ ¬ Q.1 < p.1 - q.2) ∧ (Q.2 < p.2 - q.1 ∨ ¬ Q.2 < p.2 - q.1) := by omega
                  have HM := Lib.hid hm
                  clear hst hb hk0 hk1 hm
                  go_wp2
                  have h0 : (spRow l i (k + 1) R).1 = max Q.1 (p.1 - q.2) := by rw [HST.out]
                  have h1 : (spRow l i (k + 1) R).2 = max Q.2 (p.2 - q.1) := by rw [HST.out]
                  have H0 := Lib.hid h0
                  have H1 := Lib.hid h1
                  clear h0 h1
                  clear HM
                  refine Fx.regionW (fun W f w' => UpD 64 (wo.heap.size) (.int .i64 (Q.1)) (.int .i64 (Q.2)) (.int .i64 (if Q.1 < p.1 - q.2 then p.1 - q.2 else Q.1)) (.int .i64 (if Q.2 < p.2 - q.1 then p.2 - q.1 else Q.2)) 29 31 W f w') (by kernel_rfl) (by kernel_rfl) ?_ ?_
                  · intro f hf0
                    exact UpD.start (below_drewN (Below.refl _ _) 1) (Blk.drewN K1.out 1) (hf0 29) (hf0 31)
                  iterate 16 (first
                    | (refine Fx.skip_ (by rfl) (fun f w h => h) ?_; simp only [Act.put, List.setIfInBounds_toArray, List.set_cons_zero, List.set_cons_succ])
                    | (refine Fx.val_ ?_ (by rfl) ?_ (fun f w h => h) ?_
                       rotate_left
                       · intro f w' hD hk
                         obtain ⟨hb, hrest⟩ := id hD
                         have uq0 := (UpD.read0 hD (hk.2.1 29 (by kernel_rfl))).1
                         have uq1 := (UpD.read1 hD (hk.2.1 31 (by kernel_rfl))).1
                         have g0 := (hb.cell (p := ⟨xb, _, none⟩) hxg).trans c0
                         have g1 := (hb.cell (p := ⟨xb, _, none⟩) hxg).trans c1
                         have g2 := (hb.cell (p := ⟨xb, _, none⟩) hxg).trans e0
                         have g3 := (hb.cell (p := ⟨xb, _, none⟩) hxg).trans e1
                         clear hk hD hb hrest
                         go_simp
                         try rfl
                       simp only [Act.put, List.setIfInBounds_toArray, List.set_cons_zero, List.set_cons_succ]))
                  repeat (first
                    | (refine Fx.skip_ (by rfl) (fun f w h => h) ?_; simp only [Act.put, List.setIfInBounds_toArray, List.set_cons_zero, List.set_cons_succ])
                    | (refine Fx.val_ ?_ (by rfl) ?_ (fun f w h => h) ?_
                       rotate_left
                       · intro f w' hD hk
                         obtain ⟨hb, hrest⟩ := id hD
                         have g0 := (hb.cell (p := ⟨xb, _, none⟩) hxg).trans c0
                         have g1 := (hb.cell (p := ⟨xb, _, none⟩) hxg).trans c1
                         have g2 := (hb.cell (p := ⟨xb, _, none⟩) hxg).trans e0
                         have g3 := (hb.cell (p := ⟨xb, _, none⟩) hxg).trans e1
                         clear hk hD hb hrest
                         go_simp
                         try rfl
                       simp only [Act.put, List.setIfInBounds_toArray, List.set_cons_zero, List.set_cons_succ]))
                  refine Fx.store_ (fun w' => w'.setCell ⟨wo.heap.size, 0, none⟩ (.int .i64 (if Q.1 < p.1 - q.2 then p.1 - q.2 else Q.1))) (by rfl) ?_ ?_ ?_
                  · intro f w' hD hk
                    obtain ⟨hb, hrest⟩ := id hD
                    obtain ⟨uq0, uq1⟩ := UpD.read0 hD hk.1
                    clear hb hrest
                    clear hk hD
                    go_simp
                  · intro f w' hD hk
                    obtain ⟨hb, hrest⟩ := id hD
                    obtain ⟨uq0, uq1⟩ := UpD.read0 hD hk.1
                    clear hb hrest
                    exact hD.store0 (by decide)
                  simp only [Act.put, List.setIfInBounds_toArray, List.set_cons_zero, List.set_cons_succ]
                  repeat (first
                    | (refine Fx.skip_ (by rfl) (fun f w h => h) ?_; simp only [Act.put, List.setIfInBounds_toArray, List.set_cons_zero, List.set_cons_succ])
                    | (refine Fx.val_ ?_ (by rfl) ?_ (fun f w h => h) ?_
                       rotate_left
                       · intro f w' hD hk
                         obtain ⟨hb, hrest⟩ := id hD
                         have g0 := (hb.cell (p := ⟨xb, _, none⟩) hxg).trans c0
                         have g1 := (hb.cell (p := ⟨xb, _, none⟩) hxg).trans c1
                         have g2 := (hb.cell (p := ⟨xb, _, none⟩) hxg).trans e0
                         have g3 := (hb.cell (p := ⟨xb, _, none⟩) hxg).trans e1
                         clear hk hD hb hrest
                         go_simp
                         try rfl
                       simp only [Act.put, List.setIfInBounds_toArray, List.set_cons_zero, List.set_cons_succ]))
                  refine Fx.store_ (fun w' => w'.setCell ⟨wo.heap.size, 1, none⟩ (.int .i64 (if Q.2 < p.2 - q.1 then p.2 - q.1 else Q.2))) (by rfl) ?_ ?_ ?_
                  · intro f w' hD hk
                    obtain ⟨hb, hrest⟩ := id hD
                    obtain ⟨uq0, uq1⟩ := UpD.read1 hD hk.1
                    clear hb hrest
                    clear hk hD
                    go_simp
                  · intro f w' hD hk
                    obtain ⟨hb, hrest⟩ := id hD
                    obtain ⟨uq0, uq1⟩ := UpD.read1 hD hk.1
                    clear hb hrest
                    exact hD.store1 (by decide)
                  simp only [Act.put, List.setIfInBounds_toArray, List.set_cons_zero, List.set_cons_succ]
                  refine Fx.nil_ ?_
                  intro f w1 hall hD
                  obtain ⟨hb, hblk⟩ := UpD.end_ hD (hall 29 (by simp)) (hall 31 (by simp))
                  clear hall hD
                  have hb2 := HB.out.trans (hb.mono (by omega))
                  have K0' := K0.out.below hb (by omega)
                  have HB2 := Lib.hid hb2
                  have K0'' := Lib.hid K0'
                  have K1'' := Lib.hid hblk
                  have ea : max Q.1 (p.1 - q.2) = if Q.1 < p.1 - q.2 then p.1 - q.2 else Q.1 := by split <;> omega
                  have eb : max Q.2 (p.2 - q.1) = if Q.2 < p.2 - q.1 then p.2 - q.1 else Q.2 := by split <;> omega
                  have EA := Lib.hid ea
                  have EB := Lib.hid eb
                  clear hb hb2 K0' hblk ea eb
                  go_wp2
                  go_roundw
                  case rel => exact ⟨k + 1, by omega, by go_num, by rw [H0.out]; omega, by rw [H0.out]; omega, by rw [H1.out]; omega, by rw [H1.out]; omega, HB2.out, K0''.out, by rw [H0.out, H1.out, EA.out, EB.out]; exact K1''.out⟩
                  case measure => simp [intOf]; omega
              · have hkn : k = n := by omega
                have hst : spAll l (i + 1) = Q := by rw [spAll_succ, HRR.out, HXL.out, ← hkn, HQ.out]
                have HST := Lib.hid hst
                have HB := Lib.hid hb
                have K0 := Lib.hid hk0
                have K1 := Lib.hid hk1
                clear hst hb hk0 hk1
                go_wp2
                go_roundw
                case rel => exact ⟨i + 1, by omega, by go_num, by rw [HST.out]; exact d1, by rw [HST.out]; exact d2, by rw [HST.out]; exact d3, by rw [HST.out]; exact d4, HB.out, K0.out, by rw [HST.out]; exact K1.out⟩
                case measure => simp [intOf]; omega
          · have hin : i = n := by omega
            subst hin
            obtain ⟨t, ht⟩ : ∃ t, rangeErr R = t := ⟨_, rfl⟩
            have hF := HR2.out
            rw [HRR.out, ht] at hF
            have HF := Lib.hid hF
            have HTT := Lib.hid ht
            clear hF ht
            have HB21 := Lib.hid hb
            have K0_21 := Lib.hid (show Blk wp (w.heap.size) 64 #[.int .i64 (0), .int .i64 (0)] from hk0)
            have K1_21 := Lib.hid (show Blk wp (wo.heap.size) 64 #[.int .i64 (R.1), .int .i64 (R.2)] from hk1)
            clear hb hk0 hk1
            have l0_21 : w.heap.size < wp.heap.size := K0_21.out.lt
            have z0_0_21 : wp.cell? ⟨w.heap.size, 0, none⟩ = some (.int .i64 (0)) := K0_21.out.cell 0
            have z0_1_21 : wp.cell? ⟨w.heap.size, 1, none⟩ = some (.int .i64 (0)) := K0_21.out.cell 1
            have l1_21 : wo.heap.size < wp.heap.size := K1_21.out.lt
            have z1_0_21 : wp.cell? ⟨wo.heap.size, 0, none⟩ = some (.int .i64 (R.1)) := K1_21.out.cell 0
            have z1_1_21 : wp.cell? ⟨wo.heap.size, 1, none⟩ = some (.int .i64 (R.2)) := K1_21.out.cell 1
            go_wp2_with fail
            refine (rcheckrange_is R t HTT.out _).mono ?_
            rintro e w22 ⟨rfl, hb⟩
            have HB22 := Lib.hid (show Below w.heap.size w w22 from step_below hb (by repeat' (first | exact Below.refl _ _ | exact HB21.out | assumption | refine below_drewN ?_ _ | refine Below.drew ?_ | refine Below.alloc ?_ (by first | omega | (simp; done) | (simp; omega) | (simp [World.setCell]; omega)) _ | refine Below.setCell ?_ (by first | omega | (simp; done) | (simp; omega)) _)))
            have K0_22 := Lib.hid (step_blk hb (show Blk _ (w.heap.size) 64 #[.int .i64 (0), .int .i64 (0)] by repeat' (first | assumption | exact K0_21.out | exact K1_21.out | exact Blk.at_ _ (by first | rfl | (simp; done) | (simp; omega)) _ _ | refine Blk.drewN ?_ _ | refine Blk.drew ?_ | refine Blk.alloc ?_ _ | refine Blk.far ?_ (by first | omega | (simp; done) | (simp; omega)) _)))
            have K1_22 := Lib.hid (step_blk hb (show Blk _ (wo.heap.size) 64 #[.int .i64 (R.1), .int .i64 (R.2)] by repeat' (first | assumption | exact K0_21.out | exact K1_21.out | exact Blk.at_ _ (by first | rfl | (simp; done) | (simp; omega)) _ _ | refine Blk.drewN ?_ _ | refine Blk.drew ?_ | refine Blk.alloc ?_ _ | refine Blk.far ?_ (by first | omega | (simp; done) | (simp; omega)) _)))
            have hz22 := hb.size
            try simp only [World.size_alloc, World.drewN, World.drew] at hz22
            clear hb K0_21 K1_21 z0_0_21 z0_1_21 l0_21 z1_0_21 z1_1_21 l1_21
            have l0_22 : w.heap.size < w22.heap.size := K0_22.out.lt
            have z0_0_22 : w22.cell? ⟨w.heap.size, 0, none⟩ = some (.int .i64 (0)) := K0_22.out.cell 0
            have z0_1_22 : w22.cell? ⟨w.heap.size, 1, none⟩ = some (.int .i64 (0)) := K0_22.out.cell 1
            have l1_22 : wo.heap.size < w22.heap.size := K1_22.out.lt
            have z1_0_22 : w22.cell? ⟨wo.heap.size, 0, none⟩ = some (.int .i64 (R.1)) := K1_22.out.cell 0
            have z1_1_22 : w22.cell? ⟨wo.heap.size, 1, none⟩ = some (.int .i64 (R.2)) := K1_22.out.cell 1
            have zf0_0 := K0_22.out.frozen 0
            have zf0_1 := K0_22.out.frozen 1
            by_cases h0 : t = 0
            · have hF := HF.out
              rw [if_neg (show ¬ t ≠ 0 by simp [h0])] at hF
              have h1 := congrArg (fun q => q.1.1) hF
              have h2 := congrArg (fun q => q.1.2) hF
              have h3 := congrArg (fun q => q.2) hF
              simp only at h1 h2 h3
              subst h1 h2 h3 h0
              clear hF
              go_wp2
              exact bodyPost_ret (v := .tuple #[.agg #[.int .i64 R.1, .int .i64 R.2], .int .i64 0]) (by simp [results, Try.results40, go_sem, z0_0_22, z0_1_22, z1_0_22, z1_1_22, l0_22, l1_22]) rfl ⟨rfl, by repeat' (first | exact Below.refl _ _ | exact HB22.out | assumption | refine below_drewN ?_ _ | refine Below.drew ?_ | refine Below.alloc ?_ (by first | omega | (simp; done) | (simp; omega) | (simp [World.setCell]; omega)) _ | refine Below.setCell ?_ (by first | omega | (simp; done) | (simp; omega)) _)⟩
            · have e0 : (t != 0) = true := by simpa using h0
              have hF := HF.out
              rw [if_pos h0] at hF
              cases hF
              go_wp2
              exact bodyPost_ret (v := .tuple #[.agg #[.int .i64 0, .int .i64 0], .int .i64 8]) (by simp [results, Try.results40, go_sem, z0_0_22, z0_1_22, z1_0_22, z1_1_22, l0_22, l1_22]) rfl ⟨rfl, by repeat' (first | exact Below.refl _ _ | exact HB22.out | assumption | refine below_drewN ?_ _ | refine Below.drew ?_ | refine Below.alloc ?_ (by first | omega | (simp; done) | (simp; omega) | (simp [World.setCell]; omega)) _ | refine Below.setCell ?_ (by first | omega | (simp; done) | (simp; omega)) _)⟩

end Go.Proofs.Ytmioamcgbihhjaa
