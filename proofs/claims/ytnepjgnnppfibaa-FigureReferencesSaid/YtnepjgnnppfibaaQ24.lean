import Derived.Test.YtnepjgnnppfibaaQ23

section
/- The reference's check of a line of least removal. -/
namespace Go.Proofs.Ytnepjgnnppfibaa
open Go Go.RowKit

@[go_sem ↓ high] theorem field_num (u v : Int) (w : World) : (Instr.field 28 (.agg #[.int .i64 u, .int .i64 v]) 0).run Try.prog w = .ok (.int .i64 u) w := by kernel_rfl
@[go_sem ↓ high] theorem field_den (u v : Int) (w : World) : (Instr.field 28 (.agg #[.int .i64 u, .int .i64 v]) 1).run Try.prog w = .ok (.int .i64 v) w := by kernel_rfl
theorem mean_cmp {S W mn md q : Int} (hw : 1 ≤ W) (hmn : redN S W = mn) (hmd : redD S W = md) : 0 < md ∧ (mn < q * md ↔ S < q * W) ∧ (q * md < mn ↔ q * W < S) := by
  obtain ⟨r1, r2, -⟩ := redm_mul (a := S) (b := W) (by omega)
  rw [hmn, hmd] at r1
  rw [hmd] at r2
  have key : (q * md - mn) * W = (q * W - S) * md := by grind
  refine ⟨r2, ⟨fun h => ?_, fun h => ?_⟩, ⟨fun h => ?_, fun h => ?_⟩⟩
  · refine Int.not_le.1 fun h2 => ?_
    have h3 := Int.mul_pos (show 0 < q * md - mn by omega) (show 0 < W by omega)
    have h4 := Int.mul_nonneg (show 0 ≤ S - q * W by omega) (show 0 ≤ md by omega)
    have h5 : (S - q * W) * md = - ((q * W - S) * md) := by grind
    omega
  · refine Int.not_le.1 fun h2 => ?_
    have h3 := Int.mul_pos (show 0 < q * W - S by omega) r2
    have h4 := Int.mul_nonneg (show 0 ≤ mn - q * md by omega) (show 0 ≤ W by omega)
    have h5 : (mn - q * md) * W = - ((q * md - mn) * W) := by grind
    omega
  · refine Int.not_le.1 fun h2 => ?_
    have h3 := Int.mul_pos (show 0 < mn - q * md by omega) (show 0 < W by omega)
    have h4 := Int.mul_nonneg (show 0 ≤ q * W - S by omega) (show 0 ≤ md by omega)
    have h5 : (mn - q * md) * W = - ((q * md - mn) * W) := by grind
    omega
  · refine Int.not_le.1 fun h2 => ?_
    have h3 := Int.mul_pos (show 0 < S - q * W by omega) r2
    have h4 := Int.mul_nonneg (show 0 ≤ q * md - mn by omega) (show 0 ≤ W by omega)
    have h5 : (S - q * W) * md = - ((q * W - S) * md) := by grind
    omega

set_option maxRecDepth 100000 in
set_option maxHeartbeats 4000000 in
theorem rcref_is (m : Rm) (hm : m.Ok) (hw1 : 1 ≤ m.sw m.n) (a b c d x y : Int) (hl : LnOk a b c d) (ix : I64 x) (iy : I64 y) (R : Int × Int) (hR : crefF m a b c d x y = R) (w : World) (hx : RmAt m w) :
    Calls Try.prog 58 #[m.val, .agg #[.int .i64 a, .int .i64 b, .int .i64 c, .int .i64 d, .int .i64 x, .int .i64 y]] w fun e w' => e = .returned (.tuple #[.int .i64 R.1, .int .i64 R.2]) ∧ Below w.heap.size w w' := by
  have hn1 := hm.n1
  have hn2 := hm.n2
  obtain ⟨mn, hmn⟩ : ∃ s, redN (m.sq m.n) (m.sw m.n) = s := ⟨_, rfl⟩
  obtain ⟨md, hmd⟩ : ∃ s, redD (m.sq m.n) (m.sw m.n) = s := ⟨_, rfl⟩
  have hsm := hm.sums (k := m.n) (Nat.le_refl _)
  have hle := red_le (a := m.sq m.n) (b := m.sw m.n) hw1
  rw [hmn, hmd] at hle
  have hmin : -40000000 ≤ mn ∧ mn ≤ 40000000 := by omega
  have hmdn : 1 ≤ md ∧ md ≤ 40000 := by omega
  have hbd : 1 ≤ b * d := Int.mul_le_mul hl.b1 hl.d1 (by omega) (by have := hl.b1; omega)
  have HX := Lib.hid hx
  have HM := Lib.hid hm
  have HW1 := Lib.hid hw1
  have HL := Lib.hid hl
  have HR := Lib.hid hR
  have HMN := Lib.hid hmn
  have HMD := Lib.hid hmd
  have HBD := Lib.hid hbd
  have en := IntWalk.i64_in ((m.n : Int) - 1) ⟨by omega, by omega⟩
  have lb2 := hx.l2
  clear hx hm hw1 hl hR hmn hmd hsm hle hbd
  unfold Rm.val
  go_enter Try.func58, Try.ntmps58
  go_wp2
  generalize hwn : ((w.alloc (.cells #[.slice (some ⟨m.b1, m.o1, none⟩) m.n m.c1, .slice (some ⟨m.b2, m.o2, none⟩) m.n m.c2, .slice (some ⟨m.b3, m.o3, none⟩) m.n m.c3] 24)).alloc (.cells #[.int .i64 (a), .int .i64 (b), .int .i64 (c), .int .i64 (d), .int .i64 (x), .int .i64 (y)] 75)) = w1
  have hbn : Below w.heap.size w w1 := by rw [← hwn]; repeat' (first | exact Below.refl _ _ | refine below_drewN ?_ _ | refine Below.drew ?_ | refine Below.alloc ?_ (by first | omega | (simp; done) | (simp; omega) | (simp [World.setCell]; omega)) _ | refine Below.setCell ?_ (by first | omega | (simp; done) | (simp; omega)) _)
  have HB1 := Lib.hid (show Below w.heap.size w w1 from hbn)
  have K0_1 := Lib.hid (show Blk w1 (w.heap.size) 24 #[.slice (some ⟨m.b1, m.o1, none⟩) m.n m.c1, .slice (some ⟨m.b2, m.o2, none⟩) m.n m.c2, .slice (some ⟨m.b3, m.o3, none⟩) m.n m.c3] by rw [← hwn]; repeat' (first | exact Blk.at_ _ (by first | rfl | (simp; done) | (simp; omega)) _ _ | refine Blk.drewN ?_ _ | refine Blk.drew ?_ | refine Blk.alloc ?_ _ | refine Blk.far ?_ (by first | omega | (simp; done) | (simp; omega)) _ | assumption))
  have K1_1 := Lib.hid (show Blk w1 (w.heap.size + 1) 75 #[.int .i64 (a), .int .i64 (b), .int .i64 (c), .int .i64 (d), .int .i64 (x), .int .i64 (y)] by rw [← hwn]; repeat' (first | exact Blk.at_ _ (by first | rfl | (simp; done) | (simp; omega)) _ _ | refine Blk.drewN ?_ _ | refine Blk.drew ?_ | refine Blk.alloc ?_ _ | refine Blk.far ?_ (by first | omega | (simp; done) | (simp; omega)) _ | assumption))
  have HN1 := Lib.hid hbn
  have hz1 := hbn.size
  clear hwn hbn
  have l0_1 : w.heap.size < w1.heap.size := K0_1.out.lt
  have z0_0_1 : w1.cell? ⟨w.heap.size, 0, none⟩ = some (.slice (some ⟨m.b1, m.o1, none⟩) m.n m.c1) := K0_1.out.cell 0
  have z0_1_1 : w1.cell? ⟨w.heap.size, 1, none⟩ = some (.slice (some ⟨m.b2, m.o2, none⟩) m.n m.c2) := K0_1.out.cell 1
  have z0_2_1 : w1.cell? ⟨w.heap.size, 2, none⟩ = some (.slice (some ⟨m.b3, m.o3, none⟩) m.n m.c3) := K0_1.out.cell 2
  have l1_1 : w.heap.size + 1 < w1.heap.size := K1_1.out.lt
  have z1_0_1 : w1.cell? ⟨w.heap.size + 1, 0, none⟩ = some (.int .i64 (a)) := K1_1.out.cell 0
  have z1_1_1 : w1.cell? ⟨w.heap.size + 1, 1, none⟩ = some (.int .i64 (b)) := K1_1.out.cell 1
  have z1_2_1 : w1.cell? ⟨w.heap.size + 1, 2, none⟩ = some (.int .i64 (c)) := K1_1.out.cell 2
  have z1_3_1 : w1.cell? ⟨w.heap.size + 1, 3, none⟩ = some (.int .i64 (d)) := K1_1.out.cell 3
  have z1_4_1 : w1.cell? ⟨w.heap.size + 1, 4, none⟩ = some (.int .i64 (x)) := K1_1.out.cell 4
  have z1_5_1 : w1.cell? ⟨w.heap.size + 1, 5, none⟩ = some (.int .i64 (y)) := K1_1.out.cell 5
  have hs1 := HB1.out.size
  have KA := K0_1
  have KB := K1_1
  go_loopw [7] (fun i wr => ∃ k : Nat, k ≤ m.n ∧ i = .int .i64 k ∧ (∀ j, j < k → 0 ≤ remN m a b c d j) ∧ Below w1.heap.size w1 wr) (fun i _ => m.n - (intOf i).toNat)
  case atStart => exact ⟨0, by omega, rfl, fun j hj => absurd hj (by omega), Below.refl _ _⟩
  case round =>
    obtain ⟨k, hk, rfl, hup, hb⟩ := hrel
    obtain ⟨w2, hnm⟩ : ∃ z : World, z = wr := ⟨_, rfl⟩
    subst hnm
    have HBW := Lib.hid hb
    have HUP := Lib.hid hup
    have k0 := Blk.below KA.out hb KA.out.lt
    have k1 := Blk.below KB.out hb KB.out.lt
    have hb2 := HB1.out.trans (hb.mono HB1.out.size)
    clear hb hup
    have HB2 := Lib.hid hb2
    have K0_2 := Lib.hid (show Blk w2 (w.heap.size) 24 #[.slice (some ⟨m.b1, m.o1, none⟩) m.n m.c1, .slice (some ⟨m.b2, m.o2, none⟩) m.n m.c2, .slice (some ⟨m.b3, m.o3, none⟩) m.n m.c3] from k0)
    have K1_2 := Lib.hid (show Blk w2 (w.heap.size + 1) 75 #[.int .i64 (a), .int .i64 (b), .int .i64 (c), .int .i64 (d), .int .i64 (x), .int .i64 (y)] from k1)
    clear hb2 k0 k1
    have l0_2 : w.heap.size < w2.heap.size := K0_2.out.lt
    have z0_0_2 : w2.cell? ⟨w.heap.size, 0, none⟩ = some (.slice (some ⟨m.b1, m.o1, none⟩) m.n m.c1) := K0_2.out.cell 0
    have z0_1_2 : w2.cell? ⟨w.heap.size, 1, none⟩ = some (.slice (some ⟨m.b2, m.o2, none⟩) m.n m.c2) := K0_2.out.cell 1
    have z0_2_2 : w2.cell? ⟨w.heap.size, 2, none⟩ = some (.slice (some ⟨m.b3, m.o3, none⟩) m.n m.c3) := K0_2.out.cell 2
    have l1_2 : w.heap.size + 1 < w2.heap.size := K1_2.out.lt
    have z1_0_2 : w2.cell? ⟨w.heap.size + 1, 0, none⟩ = some (.int .i64 (a)) := K1_2.out.cell 0
    have z1_1_2 : w2.cell? ⟨w.heap.size + 1, 1, none⟩ = some (.int .i64 (b)) := K1_2.out.cell 1
    have z1_2_2 : w2.cell? ⟨w.heap.size + 1, 2, none⟩ = some (.int .i64 (c)) := K1_2.out.cell 2
    have z1_3_2 : w2.cell? ⟨w.heap.size + 1, 3, none⟩ = some (.int .i64 (d)) := K1_2.out.cell 3
    have z1_4_2 : w2.cell? ⟨w.heap.size + 1, 4, none⟩ = some (.int .i64 (x)) := K1_2.out.cell 4
    have z1_5_2 : w2.cell? ⟨w.heap.size + 1, 5, none⟩ = some (.int .i64 (y)) := K1_2.out.cell 5
    by_cases hlt : k < m.n
    · obtain ⟨u, hu⟩ : ∃ u, redN (remN m a b c d k) (b * d) = u := ⟨_, rfl⟩
      obtain ⟨v, hv⟩ : ∃ u, redD (remN m a b c d k) (b * d) = u := ⟨_, rfl⟩
      have hsg := (redN_sign (a := remN m a b c d k) HBD.out).1
      rw [hu] at hsg
      have HU := Lib.hid hu
      have HV := Lib.hid hv
      have HSG := Lib.hid hsg
      have hkk : (k : Int) < (m.n : Int) := by omega
      clear hu hv hsg
      by_cases hneg : u < 0
      · have hd : decide (u < 0) = true := by simpa using hneg
        have HRR := Lib.hid (show R = ((k : Int), 26) from HR.out.symm.trans (cref_neg hlt HUP.out (HSG.out.1 hneg)))
        clear hneg
        go_wp2_with fail
        refine (rremoval_is m HM.out a b c d x y HL.out k hlt u v HU.out HV.out _ (HX.out.lay HB2.out)).mono ?_
        rintro e w3 ⟨rfl, hb⟩
        have HB3 := Lib.hid (show Below w.heap.size w w3 from step_below hb (by repeat' (first | exact Below.refl _ _ | exact HB2.out | refine below_drewN ?_ _ | refine Below.drew ?_ | refine Below.alloc ?_ (by first | omega | (simp; done) | (simp; omega) | (simp [World.setCell]; omega)) _ | refine Below.setCell ?_ (by first | omega | (simp; done) | (simp; omega)) _ | assumption)))
        have K0_3 := Lib.hid (step_blk hb (show Blk _ (w.heap.size) 24 #[.slice (some ⟨m.b1, m.o1, none⟩) m.n m.c1, .slice (some ⟨m.b2, m.o2, none⟩) m.n m.c2, .slice (some ⟨m.b3, m.o3, none⟩) m.n m.c3] by repeat' (first | exact K0_2.out | exact K1_2.out | exact Blk.at_ _ (by first | rfl | (simp; done) | (simp; omega)) _ _ | refine Blk.drewN ?_ _ | refine Blk.drew ?_ | refine Blk.alloc ?_ _ | refine Blk.far ?_ (by first | omega | (simp; done) | (simp; omega)) _ | assumption)))
        have K1_3 := Lib.hid (step_blk hb (show Blk _ (w.heap.size + 1) 75 #[.int .i64 (a), .int .i64 (b), .int .i64 (c), .int .i64 (d), .int .i64 (x), .int .i64 (y)] by repeat' (first | exact K0_2.out | exact K1_2.out | exact Blk.at_ _ (by first | rfl | (simp; done) | (simp; omega)) _ _ | refine Blk.drewN ?_ _ | refine Blk.drew ?_ | refine Blk.alloc ?_ _ | refine Blk.far ?_ (by first | omega | (simp; done) | (simp; omega)) _ | assumption)))
        have hz3 := hb.size
        try simp only [World.size_alloc, World.drewN, World.drew] at hz3
        clear hb K0_2 K1_2 z0_0_2 z0_1_2 z0_2_2 l0_2 z1_0_2 z1_1_2 z1_2_2 z1_3_2 z1_4_2 z1_5_2 l1_2
        have l0_3 : w.heap.size < w3.heap.size := K0_3.out.lt
        have z0_0_3 : w3.cell? ⟨w.heap.size, 0, none⟩ = some (.slice (some ⟨m.b1, m.o1, none⟩) m.n m.c1) := K0_3.out.cell 0
        have z0_1_3 : w3.cell? ⟨w.heap.size, 1, none⟩ = some (.slice (some ⟨m.b2, m.o2, none⟩) m.n m.c2) := K0_3.out.cell 1
        have z0_2_3 : w3.cell? ⟨w.heap.size, 2, none⟩ = some (.slice (some ⟨m.b3, m.o3, none⟩) m.n m.c3) := K0_3.out.cell 2
        have l1_3 : w.heap.size + 1 < w3.heap.size := K1_3.out.lt
        have z1_0_3 : w3.cell? ⟨w.heap.size + 1, 0, none⟩ = some (.int .i64 (a)) := K1_3.out.cell 0
        have z1_1_3 : w3.cell? ⟨w.heap.size + 1, 1, none⟩ = some (.int .i64 (b)) := K1_3.out.cell 1
        have z1_2_3 : w3.cell? ⟨w.heap.size + 1, 2, none⟩ = some (.int .i64 (c)) := K1_3.out.cell 2
        have z1_3_3 : w3.cell? ⟨w.heap.size + 1, 3, none⟩ = some (.int .i64 (d)) := K1_3.out.cell 3
        have z1_4_3 : w3.cell? ⟨w.heap.size + 1, 4, none⟩ = some (.int .i64 (x)) := K1_3.out.cell 4
        have z1_5_3 : w3.cell? ⟨w.heap.size + 1, 5, none⟩ = some (.int .i64 (y)) := K1_3.out.cell 5
        go_wp2
        go_ret2
        exact ⟨by rw [HRR.out]; rfl, HB3.out⟩
      · have hd : decide (u < 0) = false := by simpa using hneg
        have HNN := Lib.hid (show 0 ≤ remN m a b c d k from Int.not_lt.1 fun h => hneg (HSG.out.2 h))
        clear hneg
        have HA2 := Lib.hid (show Below w2.heap.size w2 w2 from Below.refl _ _)
        go_wp2_with fail
        refine (rremoval_is m HM.out a b c d x y HL.out k hlt u v HU.out HV.out _ (HX.out.lay HB2.out)).mono ?_
        rintro e w3 ⟨rfl, hb⟩
        have HB3 := Lib.hid (show Below w.heap.size w w3 from step_below hb (by repeat' (first | exact Below.refl _ _ | exact HB2.out | refine below_drewN ?_ _ | refine Below.drew ?_ | refine Below.alloc ?_ (by first | omega | (simp; done) | (simp; omega) | (simp [World.setCell]; omega)) _ | refine Below.setCell ?_ (by first | omega | (simp; done) | (simp; omega)) _ | assumption)))
        have K0_3 := Lib.hid (step_blk hb (show Blk _ (w.heap.size) 24 #[.slice (some ⟨m.b1, m.o1, none⟩) m.n m.c1, .slice (some ⟨m.b2, m.o2, none⟩) m.n m.c2, .slice (some ⟨m.b3, m.o3, none⟩) m.n m.c3] by repeat' (first | exact K0_2.out | exact K1_2.out | exact Blk.at_ _ (by first | rfl | (simp; done) | (simp; omega)) _ _ | refine Blk.drewN ?_ _ | refine Blk.drew ?_ | refine Blk.alloc ?_ _ | refine Blk.far ?_ (by first | omega | (simp; done) | (simp; omega)) _ | assumption)))
        have K1_3 := Lib.hid (step_blk hb (show Blk _ (w.heap.size + 1) 75 #[.int .i64 (a), .int .i64 (b), .int .i64 (c), .int .i64 (d), .int .i64 (x), .int .i64 (y)] by repeat' (first | exact K0_2.out | exact K1_2.out | exact Blk.at_ _ (by first | rfl | (simp; done) | (simp; omega)) _ _ | refine Blk.drewN ?_ _ | refine Blk.drew ?_ | refine Blk.alloc ?_ _ | refine Blk.far ?_ (by first | omega | (simp; done) | (simp; omega)) _ | assumption)))
        have HA3 := Lib.hid (step_below hb HA2.out)
        clear HA2
        have hz3 := hb.size
        try simp only [World.size_alloc, World.drewN, World.drew] at hz3
        clear hb K0_2 K1_2 z0_0_2 z0_1_2 z0_2_2 l0_2 z1_0_2 z1_1_2 z1_2_2 z1_3_2 z1_4_2 z1_5_2 l1_2
        have l0_3 : w.heap.size < w3.heap.size := K0_3.out.lt
        have z0_0_3 : w3.cell? ⟨w.heap.size, 0, none⟩ = some (.slice (some ⟨m.b1, m.o1, none⟩) m.n m.c1) := K0_3.out.cell 0
        have z0_1_3 : w3.cell? ⟨w.heap.size, 1, none⟩ = some (.slice (some ⟨m.b2, m.o2, none⟩) m.n m.c2) := K0_3.out.cell 1
        have z0_2_3 : w3.cell? ⟨w.heap.size, 2, none⟩ = some (.slice (some ⟨m.b3, m.o3, none⟩) m.n m.c3) := K0_3.out.cell 2
        have l1_3 : w.heap.size + 1 < w3.heap.size := K1_3.out.lt
        have z1_0_3 : w3.cell? ⟨w.heap.size + 1, 0, none⟩ = some (.int .i64 (a)) := K1_3.out.cell 0
        have z1_1_3 : w3.cell? ⟨w.heap.size + 1, 1, none⟩ = some (.int .i64 (b)) := K1_3.out.cell 1
        have z1_2_3 : w3.cell? ⟨w.heap.size + 1, 2, none⟩ = some (.int .i64 (c)) := K1_3.out.cell 2
        have z1_3_3 : w3.cell? ⟨w.heap.size + 1, 3, none⟩ = some (.int .i64 (d)) := K1_3.out.cell 3
        have z1_4_3 : w3.cell? ⟨w.heap.size + 1, 4, none⟩ = some (.int .i64 (x)) := K1_3.out.cell 4
        have z1_5_3 : w3.cell? ⟨w.heap.size + 1, 5, none⟩ = some (.int .i64 (y)) := K1_3.out.cell 5
        have HBZ := Lib.hid (HBW.out.trans ((show Below w2.heap.size w2 w3 from HA3.out).mono HBW.out.size))
        go_wp2
        go_roundw
        case rel => exact ⟨k + 1, by omega, by go_num, fun j hj => by
          by_cases e : j = k
          · rw [e]; exact HNN.out
          · exact HUP.out j (by omega), HBZ.out⟩
        case measure => simp [intOf]; omega
    · obtain rfl : k = m.n := by omega
      have HUN := HUP
      clear HUP
      go_wp2_with fail
      refine wp_loop_rounds 3 ?_
      rw [rounds_succ]
      obtain ⟨t1, ht1⟩ : ∃ t, withinB x 0 ((m.n : Int) - 1) = t := ⟨_, rfl⟩
      have H1 := Lib.hid ht1
      clear ht1
      go_wp2_with fail
      refine (withinref_is _ _ _ t1 H1.out _).mono ?_
      rintro e w' ⟨rfl, rfl⟩
      cases t1
      · have HRR := Lib.hid (show R = (0, 6) from HR.out.symm.trans (cref_miss HUN.out (.inl H1.out)))
        go_wp2
        go_ret2
        exact ⟨by rw [HRR.out]; rfl, HB2.out⟩
      go_wp2
      rw [rounds_succ]
      obtain ⟨t2, ht2⟩ : ∃ t, withinB y 0 ((m.n : Int) - 1) = t := ⟨_, rfl⟩
      have H2 := Lib.hid ht2
      clear ht2
      go_wp2_with fail
      refine (withinref_is _ _ _ t2 H2.out _).mono ?_
      rintro e w' ⟨rfl, rfl⟩
      cases t2
      · have HRR := Lib.hid (show R = (0, 6) from HR.out.symm.trans (cref_miss HUN.out (.inr H2.out)))
        go_wp2
        go_ret2
        exact ⟨by rw [HRR.out]; rfl, HB2.out⟩
      go_wp2
      rw [rounds_succ]
      have b1 := within_yes H1.out
      have b2 := within_yes H2.out
      obtain ⟨xn, rfl⟩ : ∃ xn : Nat, x = xn := ⟨x.toNat, by omega⟩
      obtain ⟨yn, rfl⟩ : ∃ yn : Nat, y = yn := ⟨y.toNat, by omega⟩
      have hxn : xn < m.n := by omega
      have hyn : yn < m.n := by omega
      clear b1 b2
      go_wp2_with fail
      refine (rmean_ok m HM.out HW1.out _ (HX.out.lay HB2.out) mn md HMN.out HMD.out).mono ?_
      rintro e w3 ⟨rfl, hb⟩
      have HB3 := Lib.hid (show Below w.heap.size w w3 from step_below hb (by repeat' (first | exact Below.refl _ _ | exact HB2.out | refine below_drewN ?_ _ | refine Below.drew ?_ | refine Below.alloc ?_ (by first | omega | (simp; done) | (simp; omega) | (simp [World.setCell]; omega)) _ | refine Below.setCell ?_ (by first | omega | (simp; done) | (simp; omega)) _ | assumption)))
      have K0_3 := Lib.hid (step_blk hb (show Blk _ (w.heap.size) 24 #[.slice (some ⟨m.b1, m.o1, none⟩) m.n m.c1, .slice (some ⟨m.b2, m.o2, none⟩) m.n m.c2, .slice (some ⟨m.b3, m.o3, none⟩) m.n m.c3] by repeat' (first | exact K0_2.out | exact K1_2.out | exact Blk.at_ _ (by first | rfl | (simp; done) | (simp; omega)) _ _ | refine Blk.drewN ?_ _ | refine Blk.drew ?_ | refine Blk.alloc ?_ _ | refine Blk.far ?_ (by first | omega | (simp; done) | (simp; omega)) _ | assumption)))
      have K1_3 := Lib.hid (step_blk hb (show Blk _ (w.heap.size + 1) 75 #[.int .i64 (a), .int .i64 (b), .int .i64 (c), .int .i64 (d), .int .i64 ((xn : Int)), .int .i64 ((yn : Int))] by repeat' (first | exact K0_2.out | exact K1_2.out | exact Blk.at_ _ (by first | rfl | (simp; done) | (simp; omega)) _ _ | refine Blk.drewN ?_ _ | refine Blk.drew ?_ | refine Blk.alloc ?_ _ | refine Blk.far ?_ (by first | omega | (simp; done) | (simp; omega)) _ | assumption)))
      have hz3 := hb.size
      try simp only [World.size_alloc, World.drewN, World.drew] at hz3
      clear hb K0_2 K1_2 z0_0_2 z0_1_2 z0_2_2 l0_2 z1_0_2 z1_1_2 z1_2_2 z1_3_2 z1_4_2 z1_5_2 l1_2
      have l0_3 : w.heap.size < w3.heap.size := K0_3.out.lt
      have z0_0_3 : w3.cell? ⟨w.heap.size, 0, none⟩ = some (.slice (some ⟨m.b1, m.o1, none⟩) m.n m.c1) := K0_3.out.cell 0
      have z0_1_3 : w3.cell? ⟨w.heap.size, 1, none⟩ = some (.slice (some ⟨m.b2, m.o2, none⟩) m.n m.c2) := K0_3.out.cell 1
      have z0_2_3 : w3.cell? ⟨w.heap.size, 2, none⟩ = some (.slice (some ⟨m.b3, m.o3, none⟩) m.n m.c3) := K0_3.out.cell 2
      have l1_3 : w.heap.size + 1 < w3.heap.size := K1_3.out.lt
      have z1_0_3 : w3.cell? ⟨w.heap.size + 1, 0, none⟩ = some (.int .i64 (a)) := K1_3.out.cell 0
      have z1_1_3 : w3.cell? ⟨w.heap.size + 1, 1, none⟩ = some (.int .i64 (b)) := K1_3.out.cell 1
      have z1_2_3 : w3.cell? ⟨w.heap.size + 1, 2, none⟩ = some (.int .i64 (c)) := K1_3.out.cell 2
      have z1_3_3 : w3.cell? ⟨w.heap.size + 1, 3, none⟩ = some (.int .i64 (d)) := K1_3.out.cell 3
      have z1_4_3 : w3.cell? ⟨w.heap.size + 1, 4, none⟩ = some (.int .i64 ((xn : Int))) := K1_3.out.cell 4
      have z1_5_3 : w3.cell? ⟨w.heap.size + 1, 5, none⟩ = some (.int .i64 ((yn : Int))) := K1_3.out.cell 5
      go_wp2_with fail
      generalize hwn : (w3.alloc (.cells #[.int .i64 (mn), .int .i64 (md)] 28)) = w4
      have hbn : Below w3.heap.size w3 w4 := by rw [← hwn]; repeat' (first | exact Below.refl _ _ | refine below_drewN ?_ _ | refine Below.drew ?_ | refine Below.alloc ?_ (by first | omega | (simp; done) | (simp; omega) | (simp [World.setCell]; omega)) _ | refine Below.setCell ?_ (by first | omega | (simp; done) | (simp; omega)) _)
      have HB4 := Lib.hid (show Below w.heap.size w w4 from HB3.out.trans (hbn.mono HB3.out.size))
      have K0_4 := Lib.hid (step_blk hbn K0_3.out)
      have K1_4 := Lib.hid (step_blk hbn K1_3.out)
      have K2_4 := Lib.hid (show Blk w4 (w3.heap.size) 28 #[.int .i64 (mn), .int .i64 (md)] by rw [← hwn]; repeat' (first | exact Blk.at_ _ (by first | rfl | (simp; done) | (simp; omega)) _ _ | refine Blk.drewN ?_ _ | refine Blk.drew ?_ | refine Blk.alloc ?_ _ | refine Blk.far ?_ (by first | omega | (simp; done) | (simp; omega)) _ | assumption))
      have HN4 := Lib.hid hbn
      have hz4 := hbn.size
      clear hwn hbn K0_3 l0_3 z0_0_3 z0_1_3 z0_2_3 K1_3 l1_3 z1_0_3 z1_1_3 z1_2_3 z1_3_3 z1_4_3 z1_5_3
      have l0_4 : w.heap.size < w4.heap.size := K0_4.out.lt
      have z0_0_4 : w4.cell? ⟨w.heap.size, 0, none⟩ = some (.slice (some ⟨m.b1, m.o1, none⟩) m.n m.c1) := K0_4.out.cell 0
      have z0_1_4 : w4.cell? ⟨w.heap.size, 1, none⟩ = some (.slice (some ⟨m.b2, m.o2, none⟩) m.n m.c2) := K0_4.out.cell 1
      have z0_2_4 : w4.cell? ⟨w.heap.size, 2, none⟩ = some (.slice (some ⟨m.b3, m.o3, none⟩) m.n m.c3) := K0_4.out.cell 2
      have l1_4 : w.heap.size + 1 < w4.heap.size := K1_4.out.lt
      have z1_0_4 : w4.cell? ⟨w.heap.size + 1, 0, none⟩ = some (.int .i64 (a)) := K1_4.out.cell 0
      have z1_1_4 : w4.cell? ⟨w.heap.size + 1, 1, none⟩ = some (.int .i64 (b)) := K1_4.out.cell 1
      have z1_2_4 : w4.cell? ⟨w.heap.size + 1, 2, none⟩ = some (.int .i64 (c)) := K1_4.out.cell 2
      have z1_3_4 : w4.cell? ⟨w.heap.size + 1, 3, none⟩ = some (.int .i64 (d)) := K1_4.out.cell 3
      have z1_4_4 : w4.cell? ⟨w.heap.size + 1, 4, none⟩ = some (.int .i64 ((xn : Int))) := K1_4.out.cell 4
      have z1_5_4 : w4.cell? ⟨w.heap.size + 1, 5, none⟩ = some (.int .i64 ((yn : Int))) := K1_4.out.cell 5
      have l2_4 : w3.heap.size < w4.heap.size := K2_4.out.lt
      have z2_0_4 : w4.cell? ⟨w3.heap.size, 0, none⟩ = some (.int .i64 (mn)) := K2_4.out.cell 0
      have z2_1_4 : w4.cell? ⟨w3.heap.size, 1, none⟩ = some (.int .i64 (md)) := K2_4.out.cell 1
      refine wp_loop_rounds 3 ?_
      rw [rounds_succ]
      obtain ⟨u, hu⟩ : ∃ u, redN (remN m a b c d xn) (b * d) = u := ⟨_, rfl⟩
      obtain ⟨v, hv⟩ : ∃ u, redD (remN m a b c d xn) (b * d) = u := ⟨_, rfl⟩
      have hsg := (redN_sign (a := remN m a b c d xn) HBD.out).2
      rw [hu] at hsg
      have HU := Lib.hid hu
      have HV := Lib.hid hv
      have HSG := Lib.hid hsg
      clear hu hv hsg
      go_wp2_with fail
      refine Fx.regionW (fun W f w' => Below W.heap.size W w') (by kernel_rfl) (by kernel_rfl) ?_ ?_
      · intro f hf0
        exact below_drewN (Below.refl _ _) 1
      repeat (first
        | (refine Fx.skip_ (by rfl) (fun f w h => h) ?_; simp only [Act.put, List.setIfInBounds_toArray, List.set_cons_zero, List.set_cons_succ])
        | (refine Fx.val_ ?_ (by rfl) ?_ (fun f w h => h) ?_
           rotate_left
           · intro f w' hD hk
             have hb := hD
             have kb0 := step_blk hb (show Blk _ (w.heap.size) 24 #[.slice (some ⟨m.b1, m.o1, none⟩) m.n m.c1, .slice (some ⟨m.b2, m.o2, none⟩) m.n m.c2, .slice (some ⟨m.b3, m.o3, none⟩) m.n m.c3] by repeat' (first | exact K0_4.out | exact K1_4.out | exact K2_4.out | exact Blk.at_ _ (by first | rfl | (simp; done) | (simp; omega)) _ _ | refine Blk.drewN ?_ _ | refine Blk.drew ?_ | refine Blk.alloc ?_ _ | refine Blk.far ?_ (by first | omega | (simp; done) | (simp; omega)) _ | assumption))
             have y0_0 : w'.cell? ⟨w.heap.size, 0, none⟩ = some (.slice (some ⟨m.b1, m.o1, none⟩) m.n m.c1) := kb0.cell 0
             have y0_1 : w'.cell? ⟨w.heap.size, 1, none⟩ = some (.slice (some ⟨m.b2, m.o2, none⟩) m.n m.c2) := kb0.cell 1
             have y0_2 : w'.cell? ⟨w.heap.size, 2, none⟩ = some (.slice (some ⟨m.b3, m.o3, none⟩) m.n m.c3) := kb0.cell 2
             have kb1 := step_blk hb (show Blk _ (w.heap.size + 1) 75 #[.int .i64 (a), .int .i64 (b), .int .i64 (c), .int .i64 (d), .int .i64 ((xn : Int)), .int .i64 ((yn : Int))] by repeat' (first | exact K0_4.out | exact K1_4.out | exact K2_4.out | exact Blk.at_ _ (by first | rfl | (simp; done) | (simp; omega)) _ _ | refine Blk.drewN ?_ _ | refine Blk.drew ?_ | refine Blk.alloc ?_ _ | refine Blk.far ?_ (by first | omega | (simp; done) | (simp; omega)) _ | assumption))
             have y1_0 : w'.cell? ⟨w.heap.size + 1, 0, none⟩ = some (.int .i64 (a)) := kb1.cell 0
             have y1_1 : w'.cell? ⟨w.heap.size + 1, 1, none⟩ = some (.int .i64 (b)) := kb1.cell 1
             have y1_2 : w'.cell? ⟨w.heap.size + 1, 2, none⟩ = some (.int .i64 (c)) := kb1.cell 2
             have y1_3 : w'.cell? ⟨w.heap.size + 1, 3, none⟩ = some (.int .i64 (d)) := kb1.cell 3
             have y1_4 : w'.cell? ⟨w.heap.size + 1, 4, none⟩ = some (.int .i64 ((xn : Int))) := kb1.cell 4
             have y1_5 : w'.cell? ⟨w.heap.size + 1, 5, none⟩ = some (.int .i64 ((yn : Int))) := kb1.cell 5
             have kb2 := step_blk hb (show Blk _ (w3.heap.size) 28 #[.int .i64 (mn), .int .i64 (md)] by repeat' (first | exact K0_4.out | exact K1_4.out | exact K2_4.out | exact Blk.at_ _ (by first | rfl | (simp; done) | (simp; omega)) _ _ | refine Blk.drewN ?_ _ | refine Blk.drew ?_ | refine Blk.alloc ?_ _ | refine Blk.far ?_ (by first | omega | (simp; done) | (simp; omega)) _ | assumption))
             have y2_0 : w'.cell? ⟨w3.heap.size, 0, none⟩ = some (.int .i64 (mn)) := kb2.cell 0
             have y2_1 : w'.cell? ⟨w3.heap.size, 1, none⟩ = some (.int .i64 (md)) := kb2.cell 1
             clear kb0 kb1 kb2
             clear hk hD hb
             go_simp
             try rfl
           simp only [Act.put, List.setIfInBounds_toArray, List.set_cons_zero, List.set_cons_succ]))
      refine Fx.call_ (.agg #[.int .i64 u, .int .i64 v]) ?_ ?_ (by rfl) ?_ ?_ ?_
      rotate_left 2
      · intro w'
        go_simp
        refine ⟨?_, ?_⟩ <;> rfl
      · intro f w' hD hk
        exact (rremoval_is m HM.out a b c d xn yn HL.out xn hxn u v HU.out HV.out w' (HX.out.lay (HB4.out.trans (hD.mono HB4.out.size)))).mono fun e w'' ⟨he, hw⟩ => ⟨he, step_below hw hD⟩
      simp only [Act.put, List.setIfInBounds_toArray, List.set_cons_zero, List.set_cons_succ]
      repeat (first
        | (refine Fx.skip_ (by rfl) (fun f w h => h) ?_; simp only [Act.put, List.setIfInBounds_toArray, List.set_cons_zero, List.set_cons_succ])
        | (refine Fx.val_ ?_ (by rfl) ?_ (fun f w h => h) ?_
           rotate_left
           · intro f w' hD hk
             have hb := hD
             have kb0 := step_blk hb (show Blk _ (w.heap.size) 24 #[.slice (some ⟨m.b1, m.o1, none⟩) m.n m.c1, .slice (some ⟨m.b2, m.o2, none⟩) m.n m.c2, .slice (some ⟨m.b3, m.o3, none⟩) m.n m.c3] by repeat' (first | exact K0_4.out | exact K1_4.out | exact K2_4.out | exact Blk.at_ _ (by first | rfl | (simp; done) | (simp; omega)) _ _ | refine Blk.drewN ?_ _ | refine Blk.drew ?_ | refine Blk.alloc ?_ _ | refine Blk.far ?_ (by first | omega | (simp; done) | (simp; omega)) _ | assumption))
             have y0_0 : w'.cell? ⟨w.heap.size, 0, none⟩ = some (.slice (some ⟨m.b1, m.o1, none⟩) m.n m.c1) := kb0.cell 0
             have y0_1 : w'.cell? ⟨w.heap.size, 1, none⟩ = some (.slice (some ⟨m.b2, m.o2, none⟩) m.n m.c2) := kb0.cell 1
             have y0_2 : w'.cell? ⟨w.heap.size, 2, none⟩ = some (.slice (some ⟨m.b3, m.o3, none⟩) m.n m.c3) := kb0.cell 2
             have kb1 := step_blk hb (show Blk _ (w.heap.size + 1) 75 #[.int .i64 (a), .int .i64 (b), .int .i64 (c), .int .i64 (d), .int .i64 ((xn : Int)), .int .i64 ((yn : Int))] by repeat' (first | exact K0_4.out | exact K1_4.out | exact K2_4.out | exact Blk.at_ _ (by first | rfl | (simp; done) | (simp; omega)) _ _ | refine Blk.drewN ?_ _ | refine Blk.drew ?_ | refine Blk.alloc ?_ _ | refine Blk.far ?_ (by first | omega | (simp; done) | (simp; omega)) _ | assumption))
             have y1_0 : w'.cell? ⟨w.heap.size + 1, 0, none⟩ = some (.int .i64 (a)) := kb1.cell 0
             have y1_1 : w'.cell? ⟨w.heap.size + 1, 1, none⟩ = some (.int .i64 (b)) := kb1.cell 1
             have y1_2 : w'.cell? ⟨w.heap.size + 1, 2, none⟩ = some (.int .i64 (c)) := kb1.cell 2
             have y1_3 : w'.cell? ⟨w.heap.size + 1, 3, none⟩ = some (.int .i64 (d)) := kb1.cell 3
             have y1_4 : w'.cell? ⟨w.heap.size + 1, 4, none⟩ = some (.int .i64 ((xn : Int))) := kb1.cell 4
             have y1_5 : w'.cell? ⟨w.heap.size + 1, 5, none⟩ = some (.int .i64 ((yn : Int))) := kb1.cell 5
             have kb2 := step_blk hb (show Blk _ (w3.heap.size) 28 #[.int .i64 (mn), .int .i64 (md)] by repeat' (first | exact K0_4.out | exact K1_4.out | exact K2_4.out | exact Blk.at_ _ (by first | rfl | (simp; done) | (simp; omega)) _ _ | refine Blk.drewN ?_ _ | refine Blk.drew ?_ | refine Blk.alloc ?_ _ | refine Blk.far ?_ (by first | omega | (simp; done) | (simp; omega)) _ | assumption))
             have y2_0 : w'.cell? ⟨w3.heap.size, 0, none⟩ = some (.int .i64 (mn)) := kb2.cell 0
             have y2_1 : w'.cell? ⟨w3.heap.size, 1, none⟩ = some (.int .i64 (md)) := kb2.cell 1
             clear kb0 kb1 kb2
             clear hk hD hb
             go_simp
             try rfl
           simp only [Act.put, List.setIfInBounds_toArray, List.set_cons_zero, List.set_cons_succ]))
      refine Fx.nil_ ?_
      intro f w5 hall hb
      try clear hall
      have HB45 := Lib.hid hb
      have HB5 := Lib.hid (show Below w.heap.size w w5 from step_below hb (by repeat' (first | exact Below.refl _ _ | exact HB4.out | refine below_drewN ?_ _ | refine Below.drew ?_ | refine Below.alloc ?_ (by first | omega | (simp; done) | (simp; omega) | (simp [World.setCell]; omega)) _ | refine Below.setCell ?_ (by first | omega | (simp; done) | (simp; omega)) _ | assumption)))
      have K0_5 := Lib.hid (step_blk hb (show Blk _ (w.heap.size) 24 #[.slice (some ⟨m.b1, m.o1, none⟩) m.n m.c1, .slice (some ⟨m.b2, m.o2, none⟩) m.n m.c2, .slice (some ⟨m.b3, m.o3, none⟩) m.n m.c3] by repeat' (first | exact K0_4.out | exact K1_4.out | exact K2_4.out | exact Blk.at_ _ (by first | rfl | (simp; done) | (simp; omega)) _ _ | refine Blk.drewN ?_ _ | refine Blk.drew ?_ | refine Blk.alloc ?_ _ | refine Blk.far ?_ (by first | omega | (simp; done) | (simp; omega)) _ | assumption)))
      have K1_5 := Lib.hid (step_blk hb (show Blk _ (w.heap.size + 1) 75 #[.int .i64 (a), .int .i64 (b), .int .i64 (c), .int .i64 (d), .int .i64 ((xn : Int)), .int .i64 ((yn : Int))] by repeat' (first | exact K0_4.out | exact K1_4.out | exact K2_4.out | exact Blk.at_ _ (by first | rfl | (simp; done) | (simp; omega)) _ _ | refine Blk.drewN ?_ _ | refine Blk.drew ?_ | refine Blk.alloc ?_ _ | refine Blk.far ?_ (by first | omega | (simp; done) | (simp; omega)) _ | assumption)))
      have K2_5 := Lib.hid (step_blk hb (show Blk _ (w3.heap.size) 28 #[.int .i64 (mn), .int .i64 (md)] by repeat' (first | exact K0_4.out | exact K1_4.out | exact K2_4.out | exact Blk.at_ _ (by first | rfl | (simp; done) | (simp; omega)) _ _ | refine Blk.drewN ?_ _ | refine Blk.drew ?_ | refine Blk.alloc ?_ _ | refine Blk.far ?_ (by first | omega | (simp; done) | (simp; omega)) _ | assumption)))
      have hz5 := hb.size
      try simp only [World.size_alloc, World.drewN, World.drew] at hz5
      clear hb K0_4 K1_4 K2_4 z0_0_4 z0_1_4 z0_2_4 l0_4 z1_0_4 z1_1_4 z1_2_4 z1_3_4 z1_4_4 z1_5_4 l1_4 z2_0_4 z2_1_4 l2_4
      have l0_5 : w.heap.size < w5.heap.size := K0_5.out.lt
      have z0_0_5 : w5.cell? ⟨w.heap.size, 0, none⟩ = some (.slice (some ⟨m.b1, m.o1, none⟩) m.n m.c1) := K0_5.out.cell 0
      have z0_1_5 : w5.cell? ⟨w.heap.size, 1, none⟩ = some (.slice (some ⟨m.b2, m.o2, none⟩) m.n m.c2) := K0_5.out.cell 1
      have z0_2_5 : w5.cell? ⟨w.heap.size, 2, none⟩ = some (.slice (some ⟨m.b3, m.o3, none⟩) m.n m.c3) := K0_5.out.cell 2
      have l1_5 : w.heap.size + 1 < w5.heap.size := K1_5.out.lt
      have z1_0_5 : w5.cell? ⟨w.heap.size + 1, 0, none⟩ = some (.int .i64 (a)) := K1_5.out.cell 0
      have z1_1_5 : w5.cell? ⟨w.heap.size + 1, 1, none⟩ = some (.int .i64 (b)) := K1_5.out.cell 1
      have z1_2_5 : w5.cell? ⟨w.heap.size + 1, 2, none⟩ = some (.int .i64 (c)) := K1_5.out.cell 2
      have z1_3_5 : w5.cell? ⟨w.heap.size + 1, 3, none⟩ = some (.int .i64 (d)) := K1_5.out.cell 3
      have z1_4_5 : w5.cell? ⟨w.heap.size + 1, 4, none⟩ = some (.int .i64 ((xn : Int))) := K1_5.out.cell 4
      have z1_5_5 : w5.cell? ⟨w.heap.size + 1, 5, none⟩ = some (.int .i64 ((yn : Int))) := K1_5.out.cell 5
      have l2_5 : w3.heap.size < w5.heap.size := K2_5.out.lt
      have z2_0_5 : w5.cell? ⟨w3.heap.size, 0, none⟩ = some (.int .i64 (mn)) := K2_5.out.cell 0
      have z2_1_5 : w5.cell? ⟨w3.heap.size, 1, none⟩ = some (.int .i64 (md)) := K2_5.out.cell 1
      by_cases g1 : u = 0
      rotate_left
      · have dg : (u != 0) = true := by simpa using g1
        have HRR := Lib.hid (show R = (0, 22) from HR.out.symm.trans (cref_proof HUN.out H1.out H2.out (.inl (by simpa using fun h => g1 (HSG.out.2 h)))))
        clear g1
        go_wp2
        go_ret2
        exact ⟨by rw [HRR.out]; rfl, HB5.out⟩
      have HZ1 := Lib.hid (show remN m a b c d xn = 0 from HSG.out.1 g1)
      subst g1
      clear HSG
      go_wp2
      rw [rounds_succ]
      obtain ⟨u, hu⟩ : ∃ u, redN (remN m a b c d yn) (b * d) = u := ⟨_, rfl⟩
      obtain ⟨v, hv⟩ : ∃ v, redD (remN m a b c d yn) (b * d) = v := ⟨_, rfl⟩
      have hsg := (redN_sign (a := remN m a b c d yn) HBD.out).2
      rw [hu] at hsg
      have HU2 := Lib.hid hu
      have HV2 := Lib.hid hv
      have HSG := Lib.hid hsg
      clear hu hv hsg
      go_wp2_with fail
      refine Fx.regionW (fun W f w' => Below W.heap.size W w') (by kernel_rfl) (by kernel_rfl) ?_ ?_
      · intro f hf0
        exact below_drewN (Below.refl _ _) 1
      repeat (first
        | (refine Fx.skip_ (by rfl) (fun f w h => h) ?_; simp only [Act.put, List.setIfInBounds_toArray, List.set_cons_zero, List.set_cons_succ])
        | (refine Fx.val_ ?_ (by rfl) ?_ (fun f w h => h) ?_
           rotate_left
           · intro f w' hD hk
             have hb := hD
             have kb0 := step_blk hb (show Blk _ (w.heap.size) 24 #[.slice (some ⟨m.b1, m.o1, none⟩) m.n m.c1, .slice (some ⟨m.b2, m.o2, none⟩) m.n m.c2, .slice (some ⟨m.b3, m.o3, none⟩) m.n m.c3] by repeat' (first | exact K0_5.out | exact K1_5.out | exact K2_5.out | exact Blk.at_ _ (by first | rfl | (simp; done) | (simp; omega)) _ _ | refine Blk.drewN ?_ _ | refine Blk.drew ?_ | refine Blk.alloc ?_ _ | refine Blk.far ?_ (by first | omega | (simp; done) | (simp; omega)) _ | assumption))
             have y0_0 : w'.cell? ⟨w.heap.size, 0, none⟩ = some (.slice (some ⟨m.b1, m.o1, none⟩) m.n m.c1) := kb0.cell 0
             have y0_1 : w'.cell? ⟨w.heap.size, 1, none⟩ = some (.slice (some ⟨m.b2, m.o2, none⟩) m.n m.c2) := kb0.cell 1
             have y0_2 : w'.cell? ⟨w.heap.size, 2, none⟩ = some (.slice (some ⟨m.b3, m.o3, none⟩) m.n m.c3) := kb0.cell 2
             have kb1 := step_blk hb (show Blk _ (w.heap.size + 1) 75 #[.int .i64 (a), .int .i64 (b), .int .i64 (c), .int .i64 (d), .int .i64 ((xn : Int)), .int .i64 ((yn : Int))] by repeat' (first | exact K0_5.out | exact K1_5.out | exact K2_5.out | exact Blk.at_ _ (by first | rfl | (simp; done) | (simp; omega)) _ _ | refine Blk.drewN ?_ _ | refine Blk.drew ?_ | refine Blk.alloc ?_ _ | refine Blk.far ?_ (by first | omega | (simp; done) | (simp; omega)) _ | assumption))
             have y1_0 : w'.cell? ⟨w.heap.size + 1, 0, none⟩ = some (.int .i64 (a)) := kb1.cell 0
             have y1_1 : w'.cell? ⟨w.heap.size + 1, 1, none⟩ = some (.int .i64 (b)) := kb1.cell 1
             have y1_2 : w'.cell? ⟨w.heap.size + 1, 2, none⟩ = some (.int .i64 (c)) := kb1.cell 2
             have y1_3 : w'.cell? ⟨w.heap.size + 1, 3, none⟩ = some (.int .i64 (d)) := kb1.cell 3
             have y1_4 : w'.cell? ⟨w.heap.size + 1, 4, none⟩ = some (.int .i64 ((xn : Int))) := kb1.cell 4
             have y1_5 : w'.cell? ⟨w.heap.size + 1, 5, none⟩ = some (.int .i64 ((yn : Int))) := kb1.cell 5
             have kb2 := step_blk hb (show Blk _ (w3.heap.size) 28 #[.int .i64 (mn), .int .i64 (md)] by repeat' (first | exact K0_5.out | exact K1_5.out | exact K2_5.out | exact Blk.at_ _ (by first | rfl | (simp; done) | (simp; omega)) _ _ | refine Blk.drewN ?_ _ | refine Blk.drew ?_ | refine Blk.alloc ?_ _ | refine Blk.far ?_ (by first | omega | (simp; done) | (simp; omega)) _ | assumption))
             have y2_0 : w'.cell? ⟨w3.heap.size, 0, none⟩ = some (.int .i64 (mn)) := kb2.cell 0
             have y2_1 : w'.cell? ⟨w3.heap.size, 1, none⟩ = some (.int .i64 (md)) := kb2.cell 1
             clear kb0 kb1 kb2
             clear hk hD hb
             go_simp
             try rfl
           simp only [Act.put, List.setIfInBounds_toArray, List.set_cons_zero, List.set_cons_succ]))
      refine Fx.call_ (.agg #[.int .i64 u, .int .i64 v]) ?_ ?_ (by rfl) ?_ ?_ ?_
      rotate_left 2
      · intro w'
        go_simp
        refine ⟨?_, ?_⟩ <;> rfl
      · intro f w' hD hk
        exact (rremoval_is m HM.out a b c d xn yn HL.out yn hyn u v HU2.out HV2.out w' (HX.out.lay (HB5.out.trans (hD.mono HB5.out.size)))).mono fun e w'' ⟨he, hw⟩ => ⟨he, step_below hw hD⟩
      simp only [Act.put, List.setIfInBounds_toArray, List.set_cons_zero, List.set_cons_succ]
      repeat (first
        | (refine Fx.skip_ (by rfl) (fun f w h => h) ?_; simp only [Act.put, List.setIfInBounds_toArray, List.set_cons_zero, List.set_cons_succ])
        | (refine Fx.val_ ?_ (by rfl) ?_ (fun f w h => h) ?_
           rotate_left
           · intro f w' hD hk
             have hb := hD
             have kb0 := step_blk hb (show Blk _ (w.heap.size) 24 #[.slice (some ⟨m.b1, m.o1, none⟩) m.n m.c1, .slice (some ⟨m.b2, m.o2, none⟩) m.n m.c2, .slice (some ⟨m.b3, m.o3, none⟩) m.n m.c3] by repeat' (first | exact K0_5.out | exact K1_5.out | exact K2_5.out | exact Blk.at_ _ (by first | rfl | (simp; done) | (simp; omega)) _ _ | refine Blk.drewN ?_ _ | refine Blk.drew ?_ | refine Blk.alloc ?_ _ | refine Blk.far ?_ (by first | omega | (simp; done) | (simp; omega)) _ | assumption))
             have y0_0 : w'.cell? ⟨w.heap.size, 0, none⟩ = some (.slice (some ⟨m.b1, m.o1, none⟩) m.n m.c1) := kb0.cell 0
             have y0_1 : w'.cell? ⟨w.heap.size, 1, none⟩ = some (.slice (some ⟨m.b2, m.o2, none⟩) m.n m.c2) := kb0.cell 1
             have y0_2 : w'.cell? ⟨w.heap.size, 2, none⟩ = some (.slice (some ⟨m.b3, m.o3, none⟩) m.n m.c3) := kb0.cell 2
             have kb1 := step_blk hb (show Blk _ (w.heap.size + 1) 75 #[.int .i64 (a), .int .i64 (b), .int .i64 (c), .int .i64 (d), .int .i64 ((xn : Int)), .int .i64 ((yn : Int))] by repeat' (first | exact K0_5.out | exact K1_5.out | exact K2_5.out | exact Blk.at_ _ (by first | rfl | (simp; done) | (simp; omega)) _ _ | refine Blk.drewN ?_ _ | refine Blk.drew ?_ | refine Blk.alloc ?_ _ | refine Blk.far ?_ (by first | omega | (simp; done) | (simp; omega)) _ | assumption))
             have y1_0 : w'.cell? ⟨w.heap.size + 1, 0, none⟩ = some (.int .i64 (a)) := kb1.cell 0
             have y1_1 : w'.cell? ⟨w.heap.size + 1, 1, none⟩ = some (.int .i64 (b)) := kb1.cell 1
             have y1_2 : w'.cell? ⟨w.heap.size + 1, 2, none⟩ = some (.int .i64 (c)) := kb1.cell 2
             have y1_3 : w'.cell? ⟨w.heap.size + 1, 3, none⟩ = some (.int .i64 (d)) := kb1.cell 3
             have y1_4 : w'.cell? ⟨w.heap.size + 1, 4, none⟩ = some (.int .i64 ((xn : Int))) := kb1.cell 4
             have y1_5 : w'.cell? ⟨w.heap.size + 1, 5, none⟩ = some (.int .i64 ((yn : Int))) := kb1.cell 5
             have kb2 := step_blk hb (show Blk _ (w3.heap.size) 28 #[.int .i64 (mn), .int .i64 (md)] by repeat' (first | exact K0_5.out | exact K1_5.out | exact K2_5.out | exact Blk.at_ _ (by first | rfl | (simp; done) | (simp; omega)) _ _ | refine Blk.drewN ?_ _ | refine Blk.drew ?_ | refine Blk.alloc ?_ _ | refine Blk.far ?_ (by first | omega | (simp; done) | (simp; omega)) _ | assumption))
             have y2_0 : w'.cell? ⟨w3.heap.size, 0, none⟩ = some (.int .i64 (mn)) := kb2.cell 0
             have y2_1 : w'.cell? ⟨w3.heap.size, 1, none⟩ = some (.int .i64 (md)) := kb2.cell 1
             clear kb0 kb1 kb2
             clear hk hD hb
             go_simp
             try rfl
           simp only [Act.put, List.setIfInBounds_toArray, List.set_cons_zero, List.set_cons_succ]))
      refine Fx.nil_ ?_
      intro f w6 hall hb
      try clear hall
      have HB56 := Lib.hid hb
      have HB6 := Lib.hid (show Below w.heap.size w w6 from step_below hb (by repeat' (first | exact Below.refl _ _ | exact HB5.out | refine below_drewN ?_ _ | refine Below.drew ?_ | refine Below.alloc ?_ (by first | omega | (simp; done) | (simp; omega) | (simp [World.setCell]; omega)) _ | refine Below.setCell ?_ (by first | omega | (simp; done) | (simp; omega)) _ | assumption)))
      have K0_6 := Lib.hid (step_blk hb (show Blk _ (w.heap.size) 24 #[.slice (some ⟨m.b1, m.o1, none⟩) m.n m.c1, .slice (some ⟨m.b2, m.o2, none⟩) m.n m.c2, .slice (some ⟨m.b3, m.o3, none⟩) m.n m.c3] by repeat' (first | exact K0_5.out | exact K1_5.out | exact K2_5.out | exact Blk.at_ _ (by first | rfl | (simp; done) | (simp; omega)) _ _ | refine Blk.drewN ?_ _ | refine Blk.drew ?_ | refine Blk.alloc ?_ _ | refine Blk.far ?_ (by first | omega | (simp; done) | (simp; omega)) _ | assumption)))
      have K1_6 := Lib.hid (step_blk hb (show Blk _ (w.heap.size + 1) 75 #[.int .i64 (a), .int .i64 (b), .int .i64 (c), .int .i64 (d), .int .i64 ((xn : Int)), .int .i64 ((yn : Int))] by repeat' (first | exact K0_5.out | exact K1_5.out | exact K2_5.out | exact Blk.at_ _ (by first | rfl | (simp; done) | (simp; omega)) _ _ | refine Blk.drewN ?_ _ | refine Blk.drew ?_ | refine Blk.alloc ?_ _ | refine Blk.far ?_ (by first | omega | (simp; done) | (simp; omega)) _ | assumption)))
      have K2_6 := Lib.hid (step_blk hb (show Blk _ (w3.heap.size) 28 #[.int .i64 (mn), .int .i64 (md)] by repeat' (first | exact K0_5.out | exact K1_5.out | exact K2_5.out | exact Blk.at_ _ (by first | rfl | (simp; done) | (simp; omega)) _ _ | refine Blk.drewN ?_ _ | refine Blk.drew ?_ | refine Blk.alloc ?_ _ | refine Blk.far ?_ (by first | omega | (simp; done) | (simp; omega)) _ | assumption)))
      have hz6 := hb.size
      try simp only [World.size_alloc, World.drewN, World.drew] at hz6
      clear hb K0_5 K1_5 K2_5 z0_0_5 z0_1_5 z0_2_5 l0_5 z1_0_5 z1_1_5 z1_2_5 z1_3_5 z1_4_5 z1_5_5 l1_5 z2_0_5 z2_1_5 l2_5
      have l0_6 : w.heap.size < w6.heap.size := K0_6.out.lt
      have z0_0_6 : w6.cell? ⟨w.heap.size, 0, none⟩ = some (.slice (some ⟨m.b1, m.o1, none⟩) m.n m.c1) := K0_6.out.cell 0
      have z0_1_6 : w6.cell? ⟨w.heap.size, 1, none⟩ = some (.slice (some ⟨m.b2, m.o2, none⟩) m.n m.c2) := K0_6.out.cell 1
      have z0_2_6 : w6.cell? ⟨w.heap.size, 2, none⟩ = some (.slice (some ⟨m.b3, m.o3, none⟩) m.n m.c3) := K0_6.out.cell 2
      have l1_6 : w.heap.size + 1 < w6.heap.size := K1_6.out.lt
      have z1_0_6 : w6.cell? ⟨w.heap.size + 1, 0, none⟩ = some (.int .i64 (a)) := K1_6.out.cell 0
      have z1_1_6 : w6.cell? ⟨w.heap.size + 1, 1, none⟩ = some (.int .i64 (b)) := K1_6.out.cell 1
      have z1_2_6 : w6.cell? ⟨w.heap.size + 1, 2, none⟩ = some (.int .i64 (c)) := K1_6.out.cell 2
      have z1_3_6 : w6.cell? ⟨w.heap.size + 1, 3, none⟩ = some (.int .i64 (d)) := K1_6.out.cell 3
      have z1_4_6 : w6.cell? ⟨w.heap.size + 1, 4, none⟩ = some (.int .i64 ((xn : Int))) := K1_6.out.cell 4
      have z1_5_6 : w6.cell? ⟨w.heap.size + 1, 5, none⟩ = some (.int .i64 ((yn : Int))) := K1_6.out.cell 5
      have l2_6 : w3.heap.size < w6.heap.size := K2_6.out.lt
      have z2_0_6 : w6.cell? ⟨w3.heap.size, 0, none⟩ = some (.int .i64 (mn)) := K2_6.out.cell 0
      have z2_1_6 : w6.cell? ⟨w3.heap.size, 1, none⟩ = some (.int .i64 (md)) := K2_6.out.cell 1
      by_cases g1 : u = 0
      rotate_left
      · have dg : (u != 0) = true := by simpa using g1
        have HRR := Lib.hid (show R = (0, 22) from HR.out.symm.trans (cref_proof HUN.out H1.out H2.out (.inr (.inl (by simpa using fun h => g1 (HSG.out.2 h))))))
        clear g1
        go_wp2
        go_ret2
        exact ⟨by rw [HRR.out]; rfl, HB6.out⟩
      have HZ2 := Lib.hid (show remN m a b c d yn = 0 from HSG.out.1 g1)
      subst g1
      clear HSG
      go_wp2
      rw [rounds_succ]
      have hq1 := HM.out.q xn hxn
      have hq2 := HM.out.q yn hyn
      obtain ⟨-, c1, -⟩ := mean_cmp (q := m.q xn) HW1.out HMN.out HMD.out
      obtain ⟨-, -, c2⟩ := mean_cmp (q := m.q yn) HW1.out HMN.out HMD.out
      have HC1 := Lib.hid c1
      have HC2 := Lib.hid c2
      have p1 := prod_small (x := m.q xn) (y := md) (X := 1000) (Y := 40000) (by omega) (by omega) (by omega) (by omega)
      have p2 := prod_small (x := m.q yn) (y := md) (X := 1000) (Y := 40000) (by omega) (by omega) (by omega) (by omega)
      have e1 := IntWalk.i64_in (m.q xn * md) ⟨by omega, by omega⟩
      have e2 := IntWalk.i64_in (m.q yn * md) ⟨by omega, by omega⟩
      have hat := HX.out.lay HB6.out
      have g2x := hat.r2 xn hxn
      have g2y := hat.r2 yn hyn
      have hx1 : (xn : Int) < (m.n : Int) := by omega
      have hy1 : (yn : Int) < (m.n : Int) := by omega
      have lb2w : m.b2 < w6.heap.size := by have := HB6.out.size; omega
      clear hat p1 p2 c1 c2 hq1 hq2
      by_cases f1 : mn < m.q xn * md
      · have d1 : decide (mn < m.q xn * md) = true := by simpa using f1
        have HRR := Lib.hid (show R = (0, 22) from HR.out.symm.trans (cref_proof HUN.out H1.out H2.out (.inr (.inr (.inl (by simpa using HC1.out.1 f1))))))
        clear f1
        go_wp2_with fail
        go_quiet (fail)
        go_wp2
        go_ret2
        exact ⟨by rw [HRR.out]; rfl, below_drewN HB6.out _⟩
      have d1 : decide (mn < m.q xn * md) = false := by simpa using f1
      have HF1 := Lib.hid (show m.q xn * m.sw m.n ≤ m.sq m.n from Int.not_lt.1 fun h => f1 (HC1.out.2 h))
      clear f1
      by_cases f2 : m.q yn * md < mn
      · have d2 : decide (m.q yn * md < mn) = true := by simpa using f2
        have HRR := Lib.hid (show R = (0, 22) from HR.out.symm.trans (cref_proof HUN.out H1.out H2.out (.inr (.inr (.inr (by simpa using HC2.out.1 f2))))))
        clear f2
        go_wp2_with fail
        go_quiet (fail)
        go_wp2
        go_ret2
        exact ⟨by rw [HRR.out]; rfl, below_drewN HB6.out _⟩
      have d2 : decide (m.q yn * md < mn) = false := by simpa using f2
      have HF2 := Lib.hid (show m.sq m.n ≤ m.q yn * m.sw m.n from Int.not_lt.1 fun h => f2 (HC2.out.2 h))
      clear f2
      have HRR := Lib.hid (show R = (0, 0) from HR.out.symm.trans (cref_ok HUN.out H1.out H2.out (by simpa using HZ1.out) (by simpa using HZ2.out) (by simpa using HF1.out) (by simpa using HF2.out)))
      go_wp2_with fail
      go_quiet (fail)
      go_wp2
      go_ret2
      exact ⟨by rw [HRR.out]; rfl, below_drewN HB6.out _⟩
end Go.Proofs.Ytnepjgnnppfibaa

end
