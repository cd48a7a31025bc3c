import Derived.Test.YtnepjgnnppfibaaQ27

section
/- The walk of the reference's least sum. -/
namespace Go.Proofs.Ytnepjgnnppfibaa
open Go Go.RowKit

theorem bst_skip {m : Rm} {mn md : Int} {p : Int × Int} {i j : Nat} (h : skipB m mn md i j = true) : bstF m mn md p i j = p := by unfold bstF; rw [if_pos h]
theorem bst_take {m : Rm} {mn md : Int} {p : Int × Int} {i j : Nat} (h : skipB m mn md i j = false) (h2 : p.2 = 0 ∨ lessB (atF m mn md i j) p = true) : bstF m mn md p i j = atF m mn md i j := by unfold bstF; rw [h, if_neg (by simp), if_pos h2]
theorem bst_keep {m : Rm} {mn md : Int} {p : Int × Int} {i j : Nat} (h2 : ¬ (p.2 = 0 ∨ lessB (atF m mn md i j) p = true)) : bstF m mn md p i j = p := by
  unfold bstF
  rw [if_neg h2]
  split <;> rfl
theorem skip_of {m : Rm} {mn md : Int} {i j : Nat} (d1 : decide (mn < m.q i * md) = false) (d2 : decide (m.q j * md < mn) = false) (d3 : m.q i = m.q j → decide (m.h j < m.h i) = false) : skipB m mn md i j = false := by
  unfold skipB
  rw [d1, d2]
  by_cases h : m.q i = m.q j
  · rw [d3 h]; simp
  · simp [h]

set_option maxRecDepth 100000 in
set_option maxHeartbeats 8000000 in
theorem rleast_is (m : Rm) (hm : m.Ok) (hw1 : 1 ≤ m.sw m.n) (w : World) (hx : RmAt m w) (mn md : Int) (hmn : redN (m.sq m.n) (m.sw m.n) = mn) (hmd : redD (m.sq m.n) (m.sw m.n) = md) (P : Int × Int) (hP : bstA m mn md m.n = P) (hP0 : 0 < P.2) (s v : Int) (hs : redN (m.sh m.n * P.2 - m.sw m.n * P.1) P.2 = s) (hv : redD (m.sh m.n * P.2 - m.sw m.n * P.1) P.2 = v) :
    Calls Try.prog 57 #[m.val] w fun e w' => e = .returned (.agg #[.int .i64 s, .int .i64 v]) ∧ Below w.heap.size w w' := by
  have hn1 := hm.n1
  have hn2 := hm.n2
  have hsm := hm.sums (k := m.n) (Nat.le_refl _)
  have hle := red_le (a := m.sq m.n) (b := m.sw m.n) hw1
  rw [hmn, hmd] at hle
  have hmin : -40000000 ≤ mn ∧ mn ≤ 40000000 := by omega
  have hmdn : 1 ≤ md ∧ md ≤ 40000 := by omega
  have HX := Lib.hid hx
  have HM := Lib.hid hm
  have HW1 := Lib.hid hw1
  have HMN := Lib.hid hmn
  have HMD := Lib.hid hmd
  have HP := Lib.hid hP
  have HS := Lib.hid hs
  have HV := Lib.hid hv
  have HP0 := Lib.hid hP0
  clear hx hm hw1 hmn hmd hsm hle hs hv hP hP0
  have hmv : m.val = .agg #[.slice (some ⟨m.b1, m.o1, none⟩) m.n m.c1, .slice (some ⟨m.b2, m.o2, none⟩) m.n m.c2, .slice (some ⟨m.b3, m.o3, none⟩) m.n m.c3] := rfl
  have hrme := rmean_ok m HM.out HW1.out
  rw [hmv] at hrme
  have HRM := Lib.hid hrme
  clear hmv hrme
  unfold Rm.val
  go_enter Try.func57, Try.ntmps57
  go_wp2_with fail
  generalize hwn : ((w.alloc (.cells #[.slice (some ⟨m.b1, m.o1, none⟩) m.n m.c1, .slice (some ⟨m.b2, m.o2, none⟩) m.n m.c2, .slice (some ⟨m.b3, m.o3, none⟩) m.n m.c3] 24)).alloc (.cells #[.int .i64 (0), .int .i64 (0)] 28)) = w1
  have hbn : Below w.heap.size w w1 := by rw [← hwn]; repeat' (first | exact Below.refl _ _ | refine below_drewN ?_ _ | refine Below.drew ?_ | refine Below.alloc ?_ (by first | omega | (simp; done) | (simp; omega) | (simp [World.setCell]; omega)) _ | refine Below.setCell ?_ (by first | omega | (simp; done) | (simp; omega)) _)
  have HB1 := Lib.hid (show Below w.heap.size w w1 from hbn)
  have K0_1 := Lib.hid (show Blk w1 (w.heap.size) 24 #[.slice (some ⟨m.b1, m.o1, none⟩) m.n m.c1, .slice (some ⟨m.b2, m.o2, none⟩) m.n m.c2, .slice (some ⟨m.b3, m.o3, none⟩) m.n m.c3] by rw [← hwn]; repeat' (first | exact Blk.at_ _ (by first | rfl | (simp; done) | (simp; omega)) _ _ | refine Blk.drewN ?_ _ | refine Blk.drew ?_ | refine Blk.alloc ?_ _ | refine Blk.far ?_ (by first | omega | (simp; done) | (simp; omega)) _ | assumption))
  have K1_1 := Lib.hid (show Blk w1 (w.heap.size + 1) 28 #[.int .i64 (0), .int .i64 (0)] by rw [← hwn]; repeat' (first | exact Blk.at_ _ (by first | rfl | (simp; done) | (simp; omega)) _ _ | refine Blk.drewN ?_ _ | refine Blk.drew ?_ | refine Blk.alloc ?_ _ | refine Blk.far ?_ (by first | omega | (simp; done) | (simp; omega)) _ | assumption))
  have HN1 := Lib.hid hbn
  have hz1 := hbn.size
  clear hwn hbn
  have l0_1 : w.heap.size < w1.heap.size := K0_1.out.lt
  have z0_0_1 : w1.cell? ⟨w.heap.size, 0, none⟩ = some (.slice (some ⟨m.b1, m.o1, none⟩) m.n m.c1) := K0_1.out.cell 0
  have z0_1_1 : w1.cell? ⟨w.heap.size, 1, none⟩ = some (.slice (some ⟨m.b2, m.o2, none⟩) m.n m.c2) := K0_1.out.cell 1
  have z0_2_1 : w1.cell? ⟨w.heap.size, 2, none⟩ = some (.slice (some ⟨m.b3, m.o3, none⟩) m.n m.c3) := K0_1.out.cell 2
  have l1_1 : w.heap.size + 1 < w1.heap.size := K1_1.out.lt
  have z1_0_1 : w1.cell? ⟨w.heap.size + 1, 0, none⟩ = some (.int .i64 (0)) := K1_1.out.cell 0
  have z1_1_1 : w1.cell? ⟨w.heap.size + 1, 1, none⟩ = some (.int .i64 (0)) := K1_1.out.cell 1
  refine (HRM.out _ (HX.out.lay HB1.out) mn md HMN.out HMD.out).mono ?_
  rintro e w2 ⟨rfl, hb⟩
  have HB2 := Lib.hid (show Below w.heap.size w w2 from step_below hb (by repeat' (first | exact Below.refl _ _ | exact HB1.out | refine below_drewN ?_ _ | refine Below.drew ?_ | refine Below.alloc ?_ (by first | omega | (simp; done) | (simp; omega) | (simp [World.setCell]; omega)) _ | refine Below.setCell ?_ (by first | omega | (simp; done) | (simp; omega)) _ | assumption)))
  have K0_2 := Lib.hid (step_blk hb (show Blk _ (w.heap.size) 24 #[.slice (some ⟨m.b1, m.o1, none⟩) m.n m.c1, .slice (some ⟨m.b2, m.o2, none⟩) m.n m.c2, .slice (some ⟨m.b3, m.o3, none⟩) m.n m.c3] by repeat' (first | exact K0_1.out | exact K1_1.out | exact Blk.at_ _ (by first | rfl | (simp; done) | (simp; omega)) _ _ | refine Blk.drewN ?_ _ | refine Blk.drew ?_ | refine Blk.alloc ?_ _ | refine Blk.far ?_ (by first | omega | (simp; done) | (simp; omega)) _ | assumption)))
  have K1_2 := Lib.hid (step_blk hb (show Blk _ (w.heap.size + 1) 28 #[.int .i64 (0), .int .i64 (0)] by repeat' (first | exact K0_1.out | exact K1_1.out | exact Blk.at_ _ (by first | rfl | (simp; done) | (simp; omega)) _ _ | refine Blk.drewN ?_ _ | refine Blk.drew ?_ | refine Blk.alloc ?_ _ | refine Blk.far ?_ (by first | omega | (simp; done) | (simp; omega)) _ | assumption)))
  have hz2 := hb.size
  try simp only [World.size_alloc, World.drewN, World.drew] at hz2
  clear hb K0_1 K1_1 z0_0_1 z0_1_1 z0_2_1 l0_1 z1_0_1 z1_1_1 l1_1
  have l0_2 : w.heap.size < w2.heap.size := K0_2.out.lt
  have z0_0_2 : w2.cell? ⟨w.heap.size, 0, none⟩ = some (.slice (some ⟨m.b1, m.o1, none⟩) m.n m.c1) := K0_2.out.cell 0
  have z0_1_2 : w2.cell? ⟨w.heap.size, 1, none⟩ = some (.slice (some ⟨m.b2, m.o2, none⟩) m.n m.c2) := K0_2.out.cell 1
  have z0_2_2 : w2.cell? ⟨w.heap.size, 2, none⟩ = some (.slice (some ⟨m.b3, m.o3, none⟩) m.n m.c3) := K0_2.out.cell 2
  have l1_2 : w.heap.size + 1 < w2.heap.size := K1_2.out.lt
  have z1_0_2 : w2.cell? ⟨w.heap.size + 1, 0, none⟩ = some (.int .i64 (0)) := K1_2.out.cell 0
  have z1_1_2 : w2.cell? ⟨w.heap.size + 1, 1, none⟩ = some (.int .i64 (0)) := K1_2.out.cell 1
  have hw2 := HB2.out.size
  obtain ⟨ba, hba⟩ : ∃ b, w2.heap.size = b := ⟨_, rfl⟩
  have hba2 : w.heap.size + 1 < ba := by have := l1_2; omega
  go_wp2
  generalize hwn : (w2.alloc (.cells #[.int .i64 (mn), .int .i64 (md)] 28)) = w3
  have hbn : Below w2.heap.size w2 w3 := by rw [← hwn]; repeat' (first | exact Below.refl _ _ | refine below_drewN ?_ _ | refine Below.drew ?_ | refine Below.alloc ?_ (by first | omega | (simp; done) | (simp; omega) | (simp [World.setCell]; omega)) _ | refine Below.setCell ?_ (by first | omega | (simp; done) | (simp; omega)) _)
  have HB3 := Lib.hid (show Below w.heap.size w w3 from HB2.out.trans (hbn.mono HB2.out.size))
  have K0_3 := Lib.hid (step_blk hbn K0_2.out)
  have K1_3 := Lib.hid (step_blk hbn K1_2.out)
  have K2_3 := Lib.hid (show Blk w3 (w2.heap.size) 28 #[.int .i64 (mn), .int .i64 (md)] by rw [← hwn]; repeat' (first | exact Blk.at_ _ (by first | rfl | (simp; done) | (simp; omega)) _ _ | refine Blk.drewN ?_ _ | refine Blk.drew ?_ | refine Blk.alloc ?_ _ | refine Blk.far ?_ (by first | omega | (simp; done) | (simp; omega)) _ | assumption))
  have HN3 := Lib.hid hbn
  have hz3 := hbn.size
  clear hwn hbn K0_2 l0_2 z0_0_2 z0_1_2 z0_2_2 K1_2 l1_2 z1_0_2 z1_1_2
  have l0_3 : w.heap.size < w3.heap.size := K0_3.out.lt
  have z0_0_3 : w3.cell? ⟨w.heap.size, 0, none⟩ = some (.slice (some ⟨m.b1, m.o1, none⟩) m.n m.c1) := K0_3.out.cell 0
  have z0_1_3 : w3.cell? ⟨w.heap.size, 1, none⟩ = some (.slice (some ⟨m.b2, m.o2, none⟩) m.n m.c2) := K0_3.out.cell 1
  have z0_2_3 : w3.cell? ⟨w.heap.size, 2, none⟩ = some (.slice (some ⟨m.b3, m.o3, none⟩) m.n m.c3) := K0_3.out.cell 2
  have l1_3 : w.heap.size + 1 < w3.heap.size := K1_3.out.lt
  have z1_0_3 : w3.cell? ⟨w.heap.size + 1, 0, none⟩ = some (.int .i64 (0)) := K1_3.out.cell 0
  have z1_1_3 : w3.cell? ⟨w.heap.size + 1, 1, none⟩ = some (.int .i64 (0)) := K1_3.out.cell 1
  have l2_3 : w2.heap.size < w3.heap.size := K2_3.out.lt
  have z2_0_3 : w3.cell? ⟨w2.heap.size, 0, none⟩ = some (.int .i64 (mn)) := K2_3.out.cell 0
  have z2_1_3 : w3.cell? ⟨w2.heap.size, 1, none⟩ = some (.int .i64 (md)) := K2_3.out.cell 1
  have hs3 := HB3.out.size
  have KA := K0_3
  have KB := K1_3
  have KC := K2_3
  rw [hba] at KC
  clear z2_0_3 z2_1_3
  go_loopw [4, 5, 6] (fun a b i wr => ∃ k : Nat, k ≤ m.n ∧ a = .int .i64 (m.sw k) ∧ b = .int .i64 (m.sh k) ∧ i = .int .i64 k ∧ Below w3.heap.size w3 wr) (fun _ _ i _ => m.n - (intOf i).toNat)
  case atStart => exact ⟨0, by omega, rfl, rfl, rfl, Below.refl _ _⟩
  case round =>
    obtain ⟨k, hk, rfl, rfl, rfl, hb⟩ := hrel
    obtain ⟨w4, hnm⟩ : ∃ z : World, z = wr := ⟨_, rfl⟩
    subst hnm
    have HBW := Lib.hid hb
    have k0 := Blk.below KA.out hb KA.out.lt
    have k1 := Blk.below KB.out hb KB.out.lt
    have k2 := Blk.below KC.out hb KC.out.lt
    have hb2 := HB3.out.trans (hb.mono HB3.out.size)
    clear hb
    have HB4 := Lib.hid hb2
    have K0_4 := Lib.hid (show Blk w4 (w.heap.size) 24 #[.slice (some ⟨m.b1, m.o1, none⟩) m.n m.c1, .slice (some ⟨m.b2, m.o2, none⟩) m.n m.c2, .slice (some ⟨m.b3, m.o3, none⟩) m.n m.c3] from k0)
    have K1_4 := Lib.hid (show Blk w4 (w.heap.size + 1) 28 #[.int .i64 (0), .int .i64 (0)] from k1)
    have K2_4 := Lib.hid (show Blk w4 (ba) 28 #[.int .i64 (mn), .int .i64 (md)] from k2)
    clear hb2 k0 k1 k2
    have l0_4 : w.heap.size < w4.heap.size := K0_4.out.lt
    have z0_0_4 : w4.cell? ⟨w.heap.size, 0, none⟩ = some (.slice (some ⟨m.b1, m.o1, none⟩) m.n m.c1) := K0_4.out.cell 0
    have z0_1_4 : w4.cell? ⟨w.heap.size, 1, none⟩ = some (.slice (some ⟨m.b2, m.o2, none⟩) m.n m.c2) := K0_4.out.cell 1
    have z0_2_4 : w4.cell? ⟨w.heap.size, 2, none⟩ = some (.slice (some ⟨m.b3, m.o3, none⟩) m.n m.c3) := K0_4.out.cell 2
    have l1_4 : w.heap.size + 1 < w4.heap.size := K1_4.out.lt
    have z1_0_4 : w4.cell? ⟨w.heap.size + 1, 0, none⟩ = some (.int .i64 (0)) := K1_4.out.cell 0
    have z1_1_4 : w4.cell? ⟨w.heap.size + 1, 1, none⟩ = some (.int .i64 (0)) := K1_4.out.cell 1
    have l2_4 : ba < w4.heap.size := K2_4.out.lt
    have z2_0_4 : w4.cell? ⟨ba, 0, none⟩ = some (.int .i64 (mn)) := K2_4.out.cell 0
    have z2_1_4 : w4.cell? ⟨ba, 1, none⟩ = some (.int .i64 (md)) := K2_4.out.cell 1
    by_cases hlt : k < m.n
    · have HXA := Lib.hid (HX.out.lay HB4.out)
      obtain ⟨b1, b2, b3⟩ := HM.out.sums (k := k + 1) (by omega)
      obtain ⟨a1, a2, a3⟩ := HM.out.sums (k := k) (by omega)
      have eh1 : m.sh (k + 1) = m.sh k + m.u k * m.h k := rfl
      have ew1 : m.sw (k + 1) = m.sw k + m.u k := rfl
      obtain ⟨y, hy⟩ : ∃ y, m.u k * m.h k = y := ⟨_, rfl⟩
      rw [eh1, hy] at b3
      rw [ew1] at b1
      have g1 := HXA.out.r1 k hlt
      have g3 := HXA.out.r3 k hlt
      have e1 : IntKind.i64.wrap (m.u k * m.h k) = y := by rw [hy]; exact IntWalk.i64_in y ⟨by omega, by omega⟩
      have e2 := IntWalk.i64_in (m.sh k + y) ⟨by omega, by omega⟩
      have e3 := IntWalk.i64_in (m.sw k + m.u k) ⟨by omega, by omega⟩
      have hkk : (k : Int) < (m.n : Int) := by omega
      have hh1 : m.sh (k + 1) = m.sh k + y := by rw [eh1, hy]
      have lx1 : m.b1 < w4.heap.size := HXA.out.l1
      have lx3 : m.b3 < w4.heap.size := HXA.out.l3
      obtain ⟨uk, huk⟩ : ∃ u, m.u k = u := ⟨_, rfl⟩
      obtain ⟨hk', hhk⟩ : ∃ u, m.h k = u := ⟨_, rfl⟩
      obtain ⟨sh, hsh⟩ : ∃ u, m.sh k = u := ⟨_, rfl⟩
      obtain ⟨sw, hsw⟩ : ∃ u, m.sw k = u := ⟨_, rfl⟩
      have HQ2 := Lib.hid (show m.sh (k + 1) = sh + y by rw [hh1, hsh])
      have HW2 := Lib.hid (show m.sw (k + 1) = sw + uk by rw [ew1, hsw, huk])
      rw [huk] at g3 e1 e3
      rw [hhk] at g1 e1
      rw [hsh] at e2
      rw [hsw] at e3
      rw [hsh, hsw]
      clear eh1 ew1 hy hh1 huk hhk hsh hsw b1 b2 b3 a1 a2 a3
      go_wp2
      go_quiet (fail)
      go_wp2
      go_roundw
      case rel => exact ⟨k + 1, by omega, by rw [HW2.out], by rw [HQ2.out], by go_num, below_drewN HBW.out _⟩
      case measure => simp [intOf]; omega
    obtain rfl : k = m.n := by omega
    go_wp2
    generalize hwn : (w4.alloc (.cells #[.int .i64 (0), .int .i64 (0)] 28)) = w5
    have hbn : Below w4.heap.size w4 w5 := by rw [← hwn]; repeat' (first | exact Below.refl _ _ | refine below_drewN ?_ _ | refine Below.drew ?_ | refine Below.alloc ?_ (by first | omega | (simp; done) | (simp; omega) | (simp [World.setCell]; omega)) _ | refine Below.setCell ?_ (by first | omega | (simp; done) | (simp; omega)) _)
    have HB5 := Lib.hid (show Below w.heap.size w w5 from HB4.out.trans (hbn.mono HB4.out.size))
    have K0_5 := Lib.hid (step_blk hbn K0_4.out)
    have K1_5 := Lib.hid (step_blk hbn K1_4.out)
    have K2_5 := Lib.hid (step_blk hbn K2_4.out)
    have K3_5 := Lib.hid (show Blk w5 (w4.heap.size) 28 #[.int .i64 (0), .int .i64 (0)] by rw [← hwn]; repeat' (first | exact Blk.at_ _ (by first | rfl | (simp; done) | (simp; omega)) _ _ | refine Blk.drewN ?_ _ | refine Blk.drew ?_ | refine Blk.alloc ?_ _ | refine Blk.far ?_ (by first | omega | (simp; done) | (simp; omega)) _ | assumption))
    have HN5 := Lib.hid hbn
    have hz5 := hbn.size
    clear hwn hbn K0_4 l0_4 z0_0_4 z0_1_4 z0_2_4 K1_4 l1_4 z1_0_4 z1_1_4 K2_4 l2_4 z2_0_4 z2_1_4
    have l0_5 : w.heap.size < w5.heap.size := K0_5.out.lt
    have z0_0_5 : w5.cell? ⟨w.heap.size, 0, none⟩ = some (.slice (some ⟨m.b1, m.o1, none⟩) m.n m.c1) := K0_5.out.cell 0
    have z0_1_5 : w5.cell? ⟨w.heap.size, 1, none⟩ = some (.slice (some ⟨m.b2, m.o2, none⟩) m.n m.c2) := K0_5.out.cell 1
    have z0_2_5 : w5.cell? ⟨w.heap.size, 2, none⟩ = some (.slice (some ⟨m.b3, m.o3, none⟩) m.n m.c3) := K0_5.out.cell 2
    have l1_5 : w.heap.size + 1 < w5.heap.size := K1_5.out.lt
    have z1_0_5 : w5.cell? ⟨w.heap.size + 1, 0, none⟩ = some (.int .i64 (0)) := K1_5.out.cell 0
    have z1_1_5 : w5.cell? ⟨w.heap.size + 1, 1, none⟩ = some (.int .i64 (0)) := K1_5.out.cell 1
    have l2_5 : ba < w5.heap.size := K2_5.out.lt
    have z2_0_5 : w5.cell? ⟨ba, 0, none⟩ = some (.int .i64 (mn)) := K2_5.out.cell 0
    have z2_1_5 : w5.cell? ⟨ba, 1, none⟩ = some (.int .i64 (md)) := K2_5.out.cell 1
    have l3_5 : w4.heap.size < w5.heap.size := K3_5.out.lt
    have z3_0_5 : w5.cell? ⟨w4.heap.size, 0, none⟩ = some (.int .i64 (0)) := K3_5.out.cell 0
    have z3_1_5 : w5.cell? ⟨w4.heap.size, 1, none⟩ = some (.int .i64 (0)) := K3_5.out.cell 1
    obtain ⟨bb, hbb⟩ : ∃ b, w4.heap.size = b := ⟨_, rfl⟩
    have HBBE := Lib.hid hbb
    clear hbb
    have hbab : ba < bb := by rw [← HBBE.out]; exact Nat.lt_of_lt_of_le KC.out.lt HBW.out.size
    have KG := Lib.hid (show Blk w5 bb 28 #[.int .i64 0, .int .i64 0] from by rw [← HBBE.out]; exact K3_5.out)
    have K0s := K0_5
    have K1s := K1_5
    have K2s := K2_5
    have HB5s := HB5
    have hs5 := HB5.out.size
    have lb1 := HX.out.l1
    have lb2 := HX.out.l2
    have hwb : w.heap.size < bb := by omega
    have hbb5 : bb < w5.heap.size := KG.out.lt
    clear z3_0_5 z3_1_5 l3_5 K3_5
    rw [HBBE.out]
    go_loopw [8] (fun v wr => ∃ i : Nat, i ≤ m.n ∧ v = .int .i64 i ∧ Below bb w5 wr ∧ Blk wr bb 28 #[.int .i64 (bstA m mn md i).1, .int .i64 (bstA m mn md i).2]) (fun v _ => m.n - (intOf v).toNat)
    case atStart => exact ⟨0, by omega, rfl, Below.refl _ _, KG.out⟩
    case round =>
      obtain ⟨i, hi, rfl, hb, hg⟩ := hrel
      obtain ⟨w6, hnm⟩ : ∃ z : World, z = wr := ⟨_, rfl⟩
      subst hnm
      have HBI := Lib.hid hb
      have HGI := Lib.hid hg
      have k0 := Blk.below K0s.out hb (by omega)
      have k1 := Blk.below K1s.out hb (by omega)
      have k2 := Blk.below K2s.out hb (by omega)
      have k3 := hg
      have hb6 := HB5s.out.trans (hb.mono (by omega))
      clear hb hg
      have HB6 := Lib.hid hb6
      have K0_6 := Lib.hid (show Blk w6 (w.heap.size) 24 #[.slice (some ⟨m.b1, m.o1, none⟩) m.n m.c1, .slice (some ⟨m.b2, m.o2, none⟩) m.n m.c2, .slice (some ⟨m.b3, m.o3, none⟩) m.n m.c3] from k0)
      have K1_6 := Lib.hid (show Blk w6 (w.heap.size + 1) 28 #[.int .i64 (0), .int .i64 (0)] from k1)
      have K2_6 := Lib.hid (show Blk w6 (ba) 28 #[.int .i64 (mn), .int .i64 (md)] from k2)
      have K3_6 := Lib.hid (show Blk w6 (bb) 28 #[.int .i64 ((bstA m mn md i).1), .int .i64 ((bstA m mn md i).2)] from k3)
      clear hb6 k0 k1 k2 k3
      have l0_6 : w.heap.size < w6.heap.size := K0_6.out.lt
      have z0_0_6 : w6.cell? ⟨w.heap.size, 0, none⟩ = some (.slice (some ⟨m.b1, m.o1, none⟩) m.n m.c1) := K0_6.out.cell 0
      have z0_1_6 : w6.cell? ⟨w.heap.size, 1, none⟩ = some (.slice (some ⟨m.b2, m.o2, none⟩) m.n m.c2) := K0_6.out.cell 1
      have z0_2_6 : w6.cell? ⟨w.heap.size, 2, none⟩ = some (.slice (some ⟨m.b3, m.o3, none⟩) m.n m.c3) := K0_6.out.cell 2
      have l1_6 : w.heap.size + 1 < w6.heap.size := K1_6.out.lt
      have z1_0_6 : w6.cell? ⟨w.heap.size + 1, 0, none⟩ = some (.int .i64 (0)) := K1_6.out.cell 0
      have z1_1_6 : w6.cell? ⟨w.heap.size + 1, 1, none⟩ = some (.int .i64 (0)) := K1_6.out.cell 1
      have l2_6 : ba < w6.heap.size := K2_6.out.lt
      have z2_0_6 : w6.cell? ⟨ba, 0, none⟩ = some (.int .i64 (mn)) := K2_6.out.cell 0
      have z2_1_6 : w6.cell? ⟨ba, 1, none⟩ = some (.int .i64 (md)) := K2_6.out.cell 1
      have l3_6 : bb < w6.heap.size := K3_6.out.lt
      have z3_0_6 : w6.cell? ⟨bb, 0, none⟩ = some (.int .i64 ((bstA m mn md i).1)) := K3_6.out.cell 0
      have z3_1_6 : w6.cell? ⟨bb, 1, none⟩ = some (.int .i64 ((bstA m mn md i).2)) := K3_6.out.cell 1
      by_cases hlti : i < m.n
      · skip
        have hii : (i : Int) < (m.n : Int) := by omega
        go_wp2
        go_loopw [9] (fun v wr => ∃ j : Nat, j ≤ m.n ∧ v = .int .i64 j ∧ Below bb w5 wr ∧ Blk wr bb 28 #[.int .i64 (bstR m mn md (bstA m mn md i) i j).1, .int .i64 (bstR m mn md (bstA m mn md i) i j).2]) (fun v _ => m.n - (intOf v).toNat)
        case atStart => exact ⟨0, by omega, rfl, HBI.out, HGI.out⟩
        case round =>
          obtain ⟨j, hj, rfl, hb, hg⟩ := hrel
          obtain ⟨w7, hnm⟩ : ∃ z : World, z = wr := ⟨_, rfl⟩
          subst hnm
          have hpin := bstR_in HM.out hmdn hmin hlti (bstA_in HM.out hmdn hmin i (by omega)) j hj
          obtain ⟨⟨p1, p2⟩, hp⟩ : ∃ p, bstR m mn md (bstA m mn md i) i j = p := ⟨_, rfl⟩
          have HPE := Lib.hid hp
          rw [hp] at hg hpin
          simp only at hg
          have HBJ := Lib.hid hb
          have HGJ := Lib.hid hg
          have k0 := Blk.below K0s.out hb (by omega)
          have k1 := Blk.below K1s.out hb (by omega)
          have k2 := Blk.below K2s.out hb (by omega)
          have k3 := hg
          have hb7 := HB5s.out.trans (hb.mono (by omega))
          have hbb7 : bb < w7.heap.size := hg.lt
          clear hb hg hp
          have HB7 := Lib.hid hb7
          have K0_7 := Lib.hid (show Blk w7 (w.heap.size) 24 #[.slice (some ⟨m.b1, m.o1, none⟩) m.n m.c1, .slice (some ⟨m.b2, m.o2, none⟩) m.n m.c2, .slice (some ⟨m.b3, m.o3, none⟩) m.n m.c3] from k0)
          have K1_7 := Lib.hid (show Blk w7 (w.heap.size + 1) 28 #[.int .i64 (0), .int .i64 (0)] from k1)
          have K2_7 := Lib.hid (show Blk w7 (ba) 28 #[.int .i64 (mn), .int .i64 (md)] from k2)
          have K3_7 := Lib.hid (show Blk w7 (bb) 28 #[.int .i64 (p1), .int .i64 (p2)] from k3)
          clear hb7 k0 k1 k2 k3
          have l0_7 : w.heap.size < w7.heap.size := K0_7.out.lt
          have z0_0_7 : w7.cell? ⟨w.heap.size, 0, none⟩ = some (.slice (some ⟨m.b1, m.o1, none⟩) m.n m.c1) := K0_7.out.cell 0
          have z0_1_7 : w7.cell? ⟨w.heap.size, 1, none⟩ = some (.slice (some ⟨m.b2, m.o2, none⟩) m.n m.c2) := K0_7.out.cell 1
          have z0_2_7 : w7.cell? ⟨w.heap.size, 2, none⟩ = some (.slice (some ⟨m.b3, m.o3, none⟩) m.n m.c3) := K0_7.out.cell 2
          have l1_7 : w.heap.size + 1 < w7.heap.size := K1_7.out.lt
          have z1_0_7 : w7.cell? ⟨w.heap.size + 1, 0, none⟩ = some (.int .i64 (0)) := K1_7.out.cell 0
          have z1_1_7 : w7.cell? ⟨w.heap.size + 1, 1, none⟩ = some (.int .i64 (0)) := K1_7.out.cell 1
          have l2_7 : ba < w7.heap.size := K2_7.out.lt
          have z2_0_7 : w7.cell? ⟨ba, 0, none⟩ = some (.int .i64 (mn)) := K2_7.out.cell 0
          have z2_1_7 : w7.cell? ⟨ba, 1, none⟩ = some (.int .i64 (md)) := K2_7.out.cell 1
          have l3_7 : bb < w7.heap.size := K3_7.out.lt
          have z3_0_7 : w7.cell? ⟨bb, 0, none⟩ = some (.int .i64 (p1)) := K3_7.out.cell 0
          have z3_1_7 : w7.cell? ⟨bb, 1, none⟩ = some (.int .i64 (p2)) := K3_7.out.cell 1
          by_cases hltj : j < m.n
          · have hjj : (j : Int) < (m.n : Int) := by omega
            have hnx : bstR m mn md (bstA m mn md i) i (j + 1) = bstF m mn md (p1, p2) i j := by rw [← HPE.out]; rfl
            have HNX := Lib.hid hnx
            have hat := HX.out.lay HB7.out
            have c0 := hat.r1 i hlti
            have c1 := hat.r1 j hltj
            have c2 := hat.r2 i hlti
            have c3 := hat.r2 j hltj
            have hw7 := HB7.out.size
            have lc1 : m.b1 < w7.heap.size := by omega
            have lc2 : m.b2 < w7.heap.size := by omega
            have r1 := HM.out.h i hlti
            have r2 := HM.out.h j hltj
            have r3 := HM.out.q i hlti
            have r4 := HM.out.q j hltj
            have q1 := prod_small (x := m.q i) (y := md) (X := 1000) (Y := 40000) (by omega) (by omega) (by omega) (by omega)
            have q2 := prod_small (x := m.q j) (y := md) (X := 1000) (Y := 40000) (by omega) (by omega) (by omega) (by omega)
            have e1 := IntWalk.i64_in (m.q i * md) ⟨by omega, by omega⟩
            have e2 := IntWalk.i64_in (m.q j * md) ⟨by omega, by omega⟩
            clear hnx hat q1 q2
            have C0_7 := Lib.hid c0
            have C1_7 := Lib.hid c1
            have C2_7 := Lib.hid c2
            have C3_7 := Lib.hid c3
            by_cases f1 : mn < m.q i * md
            · have d1 : decide (mn < m.q i * md) = true := by simpa using f1
              have HSK := Lib.hid (HNX.out.trans (bst_skip (by unfold skipB; rw [d1]; rfl)))
              clear f1
              go_wp2
              go_quiet (fail)
              go_wp2
              go_roundw
              case rel => exact ⟨j + 1, by omega, by go_num, below_drewN HBJ.out _, by rw [HSK.out]; exact Blk.drewN HGJ.out _⟩
              case measure => simp [intOf]; omega
            have d1 : decide (mn < m.q i * md) = false := by simpa using f1
            by_cases f2 : m.q j * md < mn
            · have d2 : decide (m.q j * md < mn) = true := by simpa using f2
              have HSK := Lib.hid (HNX.out.trans (bst_skip (by unfold skipB; rw [d1, d2]; rfl)))
              clear f2 f1
              go_wp2
              go_quiet (fail)
              go_wp2
              go_roundw
              case rel => exact ⟨j + 1, by omega, by go_num, below_drewN HBJ.out _, by rw [HSK.out]; exact Blk.drewN HGJ.out _⟩
              case measure => simp [intOf]; omega
            have d2 : decide (m.q j * md < mn) = false := by simpa using f2
            have HD1 := Lib.hid d1
            have HD2 := Lib.hid d2
            have HF1 := Lib.hid (show m.q i * md ≤ mn by omega)
            have HF2 := Lib.hid (show mn ≤ m.q j * md by omega)
            clear f1 f2
            go_wp2
            go_quiet (fail)
            clear c0 c1 c2 c3
            have HA7 := Lib.hid (show Below w7.heap.size w7 w7 from Below.refl _ _)
            generalize hwn : (w7.drewN nq) = w8
            have hbn : Below w7.heap.size w7 w8 := by rw [← hwn]; repeat' (first | exact Below.refl _ _ | refine below_drewN ?_ _ | refine Below.drew ?_ | refine Below.alloc ?_ (by first | omega | (simp; done) | (simp; omega) | (simp [World.setCell]; omega)) _ | refine Below.setCell ?_ (by first | omega | (simp; done) | (simp; omega)) _)
            have HB8 := Lib.hid (show Below w.heap.size w w8 from HB7.out.trans (hbn.mono HB7.out.size))
            have K0_8 := Lib.hid (step_blk hbn K0_7.out)
            have K1_8 := Lib.hid (step_blk hbn K1_7.out)
            have K2_8 := Lib.hid (step_blk hbn K2_7.out)
            have K3_8 := Lib.hid (step_blk hbn K3_7.out)
            have C0_8 := Lib.hid (step_cell hbn C0_7.out (by have := lc1; first | omega | (simp; omega)))
            have C1_8 := Lib.hid (step_cell hbn C1_7.out (by have := lc1; first | omega | (simp; omega)))
            have C2_8 := Lib.hid (step_cell hbn C2_7.out (by have := lc2; first | omega | (simp; omega)))
            have C3_8 := Lib.hid (step_cell hbn C3_7.out (by have := lc2; first | omega | (simp; omega)))
            have HA8 := Lib.hid (step_below hbn HA7.out)
            clear HA7
            have HN8 := Lib.hid hbn
            have hz8 := hbn.size
            clear hwn hbn K0_7 l0_7 z0_0_7 z0_1_7 z0_2_7 K1_7 l1_7 z1_0_7 z1_1_7 K2_7 l2_7 z2_0_7 z2_1_7 K3_7 l3_7 z3_0_7 z3_1_7
            have l0_8 : w.heap.size < w8.heap.size := K0_8.out.lt
            have z0_0_8 : w8.cell? ⟨w.heap.size, 0, none⟩ = some (.slice (some ⟨m.b1, m.o1, none⟩) m.n m.c1) := K0_8.out.cell 0
            have z0_1_8 : w8.cell? ⟨w.heap.size, 1, none⟩ = some (.slice (some ⟨m.b2, m.o2, none⟩) m.n m.c2) := K0_8.out.cell 1
            have z0_2_8 : w8.cell? ⟨w.heap.size, 2, none⟩ = some (.slice (some ⟨m.b3, m.o3, none⟩) m.n m.c3) := K0_8.out.cell 2
            have l1_8 : w.heap.size + 1 < w8.heap.size := K1_8.out.lt
            have z1_0_8 : w8.cell? ⟨w.heap.size + 1, 0, none⟩ = some (.int .i64 (0)) := K1_8.out.cell 0
            have z1_1_8 : w8.cell? ⟨w.heap.size + 1, 1, none⟩ = some (.int .i64 (0)) := K1_8.out.cell 1
            have l2_8 : ba < w8.heap.size := K2_8.out.lt
            have z2_0_8 : w8.cell? ⟨ba, 0, none⟩ = some (.int .i64 (mn)) := K2_8.out.cell 0
            have z2_1_8 : w8.cell? ⟨ba, 1, none⟩ = some (.int .i64 (md)) := K2_8.out.cell 1
            have l3_8 : bb < w8.heap.size := K3_8.out.lt
            have z3_0_8 : w8.cell? ⟨bb, 0, none⟩ = some (.int .i64 (p1)) := K3_8.out.cell 0
            have z3_1_8 : w8.cell? ⟨bb, 1, none⟩ = some (.int .i64 (p2)) := K3_8.out.cell 1
            have cx0 := C0_8.out
            have cx1 := C1_8.out
            have cx2 := C2_8.out
            have cx3 := C3_8.out
            go_wp2
            clear d1 d2 e1 e2 cx0 cx1 cx2 cx3
            generalize hwn : (w8.alloc (.cells #[.int .i64 (m.h i), .int .i64 (1)] 28)) = w9
            have hbn : Below w8.heap.size w8 w9 := by rw [← hwn]; repeat' (first | exact Below.refl _ _ | refine below_drewN ?_ _ | refine Below.drew ?_ | refine Below.alloc ?_ (by first | omega | (simp; done) | (simp; omega) | (simp [World.setCell]; omega)) _ | refine Below.setCell ?_ (by first | omega | (simp; done) | (simp; omega)) _)
            have HB9 := Lib.hid (show Below w.heap.size w w9 from HB8.out.trans (hbn.mono HB8.out.size))
            have K0_9 := Lib.hid (step_blk hbn K0_8.out)
            have K1_9 := Lib.hid (step_blk hbn K1_8.out)
            have K2_9 := Lib.hid (step_blk hbn K2_8.out)
            have K3_9 := Lib.hid (step_blk hbn K3_8.out)
            have K4_9 := Lib.hid (show Blk w9 (w8.heap.size) 28 #[.int .i64 (m.h i), .int .i64 (1)] by rw [← hwn]; repeat' (first | exact Blk.at_ _ (by first | rfl | (simp; done) | (simp; omega)) _ _ | refine Blk.drewN ?_ _ | refine Blk.drew ?_ | refine Blk.alloc ?_ _ | refine Blk.far ?_ (by first | omega | (simp; done) | (simp; omega)) _ | assumption))
            have C0_9 := Lib.hid (step_cell hbn C0_8.out (by have := lc1; first | omega | (simp; omega)))
            have C1_9 := Lib.hid (step_cell hbn C1_8.out (by have := lc1; first | omega | (simp; omega)))
            have C2_9 := Lib.hid (step_cell hbn C2_8.out (by have := lc2; first | omega | (simp; omega)))
            have C3_9 := Lib.hid (step_cell hbn C3_8.out (by have := lc2; first | omega | (simp; omega)))
            have HA9 := Lib.hid (step_below hbn HA8.out)
            clear HA8
            have HN9 := Lib.hid hbn
            have hz9 := hbn.size
            clear hwn hbn K0_8 l0_8 z0_0_8 z0_1_8 z0_2_8 K1_8 l1_8 z1_0_8 z1_1_8 K2_8 l2_8 z2_0_8 z2_1_8 K3_8 l3_8 z3_0_8 z3_1_8
            have l0_9 : w.heap.size < w9.heap.size := K0_9.out.lt
            have z0_0_9 : w9.cell? ⟨w.heap.size, 0, none⟩ = some (.slice (some ⟨m.b1, m.o1, none⟩) m.n m.c1) := K0_9.out.cell 0
            have z0_1_9 : w9.cell? ⟨w.heap.size, 1, none⟩ = some (.slice (some ⟨m.b2, m.o2, none⟩) m.n m.c2) := K0_9.out.cell 1
            have z0_2_9 : w9.cell? ⟨w.heap.size, 2, none⟩ = some (.slice (some ⟨m.b3, m.o3, none⟩) m.n m.c3) := K0_9.out.cell 2
            have l1_9 : w.heap.size + 1 < w9.heap.size := K1_9.out.lt
            have z1_0_9 : w9.cell? ⟨w.heap.size + 1, 0, none⟩ = some (.int .i64 (0)) := K1_9.out.cell 0
            have z1_1_9 : w9.cell? ⟨w.heap.size + 1, 1, none⟩ = some (.int .i64 (0)) := K1_9.out.cell 1
            have l2_9 : ba < w9.heap.size := K2_9.out.lt
            have z2_0_9 : w9.cell? ⟨ba, 0, none⟩ = some (.int .i64 (mn)) := K2_9.out.cell 0
            have z2_1_9 : w9.cell? ⟨ba, 1, none⟩ = some (.int .i64 (md)) := K2_9.out.cell 1
            have l3_9 : bb < w9.heap.size := K3_9.out.lt
            have z3_0_9 : w9.cell? ⟨bb, 0, none⟩ = some (.int .i64 (p1)) := K3_9.out.cell 0
            have z3_1_9 : w9.cell? ⟨bb, 1, none⟩ = some (.int .i64 (p2)) := K3_9.out.cell 1
            have l4_9 : w8.heap.size < w9.heap.size := K4_9.out.lt
            have z4_0_9 : w9.cell? ⟨w8.heap.size, 0, none⟩ = some (.int .i64 (m.h i)) := K4_9.out.cell 0
            have z4_1_9 : w9.cell? ⟨w8.heap.size, 1, none⟩ = some (.int .i64 (1)) := K4_9.out.cell 1
            have cx0 := C0_9.out
            have cx1 := C1_9.out
            have cx2 := C2_9.out
            have cx3 := C3_9.out
            by_cases hq : m.q i = m.q j
            · have dne : (m.q i != m.q j) = false := by simpa using hq
              have HQ := Lib.hid hq
              clear hq
              go_quiet (fail)
              generalize hwn : (w9.drewN nq) = w10
              have hbn : Below w9.heap.size w9 w10 := by rw [← hwn]; repeat' (first | exact Below.refl _ _ | refine below_drewN ?_ _ | refine Below.drew ?_ | refine Below.alloc ?_ (by first | omega | (simp; done) | (simp; omega) | (simp [World.setCell]; omega)) _ | refine Below.setCell ?_ (by first | omega | (simp; done) | (simp; omega)) _)
              have HB10 := Lib.hid (show Below w.heap.size w w10 from HB9.out.trans (hbn.mono HB9.out.size))
              have K0_10 := Lib.hid (step_blk hbn K0_9.out)
              have K1_10 := Lib.hid (step_blk hbn K1_9.out)
              have K2_10 := Lib.hid (step_blk hbn K2_9.out)
              have K3_10 := Lib.hid (step_blk hbn K3_9.out)
              have K4_10 := Lib.hid (step_blk hbn K4_9.out)
              have C0_10 := Lib.hid (step_cell hbn C0_9.out (by have := lc1; first | omega | (simp; omega)))
              have C1_10 := Lib.hid (step_cell hbn C1_9.out (by have := lc1; first | omega | (simp; omega)))
              have C2_10 := Lib.hid (step_cell hbn C2_9.out (by have := lc2; first | omega | (simp; omega)))
              have C3_10 := Lib.hid (step_cell hbn C3_9.out (by have := lc2; first | omega | (simp; omega)))
              have HA10 := Lib.hid (step_below hbn HA9.out)
              clear HA9
              have HN10 := Lib.hid hbn
              have hz10 := hbn.size
              clear hwn hbn K0_9 l0_9 z0_0_9 z0_1_9 z0_2_9 K1_9 l1_9 z1_0_9 z1_1_9 K2_9 l2_9 z2_0_9 z2_1_9 K3_9 l3_9 z3_0_9 z3_1_9 K4_9 l4_9 z4_0_9 z4_1_9
              have l0_10 : w.heap.size < w10.heap.size := K0_10.out.lt
              have z0_0_10 : w10.cell? ⟨w.heap.size, 0, none⟩ = some (.slice (some ⟨m.b1, m.o1, none⟩) m.n m.c1) := K0_10.out.cell 0
              have z0_1_10 : w10.cell? ⟨w.heap.size, 1, none⟩ = some (.slice (some ⟨m.b2, m.o2, none⟩) m.n m.c2) := K0_10.out.cell 1
              have z0_2_10 : w10.cell? ⟨w.heap.size, 2, none⟩ = some (.slice (some ⟨m.b3, m.o3, none⟩) m.n m.c3) := K0_10.out.cell 2
              have l1_10 : w.heap.size + 1 < w10.heap.size := K1_10.out.lt
              have z1_0_10 : w10.cell? ⟨w.heap.size + 1, 0, none⟩ = some (.int .i64 (0)) := K1_10.out.cell 0
              have z1_1_10 : w10.cell? ⟨w.heap.size + 1, 1, none⟩ = some (.int .i64 (0)) := K1_10.out.cell 1
              have l2_10 : ba < w10.heap.size := K2_10.out.lt
              have z2_0_10 : w10.cell? ⟨ba, 0, none⟩ = some (.int .i64 (mn)) := K2_10.out.cell 0
              have z2_1_10 : w10.cell? ⟨ba, 1, none⟩ = some (.int .i64 (md)) := K2_10.out.cell 1
              have l3_10 : bb < w10.heap.size := K3_10.out.lt
              have z3_0_10 : w10.cell? ⟨bb, 0, none⟩ = some (.int .i64 (p1)) := K3_10.out.cell 0
              have z3_1_10 : w10.cell? ⟨bb, 1, none⟩ = some (.int .i64 (p2)) := K3_10.out.cell 1
              have l4_10 : w8.heap.size < w10.heap.size := K4_10.out.lt
              have z4_0_10 : w10.cell? ⟨w8.heap.size, 0, none⟩ = some (.int .i64 (m.h i)) := K4_10.out.cell 0
              have z4_1_10 : w10.cell? ⟨w8.heap.size, 1, none⟩ = some (.int .i64 (1)) := K4_10.out.cell 1
              clear cx0 cx1 cx2 cx3 dne
              have cx0 := C0_10.out
              have cx1 := C1_10.out
              have cx2 := C2_10.out
              have cx3 := C3_10.out
              go_wp2
              by_cases f3 : m.h j < m.h i
              · have d3 : decide (m.h j < m.h i) = true := by simpa using f3
                have HSK := Lib.hid (HNX.out.trans (bst_skip (by unfold skipB; rw [HD1.out, HD2.out, d3]; simp [HQ.out])))
                clear f3
                go_quiet (fail)
                go_wp2
                go_roundw
                case rel => exact ⟨j + 1, by omega, by go_num, below_drewN (HBJ.out.trans (HA10.out.mono (by omega))) _, by rw [HSK.out]; exact Blk.drewN K3_10.out _⟩
                case measure => simp [intOf]; omega
              have d3 : decide (m.h j < m.h i) = false := by simpa using f3
              have HNS := Lib.hid (skip_of HD1.out HD2.out (fun _ => d3))
              have HAT := Lib.hid (show atF m mn md i j = (m.h i, 1) by unfold atF; rw [if_pos HQ.out])
              clear f3
              go_quiet (fail)
              generalize hwn : (w10.drewN nq) = w11
              have hbn : Below w10.heap.size w10 w11 := by rw [← hwn]; repeat' (first | exact Below.refl _ _ | refine below_drewN ?_ _ | refine Below.drew ?_ | refine Below.alloc ?_ (by first | omega | (simp; done) | (simp; omega) | (simp [World.setCell]; omega)) _ | refine Below.setCell ?_ (by first | omega | (simp; done) | (simp; omega)) _)
              have HB11 := Lib.hid (show Below w.heap.size w w11 from HB10.out.trans (hbn.mono HB10.out.size))
              have K0_11 := Lib.hid (step_blk hbn K0_10.out)
              have K1_11 := Lib.hid (step_blk hbn K1_10.out)
              have K2_11 := Lib.hid (step_blk hbn K2_10.out)
              have K3_11 := Lib.hid (step_blk hbn K3_10.out)
              have K4_11 := Lib.hid (step_blk hbn K4_10.out)
              have C0_11 := Lib.hid (step_cell hbn C0_10.out (by have := lc1; first | omega | (simp; omega)))
              have C1_11 := Lib.hid (step_cell hbn C1_10.out (by have := lc1; first | omega | (simp; omega)))
              have C2_11 := Lib.hid (step_cell hbn C2_10.out (by have := lc2; first | omega | (simp; omega)))
              have C3_11 := Lib.hid (step_cell hbn C3_10.out (by have := lc2; first | omega | (simp; omega)))
              have HA11 := Lib.hid (step_below hbn HA10.out)
              clear HA10
              have HN11 := Lib.hid hbn
              have hz11 := hbn.size
              clear hwn hbn K0_10 l0_10 z0_0_10 z0_1_10 z0_2_10 K1_10 l1_10 z1_0_10 z1_1_10 K2_10 l2_10 z2_0_10 z2_1_10 K3_10 l3_10 z3_0_10 z3_1_10 K4_10 l4_10 z4_0_10 z4_1_10
              have l0_11 : w.heap.size < w11.heap.size := K0_11.out.lt
              have z0_0_11 : w11.cell? ⟨w.heap.size, 0, none⟩ = some (.slice (some ⟨m.b1, m.o1, none⟩) m.n m.c1) := K0_11.out.cell 0
              have z0_1_11 : w11.cell? ⟨w.heap.size, 1, none⟩ = some (.slice (some ⟨m.b2, m.o2, none⟩) m.n m.c2) := K0_11.out.cell 1
              have z0_2_11 : w11.cell? ⟨w.heap.size, 2, none⟩ = some (.slice (some ⟨m.b3, m.o3, none⟩) m.n m.c3) := K0_11.out.cell 2
              have l1_11 : w.heap.size + 1 < w11.heap.size := K1_11.out.lt
              have z1_0_11 : w11.cell? ⟨w.heap.size + 1, 0, none⟩ = some (.int .i64 (0)) := K1_11.out.cell 0
              have z1_1_11 : w11.cell? ⟨w.heap.size + 1, 1, none⟩ = some (.int .i64 (0)) := K1_11.out.cell 1
              have l2_11 : ba < w11.heap.size := K2_11.out.lt
              have z2_0_11 : w11.cell? ⟨ba, 0, none⟩ = some (.int .i64 (mn)) := K2_11.out.cell 0
              have z2_1_11 : w11.cell? ⟨ba, 1, none⟩ = some (.int .i64 (md)) := K2_11.out.cell 1
              have l3_11 : bb < w11.heap.size := K3_11.out.lt
              have z3_0_11 : w11.cell? ⟨bb, 0, none⟩ = some (.int .i64 (p1)) := K3_11.out.cell 0
              have z3_1_11 : w11.cell? ⟨bb, 1, none⟩ = some (.int .i64 (p2)) := K3_11.out.cell 1
              have l4_11 : w8.heap.size < w11.heap.size := K4_11.out.lt
              have z4_0_11 : w11.cell? ⟨w8.heap.size, 0, none⟩ = some (.int .i64 (m.h i)) := K4_11.out.cell 0
              have z4_1_11 : w11.cell? ⟨w8.heap.size, 1, none⟩ = some (.int .i64 (1)) := K4_11.out.cell 1
              clear cx0 cx1 cx2 cx3 d3
              have HBB := Lib.hid (HBJ.out.trans (HA11.out.mono (show bb ≤ w7.heap.size by omega)))
              have HGB := Lib.hid K3_11.out
              by_cases hz : p2 = 0
              · have dz : (p2 == 0) = true := by simpa using hz
                have HTK := Lib.hid (HNX.out.trans (bst_take HNS.out (.inl hz)))
                have sc0 := (K3_11.out).cell 0
                have sf0 := (K3_11.out).frozen 0
                have sk0 : Blk (w11.setCell ⟨bb, 0, none⟩ (.int .i64 (m.h i))) (bb) 28 #[.int .i64 (m.h i), .int .i64 (p2)] := by simpa using (K3_11.out).set_ 0 (.int .i64 (m.h i))
                have sc1 := (sk0).cell 1
                have sf1 := (sk0).frozen 1
                have sk1 : Blk ((w11.setCell ⟨bb, 0, none⟩ (.int .i64 (m.h i))).setCell ⟨bb, 1, none⟩ (.int .i64 (1))) (bb) 28 #[.int .i64 (m.h i), .int .i64 (1)] := by simpa using (sk0).set_ 1 (.int .i64 (1))
                have sK := Lib.hid sk1
                have sd0 := sk1.cell 0
                have sd1 := sk1.cell 1
                clear sk0 sk1
                clear hz
                go_wp2
                go_roundw
                case rel => exact ⟨j + 1, by omega, by go_num, (HBB.out.setCell (p := ⟨bb, 0, none⟩) (Nat.le_refl _) _).setCell (p := ⟨bb, 1, none⟩) (Nat.le_refl _) _, by rw [HTK.out, HAT.out]; exact sK.out⟩
                case measure => simp [intOf]; omega
              have dz : (p2 == 0) = false := by simpa using hz
              have hp2 : 1 ≤ p2 := by have := hpin.1; simp only at this; omega
              obtain ⟨t, ht⟩ : ∃ t, lessB (m.h i, 1) (p1, p2) = t := ⟨_, rfl⟩
              have HT := Lib.hid ht
              have HZ := Lib.hid hz
              have hpin2 : p2 ≤ 40000000 ∧ -20000000000000 ≤ p1 ∧ p1 ≤ 20000000000000 := hpin.2
              clear ht hz
              have HA11 := Lib.hid (show Below w11.heap.size w11 w11 from Below.refl _ _)
              go_wp2_with fail
              refine (rless2_is (m.h i) (1) p1 p2 t HT.out ⟨by omega, by omega⟩ ⟨by omega, by omega⟩ hpin2.2 ⟨hp2, hpin2.1⟩ _).mono ?_
              rintro e w12 ⟨rfl, hb⟩
              have HB12 := Lib.hid (show Below w.heap.size w w12 from step_below hb (by repeat' (first | exact Below.refl _ _ | exact HB11.out | refine below_drewN ?_ _ | refine Below.drew ?_ | refine Below.alloc ?_ (by first | omega | (simp; done) | (simp; omega) | (simp [World.setCell]; omega)) _ | refine Below.setCell ?_ (by first | omega | (simp; done) | (simp; omega)) _ | assumption)))
              have K0_12 := Lib.hid (step_blk hb (show Blk _ (w.heap.size) 24 #[.slice (some ⟨m.b1, m.o1, none⟩) m.n m.c1, .slice (some ⟨m.b2, m.o2, none⟩) m.n m.c2, .slice (some ⟨m.b3, m.o3, none⟩) m.n m.c3] by repeat' (first | exact K0_11.out | exact K1_11.out | exact K2_11.out | exact K3_11.out | exact K4_11.out | exact Blk.at_ _ (by first | rfl | (simp; done) | (simp; omega)) _ _ | refine Blk.drewN ?_ _ | refine Blk.drew ?_ | refine Blk.alloc ?_ _ | refine Blk.far ?_ (by first | omega | (simp; done) | (simp; omega)) _ | assumption)))
              have K1_12 := Lib.hid (step_blk hb (show Blk _ (w.heap.size + 1) 28 #[.int .i64 (0), .int .i64 (0)] by repeat' (first | exact K0_11.out | exact K1_11.out | exact K2_11.out | exact K3_11.out | exact K4_11.out | exact Blk.at_ _ (by first | rfl | (simp; done) | (simp; omega)) _ _ | refine Blk.drewN ?_ _ | refine Blk.drew ?_ | refine Blk.alloc ?_ _ | refine Blk.far ?_ (by first | omega | (simp; done) | (simp; omega)) _ | assumption)))
              have K2_12 := Lib.hid (step_blk hb (show Blk _ (ba) 28 #[.int .i64 (mn), .int .i64 (md)] by repeat' (first | exact K0_11.out | exact K1_11.out | exact K2_11.out | exact K3_11.out | exact K4_11.out | exact Blk.at_ _ (by first | rfl | (simp; done) | (simp; omega)) _ _ | refine Blk.drewN ?_ _ | refine Blk.drew ?_ | refine Blk.alloc ?_ _ | refine Blk.far ?_ (by first | omega | (simp; done) | (simp; omega)) _ | assumption)))
              have K3_12 := Lib.hid (step_blk hb (show Blk _ (bb) 28 #[.int .i64 (p1), .int .i64 (p2)] by repeat' (first | exact K0_11.out | exact K1_11.out | exact K2_11.out | exact K3_11.out | exact K4_11.out | exact Blk.at_ _ (by first | rfl | (simp; done) | (simp; omega)) _ _ | refine Blk.drewN ?_ _ | refine Blk.drew ?_ | refine Blk.alloc ?_ _ | refine Blk.far ?_ (by first | omega | (simp; done) | (simp; omega)) _ | assumption)))
              have K4_12 := Lib.hid (step_blk hb (show Blk _ (w8.heap.size) 28 #[.int .i64 (m.h i), .int .i64 (1)] by repeat' (first | exact K0_11.out | exact K1_11.out | exact K2_11.out | exact K3_11.out | exact K4_11.out | exact Blk.at_ _ (by first | rfl | (simp; done) | (simp; omega)) _ _ | refine Blk.drewN ?_ _ | refine Blk.drew ?_ | refine Blk.alloc ?_ _ | refine Blk.far ?_ (by first | omega | (simp; done) | (simp; omega)) _ | assumption)))
              have C0_12 := Lib.hid (step_cell hb (show World.cell? _ ⟨m.b1, m.o1 + i, none⟩ = some (.int .i64 (m.h i)) by first | exact C0_11.out | go_simp) (by have := lc1; first | omega | (simp; omega)))
              have C1_12 := Lib.hid (step_cell hb (show World.cell? _ ⟨m.b1, m.o1 + j, none⟩ = some (.int .i64 (m.h j)) by first | exact C1_11.out | go_simp) (by have := lc1; first | omega | (simp; omega)))
              have C2_12 := Lib.hid (step_cell hb (show World.cell? _ ⟨m.b2, m.o2 + i, none⟩ = some (.int .i64 (m.q i)) by first | exact C2_11.out | go_simp) (by have := lc2; first | omega | (simp; omega)))
              have C3_12 := Lib.hid (step_cell hb (show World.cell? _ ⟨m.b2, m.o2 + j, none⟩ = some (.int .i64 (m.q j)) by first | exact C3_11.out | go_simp) (by have := lc2; first | omega | (simp; omega)))
              have HA12 := Lib.hid (step_below hb HA11.out)
              clear HA11
              have hz12 := hb.size
              try simp only [World.size_alloc, World.drewN, World.drew] at hz12
              clear hb K0_11 K1_11 K2_11 K3_11 K4_11 z0_0_11 z0_1_11 z0_2_11 l0_11 z1_0_11 z1_1_11 l1_11 z2_0_11 z2_1_11 l2_11 z3_0_11 z3_1_11 l3_11 z4_0_11 z4_1_11 l4_11
              have l0_12 : w.heap.size < w12.heap.size := K0_12.out.lt
              have z0_0_12 : w12.cell? ⟨w.heap.size, 0, none⟩ = some (.slice (some ⟨m.b1, m.o1, none⟩) m.n m.c1) := K0_12.out.cell 0
              have z0_1_12 : w12.cell? ⟨w.heap.size, 1, none⟩ = some (.slice (some ⟨m.b2, m.o2, none⟩) m.n m.c2) := K0_12.out.cell 1
              have z0_2_12 : w12.cell? ⟨w.heap.size, 2, none⟩ = some (.slice (some ⟨m.b3, m.o3, none⟩) m.n m.c3) := K0_12.out.cell 2
              have l1_12 : w.heap.size + 1 < w12.heap.size := K1_12.out.lt
              have z1_0_12 : w12.cell? ⟨w.heap.size + 1, 0, none⟩ = some (.int .i64 (0)) := K1_12.out.cell 0
              have z1_1_12 : w12.cell? ⟨w.heap.size + 1, 1, none⟩ = some (.int .i64 (0)) := K1_12.out.cell 1
              have l2_12 : ba < w12.heap.size := K2_12.out.lt
              have z2_0_12 : w12.cell? ⟨ba, 0, none⟩ = some (.int .i64 (mn)) := K2_12.out.cell 0
              have z2_1_12 : w12.cell? ⟨ba, 1, none⟩ = some (.int .i64 (md)) := K2_12.out.cell 1
              have l3_12 : bb < w12.heap.size := K3_12.out.lt
              have z3_0_12 : w12.cell? ⟨bb, 0, none⟩ = some (.int .i64 (p1)) := K3_12.out.cell 0
              have z3_1_12 : w12.cell? ⟨bb, 1, none⟩ = some (.int .i64 (p2)) := K3_12.out.cell 1
              have l4_12 : w8.heap.size < w12.heap.size := K4_12.out.lt
              have z4_0_12 : w12.cell? ⟨w8.heap.size, 0, none⟩ = some (.int .i64 (m.h i)) := K4_12.out.cell 0
              have z4_1_12 : w12.cell? ⟨w8.heap.size, 1, none⟩ = some (.int .i64 (1)) := K4_12.out.cell 1
              have HBC := Lib.hid (HBB.out.trans (HA12.out.mono (Nat.le_of_lt HGB.out.lt)))
              have HGC := Lib.hid K3_12.out
              cases t
              · have HTK := Lib.hid (HNX.out.trans (bst_keep (p := (p1, p2)) (by rw [HAT.out, HT.out]; simp [HZ.out])))
                go_wp2
                go_roundw
                case rel => exact ⟨j + 1, by omega, by go_num, HBC.out, by rw [HTK.out]; exact HGC.out⟩
                case measure => simp [intOf]; omega
              · have HTK := Lib.hid (HNX.out.trans (bst_take (p := (p1, p2)) HNS.out (.inr (by rw [HAT.out, HT.out]))))
                have sc0 := (K3_12.out).cell 0
                have sf0 := (K3_12.out).frozen 0
                have sk0 : Blk (w12.setCell ⟨bb, 0, none⟩ (.int .i64 (m.h i))) (bb) 28 #[.int .i64 (m.h i), .int .i64 (p2)] := by simpa using (K3_12.out).set_ 0 (.int .i64 (m.h i))
                have sc1 := (sk0).cell 1
                have sf1 := (sk0).frozen 1
                have sk1 : Blk ((w12.setCell ⟨bb, 0, none⟩ (.int .i64 (m.h i))).setCell ⟨bb, 1, none⟩ (.int .i64 (1))) (bb) 28 #[.int .i64 (m.h i), .int .i64 (1)] := by simpa using (sk0).set_ 1 (.int .i64 (1))
                have sK := Lib.hid sk1
                have sd0 := sk1.cell 0
                have sd1 := sk1.cell 1
                clear sk0 sk1
                go_wp2
                go_roundw
                case rel => exact ⟨j + 1, by omega, by go_num, (HBC.out.setCell (p := ⟨bb, 0, none⟩) (Nat.le_refl _) _).setCell (p := ⟨bb, 1, none⟩) (Nat.le_refl _) _, by rw [HTK.out, HAT.out]; exact sK.out⟩
                case measure => simp [intOf]; omega
            · have dne : (m.q i != m.q j) = true := by simpa using hq
              obtain ⟨g0, g1, g2, g3, g4, g5⟩ := at_raw HM.out hmdn hmin hlti hltj HF1.out HF2.out hq
              obtain ⟨dq, hdq⟩ : ∃ z, m.q j - m.q i = z := ⟨_, rfl⟩
              obtain ⟨dh, hdh⟩ : ∃ z, m.h j - m.h i = z := ⟨_, rfl⟩
              obtain ⟨qm, hqm⟩ : ∃ z, m.q i * md = z := ⟨_, rfl⟩
              rw [hdq] at g1 g2 g3
              rw [hqm] at g4 g5
              rw [hdh] at g5
              obtain ⟨hd, hhd⟩ : ∃ z, m.h i * dq = z := ⟨_, rfl⟩
              rw [hhd] at g2 g3
              obtain ⟨hm2, hhm⟩ : ∃ z, hd * md = z := ⟨_, rfl⟩
              rw [hhm] at g3
              obtain ⟨dm, hdm⟩ : ∃ z, dh * (mn - qm) = z := ⟨_, rfl⟩
              rw [hdm] at g5
              obtain ⟨den, hden⟩ : ∃ z, dq * md = z := ⟨_, rfl⟩
              rw [hden] at g1
              obtain ⟨x, hxx⟩ : ∃ z, redN (hm2 + dm) den = z := ⟨_, rfl⟩
              obtain ⟨y, hyy⟩ : ∃ z, redD (hm2 + dm) den = z := ⟨_, rfl⟩
              have HNS := Lib.hid (skip_of (j := j) HD1.out HD2.out (fun e => absurd e hq))
              have hate : atF m mn md i j = (x, y) := by
                unfold atF
                rw [if_neg hq, hdq, hdh, hqm, hhd, hhm, hdm, hden, hxx, hyy]
              have hain := at_in HM.out hmdn hmin hlti hltj HNS.out
              rw [hate] at hain
              have HAIN := Lib.hid hain
              have HAT := Lib.hid hate
              have HXX := Lib.hid hxx
              have HYY := Lib.hid hyy
              have e1 : IntKind.i64.wrap (m.q i * md) = qm := by rw [hqm]; exact IntWalk.i64_in _ ⟨by omega, by omega⟩
              have e3 : IntKind.i64.wrap (m.q j - m.q i) = dq := by rw [hdq]; exact IntWalk.i64_in _ ⟨by omega, by omega⟩
              have e4 : IntKind.i64.wrap (m.h j - m.h i) = dh := by rw [hdh]; exact IntWalk.i64_in _ ⟨by omega, by omega⟩
              have e5 : IntKind.i64.wrap (m.h i * dq) = hd := by rw [hhd]; exact IntWalk.i64_in _ ⟨by omega, by omega⟩
              have e6 : IntKind.i64.wrap (hd * md) = hm2 := by rw [hhm]; exact IntWalk.i64_in _ ⟨by omega, by omega⟩
              have e7 := IntWalk.i64_in (mn - qm) ⟨by omega, by omega⟩
              have e8 : IntKind.i64.wrap (dh * (mn - qm)) = dm := by rw [hdm]; exact IntWalk.i64_in _ ⟨by omega, by omega⟩
              have e9 := IntWalk.i64_in (hm2 + dm) ⟨by omega, by omega⟩
              have e10 : IntKind.i64.wrap (dq * md) = den := by rw [hden]; exact IntWalk.i64_in _ ⟨by omega, by omega⟩
              clear hq hdq hdh hqm hhd hhm hdm hden hxx hyy hain hate
              go_quiet (fail)
              generalize hwn : (w9.drewN nq) = w10
              have hbn : Below w9.heap.size w9 w10 := by rw [← hwn]; repeat' (first | exact Below.refl _ _ | refine below_drewN ?_ _ | refine Below.drew ?_ | refine Below.alloc ?_ (by first | omega | (simp; done) | (simp; omega) | (simp [World.setCell]; omega)) _ | refine Below.setCell ?_ (by first | omega | (simp; done) | (simp; omega)) _)
              have HB10 := Lib.hid (show Below w.heap.size w w10 from HB9.out.trans (hbn.mono HB9.out.size))
              have K0_10 := Lib.hid (step_blk hbn K0_9.out)
              have K1_10 := Lib.hid (step_blk hbn K1_9.out)
              have K2_10 := Lib.hid (step_blk hbn K2_9.out)
              have K3_10 := Lib.hid (step_blk hbn K3_9.out)
              have K4_10 := Lib.hid (step_blk hbn K4_9.out)
              have C0_10 := Lib.hid (step_cell hbn C0_9.out (by have := lc1; first | omega | (simp; omega)))
              have C1_10 := Lib.hid (step_cell hbn C1_9.out (by have := lc1; first | omega | (simp; omega)))
              have C2_10 := Lib.hid (step_cell hbn C2_9.out (by have := lc2; first | omega | (simp; omega)))
              have C3_10 := Lib.hid (step_cell hbn C3_9.out (by have := lc2; first | omega | (simp; omega)))
              have HA10 := Lib.hid (step_below hbn HA9.out)
              clear HA9
              have HN10 := Lib.hid hbn
              have hz10 := hbn.size
              clear hwn hbn K0_9 l0_9 z0_0_9 z0_1_9 z0_2_9 K1_9 l1_9 z1_0_9 z1_1_9 K2_9 l2_9 z2_0_9 z2_1_9 K3_9 l3_9 z3_0_9 z3_1_9 K4_9 l4_9 z4_0_9 z4_1_9
              have l0_10 : w.heap.size < w10.heap.size := K0_10.out.lt
              have z0_0_10 : w10.cell? ⟨w.heap.size, 0, none⟩ = some (.slice (some ⟨m.b1, m.o1, none⟩) m.n m.c1) := K0_10.out.cell 0
              have z0_1_10 : w10.cell? ⟨w.heap.size, 1, none⟩ = some (.slice (some ⟨m.b2, m.o2, none⟩) m.n m.c2) := K0_10.out.cell 1
              have z0_2_10 : w10.cell? ⟨w.heap.size, 2, none⟩ = some (.slice (some ⟨m.b3, m.o3, none⟩) m.n m.c3) := K0_10.out.cell 2
              have l1_10 : w.heap.size + 1 < w10.heap.size := K1_10.out.lt
              have z1_0_10 : w10.cell? ⟨w.heap.size + 1, 0, none⟩ = some (.int .i64 (0)) := K1_10.out.cell 0
              have z1_1_10 : w10.cell? ⟨w.heap.size + 1, 1, none⟩ = some (.int .i64 (0)) := K1_10.out.cell 1
              have l2_10 : ba < w10.heap.size := K2_10.out.lt
              have z2_0_10 : w10.cell? ⟨ba, 0, none⟩ = some (.int .i64 (mn)) := K2_10.out.cell 0
              have z2_1_10 : w10.cell? ⟨ba, 1, none⟩ = some (.int .i64 (md)) := K2_10.out.cell 1
              have l3_10 : bb < w10.heap.size := K3_10.out.lt
              have z3_0_10 : w10.cell? ⟨bb, 0, none⟩ = some (.int .i64 (p1)) := K3_10.out.cell 0
              have z3_1_10 : w10.cell? ⟨bb, 1, none⟩ = some (.int .i64 (p2)) := K3_10.out.cell 1
              have l4_10 : w8.heap.size < w10.heap.size := K4_10.out.lt
              have z4_0_10 : w10.cell? ⟨w8.heap.size, 0, none⟩ = some (.int .i64 (m.h i)) := K4_10.out.cell 0
              have z4_1_10 : w10.cell? ⟨w8.heap.size, 1, none⟩ = some (.int .i64 (1)) := K4_10.out.cell 1
              clear cx0 cx1 cx2 cx3 dne
              have cx0 := C0_10.out
              have cx1 := C1_10.out
              have cx2 := C2_10.out
              have cx3 := C3_10.out
              go_wp2
              go_quiet (fail)
              generalize hwn : (w10.drewN nq) = w11
              have hbn : Below w10.heap.size w10 w11 := by rw [← hwn]; repeat' (first | exact Below.refl _ _ | refine below_drewN ?_ _ | refine Below.drew ?_ | refine Below.alloc ?_ (by first | omega | (simp; done) | (simp; omega) | (simp [World.setCell]; omega)) _ | refine Below.setCell ?_ (by first | omega | (simp; done) | (simp; omega)) _)
              have HB11 := Lib.hid (show Below w.heap.size w w11 from HB10.out.trans (hbn.mono HB10.out.size))
              have K0_11 := Lib.hid (step_blk hbn K0_10.out)
              have K1_11 := Lib.hid (step_blk hbn K1_10.out)
              have K2_11 := Lib.hid (step_blk hbn K2_10.out)
              have K3_11 := Lib.hid (step_blk hbn K3_10.out)
              have K4_11 := Lib.hid (step_blk hbn K4_10.out)
              have C0_11 := Lib.hid (step_cell hbn C0_10.out (by have := lc1; first | omega | (simp; omega)))
              have C1_11 := Lib.hid (step_cell hbn C1_10.out (by have := lc1; first | omega | (simp; omega)))
              have C2_11 := Lib.hid (step_cell hbn C2_10.out (by have := lc2; first | omega | (simp; omega)))
              have C3_11 := Lib.hid (step_cell hbn C3_10.out (by have := lc2; first | omega | (simp; omega)))
              have HA11 := Lib.hid (step_below hbn HA10.out)
              clear HA10
              have HN11 := Lib.hid hbn
              have hz11 := hbn.size
              clear hwn hbn K0_10 l0_10 z0_0_10 z0_1_10 z0_2_10 K1_10 l1_10 z1_0_10 z1_1_10 K2_10 l2_10 z2_0_10 z2_1_10 K3_10 l3_10 z3_0_10 z3_1_10 K4_10 l4_10 z4_0_10 z4_1_10
              have l0_11 : w.heap.size < w11.heap.size := K0_11.out.lt
              have z0_0_11 : w11.cell? ⟨w.heap.size, 0, none⟩ = some (.slice (some ⟨m.b1, m.o1, none⟩) m.n m.c1) := K0_11.out.cell 0
              have z0_1_11 : w11.cell? ⟨w.heap.size, 1, none⟩ = some (.slice (some ⟨m.b2, m.o2, none⟩) m.n m.c2) := K0_11.out.cell 1
              have z0_2_11 : w11.cell? ⟨w.heap.size, 2, none⟩ = some (.slice (some ⟨m.b3, m.o3, none⟩) m.n m.c3) := K0_11.out.cell 2
              have l1_11 : w.heap.size + 1 < w11.heap.size := K1_11.out.lt
              have z1_0_11 : w11.cell? ⟨w.heap.size + 1, 0, none⟩ = some (.int .i64 (0)) := K1_11.out.cell 0
              have z1_1_11 : w11.cell? ⟨w.heap.size + 1, 1, none⟩ = some (.int .i64 (0)) := K1_11.out.cell 1
              have l2_11 : ba < w11.heap.size := K2_11.out.lt
              have z2_0_11 : w11.cell? ⟨ba, 0, none⟩ = some (.int .i64 (mn)) := K2_11.out.cell 0
              have z2_1_11 : w11.cell? ⟨ba, 1, none⟩ = some (.int .i64 (md)) := K2_11.out.cell 1
              have l3_11 : bb < w11.heap.size := K3_11.out.lt
              have z3_0_11 : w11.cell? ⟨bb, 0, none⟩ = some (.int .i64 (p1)) := K3_11.out.cell 0
              have z3_1_11 : w11.cell? ⟨bb, 1, none⟩ = some (.int .i64 (p2)) := K3_11.out.cell 1
              have l4_11 : w8.heap.size < w11.heap.size := K4_11.out.lt
              have z4_0_11 : w11.cell? ⟨w8.heap.size, 0, none⟩ = some (.int .i64 (m.h i)) := K4_11.out.cell 0
              have z4_1_11 : w11.cell? ⟨w8.heap.size, 1, none⟩ = some (.int .i64 (1)) := K4_11.out.cell 1
              clear cx0 cx1 cx2 cx3 e3 e4
              go_wp2
              have ha11 := HA11.out
              refine Fx.regionW (fun W f w' => Below (w8.heap.size) W w' ∧ Blk w' (w8.heap.size) 28 (if f 29 then #[.int .i64 (x), .int .i64 (y)] else #[.int .i64 (m.h i), .int .i64 (1)])) (by kernel_rfl) (by kernel_rfl) ?_ ?_
              · intro f hf0
                rw [hf0 29]
                exact ⟨below_drewN (Below.refl _ _) 1, Blk.drewN K4_11.out 1⟩
              repeat (first
                | (refine Fx.skip_ (by rfl) (fun f w h => h) ?_; simp only [Act.put, List.setIfInBounds_toArray, List.set_cons_zero, List.set_cons_succ])
                | (refine Fx.val_ ?_ (by rfl) ?_ (fun f w h => h) ?_
                   rotate_left
                   · intro f w' hD hk
                     obtain ⟨hb, hblk⟩ := id hD
                     have y0_0 : w'.cell? ⟨w.heap.size, 0, none⟩ = some (.slice (some ⟨m.b1, m.o1, none⟩) m.n m.c1) := (Blk.below K0_11.out hb (by first | omega | (simp; omega))).cell 0
                     have y0_1 : w'.cell? ⟨w.heap.size, 1, none⟩ = some (.slice (some ⟨m.b2, m.o2, none⟩) m.n m.c2) := (Blk.below K0_11.out hb (by first | omega | (simp; omega))).cell 1
                     have y0_2 : w'.cell? ⟨w.heap.size, 2, none⟩ = some (.slice (some ⟨m.b3, m.o3, none⟩) m.n m.c3) := (Blk.below K0_11.out hb (by first | omega | (simp; omega))).cell 2
                     have y1_0 : w'.cell? ⟨w.heap.size + 1, 0, none⟩ = some (.int .i64 (0)) := (Blk.below K1_11.out hb (by first | omega | (simp; omega))).cell 0
                     have y1_1 : w'.cell? ⟨w.heap.size + 1, 1, none⟩ = some (.int .i64 (0)) := (Blk.below K1_11.out hb (by first | omega | (simp; omega))).cell 1
                     have y2_0 : w'.cell? ⟨ba, 0, none⟩ = some (.int .i64 (mn)) := (Blk.below K2_11.out hb (by first | omega | (simp; omega))).cell 0
                     have y2_1 : w'.cell? ⟨ba, 1, none⟩ = some (.int .i64 (md)) := (Blk.below K2_11.out hb (by first | omega | (simp; omega))).cell 1
                     have y3_0 : w'.cell? ⟨bb, 0, none⟩ = some (.int .i64 (p1)) := (Blk.below K3_11.out hb (by first | omega | (simp; omega))).cell 0
                     have y3_1 : w'.cell? ⟨bb, 1, none⟩ = some (.int .i64 (p2)) := (Blk.below K3_11.out hb (by first | omega | (simp; omega))).cell 1
                     have ya : w'.cell? ⟨m.b1, m.o1 + i, none⟩ = some (.int .i64 (m.h i)) := (Below.cell hb (p := ⟨m.b1, m.o1 + i, none⟩) (by show m.b1 < _; omega)).trans C0_11.out
                     have yb : w'.cell? ⟨m.b2, m.o2 + i, none⟩ = some (.int .i64 (m.q i)) := (Below.cell hb (p := ⟨m.b2, m.o2 + i, none⟩) (by show m.b2 < _; omega)).trans C2_11.out
                     clear hk hD hb hblk
                     go_simp
                     try rfl
                   simp only [Act.put, List.setIfInBounds_toArray, List.set_cons_zero, List.set_cons_succ]))
              refine Fx.call_ (.agg #[.int .i64 x, .int .i64 y]) ?_ ?_ (by rfl) ?_ ?_ ?_
              rotate_left 2
              · intro w'
                go_simp
                refine ⟨?_, ?_⟩ <;> rfl
              · intro f w' hD hk
                have hbw := HB11.out.trans (hD.1.mono (show w.heap.size ≤ w8.heap.size by first | omega | (simp; omega)))
                have hgl : w8.heap.size ≤ w11.heap.size := (by have := K4_11.out.lt; omega)
                exact (lowest_red (hm2 + dm) den x y HXX.out HYY.out w' (by omega) (by omega) g1.1 (by omega)).mono fun e w'' ⟨he, hw⟩ => ⟨he, step_belowAt hw hD.1 hgl, step_blk hw hD.2⟩
              simp only [Act.put, List.setIfInBounds_toArray, List.set_cons_zero, List.set_cons_succ]
              repeat (first
                | (refine Fx.skip_ (by rfl) (fun f w h => h) ?_; simp only [Act.put, List.setIfInBounds_toArray, List.set_cons_zero, List.set_cons_succ])
                | (refine Fx.val_ ?_ (by rfl) ?_ (fun f w h => h) ?_
                   rotate_left
                   · intro f w' hD hk
                     obtain ⟨hb, hblk⟩ := id hD
                     have y0_0 : w'.cell? ⟨w.heap.size, 0, none⟩ = some (.slice (some ⟨m.b1, m.o1, none⟩) m.n m.c1) := (Blk.below K0_11.out hb (by first | omega | (simp; omega))).cell 0
                     have y0_1 : w'.cell? ⟨w.heap.size, 1, none⟩ = some (.slice (some ⟨m.b2, m.o2, none⟩) m.n m.c2) := (Blk.below K0_11.out hb (by first | omega | (simp; omega))).cell 1
                     have y0_2 : w'.cell? ⟨w.heap.size, 2, none⟩ = some (.slice (some ⟨m.b3, m.o3, none⟩) m.n m.c3) := (Blk.below K0_11.out hb (by first | omega | (simp; omega))).cell 2
                     have y1_0 : w'.cell? ⟨w.heap.size + 1, 0, none⟩ = some (.int .i64 (0)) := (Blk.below K1_11.out hb (by first | omega | (simp; omega))).cell 0
                     have y1_1 : w'.cell? ⟨w.heap.size + 1, 1, none⟩ = some (.int .i64 (0)) := (Blk.below K1_11.out hb (by first | omega | (simp; omega))).cell 1
                     have y2_0 : w'.cell? ⟨ba, 0, none⟩ = some (.int .i64 (mn)) := (Blk.below K2_11.out hb (by first | omega | (simp; omega))).cell 0
                     have y2_1 : w'.cell? ⟨ba, 1, none⟩ = some (.int .i64 (md)) := (Blk.below K2_11.out hb (by first | omega | (simp; omega))).cell 1
                     have y3_0 : w'.cell? ⟨bb, 0, none⟩ = some (.int .i64 (p1)) := (Blk.below K3_11.out hb (by first | omega | (simp; omega))).cell 0
                     have y3_1 : w'.cell? ⟨bb, 1, none⟩ = some (.int .i64 (p2)) := (Blk.below K3_11.out hb (by first | omega | (simp; omega))).cell 1
                     have ya : w'.cell? ⟨m.b1, m.o1 + i, none⟩ = some (.int .i64 (m.h i)) := (Below.cell hb (p := ⟨m.b1, m.o1 + i, none⟩) (by show m.b1 < _; omega)).trans C0_11.out
                     have yb : w'.cell? ⟨m.b2, m.o2 + i, none⟩ = some (.int .i64 (m.q i)) := (Below.cell hb (p := ⟨m.b2, m.o2 + i, none⟩) (by show m.b2 < _; omega)).trans C2_11.out
                     clear hk hD hb hblk
                     go_simp
                     try rfl
                   simp only [Act.put, List.setIfInBounds_toArray, List.set_cons_zero, List.set_cons_succ]))
              refine Fx.store_ (fun w' => ((w'.setCell ⟨w8.heap.size, 0, none⟩ (.int .i64 (x))).setCell ⟨w8.heap.size, 1, none⟩ (.int .i64 (y)))) (by rfl) ?_ ?_ ?_
              · intro f w' hD hk
                obtain ⟨hb, hblk⟩ := id hD
                rw [show f 29 = false from hk.1] at hblk
                have q0 := hblk.cell 0
                have q1 := hblk.cell 1
                have p0 := hblk.frozen 0
                have p1 := hblk.frozen 1
                clear hk hD hb hblk
                go_simp
              · intro f w' hD hk
                obtain ⟨hb, hblk⟩ := id hD
                rw [show f 29 = false from hk.1] at hblk
                have q0 := hblk.cell 0
                have q1 := hblk.cell 1
                have p0 := hblk.frozen 0
                have p1 := hblk.frozen 1
                exact ⟨((hb.setCell (p := ⟨w8.heap.size, 0, none⟩) (Nat.le_refl _) _).setCell (p := ⟨w8.heap.size, 1, none⟩) (Nat.le_refl _) _), by simpa [Fx.add] using ((hblk.set_ 0 (.int .i64 (x))).set_ 1 (.int .i64 (y)))⟩
              simp only [Act.put, List.setIfInBounds_toArray, List.set_cons_zero, List.set_cons_succ]
              repeat (first
                | (refine Fx.skip_ (by rfl) (fun f w h => h) ?_; simp only [Act.put, List.setIfInBounds_toArray, List.set_cons_zero, List.set_cons_succ])
                | (refine Fx.val_ ?_ (by rfl) ?_ (fun f w h => h) ?_
                   rotate_left
                   · intro f w' hD hk
                     obtain ⟨hb, hblk⟩ := id hD
                     have y0_0 : w'.cell? ⟨w.heap.size, 0, none⟩ = some (.slice (some ⟨m.b1, m.o1, none⟩) m.n m.c1) := (Blk.below K0_11.out hb (by first | omega | (simp; omega))).cell 0
                     have y0_1 : w'.cell? ⟨w.heap.size, 1, none⟩ = some (.slice (some ⟨m.b2, m.o2, none⟩) m.n m.c2) := (Blk.below K0_11.out hb (by first | omega | (simp; omega))).cell 1
                     have y0_2 : w'.cell? ⟨w.heap.size, 2, none⟩ = some (.slice (some ⟨m.b3, m.o3, none⟩) m.n m.c3) := (Blk.below K0_11.out hb (by first | omega | (simp; omega))).cell 2
                     have y1_0 : w'.cell? ⟨w.heap.size + 1, 0, none⟩ = some (.int .i64 (0)) := (Blk.below K1_11.out hb (by first | omega | (simp; omega))).cell 0
                     have y1_1 : w'.cell? ⟨w.heap.size + 1, 1, none⟩ = some (.int .i64 (0)) := (Blk.below K1_11.out hb (by first | omega | (simp; omega))).cell 1
                     have y2_0 : w'.cell? ⟨ba, 0, none⟩ = some (.int .i64 (mn)) := (Blk.below K2_11.out hb (by first | omega | (simp; omega))).cell 0
                     have y2_1 : w'.cell? ⟨ba, 1, none⟩ = some (.int .i64 (md)) := (Blk.below K2_11.out hb (by first | omega | (simp; omega))).cell 1
                     have y3_0 : w'.cell? ⟨bb, 0, none⟩ = some (.int .i64 (p1)) := (Blk.below K3_11.out hb (by first | omega | (simp; omega))).cell 0
                     have y3_1 : w'.cell? ⟨bb, 1, none⟩ = some (.int .i64 (p2)) := (Blk.below K3_11.out hb (by first | omega | (simp; omega))).cell 1
                     have ya : w'.cell? ⟨m.b1, m.o1 + i, none⟩ = some (.int .i64 (m.h i)) := (Below.cell hb (p := ⟨m.b1, m.o1 + i, none⟩) (by show m.b1 < _; omega)).trans C0_11.out
                     have yb : w'.cell? ⟨m.b2, m.o2 + i, none⟩ = some (.int .i64 (m.q i)) := (Below.cell hb (p := ⟨m.b2, m.o2 + i, none⟩) (by show m.b2 < _; omega)).trans C2_11.out
                     clear hk hD hb hblk
                     go_simp
                     try rfl
                   simp only [Act.put, List.setIfInBounds_toArray, List.set_cons_zero, List.set_cons_succ]))
              refine Fx.nil_ ?_
              intro f w12 hall hD
              obtain ⟨hb, hblk⟩ := hD
              rw [hall 29 (by simp)] at hblk
              clear hall
              replace hblk : Blk w12 (w8.heap.size) 28 #[.int .i64 (x), .int .i64 (y)] := hblk
              have hbw : Below w.heap.size w w12 := HB11.out.trans (hb.mono (by first | omega | (simp; omega)))
              have kk0 := Blk.below K0_11.out hb (by first | omega | (simp; omega))
              have kk1 := Blk.below K1_11.out hb (by first | omega | (simp; omega))
              have kk2 := Blk.below K2_11.out hb (by first | omega | (simp; omega))
              have kk3 := Blk.below K3_11.out hb (by first | omega | (simp; omega))
              have HKS := Lib.hid hb
              clear hb
              have HB12 := Lib.hid hbw
              have K0_12 := Lib.hid (show Blk w12 (w.heap.size) 24 #[.slice (some ⟨m.b1, m.o1, none⟩) m.n m.c1, .slice (some ⟨m.b2, m.o2, none⟩) m.n m.c2, .slice (some ⟨m.b3, m.o3, none⟩) m.n m.c3] from kk0)
              have K1_12 := Lib.hid (show Blk w12 (w.heap.size + 1) 28 #[.int .i64 (0), .int .i64 (0)] from kk1)
              have K2_12 := Lib.hid (show Blk w12 (ba) 28 #[.int .i64 (mn), .int .i64 (md)] from kk2)
              have K3_12 := Lib.hid (show Blk w12 (bb) 28 #[.int .i64 (p1), .int .i64 (p2)] from kk3)
              have K4_12 := Lib.hid (show Blk w12 (w8.heap.size) 28 #[.int .i64 (x), .int .i64 (y)] from hblk)
              clear hbw kk0 kk1 kk2 kk3 hblk
              have l0_12 : w.heap.size < w12.heap.size := K0_12.out.lt
              have z0_0_12 : w12.cell? ⟨w.heap.size, 0, none⟩ = some (.slice (some ⟨m.b1, m.o1, none⟩) m.n m.c1) := K0_12.out.cell 0
              have z0_1_12 : w12.cell? ⟨w.heap.size, 1, none⟩ = some (.slice (some ⟨m.b2, m.o2, none⟩) m.n m.c2) := K0_12.out.cell 1
              have z0_2_12 : w12.cell? ⟨w.heap.size, 2, none⟩ = some (.slice (some ⟨m.b3, m.o3, none⟩) m.n m.c3) := K0_12.out.cell 2
              have l1_12 : w.heap.size + 1 < w12.heap.size := K1_12.out.lt
              have z1_0_12 : w12.cell? ⟨w.heap.size + 1, 0, none⟩ = some (.int .i64 (0)) := K1_12.out.cell 0
              have z1_1_12 : w12.cell? ⟨w.heap.size + 1, 1, none⟩ = some (.int .i64 (0)) := K1_12.out.cell 1
              have l2_12 : ba < w12.heap.size := K2_12.out.lt
              have z2_0_12 : w12.cell? ⟨ba, 0, none⟩ = some (.int .i64 (mn)) := K2_12.out.cell 0
              have z2_1_12 : w12.cell? ⟨ba, 1, none⟩ = some (.int .i64 (md)) := K2_12.out.cell 1
              have l3_12 : bb < w12.heap.size := K3_12.out.lt
              have z3_0_12 : w12.cell? ⟨bb, 0, none⟩ = some (.int .i64 (p1)) := K3_12.out.cell 0
              have z3_1_12 : w12.cell? ⟨bb, 1, none⟩ = some (.int .i64 (p2)) := K3_12.out.cell 1
              have l4_12 : w8.heap.size < w12.heap.size := K4_12.out.lt
              have z4_0_12 : w12.cell? ⟨w8.heap.size, 0, none⟩ = some (.int .i64 (x)) := K4_12.out.cell 0
              have z4_1_12 : w12.cell? ⟨w8.heap.size, 1, none⟩ = some (.int .i64 (y)) := K4_12.out.cell 1
              have HBB := Lib.hid (HBJ.out.trans ((ha11.mono (show bb ≤ w7.heap.size by omega)).trans (HKS.out.mono (show bb ≤ w8.heap.size by omega))))
              have HGB := Lib.hid K3_12.out
              by_cases hz : p2 = 0
              · have dz : (p2 == 0) = true := by simpa using hz
                have HTK := Lib.hid (HNX.out.trans (bst_take HNS.out (.inl hz)))
                have sc0 := (K3_12.out).cell 0
                have sf0 := (K3_12.out).frozen 0
                have sk0 : Blk (w12.setCell ⟨bb, 0, none⟩ (.int .i64 (x))) (bb) 28 #[.int .i64 (x), .int .i64 (p2)] := by simpa using (K3_12.out).set_ 0 (.int .i64 (x))
                have sc1 := (sk0).cell 1
                have sf1 := (sk0).frozen 1
                have sk1 : Blk ((w12.setCell ⟨bb, 0, none⟩ (.int .i64 (x))).setCell ⟨bb, 1, none⟩ (.int .i64 (y))) (bb) 28 #[.int .i64 (x), .int .i64 (y)] := by simpa using (sk0).set_ 1 (.int .i64 (y))
                have sK := Lib.hid sk1
                have sd0 := sk1.cell 0
                have sd1 := sk1.cell 1
                clear sk0 sk1
                clear hz
                go_wp2
                go_roundw
                case rel => exact ⟨j + 1, by omega, by go_num, (HBB.out.setCell (p := ⟨bb, 0, none⟩) (Nat.le_refl _) _).setCell (p := ⟨bb, 1, none⟩) (Nat.le_refl _) _, by rw [HTK.out, HAT.out]; exact sK.out⟩
                case measure => simp [intOf]; omega
              have dz : (p2 == 0) = false := by simpa using hz
              have hp2 : 1 ≤ p2 := by have := hpin.1; simp only at this; omega
              obtain ⟨t, ht⟩ : ∃ t, lessB (x, y) (p1, p2) = t := ⟨_, rfl⟩
              have HT := Lib.hid ht
              have HZ := Lib.hid hz
              have hpin2 : p2 ≤ 40000000 ∧ -20000000000000 ≤ p1 ∧ p1 ≤ 20000000000000 := hpin.2
              clear ht hz
              have HA12 := Lib.hid (show Below w12.heap.size w12 w12 from Below.refl _ _)
              go_wp2_with fail
              refine (rless2_is (x) (y) p1 p2 t HT.out ⟨HAIN.out.1.2.2.1, HAIN.out.1.2.2.2⟩ ⟨HAIN.out.2, HAIN.out.1.2.1⟩ hpin2.2 ⟨hp2, hpin2.1⟩ _).mono ?_
              rintro e w13 ⟨rfl, hb⟩
              have HB13 := Lib.hid (show Below w.heap.size w w13 from step_below hb (by repeat' (first | exact Below.refl _ _ | exact HB12.out | refine below_drewN ?_ _ | refine Below.drew ?_ | refine Below.alloc ?_ (by first | omega | (simp; done) | (simp; omega) | (simp [World.setCell]; omega)) _ | refine Below.setCell ?_ (by first | omega | (simp; done) | (simp; omega)) _ | assumption)))
              have K0_13 := Lib.hid (step_blk hb (show Blk _ (w.heap.size) 24 #[.slice (some ⟨m.b1, m.o1, none⟩) m.n m.c1, .slice (some ⟨m.b2, m.o2, none⟩) m.n m.c2, .slice (some ⟨m.b3, m.o3, none⟩) m.n m.c3] by repeat' (first | exact K0_12.out | exact K1_12.out | exact K2_12.out | exact K3_12.out | exact K4_12.out | exact Blk.at_ _ (by first | rfl | (simp; done) | (simp; omega)) _ _ | refine Blk.drewN ?_ _ | refine Blk.drew ?_ | refine Blk.alloc ?_ _ | refine Blk.far ?_ (by first | omega | (simp; done) | (simp; omega)) _ | assumption)))
              have K1_13 := Lib.hid (step_blk hb (show Blk _ (w.heap.size + 1) 28 #[.int .i64 (0), .int .i64 (0)] by repeat' (first | exact K0_12.out | exact K1_12.out | exact K2_12.out | exact K3_12.out | exact K4_12.out | exact Blk.at_ _ (by first | rfl | (simp; done) | (simp; omega)) _ _ | refine Blk.drewN ?_ _ | refine Blk.drew ?_ | refine Blk.alloc ?_ _ | refine Blk.far ?_ (by first | omega | (simp; done) | (simp; omega)) _ | assumption)))
              have K2_13 := Lib.hid (step_blk hb (show Blk _ (ba) 28 #[.int .i64 (mn), .int .i64 (md)] by repeat' (first | exact K0_12.out | exact K1_12.out | exact K2_12.out | exact K3_12.out | exact K4_12.out | exact Blk.at_ _ (by first | rfl | (simp; done) | (simp; omega)) _ _ | refine Blk.drewN ?_ _ | refine Blk.drew ?_ | refine Blk.alloc ?_ _ | refine Blk.far ?_ (by first | omega | (simp; done) | (simp; omega)) _ | assumption)))
              have K3_13 := Lib.hid (step_blk hb (show Blk _ (bb) 28 #[.int .i64 (p1), .int .i64 (p2)] by repeat' (first | exact K0_12.out | exact K1_12.out | exact K2_12.out | exact K3_12.out | exact K4_12.out | exact Blk.at_ _ (by first | rfl | (simp; done) | (simp; omega)) _ _ | refine Blk.drewN ?_ _ | refine Blk.drew ?_ | refine Blk.alloc ?_ _ | refine Blk.far ?_ (by first | omega | (simp; done) | (simp; omega)) _ | assumption)))
              have K4_13 := Lib.hid (step_blk hb (show Blk _ (w8.heap.size) 28 #[.int .i64 (x), .int .i64 (y)] by repeat' (first | exact K0_12.out | exact K1_12.out | exact K2_12.out | exact K3_12.out | exact K4_12.out | exact Blk.at_ _ (by first | rfl | (simp; done) | (simp; omega)) _ _ | refine Blk.drewN ?_ _ | refine Blk.drew ?_ | refine Blk.alloc ?_ _ | refine Blk.far ?_ (by first | omega | (simp; done) | (simp; omega)) _ | assumption)))
              have HA13 := Lib.hid (step_below hb HA12.out)
              clear HA12
              have hz13 := hb.size
              try simp only [World.size_alloc, World.drewN, World.drew] at hz13
              clear hb K0_12 K1_12 K2_12 K3_12 K4_12 z0_0_12 z0_1_12 z0_2_12 l0_12 z1_0_12 z1_1_12 l1_12 z2_0_12 z2_1_12 l2_12 z3_0_12 z3_1_12 l3_12 z4_0_12 z4_1_12 l4_12
              have l0_13 : w.heap.size < w13.heap.size := K0_13.out.lt
              have z0_0_13 : w13.cell? ⟨w.heap.size, 0, none⟩ = some (.slice (some ⟨m.b1, m.o1, none⟩) m.n m.c1) := K0_13.out.cell 0
              have z0_1_13 : w13.cell? ⟨w.heap.size, 1, none⟩ = some (.slice (some ⟨m.b2, m.o2, none⟩) m.n m.c2) := K0_13.out.cell 1
              have z0_2_13 : w13.cell? ⟨w.heap.size, 2, none⟩ = some (.slice (some ⟨m.b3, m.o3, none⟩) m.n m.c3) := K0_13.out.cell 2
              have l1_13 : w.heap.size + 1 < w13.heap.size := K1_13.out.lt
              have z1_0_13 : w13.cell? ⟨w.heap.size + 1, 0, none⟩ = some (.int .i64 (0)) := K1_13.out.cell 0
              have z1_1_13 : w13.cell? ⟨w.heap.size + 1, 1, none⟩ = some (.int .i64 (0)) := K1_13.out.cell 1
              have l2_13 : ba < w13.heap.size := K2_13.out.lt
              have z2_0_13 : w13.cell? ⟨ba, 0, none⟩ = some (.int .i64 (mn)) := K2_13.out.cell 0
              have z2_1_13 : w13.cell? ⟨ba, 1, none⟩ = some (.int .i64 (md)) := K2_13.out.cell 1
              have l3_13 : bb < w13.heap.size := K3_13.out.lt
              have z3_0_13 : w13.cell? ⟨bb, 0, none⟩ = some (.int .i64 (p1)) := K3_13.out.cell 0
              have z3_1_13 : w13.cell? ⟨bb, 1, none⟩ = some (.int .i64 (p2)) := K3_13.out.cell 1
              have l4_13 : w8.heap.size < w13.heap.size := K4_13.out.lt
              have z4_0_13 : w13.cell? ⟨w8.heap.size, 0, none⟩ = some (.int .i64 (x)) := K4_13.out.cell 0
              have z4_1_13 : w13.cell? ⟨w8.heap.size, 1, none⟩ = some (.int .i64 (y)) := K4_13.out.cell 1
              have HBC := Lib.hid (HBB.out.trans (HA13.out.mono (Nat.le_of_lt HGB.out.lt)))
              have HGC := Lib.hid K3_13.out
              cases t
              · have HTK := Lib.hid (HNX.out.trans (bst_keep (p := (p1, p2)) (by rw [HAT.out, HT.out]; simp [HZ.out])))
                go_wp2
                go_roundw
                case rel => exact ⟨j + 1, by omega, by go_num, HBC.out, by rw [HTK.out]; exact HGC.out⟩
                case measure => simp [intOf]; omega
              · have HTK := Lib.hid (HNX.out.trans (bst_take (p := (p1, p2)) HNS.out (.inr (by rw [HAT.out, HT.out]))))
                have sc0 := (K3_13.out).cell 0
                have sf0 := (K3_13.out).frozen 0
                have sk0 : Blk (w13.setCell ⟨bb, 0, none⟩ (.int .i64 (x))) (bb) 28 #[.int .i64 (x), .int .i64 (p2)] := by simpa using (K3_13.out).set_ 0 (.int .i64 (x))
                have sc1 := (sk0).cell 1
                have sf1 := (sk0).frozen 1
                have sk1 : Blk ((w13.setCell ⟨bb, 0, none⟩ (.int .i64 (x))).setCell ⟨bb, 1, none⟩ (.int .i64 (y))) (bb) 28 #[.int .i64 (x), .int .i64 (y)] := by simpa using (sk0).set_ 1 (.int .i64 (y))
                have sK := Lib.hid sk1
                have sd0 := sk1.cell 0
                have sd1 := sk1.cell 1
                clear sk0 sk1
                go_wp2
                go_roundw
                case rel => exact ⟨j + 1, by omega, by go_num, (HBC.out.setCell (p := ⟨bb, 0, none⟩) (Nat.le_refl _) _).setCell (p := ⟨bb, 1, none⟩) (Nat.le_refl _) _, by rw [HTK.out, HAT.out]; exact sK.out⟩
                case measure => simp [intOf]; omega
          · obtain rfl : m.n = j := by omega
            have HRR := Lib.hid (show bstA m mn md (i + 1) = (p1, p2) from HPE.out)
            go_wp2
            go_roundw
            case rel => exact ⟨i + 1, by omega, by go_num, HBJ.out, by rw [HRR.out]; exact HGJ.out⟩
            case measure => simp [intOf]; omega
      · skip
        obtain rfl : i = m.n := by omega
        have hgp := HGI.out
        have hbin := bstA_in HM.out hmdn hmin m.n (Nat.le_refl _)
        rw [HP.out] at hgp hbin
        obtain ⟨P1, P2⟩ := P
        simp only at hgp
        obtain ⟨q1, q2, q3, q4⟩ := hbin
        simp only at q1 q2 q3 q4
        have q0 : 1 ≤ P2 := HP0.out
        have HS2 := Lib.hid (show redN (m.sh m.n * P2 - m.sw m.n * P1) P2 = s from HS.out)
        have HV2 := Lib.hid (show redD (m.sh m.n * P2 - m.sw m.n * P1) P2 = v from HV.out)
        obtain ⟨a1, a2, a3⟩ := HM.out.sums (k := m.n) (Nat.le_refl _)
        obtain ⟨sh, hsh⟩ : ∃ z, m.sh m.n = z := ⟨_, rfl⟩
        obtain ⟨sw, hsw⟩ : ∃ z, m.sw m.n = z := ⟨_, rfl⟩
        rw [hsw] at a1
        rw [hsh] at a3
        have HS3 := Lib.hid (show redN (sh * P2 - sw * P1) P2 = s by rw [← hsh, ← hsw]; exact HS2.out)
        have HV3 := Lib.hid (show redD (sh * P2 - sw * P1) P2 = v by rw [← hsh, ← hsw]; exact HV2.out)
        rw [hsh, hsw]
        clear hsh hsw
        have p1 := prod_small (x := sh) (y := P2) (X := 4000000000) (Y := 40000000) (by omega) (by omega) (by omega) (by omega)
        have p2 := prod_small (x := sw) (y := P1) (X := 40000) (Y := 20000000000000) (by omega) (by omega) (by omega) (by omega)
        have e1 := IntWalk.i64_in (sh * P2) ⟨by omega, by omega⟩
        have e2 := IntWalk.i64_in (sw * P1) ⟨by omega, by omega⟩
        have e3 := IntWalk.i64_in (sh * P2 - sw * P1) ⟨by omega, by omega⟩
        have g1 : -9223372036854775808 < sh * P2 - sw * P1 := by omega
        have g2 : sh * P2 - sw * P1 ≤ 9223372036854775807 := by omega
        have hb6 := HB6.out
        have k0 := K0_6.out
        have k1 := K1_6.out
        have k2 := K2_6.out
        clear z3_0_6 z3_1_6 p1 p2
        have HB6 := Lib.hid hb6
        have K0_6 := Lib.hid (show Blk w6 (w.heap.size) 24 #[.slice (some ⟨m.b1, m.o1, none⟩) m.n m.c1, .slice (some ⟨m.b2, m.o2, none⟩) m.n m.c2, .slice (some ⟨m.b3, m.o3, none⟩) m.n m.c3] from k0)
        have K1_6 := Lib.hid (show Blk w6 (w.heap.size + 1) 28 #[.int .i64 (0), .int .i64 (0)] from k1)
        have K2_6 := Lib.hid (show Blk w6 (ba) 28 #[.int .i64 (mn), .int .i64 (md)] from k2)
        have K3_6 := Lib.hid (show Blk w6 (bb) 28 #[.int .i64 (P1), .int .i64 (P2)] from hgp)
        clear hb6 k0 k1 k2 hgp
        have l0_6 : w.heap.size < w6.heap.size := K0_6.out.lt
        have z0_0_6 : w6.cell? ⟨w.heap.size, 0, none⟩ = some (.slice (some ⟨m.b1, m.o1, none⟩) m.n m.c1) := K0_6.out.cell 0
        have z0_1_6 : w6.cell? ⟨w.heap.size, 1, none⟩ = some (.slice (some ⟨m.b2, m.o2, none⟩) m.n m.c2) := K0_6.out.cell 1
        have z0_2_6 : w6.cell? ⟨w.heap.size, 2, none⟩ = some (.slice (some ⟨m.b3, m.o3, none⟩) m.n m.c3) := K0_6.out.cell 2
        have l1_6 : w.heap.size + 1 < w6.heap.size := K1_6.out.lt
        have z1_0_6 : w6.cell? ⟨w.heap.size + 1, 0, none⟩ = some (.int .i64 (0)) := K1_6.out.cell 0
        have z1_1_6 : w6.cell? ⟨w.heap.size + 1, 1, none⟩ = some (.int .i64 (0)) := K1_6.out.cell 1
        have l2_6 : ba < w6.heap.size := K2_6.out.lt
        have z2_0_6 : w6.cell? ⟨ba, 0, none⟩ = some (.int .i64 (mn)) := K2_6.out.cell 0
        have z2_1_6 : w6.cell? ⟨ba, 1, none⟩ = some (.int .i64 (md)) := K2_6.out.cell 1
        have l3_6 : bb < w6.heap.size := K3_6.out.lt
        have z3_0_6 : w6.cell? ⟨bb, 0, none⟩ = some (.int .i64 (P1)) := K3_6.out.cell 0
        have z3_1_6 : w6.cell? ⟨bb, 1, none⟩ = some (.int .i64 (P2)) := K3_6.out.cell 1
        go_wp2_with fail
        refine (lowest_red (sh * P2 - sw * P1) P2 s v HS3.out HV3.out _ g1 g2 q0 (by omega)).mono ?_
        rintro e w7 ⟨rfl, hb⟩
        have HB7 := Lib.hid (show Below w.heap.size w w7 from step_below hb (by repeat' (first | exact Below.refl _ _ | exact HB6.out | refine below_drewN ?_ _ | refine Below.drew ?_ | refine Below.alloc ?_ (by first | omega | (simp; done) | (simp; omega) | (simp [World.setCell]; omega)) _ | refine Below.setCell ?_ (by first | omega | (simp; done) | (simp; omega)) _ | assumption)))
        have K0_7 := Lib.hid (step_blk hb (show Blk _ (w.heap.size) 24 #[.slice (some ⟨m.b1, m.o1, none⟩) m.n m.c1, .slice (some ⟨m.b2, m.o2, none⟩) m.n m.c2, .slice (some ⟨m.b3, m.o3, none⟩) m.n m.c3] by repeat' (first | exact K0_6.out | exact K1_6.out | exact K2_6.out | exact K3_6.out | exact Blk.at_ _ (by first | rfl | (simp; done) | (simp; omega)) _ _ | refine Blk.drewN ?_ _ | refine Blk.drew ?_ | refine Blk.alloc ?_ _ | refine Blk.far ?_ (by first | omega | (simp; done) | (simp; omega)) _ | assumption)))
        have K1_7 := Lib.hid (step_blk hb (show Blk _ (w.heap.size + 1) 28 #[.int .i64 (0), .int .i64 (0)] by repeat' (first | exact K0_6.out | exact K1_6.out | exact K2_6.out | exact K3_6.out | exact Blk.at_ _ (by first | rfl | (simp; done) | (simp; omega)) _ _ | refine Blk.drewN ?_ _ | refine Blk.drew ?_ | refine Blk.alloc ?_ _ | refine Blk.far ?_ (by first | omega | (simp; done) | (simp; omega)) _ | assumption)))
        have K2_7 := Lib.hid (step_blk hb (show Blk _ (ba) 28 #[.int .i64 (mn), .int .i64 (md)] by repeat' (first | exact K0_6.out | exact K1_6.out | exact K2_6.out | exact K3_6.out | exact Blk.at_ _ (by first | rfl | (simp; done) | (simp; omega)) _ _ | refine Blk.drewN ?_ _ | refine Blk.drew ?_ | refine Blk.alloc ?_ _ | refine Blk.far ?_ (by first | omega | (simp; done) | (simp; omega)) _ | assumption)))
        have K3_7 := Lib.hid (step_blk hb (show Blk _ (bb) 28 #[.int .i64 (P1), .int .i64 (P2)] by repeat' (first | exact K0_6.out | exact K1_6.out | exact K2_6.out | exact K3_6.out | exact Blk.at_ _ (by first | rfl | (simp; done) | (simp; omega)) _ _ | refine Blk.drewN ?_ _ | refine Blk.drew ?_ | refine Blk.alloc ?_ _ | refine Blk.far ?_ (by first | omega | (simp; done) | (simp; omega)) _ | assumption)))
        have hz7 := hb.size
        try simp only [World.size_alloc, World.drewN, World.drew] at hz7
        clear hb K0_6 K1_6 K2_6 K3_6 z0_0_6 z0_1_6 z0_2_6 l0_6 z1_0_6 z1_1_6 l1_6 z2_0_6 z2_1_6 l2_6 z3_0_6 z3_1_6 l3_6
        have l0_7 : w.heap.size < w7.heap.size := K0_7.out.lt
        have z0_0_7 : w7.cell? ⟨w.heap.size, 0, none⟩ = some (.slice (some ⟨m.b1, m.o1, none⟩) m.n m.c1) := K0_7.out.cell 0
        have z0_1_7 : w7.cell? ⟨w.heap.size, 1, none⟩ = some (.slice (some ⟨m.b2, m.o2, none⟩) m.n m.c2) := K0_7.out.cell 1
        have z0_2_7 : w7.cell? ⟨w.heap.size, 2, none⟩ = some (.slice (some ⟨m.b3, m.o3, none⟩) m.n m.c3) := K0_7.out.cell 2
        have l1_7 : w.heap.size + 1 < w7.heap.size := K1_7.out.lt
        have z1_0_7 : w7.cell? ⟨w.heap.size + 1, 0, none⟩ = some (.int .i64 (0)) := K1_7.out.cell 0
        have z1_1_7 : w7.cell? ⟨w.heap.size + 1, 1, none⟩ = some (.int .i64 (0)) := K1_7.out.cell 1
        have l2_7 : ba < w7.heap.size := K2_7.out.lt
        have z2_0_7 : w7.cell? ⟨ba, 0, none⟩ = some (.int .i64 (mn)) := K2_7.out.cell 0
        have z2_1_7 : w7.cell? ⟨ba, 1, none⟩ = some (.int .i64 (md)) := K2_7.out.cell 1
        have l3_7 : bb < w7.heap.size := K3_7.out.lt
        have z3_0_7 : w7.cell? ⟨bb, 0, none⟩ = some (.int .i64 (P1)) := K3_7.out.cell 0
        have z3_1_7 : w7.cell? ⟨bb, 1, none⟩ = some (.int .i64 (P2)) := K3_7.out.cell 1
        have zf1_0 := K1_7.out.frozen 0
        have zf1_1 := K1_7.out.frozen 1
        go_wp2
        exact bodyPost_ret (v := .agg #[.int .i64 s, .int .i64 v]) (by simp [results, Try.results57, go_sem, z1_0_7, z1_1_7, l1_7]) rfl ⟨rfl, by repeat' (first | exact Below.refl _ _ | exact HB7.out | refine below_drewN ?_ _ | refine Below.drew ?_ | refine Below.alloc ?_ (by first | omega | (simp; done) | (simp; omega) | (simp [World.setCell]; omega)) _ | refine Below.setCell ?_ (by first | omega | (simp; done) | (simp; omega)) _ | assumption)⟩
end Go.Proofs.Ytnepjgnnppfibaa

end
