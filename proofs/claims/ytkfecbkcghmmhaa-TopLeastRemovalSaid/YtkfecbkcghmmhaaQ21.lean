import Derived.Test.YtkfecbkcghmmhaaQ20

section
/- The program's check of a line of least removal; the line that it finds, the removals. -/
namespace Go.Proofs.Ytkfecbkcghmmhaa
open Go Go.RowKit

theorem side_cmp {m : Rm} {i : Nat} : (0 < sideF m i ↔ m.sq m.n < m.q i * m.sw m.n) ∧ (sideF m i < 0 ↔ m.q i * m.sw m.n < m.sq m.n) := by
  unfold sideF cmpI
  constructor
  all_goals
    constructor
    all_goals
      intro h
      repeat' split at h
      all_goals first | omega | (repeat' split) <;> omega

set_option maxRecDepth 100000 in
set_option maxHeartbeats 4000000 in
theorem cref_is (m : Rm) (hm : m.Ok) (a b c d x y : Int) (hE : lineErr a b c d = 0) (ia : I64 a) (ib : I64 b) (ic : I64 c) (id : I64 d) (ix : I64 x) (iy : I64 y) (R : Int × Int) (hR : crefF m a b c d x y = R) (w : World) (hx : RmAt m w) (hck : CkOk m w) :
    Calls Try.prog 11 #[m.val, .agg #[.int .i64 a, .int .i64 b, .int .i64 c, .int .i64 d, .int .i64 x, .int .i64 y]] w fun e w' => e = .returned (.tuple #[.int .i64 R.1, .int .i64 R.2]) ∧ Below w.heap.size w w' := by
  have j0 : ∀ w, (Instr.index 43 (.agg #[.int .i64 x, .int .i64 y]) (.int .i64 0)).run Try.prog w = .ok (.int .i64 x) w := fun _ => by kernel_rfl
  have j1 : ∀ w, (Instr.index 43 (.agg #[.int .i64 x, .int .i64 y]) (.int .i64 1)).run Try.prog w = .ok (.int .i64 y) w := fun _ => by kernel_rfl
  have hn1 := hm.n1
  have hn2 := hm.n2
  have hl := (line_ok hE).1
  have HX := Lib.hid hx
  have HM := Lib.hid hm
  have HL := Lib.hid hl
  have HE := Lib.hid hE
  have HR := Lib.hid hR
  have HCK := Lib.hid hck
  have en := IntWalk.i64_in ((m.n : Int) - 1) ⟨by omega, by omega⟩
  have lb2 := hx.l2
  clear hx hm hl hR hE hck
  unfold Rm.val
  go_enter Try.func11, Try.ntmps11
  go_wp2_with fail
  generalize hwn : ((w.alloc (.cells #[.slice (some ⟨m.b1, m.o1, none⟩) m.n m.c1, .slice (some ⟨m.b2, m.o2, none⟩) m.n m.c2, .slice (some ⟨m.b3, m.o3, none⟩) m.n m.c3] 36)).alloc (.cells #[.int .i64 (a), .int .i64 (b), .int .i64 (c), .int .i64 (d), .int .i64 (x), .int .i64 (y)] 45)) = w1
  have hbn : Below w.heap.size w w1 := by rw [← hwn]; repeat' (first | exact Below.refl _ _ | refine below_drewN ?_ _ | refine Below.drew ?_ | refine Below.alloc ?_ (by first | omega | (simp; done) | (simp; omega) | (simp [World.setCell]; omega)) _ | refine Below.setCell ?_ (by first | omega | (simp; done) | (simp; omega)) _)
  have HB1 := Lib.hid (show Below w.heap.size w w1 from hbn)
  have K0_1 := Lib.hid (show Blk w1 (w.heap.size) 36 #[.slice (some ⟨m.b1, m.o1, none⟩) m.n m.c1, .slice (some ⟨m.b2, m.o2, none⟩) m.n m.c2, .slice (some ⟨m.b3, m.o3, none⟩) m.n m.c3] by rw [← hwn]; repeat' (first | exact Blk.at_ _ (by first | rfl | (simp; done) | (simp; omega)) _ _ | refine Blk.drewN ?_ _ | refine Blk.drew ?_ | refine Blk.alloc ?_ _ | refine Blk.far ?_ (by first | omega | (simp; done) | (simp; omega)) _ | assumption))
  have K1_1 := Lib.hid (show Blk w1 (w.heap.size + 1) 45 #[.int .i64 (a), .int .i64 (b), .int .i64 (c), .int .i64 (d), .int .i64 (x), .int .i64 (y)] by rw [← hwn]; repeat' (first | exact Blk.at_ _ (by first | rfl | (simp; done) | (simp; omega)) _ _ | refine Blk.drewN ?_ _ | refine Blk.drew ?_ | refine Blk.alloc ?_ _ | refine Blk.far ?_ (by first | omega | (simp; done) | (simp; omega)) _ | assumption))
  have HN1 := Lib.hid hbn
  have hz1 := hbn.size
  clear hwn hbn
  have l0_1 : w.heap.size < w1.heap.size := K0_1.out.lt
  have z0_0_1 : w1.cell? ⟨w.heap.size, 0, none⟩ = some (.slice (some ⟨m.b1, m.o1, none⟩) m.n m.c1) := K0_1.out.cell 0
  have z0_1_1 : w1.cell? ⟨w.heap.size, 1, none⟩ = some (.slice (some ⟨m.b2, m.o2, none⟩) m.n m.c2) := K0_1.out.cell 1
  have z0_2_1 : w1.cell? ⟨w.heap.size, 2, none⟩ = some (.slice (some ⟨m.b3, m.o3, none⟩) m.n m.c3) := K0_1.out.cell 2
  have l1_1 : w.heap.size + 1 < w1.heap.size := K1_1.out.lt
  have z1_0_1 : w1.cell? ⟨w.heap.size + 1, 0, none⟩ = some (.int .i64 (a)) := K1_1.out.cell 0
  have z1_1_1 : w1.cell? ⟨w.heap.size + 1, 1, none⟩ = some (.int .i64 (b)) := K1_1.out.cell 1
  have z1_2_1 : w1.cell? ⟨w.heap.size + 1, 2, none⟩ = some (.int .i64 (c)) := K1_1.out.cell 2
  have z1_3_1 : w1.cell? ⟨w.heap.size + 1, 3, none⟩ = some (.int .i64 (d)) := K1_1.out.cell 3
  have z1_4_1 : w1.cell? ⟨w.heap.size + 1, 4, none⟩ = some (.int .i64 (x)) := K1_1.out.cell 4
  have z1_5_1 : w1.cell? ⟨w.heap.size + 1, 5, none⟩ = some (.int .i64 (y)) := K1_1.out.cell 5
  refine (HCK.out w1 HB1.out).mono ?_
  rintro e w2 ⟨rfl, hb⟩
  have HB2 := Lib.hid (show Below w.heap.size w w2 from step_below hb (by repeat' (first | exact Below.refl _ _ | exact HB1.out | refine below_drewN ?_ _ | refine Below.drew ?_ | refine Below.alloc ?_ (by first | omega | (simp; done) | (simp; omega) | (simp [World.setCell]; omega)) _ | refine Below.setCell ?_ (by first | omega | (simp; done) | (simp; omega)) _ | assumption)))
  have K0_2 := Lib.hid (step_blk hb (show Blk _ (w.heap.size) 36 #[.slice (some ⟨m.b1, m.o1, none⟩) m.n m.c1, .slice (some ⟨m.b2, m.o2, none⟩) m.n m.c2, .slice (some ⟨m.b3, m.o3, none⟩) m.n m.c3] by repeat' (first | exact K0_1.out | exact K1_1.out | exact Blk.at_ _ (by first | rfl | (simp; done) | (simp; omega)) _ _ | refine Blk.drewN ?_ _ | refine Blk.drew ?_ | refine Blk.alloc ?_ _ | refine Blk.far ?_ (by first | omega | (simp; done) | (simp; omega)) _ | assumption)))
  have K1_2 := Lib.hid (step_blk hb (show Blk _ (w.heap.size + 1) 45 #[.int .i64 (a), .int .i64 (b), .int .i64 (c), .int .i64 (d), .int .i64 (x), .int .i64 (y)] by repeat' (first | exact K0_1.out | exact K1_1.out | exact Blk.at_ _ (by first | rfl | (simp; done) | (simp; omega)) _ _ | refine Blk.drewN ?_ _ | refine Blk.drew ?_ | refine Blk.alloc ?_ _ | refine Blk.far ?_ (by first | omega | (simp; done) | (simp; omega)) _ | assumption)))
  have hz2 := hb.size
  try simp only [World.size_alloc, World.drewN, World.drew] at hz2
  clear hb K0_1 K1_1 z0_0_1 z0_1_1 z0_2_1 l0_1 z1_0_1 z1_1_1 z1_2_1 z1_3_1 z1_4_1 z1_5_1 l1_1
  have l0_2 : w.heap.size < w2.heap.size := K0_2.out.lt
  have z0_0_2 : w2.cell? ⟨w.heap.size, 0, none⟩ = some (.slice (some ⟨m.b1, m.o1, none⟩) m.n m.c1) := K0_2.out.cell 0
  have z0_1_2 : w2.cell? ⟨w.heap.size, 1, none⟩ = some (.slice (some ⟨m.b2, m.o2, none⟩) m.n m.c2) := K0_2.out.cell 1
  have z0_2_2 : w2.cell? ⟨w.heap.size, 2, none⟩ = some (.slice (some ⟨m.b3, m.o3, none⟩) m.n m.c3) := K0_2.out.cell 2
  have l1_2 : w.heap.size + 1 < w2.heap.size := K1_2.out.lt
  have z1_0_2 : w2.cell? ⟨w.heap.size + 1, 0, none⟩ = some (.int .i64 (a)) := K1_2.out.cell 0
  have z1_1_2 : w2.cell? ⟨w.heap.size + 1, 1, none⟩ = some (.int .i64 (b)) := K1_2.out.cell 1
  have z1_2_2 : w2.cell? ⟨w.heap.size + 1, 2, none⟩ = some (.int .i64 (c)) := K1_2.out.cell 2
  have z1_3_2 : w2.cell? ⟨w.heap.size + 1, 3, none⟩ = some (.int .i64 (d)) := K1_2.out.cell 3
  have z1_4_2 : w2.cell? ⟨w.heap.size + 1, 4, none⟩ = some (.int .i64 (x)) := K1_2.out.cell 4
  have z1_5_2 : w2.cell? ⟨w.heap.size + 1, 5, none⟩ = some (.int .i64 (y)) := K1_2.out.cell 5
  go_wp2_with fail
  refine (checkline_is a b c d x y 0 HE.out ia ib ic id _).mono ?_
  rintro e w3 ⟨rfl, hb⟩
  have HB3 := Lib.hid (show Below w.heap.size w w3 from step_below hb (by repeat' (first | exact Below.refl _ _ | exact HB2.out | refine below_drewN ?_ _ | refine Below.drew ?_ | refine Below.alloc ?_ (by first | omega | (simp; done) | (simp; omega) | (simp [World.setCell]; omega)) _ | refine Below.setCell ?_ (by first | omega | (simp; done) | (simp; omega)) _ | assumption)))
  have K0_3 := Lib.hid (step_blk hb (show Blk _ (w.heap.size) 36 #[.slice (some ⟨m.b1, m.o1, none⟩) m.n m.c1, .slice (some ⟨m.b2, m.o2, none⟩) m.n m.c2, .slice (some ⟨m.b3, m.o3, none⟩) m.n m.c3] by repeat' (first | exact K0_2.out | exact K1_2.out | exact Blk.at_ _ (by first | rfl | (simp; done) | (simp; omega)) _ _ | refine Blk.drewN ?_ _ | refine Blk.drew ?_ | refine Blk.alloc ?_ _ | refine Blk.far ?_ (by first | omega | (simp; done) | (simp; omega)) _ | assumption)))
  have K1_3 := Lib.hid (step_blk hb (show Blk _ (w.heap.size + 1) 45 #[.int .i64 (a), .int .i64 (b), .int .i64 (c), .int .i64 (d), .int .i64 (x), .int .i64 (y)] by repeat' (first | exact K0_2.out | exact K1_2.out | exact Blk.at_ _ (by first | rfl | (simp; done) | (simp; omega)) _ _ | refine Blk.drewN ?_ _ | refine Blk.drew ?_ | refine Blk.alloc ?_ _ | refine Blk.far ?_ (by first | omega | (simp; done) | (simp; omega)) _ | assumption)))
  have hz3 := hb.size
  try simp only [World.size_alloc, World.drewN, World.drew] at hz3
  clear hb K0_2 K1_2 z0_0_2 z0_1_2 z0_2_2 l0_2 z1_0_2 z1_1_2 z1_2_2 z1_3_2 z1_4_2 z1_5_2 l1_2
  have l0_3 : w.heap.size < w3.heap.size := K0_3.out.lt
  have z0_0_3 : w3.cell? ⟨w.heap.size, 0, none⟩ = some (.slice (some ⟨m.b1, m.o1, none⟩) m.n m.c1) := K0_3.out.cell 0
  have z0_1_3 : w3.cell? ⟨w.heap.size, 1, none⟩ = some (.slice (some ⟨m.b2, m.o2, none⟩) m.n m.c2) := K0_3.out.cell 1
  have z0_2_3 : w3.cell? ⟨w.heap.size, 2, none⟩ = some (.slice (some ⟨m.b3, m.o3, none⟩) m.n m.c3) := K0_3.out.cell 2
  have l1_3 : w.heap.size + 1 < w3.heap.size := K1_3.out.lt
  have z1_0_3 : w3.cell? ⟨w.heap.size + 1, 0, none⟩ = some (.int .i64 (a)) := K1_3.out.cell 0
  have z1_1_3 : w3.cell? ⟨w.heap.size + 1, 1, none⟩ = some (.int .i64 (b)) := K1_3.out.cell 1
  have z1_2_3 : w3.cell? ⟨w.heap.size + 1, 2, none⟩ = some (.int .i64 (c)) := K1_3.out.cell 2
  have z1_3_3 : w3.cell? ⟨w.heap.size + 1, 3, none⟩ = some (.int .i64 (d)) := K1_3.out.cell 3
  have z1_4_3 : w3.cell? ⟨w.heap.size + 1, 4, none⟩ = some (.int .i64 (x)) := K1_3.out.cell 4
  have z1_5_3 : w3.cell? ⟨w.heap.size + 1, 5, none⟩ = some (.int .i64 (y)) := K1_3.out.cell 5
  go_wp2_with fail
  have hs1 := HB3.out.size
  have KA := K0_3
  have KB := K1_3
  go_loopw [32] (fun i wr => ∃ k : Nat, k ≤ m.n ∧ i = .int .i64 k ∧ (∀ j, j < k → 0 ≤ remN m a b c d j) ∧ Below w3.heap.size w3 wr) (fun i _ => m.n - (intOf i).toNat)
  case atStart => exact ⟨0, by omega, rfl, fun j hj => absurd hj (by omega), Below.refl _ _⟩
  case round =>
    obtain ⟨k, hk, rfl, hup, hb⟩ := hrel
    obtain ⟨w4, hnm⟩ : ∃ z : World, z = wr := ⟨_, rfl⟩
    subst hnm
    have HBW := Lib.hid hb
    have HUP := Lib.hid hup
    have k0 := Blk.below KA.out hb KA.out.lt
    have k1 := Blk.below KB.out hb KB.out.lt
    have hb2 := HB3.out.trans (hb.mono HB3.out.size)
    clear hb hup
    have HB4 := Lib.hid hb2
    have K0_4 := Lib.hid (show Blk w4 (w.heap.size) 36 #[.slice (some ⟨m.b1, m.o1, none⟩) m.n m.c1, .slice (some ⟨m.b2, m.o2, none⟩) m.n m.c2, .slice (some ⟨m.b3, m.o3, none⟩) m.n m.c3] from k0)
    have K1_4 := Lib.hid (show Blk w4 (w.heap.size + 1) 45 #[.int .i64 (a), .int .i64 (b), .int .i64 (c), .int .i64 (d), .int .i64 (x), .int .i64 (y)] from k1)
    clear hb2 k0 k1
    have l0_4 : w.heap.size < w4.heap.size := K0_4.out.lt
    have z0_0_4 : w4.cell? ⟨w.heap.size, 0, none⟩ = some (.slice (some ⟨m.b1, m.o1, none⟩) m.n m.c1) := K0_4.out.cell 0
    have z0_1_4 : w4.cell? ⟨w.heap.size, 1, none⟩ = some (.slice (some ⟨m.b2, m.o2, none⟩) m.n m.c2) := K0_4.out.cell 1
    have z0_2_4 : w4.cell? ⟨w.heap.size, 2, none⟩ = some (.slice (some ⟨m.b3, m.o3, none⟩) m.n m.c3) := K0_4.out.cell 2
    have l1_4 : w.heap.size + 1 < w4.heap.size := K1_4.out.lt
    have z1_0_4 : w4.cell? ⟨w.heap.size + 1, 0, none⟩ = some (.int .i64 (a)) := K1_4.out.cell 0
    have z1_1_4 : w4.cell? ⟨w.heap.size + 1, 1, none⟩ = some (.int .i64 (b)) := K1_4.out.cell 1
    have z1_2_4 : w4.cell? ⟨w.heap.size + 1, 2, none⟩ = some (.int .i64 (c)) := K1_4.out.cell 2
    have z1_3_4 : w4.cell? ⟨w.heap.size + 1, 3, none⟩ = some (.int .i64 (d)) := K1_4.out.cell 3
    have z1_4_4 : w4.cell? ⟨w.heap.size + 1, 4, none⟩ = some (.int .i64 (x)) := K1_4.out.cell 4
    have z1_5_4 : w4.cell? ⟨w.heap.size + 1, 5, none⟩ = some (.int .i64 (y)) := K1_4.out.cell 5
    by_cases hlt : k < m.n
    · obtain ⟨u, hu⟩ : ∃ u, remN m a b c d k = u := ⟨_, rfl⟩
      obtain ⟨v, hv⟩ : ∃ v, b * d = v := ⟨_, rfl⟩
      have HU := Lib.hid hu
      have HV := Lib.hid hv
      have hkk : (k : Int) < (m.n : Int) := by omega
      clear hu hv
      by_cases hneg : u < 0
      · have hd : decide (u < 0) = true := by simpa using hneg
        have HRR := Lib.hid (show R = ((k : Int), 26) from HR.out.symm.trans (cref_neg hlt HUP.out (by rw [HU.out]; exact hneg)))
        clear hneg
        go_wp2_with fail
        refine (removal_is m HM.out a b c d x y HL.out k hlt u v HU.out HV.out _ (HX.out.lay HB4.out)).mono ?_
        rintro e w5 ⟨rfl, hb⟩
        have HB5 := Lib.hid (show Below w.heap.size w w5 from step_below hb (by repeat' (first | exact Below.refl _ _ | exact HB4.out | refine below_drewN ?_ _ | refine Below.drew ?_ | refine Below.alloc ?_ (by first | omega | (simp; done) | (simp; omega) | (simp [World.setCell]; omega)) _ | refine Below.setCell ?_ (by first | omega | (simp; done) | (simp; omega)) _ | assumption)))
        have K0_5 := Lib.hid (step_blk hb (show Blk _ (w.heap.size) 36 #[.slice (some ⟨m.b1, m.o1, none⟩) m.n m.c1, .slice (some ⟨m.b2, m.o2, none⟩) m.n m.c2, .slice (some ⟨m.b3, m.o3, none⟩) m.n m.c3] by repeat' (first | exact K0_4.out | exact K1_4.out | exact Blk.at_ _ (by first | rfl | (simp; done) | (simp; omega)) _ _ | refine Blk.drewN ?_ _ | refine Blk.drew ?_ | refine Blk.alloc ?_ _ | refine Blk.far ?_ (by first | omega | (simp; done) | (simp; omega)) _ | assumption)))
        have K1_5 := Lib.hid (step_blk hb (show Blk _ (w.heap.size + 1) 45 #[.int .i64 (a), .int .i64 (b), .int .i64 (c), .int .i64 (d), .int .i64 (x), .int .i64 (y)] by repeat' (first | exact K0_4.out | exact K1_4.out | exact Blk.at_ _ (by first | rfl | (simp; done) | (simp; omega)) _ _ | refine Blk.drewN ?_ _ | refine Blk.drew ?_ | refine Blk.alloc ?_ _ | refine Blk.far ?_ (by first | omega | (simp; done) | (simp; omega)) _ | assumption)))
        have hz5 := hb.size
        try simp only [World.size_alloc, World.drewN, World.drew] at hz5
        clear hb K0_4 K1_4 z0_0_4 z0_1_4 z0_2_4 l0_4 z1_0_4 z1_1_4 z1_2_4 z1_3_4 z1_4_4 z1_5_4 l1_4
        have l0_5 : w.heap.size < w5.heap.size := K0_5.out.lt
        have z0_0_5 : w5.cell? ⟨w.heap.size, 0, none⟩ = some (.slice (some ⟨m.b1, m.o1, none⟩) m.n m.c1) := K0_5.out.cell 0
        have z0_1_5 : w5.cell? ⟨w.heap.size, 1, none⟩ = some (.slice (some ⟨m.b2, m.o2, none⟩) m.n m.c2) := K0_5.out.cell 1
        have z0_2_5 : w5.cell? ⟨w.heap.size, 2, none⟩ = some (.slice (some ⟨m.b3, m.o3, none⟩) m.n m.c3) := K0_5.out.cell 2
        have l1_5 : w.heap.size + 1 < w5.heap.size := K1_5.out.lt
        have z1_0_5 : w5.cell? ⟨w.heap.size + 1, 0, none⟩ = some (.int .i64 (a)) := K1_5.out.cell 0
        have z1_1_5 : w5.cell? ⟨w.heap.size + 1, 1, none⟩ = some (.int .i64 (b)) := K1_5.out.cell 1
        have z1_2_5 : w5.cell? ⟨w.heap.size + 1, 2, none⟩ = some (.int .i64 (c)) := K1_5.out.cell 2
        have z1_3_5 : w5.cell? ⟨w.heap.size + 1, 3, none⟩ = some (.int .i64 (d)) := K1_5.out.cell 3
        have z1_4_5 : w5.cell? ⟨w.heap.size + 1, 4, none⟩ = some (.int .i64 (x)) := K1_5.out.cell 4
        have z1_5_5 : w5.cell? ⟨w.heap.size + 1, 5, none⟩ = some (.int .i64 (y)) := K1_5.out.cell 5
        go_wp2
        go_ret2
        exact ⟨by rw [HRR.out]; rfl, HB5.out⟩
      · have hd : decide (u < 0) = false := by simpa using hneg
        have HNN := Lib.hid (show 0 ≤ remN m a b c d k by rw [HU.out]; omega)
        clear hneg
        have HA4 := Lib.hid (show Below w4.heap.size w4 w4 from Below.refl _ _)
        go_wp2_with fail
        refine (removal_is m HM.out a b c d x y HL.out k hlt u v HU.out HV.out _ (HX.out.lay HB4.out)).mono ?_
        rintro e w5 ⟨rfl, hb⟩
        have HB5 := Lib.hid (show Below w.heap.size w w5 from step_below hb (by repeat' (first | exact Below.refl _ _ | exact HB4.out | refine below_drewN ?_ _ | refine Below.drew ?_ | refine Below.alloc ?_ (by first | omega | (simp; done) | (simp; omega) | (simp [World.setCell]; omega)) _ | refine Below.setCell ?_ (by first | omega | (simp; done) | (simp; omega)) _ | assumption)))
        have K0_5 := Lib.hid (step_blk hb (show Blk _ (w.heap.size) 36 #[.slice (some ⟨m.b1, m.o1, none⟩) m.n m.c1, .slice (some ⟨m.b2, m.o2, none⟩) m.n m.c2, .slice (some ⟨m.b3, m.o3, none⟩) m.n m.c3] by repeat' (first | exact K0_4.out | exact K1_4.out | exact Blk.at_ _ (by first | rfl | (simp; done) | (simp; omega)) _ _ | refine Blk.drewN ?_ _ | refine Blk.drew ?_ | refine Blk.alloc ?_ _ | refine Blk.far ?_ (by first | omega | (simp; done) | (simp; omega)) _ | assumption)))
        have K1_5 := Lib.hid (step_blk hb (show Blk _ (w.heap.size + 1) 45 #[.int .i64 (a), .int .i64 (b), .int .i64 (c), .int .i64 (d), .int .i64 (x), .int .i64 (y)] by repeat' (first | exact K0_4.out | exact K1_4.out | exact Blk.at_ _ (by first | rfl | (simp; done) | (simp; omega)) _ _ | refine Blk.drewN ?_ _ | refine Blk.drew ?_ | refine Blk.alloc ?_ _ | refine Blk.far ?_ (by first | omega | (simp; done) | (simp; omega)) _ | assumption)))
        have HA5 := Lib.hid (step_below hb HA4.out)
        clear HA4
        have hz5 := hb.size
        try simp only [World.size_alloc, World.drewN, World.drew] at hz5
        clear hb K0_4 K1_4 z0_0_4 z0_1_4 z0_2_4 l0_4 z1_0_4 z1_1_4 z1_2_4 z1_3_4 z1_4_4 z1_5_4 l1_4
        have l0_5 : w.heap.size < w5.heap.size := K0_5.out.lt
        have z0_0_5 : w5.cell? ⟨w.heap.size, 0, none⟩ = some (.slice (some ⟨m.b1, m.o1, none⟩) m.n m.c1) := K0_5.out.cell 0
        have z0_1_5 : w5.cell? ⟨w.heap.size, 1, none⟩ = some (.slice (some ⟨m.b2, m.o2, none⟩) m.n m.c2) := K0_5.out.cell 1
        have z0_2_5 : w5.cell? ⟨w.heap.size, 2, none⟩ = some (.slice (some ⟨m.b3, m.o3, none⟩) m.n m.c3) := K0_5.out.cell 2
        have l1_5 : w.heap.size + 1 < w5.heap.size := K1_5.out.lt
        have z1_0_5 : w5.cell? ⟨w.heap.size + 1, 0, none⟩ = some (.int .i64 (a)) := K1_5.out.cell 0
        have z1_1_5 : w5.cell? ⟨w.heap.size + 1, 1, none⟩ = some (.int .i64 (b)) := K1_5.out.cell 1
        have z1_2_5 : w5.cell? ⟨w.heap.size + 1, 2, none⟩ = some (.int .i64 (c)) := K1_5.out.cell 2
        have z1_3_5 : w5.cell? ⟨w.heap.size + 1, 3, none⟩ = some (.int .i64 (d)) := K1_5.out.cell 3
        have z1_4_5 : w5.cell? ⟨w.heap.size + 1, 4, none⟩ = some (.int .i64 (x)) := K1_5.out.cell 4
        have z1_5_5 : w5.cell? ⟨w.heap.size + 1, 5, none⟩ = some (.int .i64 (y)) := K1_5.out.cell 5
        have HBZ := Lib.hid (HBW.out.trans ((show Below w4.heap.size w4 w5 from HA5.out).mono HBW.out.size))
        go_wp2
        go_roundw
        case rel => exact ⟨k + 1, by omega, by go_num, fun j hj => by
          by_cases e : j = k
          · rw [e]; exact HNN.out
          · exact HUP.out j (by omega), HBZ.out⟩
        case measure => simp [intOf]; omega
    · obtain rfl : k = m.n := by omega
      have HUN := HUP
      clear HUP
      go_wp2_with fail
      refine wp_loop_rounds 3 ?_
      rw [rounds_succ]
      obtain ⟨t1, ht1⟩ : ∃ t, withinB x 0 ((m.n : Int) - 1) = t := ⟨_, rfl⟩
      have H1 := Lib.hid ht1
      clear ht1
      go_wp2_with fail
      refine (withinfig_is _ _ _ t1 H1.out _).mono ?_
      rintro e w' ⟨rfl, rfl⟩
      cases t1
      · have HRR := Lib.hid (show R = (0, 6) from HR.out.symm.trans (cref_miss HUN.out (.inl H1.out)))
        go_wp2
        go_ret2
        exact ⟨by rw [HRR.out]; rfl, HB4.out⟩
      go_wp2
      rw [rounds_succ]
      obtain ⟨t2, ht2⟩ : ∃ t, withinB y 0 ((m.n : Int) - 1) = t := ⟨_, rfl⟩
      have H2 := Lib.hid ht2
      clear ht2
      go_wp2_with fail
      refine (withinfig_is _ _ _ t2 H2.out _).mono ?_
      rintro e w' ⟨rfl, rfl⟩
      cases t2
      · have HRR := Lib.hid (show R = (0, 6) from HR.out.symm.trans (cref_miss HUN.out (.inr H2.out)))
        go_wp2
        go_ret2
        exact ⟨by rw [HRR.out]; rfl, HB4.out⟩
      go_wp2
      rw [rounds_succ]
      have b1 := within_yes H1.out
      have b2 := within_yes H2.out
      obtain ⟨xn, rfl⟩ : ∃ xn : Nat, x = xn := ⟨x.toNat, by omega⟩
      obtain ⟨yn, rfl⟩ : ∃ yn : Nat, y = yn := ⟨y.toNat, by omega⟩
      have hxn : xn < m.n := by omega
      have hyn : yn < m.n := by omega
      clear b1 b2
      go_wp2_with fail
      refine (sumsof_any m HM.out _ (HX.out.lay HB4.out)).mono ?_
      rintro e w5 ⟨rfl, hb⟩
      have HB5 := Lib.hid (show Below w.heap.size w w5 from step_below hb (by repeat' (first | exact Below.refl _ _ | exact HB4.out | refine below_drewN ?_ _ | refine Below.drew ?_ | refine Below.alloc ?_ (by first | omega | (simp; done) | (simp; omega) | (simp [World.setCell]; omega)) _ | refine Below.setCell ?_ (by first | omega | (simp; done) | (simp; omega)) _ | assumption)))
      have K0_5 := Lib.hid (step_blk hb (show Blk _ (w.heap.size) 36 #[.slice (some ⟨m.b1, m.o1, none⟩) m.n m.c1, .slice (some ⟨m.b2, m.o2, none⟩) m.n m.c2, .slice (some ⟨m.b3, m.o3, none⟩) m.n m.c3] by repeat' (first | exact K0_4.out | exact K1_4.out | exact Blk.at_ _ (by first | rfl | (simp; done) | (simp; omega)) _ _ | refine Blk.drewN ?_ _ | refine Blk.drew ?_ | refine Blk.alloc ?_ _ | refine Blk.far ?_ (by first | omega | (simp; done) | (simp; omega)) _ | assumption)))
      have K1_5 := Lib.hid (step_blk hb (show Blk _ (w.heap.size + 1) 45 #[.int .i64 (a), .int .i64 (b), .int .i64 (c), .int .i64 (d), .int .i64 ((xn : Int)), .int .i64 ((yn : Int))] by repeat' (first | exact K0_4.out | exact K1_4.out | exact Blk.at_ _ (by first | rfl | (simp; done) | (simp; omega)) _ _ | refine Blk.drewN ?_ _ | refine Blk.drew ?_ | refine Blk.alloc ?_ _ | refine Blk.far ?_ (by first | omega | (simp; done) | (simp; omega)) _ | assumption)))
      have hz5 := hb.size
      try simp only [World.size_alloc, World.drewN, World.drew] at hz5
      clear hb K0_4 K1_4 z0_0_4 z0_1_4 z0_2_4 l0_4 z1_0_4 z1_1_4 z1_2_4 z1_3_4 z1_4_4 z1_5_4 l1_4
      have l0_5 : w.heap.size < w5.heap.size := K0_5.out.lt
      have z0_0_5 : w5.cell? ⟨w.heap.size, 0, none⟩ = some (.slice (some ⟨m.b1, m.o1, none⟩) m.n m.c1) := K0_5.out.cell 0
      have z0_1_5 : w5.cell? ⟨w.heap.size, 1, none⟩ = some (.slice (some ⟨m.b2, m.o2, none⟩) m.n m.c2) := K0_5.out.cell 1
      have z0_2_5 : w5.cell? ⟨w.heap.size, 2, none⟩ = some (.slice (some ⟨m.b3, m.o3, none⟩) m.n m.c3) := K0_5.out.cell 2
      have l1_5 : w.heap.size + 1 < w5.heap.size := K1_5.out.lt
      have z1_0_5 : w5.cell? ⟨w.heap.size + 1, 0, none⟩ = some (.int .i64 (a)) := K1_5.out.cell 0
      have z1_1_5 : w5.cell? ⟨w.heap.size + 1, 1, none⟩ = some (.int .i64 (b)) := K1_5.out.cell 1
      have z1_2_5 : w5.cell? ⟨w.heap.size + 1, 2, none⟩ = some (.int .i64 (c)) := K1_5.out.cell 2
      have z1_3_5 : w5.cell? ⟨w.heap.size + 1, 3, none⟩ = some (.int .i64 (d)) := K1_5.out.cell 3
      have z1_4_5 : w5.cell? ⟨w.heap.size + 1, 4, none⟩ = some (.int .i64 ((xn : Int))) := K1_5.out.cell 4
      have z1_5_5 : w5.cell? ⟨w.heap.size + 1, 5, none⟩ = some (.int .i64 ((yn : Int))) := K1_5.out.cell 5
      go_wp2_with fail
      generalize hwn : (w5.alloc (.cells #[.int .i64 (m.sw m.n), .int .i64 (m.sq m.n), .int .i64 (m.sh m.n)] 72)) = w6
      have hbn : Below w5.heap.size w5 w6 := by rw [← hwn]; repeat' (first | exact Below.refl _ _ | refine below_drewN ?_ _ | refine Below.drew ?_ | refine Below.alloc ?_ (by first | omega | (simp; done) | (simp; omega) | (simp [World.setCell]; omega)) _ | refine Below.setCell ?_ (by first | omega | (simp; done) | (simp; omega)) _)
      have HB6 := Lib.hid (show Below w.heap.size w w6 from HB5.out.trans (hbn.mono HB5.out.size))
      have K0_6 := Lib.hid (step_blk hbn K0_5.out)
      have K1_6 := Lib.hid (step_blk hbn K1_5.out)
      have K2_6 := Lib.hid (show Blk w6 (w5.heap.size) 72 #[.int .i64 (m.sw m.n), .int .i64 (m.sq m.n), .int .i64 (m.sh m.n)] by rw [← hwn]; repeat' (first | exact Blk.at_ _ (by first | rfl | (simp; done) | (simp; omega)) _ _ | refine Blk.drewN ?_ _ | refine Blk.drew ?_ | refine Blk.alloc ?_ _ | refine Blk.far ?_ (by first | omega | (simp; done) | (simp; omega)) _ | assumption))
      have HN6 := Lib.hid hbn
      have hz6 := hbn.size
      clear hwn hbn K0_5 l0_5 z0_0_5 z0_1_5 z0_2_5 K1_5 l1_5 z1_0_5 z1_1_5 z1_2_5 z1_3_5 z1_4_5 z1_5_5
      have l0_6 : w.heap.size < w6.heap.size := K0_6.out.lt
      have z0_0_6 : w6.cell? ⟨w.heap.size, 0, none⟩ = some (.slice (some ⟨m.b1, m.o1, none⟩) m.n m.c1) := K0_6.out.cell 0
      have z0_1_6 : w6.cell? ⟨w.heap.size, 1, none⟩ = some (.slice (some ⟨m.b2, m.o2, none⟩) m.n m.c2) := K0_6.out.cell 1
      have z0_2_6 : w6.cell? ⟨w.heap.size, 2, none⟩ = some (.slice (some ⟨m.b3, m.o3, none⟩) m.n m.c3) := K0_6.out.cell 2
      have l1_6 : w.heap.size + 1 < w6.heap.size := K1_6.out.lt
      have z1_0_6 : w6.cell? ⟨w.heap.size + 1, 0, none⟩ = some (.int .i64 (a)) := K1_6.out.cell 0
      have z1_1_6 : w6.cell? ⟨w.heap.size + 1, 1, none⟩ = some (.int .i64 (b)) := K1_6.out.cell 1
      have z1_2_6 : w6.cell? ⟨w.heap.size + 1, 2, none⟩ = some (.int .i64 (c)) := K1_6.out.cell 2
      have z1_3_6 : w6.cell? ⟨w.heap.size + 1, 3, none⟩ = some (.int .i64 (d)) := K1_6.out.cell 3
      have z1_4_6 : w6.cell? ⟨w.heap.size + 1, 4, none⟩ = some (.int .i64 ((xn : Int))) := K1_6.out.cell 4
      have z1_5_6 : w6.cell? ⟨w.heap.size + 1, 5, none⟩ = some (.int .i64 ((yn : Int))) := K1_6.out.cell 5
      have l2_6 : w5.heap.size < w6.heap.size := K2_6.out.lt
      have z2_0_6 : w6.cell? ⟨w5.heap.size, 0, none⟩ = some (.int .i64 (m.sw m.n)) := K2_6.out.cell 0
      have z2_1_6 : w6.cell? ⟨w5.heap.size, 1, none⟩ = some (.int .i64 (m.sq m.n)) := K2_6.out.cell 1
      have z2_2_6 : w6.cell? ⟨w5.heap.size, 2, none⟩ = some (.int .i64 (m.sh m.n)) := K2_6.out.cell 2
      refine wp_loop_rounds 3 ?_
      rw [rounds_succ]
      obtain ⟨u, hu⟩ : ∃ u, remN m a b c d xn = u := ⟨_, rfl⟩
      obtain ⟨v, hv⟩ : ∃ v, b * d = v := ⟨_, rfl⟩
      obtain ⟨s1, hs1⟩ : ∃ s, sideF m xn = s := ⟨_, rfl⟩
      have hcm := (side_cmp (m := m) (i := xn)).1
      rw [hs1] at hcm
      have HU := Lib.hid hu
      have HV := Lib.hid hv
      have HS1 := Lib.hid hs1
      have HC1 := Lib.hid hcm
      clear hu hv hs1 hcm
      go_wp2_with fail
      refine (removal_is m HM.out a b c d xn yn HL.out xn hxn u v HU.out HV.out _ (HX.out.lay HB6.out)).mono ?_
      rintro e w7 ⟨rfl, hb⟩
      have HB7 := Lib.hid (show Below w.heap.size w w7 from step_below hb (by repeat' (first | exact Below.refl _ _ | exact HB6.out | refine below_drewN ?_ _ | refine Below.drew ?_ | refine Below.alloc ?_ (by first | omega | (simp; done) | (simp; omega) | (simp [World.setCell]; omega)) _ | refine Below.setCell ?_ (by first | omega | (simp; done) | (simp; omega)) _ | assumption)))
      have K0_7 := Lib.hid (step_blk hb (show Blk _ (w.heap.size) 36 #[.slice (some ⟨m.b1, m.o1, none⟩) m.n m.c1, .slice (some ⟨m.b2, m.o2, none⟩) m.n m.c2, .slice (some ⟨m.b3, m.o3, none⟩) m.n m.c3] by repeat' (first | exact K0_6.out | exact K1_6.out | exact K2_6.out | exact Blk.at_ _ (by first | rfl | (simp; done) | (simp; omega)) _ _ | refine Blk.drewN ?_ _ | refine Blk.drew ?_ | refine Blk.alloc ?_ _ | refine Blk.far ?_ (by first | omega | (simp; done) | (simp; omega)) _ | assumption)))
      have K1_7 := Lib.hid (step_blk hb (show Blk _ (w.heap.size + 1) 45 #[.int .i64 (a), .int .i64 (b), .int .i64 (c), .int .i64 (d), .int .i64 ((xn : Int)), .int .i64 ((yn : Int))] by repeat' (first | exact K0_6.out | exact K1_6.out | exact K2_6.out | exact Blk.at_ _ (by first | rfl | (simp; done) | (simp; omega)) _ _ | refine Blk.drewN ?_ _ | refine Blk.drew ?_ | refine Blk.alloc ?_ _ | refine Blk.far ?_ (by first | omega | (simp; done) | (simp; omega)) _ | assumption)))
      have K2_7 := Lib.hid (step_blk hb (show Blk _ (w5.heap.size) 72 #[.int .i64 (m.sw m.n), .int .i64 (m.sq m.n), .int .i64 (m.sh m.n)] by repeat' (first | exact K0_6.out | exact K1_6.out | exact K2_6.out | exact Blk.at_ _ (by first | rfl | (simp; done) | (simp; omega)) _ _ | refine Blk.drewN ?_ _ | refine Blk.drew ?_ | refine Blk.alloc ?_ _ | refine Blk.far ?_ (by first | omega | (simp; done) | (simp; omega)) _ | assumption)))
      have hz7 := hb.size
      try simp only [World.size_alloc, World.drewN, World.drew] at hz7
      clear hb K0_6 K1_6 K2_6 z0_0_6 z0_1_6 z0_2_6 l0_6 z1_0_6 z1_1_6 z1_2_6 z1_3_6 z1_4_6 z1_5_6 l1_6 z2_0_6 z2_1_6 z2_2_6 l2_6
      have l0_7 : w.heap.size < w7.heap.size := K0_7.out.lt
      have z0_0_7 : w7.cell? ⟨w.heap.size, 0, none⟩ = some (.slice (some ⟨m.b1, m.o1, none⟩) m.n m.c1) := K0_7.out.cell 0
      have z0_1_7 : w7.cell? ⟨w.heap.size, 1, none⟩ = some (.slice (some ⟨m.b2, m.o2, none⟩) m.n m.c2) := K0_7.out.cell 1
      have z0_2_7 : w7.cell? ⟨w.heap.size, 2, none⟩ = some (.slice (some ⟨m.b3, m.o3, none⟩) m.n m.c3) := K0_7.out.cell 2
      have l1_7 : w.heap.size + 1 < w7.heap.size := K1_7.out.lt
      have z1_0_7 : w7.cell? ⟨w.heap.size + 1, 0, none⟩ = some (.int .i64 (a)) := K1_7.out.cell 0
      have z1_1_7 : w7.cell? ⟨w.heap.size + 1, 1, none⟩ = some (.int .i64 (b)) := K1_7.out.cell 1
      have z1_2_7 : w7.cell? ⟨w.heap.size + 1, 2, none⟩ = some (.int .i64 (c)) := K1_7.out.cell 2
      have z1_3_7 : w7.cell? ⟨w.heap.size + 1, 3, none⟩ = some (.int .i64 (d)) := K1_7.out.cell 3
      have z1_4_7 : w7.cell? ⟨w.heap.size + 1, 4, none⟩ = some (.int .i64 ((xn : Int))) := K1_7.out.cell 4
      have z1_5_7 : w7.cell? ⟨w.heap.size + 1, 5, none⟩ = some (.int .i64 ((yn : Int))) := K1_7.out.cell 5
      have l2_7 : w5.heap.size < w7.heap.size := K2_7.out.lt
      have z2_0_7 : w7.cell? ⟨w5.heap.size, 0, none⟩ = some (.int .i64 (m.sw m.n)) := K2_7.out.cell 0
      have z2_1_7 : w7.cell? ⟨w5.heap.size, 1, none⟩ = some (.int .i64 (m.sq m.n)) := K2_7.out.cell 1
      have z2_2_7 : w7.cell? ⟨w5.heap.size, 2, none⟩ = some (.int .i64 (m.sh m.n)) := K2_7.out.cell 2
      have g2x := (HX.out.lay HB7.out).r2 xn hxn
      have hx1 : (xn : Int) < (m.n : Int) := by omega
      have lb2w : m.b2 < w7.heap.size := by have := HB7.out.size; omega
      have C0_7 := Lib.hid g2x
      clear g2x
      go_wp2_with fail
      refine Fx.regionW (fun W f w' => Below W.heap.size W w') (by kernel_rfl) (by kernel_rfl) ?_ ?_
      · intro f hf0
        exact below_drewN (Below.refl _ _) 1
      repeat (first
        | (refine Fx.skip_ (by rfl) (fun f w h => h) ?_; simp only [Act.put, List.setIfInBounds_toArray, List.set_cons_zero, List.set_cons_succ])
        | (refine Fx.val_ ?_ (by rfl) ?_ (fun f w h => h) ?_
           rotate_left
           · intro f w' hD hk
             have hb := hD
             have kb0 := step_blk hb (show Blk _ (w.heap.size) 36 #[.slice (some ⟨m.b1, m.o1, none⟩) m.n m.c1, .slice (some ⟨m.b2, m.o2, none⟩) m.n m.c2, .slice (some ⟨m.b3, m.o3, none⟩) m.n m.c3] by repeat' (first | exact K0_7.out | exact K1_7.out | exact K2_7.out | exact Blk.at_ _ (by first | rfl | (simp; done) | (simp; omega)) _ _ | refine Blk.drewN ?_ _ | refine Blk.drew ?_ | refine Blk.alloc ?_ _ | refine Blk.far ?_ (by first | omega | (simp; done) | (simp; omega)) _ | assumption))
             have y0_0 : w'.cell? ⟨w.heap.size, 0, none⟩ = some (.slice (some ⟨m.b1, m.o1, none⟩) m.n m.c1) := kb0.cell 0
             have y0_1 : w'.cell? ⟨w.heap.size, 1, none⟩ = some (.slice (some ⟨m.b2, m.o2, none⟩) m.n m.c2) := kb0.cell 1
             have y0_2 : w'.cell? ⟨w.heap.size, 2, none⟩ = some (.slice (some ⟨m.b3, m.o3, none⟩) m.n m.c3) := kb0.cell 2
             have kb1 := step_blk hb (show Blk _ (w.heap.size + 1) 45 #[.int .i64 (a), .int .i64 (b), .int .i64 (c), .int .i64 (d), .int .i64 ((xn : Int)), .int .i64 ((yn : Int))] by repeat' (first | exact K0_7.out | exact K1_7.out | exact K2_7.out | exact Blk.at_ _ (by first | rfl | (simp; done) | (simp; omega)) _ _ | refine Blk.drewN ?_ _ | refine Blk.drew ?_ | refine Blk.alloc ?_ _ | refine Blk.far ?_ (by first | omega | (simp; done) | (simp; omega)) _ | assumption))
             have y1_0 : w'.cell? ⟨w.heap.size + 1, 0, none⟩ = some (.int .i64 (a)) := kb1.cell 0
             have y1_1 : w'.cell? ⟨w.heap.size + 1, 1, none⟩ = some (.int .i64 (b)) := kb1.cell 1
             have y1_2 : w'.cell? ⟨w.heap.size + 1, 2, none⟩ = some (.int .i64 (c)) := kb1.cell 2
             have y1_3 : w'.cell? ⟨w.heap.size + 1, 3, none⟩ = some (.int .i64 (d)) := kb1.cell 3
             have y1_4 : w'.cell? ⟨w.heap.size + 1, 4, none⟩ = some (.int .i64 ((xn : Int))) := kb1.cell 4
             have y1_5 : w'.cell? ⟨w.heap.size + 1, 5, none⟩ = some (.int .i64 ((yn : Int))) := kb1.cell 5
             have kb2 := step_blk hb (show Blk _ (w5.heap.size) 72 #[.int .i64 (m.sw m.n), .int .i64 (m.sq m.n), .int .i64 (m.sh m.n)] by repeat' (first | exact K0_7.out | exact K1_7.out | exact K2_7.out | exact Blk.at_ _ (by first | rfl | (simp; done) | (simp; omega)) _ _ | refine Blk.drewN ?_ _ | refine Blk.drew ?_ | refine Blk.alloc ?_ _ | refine Blk.far ?_ (by first | omega | (simp; done) | (simp; omega)) _ | assumption))
             have y2_0 : w'.cell? ⟨w5.heap.size, 0, none⟩ = some (.int .i64 (m.sw m.n)) := kb2.cell 0
             have y2_1 : w'.cell? ⟨w5.heap.size, 1, none⟩ = some (.int .i64 (m.sq m.n)) := kb2.cell 1
             have y2_2 : w'.cell? ⟨w5.heap.size, 2, none⟩ = some (.int .i64 (m.sh m.n)) := kb2.cell 2
             have yc0 : w'.cell? ⟨m.b2, m.o2 + xn, none⟩ = some (.int .i64 (m.q xn)) := step_cell hb (show World.cell? _ ⟨m.b2, m.o2 + xn, none⟩ = some (.int .i64 (m.q xn)) by first | exact C0_7.out | go_simp) (by have := lb2w; first | omega | (simp; omega))
             clear kb0 kb1 kb2
             clear hk hD hb
             go_simp
             try rfl
           simp only [Act.put, List.setIfInBounds_toArray, List.set_cons_zero, List.set_cons_succ]))
      refine Fx.call_ (.int .i64 (s1)) ?_ ?_ (by rfl) ?_ ?_ ?_
      rotate_left 2
      · intro w'
        go_simp
        refine ⟨?_, ?_⟩ <;> rfl
      · intro f w' hD hk
        exact (side_is m HM.out xn hxn s1 HS1.out w').mono fun e w'' ⟨he, hw⟩ => ⟨he, step_below hw hD⟩
      simp only [Act.put, List.setIfInBounds_toArray, List.set_cons_zero, List.set_cons_succ]
      repeat (first
        | (refine Fx.skip_ (by rfl) (fun f w h => h) ?_; simp only [Act.put, List.setIfInBounds_toArray, List.set_cons_zero, List.set_cons_succ])
        | (refine Fx.val_ ?_ (by rfl) ?_ (fun f w h => h) ?_
           rotate_left
           · intro f w' hD hk
             have hb := hD
             have kb0 := step_blk hb (show Blk _ (w.heap.size) 36 #[.slice (some ⟨m.b1, m.o1, none⟩) m.n m.c1, .slice (some ⟨m.b2, m.o2, none⟩) m.n m.c2, .slice (some ⟨m.b3, m.o3, none⟩) m.n m.c3] by repeat' (first | exact K0_7.out | exact K1_7.out | exact K2_7.out | exact Blk.at_ _ (by first | rfl | (simp; done) | (simp; omega)) _ _ | refine Blk.drewN ?_ _ | refine Blk.drew ?_ | refine Blk.alloc ?_ _ | refine Blk.far ?_ (by first | omega | (simp; done) | (simp; omega)) _ | assumption))
             have y0_0 : w'.cell? ⟨w.heap.size, 0, none⟩ = some (.slice (some ⟨m.b1, m.o1, none⟩) m.n m.c1) := kb0.cell 0
             have y0_1 : w'.cell? ⟨w.heap.size, 1, none⟩ = some (.slice (some ⟨m.b2, m.o2, none⟩) m.n m.c2) := kb0.cell 1
             have y0_2 : w'.cell? ⟨w.heap.size, 2, none⟩ = some (.slice (some ⟨m.b3, m.o3, none⟩) m.n m.c3) := kb0.cell 2
             have kb1 := step_blk hb (show Blk _ (w.heap.size + 1) 45 #[.int .i64 (a), .int .i64 (b), .int .i64 (c), .int .i64 (d), .int .i64 ((xn : Int)), .int .i64 ((yn : Int))] by repeat' (first | exact K0_7.out | exact K1_7.out | exact K2_7.out | exact Blk.at_ _ (by first | rfl | (simp; done) | (simp; omega)) _ _ | refine Blk.drewN ?_ _ | refine Blk.drew ?_ | refine Blk.alloc ?_ _ | refine Blk.far ?_ (by first | omega | (simp; done) | (simp; omega)) _ | assumption))
             have y1_0 : w'.cell? ⟨w.heap.size + 1, 0, none⟩ = some (.int .i64 (a)) := kb1.cell 0
             have y1_1 : w'.cell? ⟨w.heap.size + 1, 1, none⟩ = some (.int .i64 (b)) := kb1.cell 1
             have y1_2 : w'.cell? ⟨w.heap.size + 1, 2, none⟩ = some (.int .i64 (c)) := kb1.cell 2
             have y1_3 : w'.cell? ⟨w.heap.size + 1, 3, none⟩ = some (.int .i64 (d)) := kb1.cell 3
             have y1_4 : w'.cell? ⟨w.heap.size + 1, 4, none⟩ = some (.int .i64 ((xn : Int))) := kb1.cell 4
             have y1_5 : w'.cell? ⟨w.heap.size + 1, 5, none⟩ = some (.int .i64 ((yn : Int))) := kb1.cell 5
             have kb2 := step_blk hb (show Blk _ (w5.heap.size) 72 #[.int .i64 (m.sw m.n), .int .i64 (m.sq m.n), .int .i64 (m.sh m.n)] by repeat' (first | exact K0_7.out | exact K1_7.out | exact K2_7.out | exact Blk.at_ _ (by first | rfl | (simp; done) | (simp; omega)) _ _ | refine Blk.drewN ?_ _ | refine Blk.drew ?_ | refine Blk.alloc ?_ _ | refine Blk.far ?_ (by first | omega | (simp; done) | (simp; omega)) _ | assumption))
             have y2_0 : w'.cell? ⟨w5.heap.size, 0, none⟩ = some (.int .i64 (m.sw m.n)) := kb2.cell 0
             have y2_1 : w'.cell? ⟨w5.heap.size, 1, none⟩ = some (.int .i64 (m.sq m.n)) := kb2.cell 1
             have y2_2 : w'.cell? ⟨w5.heap.size, 2, none⟩ = some (.int .i64 (m.sh m.n)) := kb2.cell 2
             have yc0 : w'.cell? ⟨m.b2, m.o2 + xn, none⟩ = some (.int .i64 (m.q xn)) := step_cell hb (show World.cell? _ ⟨m.b2, m.o2 + xn, none⟩ = some (.int .i64 (m.q xn)) by first | exact C0_7.out | go_simp) (by have := lb2w; first | omega | (simp; omega))
             clear kb0 kb1 kb2
             clear hk hD hb
             go_simp
             try rfl
           simp only [Act.put, List.setIfInBounds_toArray, List.set_cons_zero, List.set_cons_succ]))
      refine Fx.nil_ ?_
      intro f w8 hall hb
      try clear hall
      have HB78 := Lib.hid hb
      have HB8 := Lib.hid (show Below w.heap.size w w8 from step_below hb (by repeat' (first | exact Below.refl _ _ | exact HB7.out | refine below_drewN ?_ _ | refine Below.drew ?_ | refine Below.alloc ?_ (by first | omega | (simp; done) | (simp; omega) | (simp [World.setCell]; omega)) _ | refine Below.setCell ?_ (by first | omega | (simp; done) | (simp; omega)) _ | assumption)))
      have K0_8 := Lib.hid (step_blk hb (show Blk _ (w.heap.size) 36 #[.slice (some ⟨m.b1, m.o1, none⟩) m.n m.c1, .slice (some ⟨m.b2, m.o2, none⟩) m.n m.c2, .slice (some ⟨m.b3, m.o3, none⟩) m.n m.c3] by repeat' (first | exact K0_7.out | exact K1_7.out | exact K2_7.out | exact Blk.at_ _ (by first | rfl | (simp; done) | (simp; omega)) _ _ | refine Blk.drewN ?_ _ | refine Blk.drew ?_ | refine Blk.alloc ?_ _ | refine Blk.far ?_ (by first | omega | (simp; done) | (simp; omega)) _ | assumption)))
      have K1_8 := Lib.hid (step_blk hb (show Blk _ (w.heap.size + 1) 45 #[.int .i64 (a), .int .i64 (b), .int .i64 (c), .int .i64 (d), .int .i64 ((xn : Int)), .int .i64 ((yn : Int))] by repeat' (first | exact K0_7.out | exact K1_7.out | exact K2_7.out | exact Blk.at_ _ (by first | rfl | (simp; done) | (simp; omega)) _ _ | refine Blk.drewN ?_ _ | refine Blk.drew ?_ | refine Blk.alloc ?_ _ | refine Blk.far ?_ (by first | omega | (simp; done) | (simp; omega)) _ | assumption)))
      have K2_8 := Lib.hid (step_blk hb (show Blk _ (w5.heap.size) 72 #[.int .i64 (m.sw m.n), .int .i64 (m.sq m.n), .int .i64 (m.sh m.n)] by repeat' (first | exact K0_7.out | exact K1_7.out | exact K2_7.out | exact Blk.at_ _ (by first | rfl | (simp; done) | (simp; omega)) _ _ | refine Blk.drewN ?_ _ | refine Blk.drew ?_ | refine Blk.alloc ?_ _ | refine Blk.far ?_ (by first | omega | (simp; done) | (simp; omega)) _ | assumption)))
      have C0_8 := Lib.hid (step_cell hb (show World.cell? _ ⟨m.b2, m.o2 + xn, none⟩ = some (.int .i64 (m.q xn)) by first | exact C0_7.out | go_simp) (by have := lb2w; first | omega | (simp; omega)))
      have hz8 := hb.size
      try simp only [World.size_alloc, World.drewN, World.drew] at hz8
      clear hb K0_7 K1_7 K2_7 z0_0_7 z0_1_7 z0_2_7 l0_7 z1_0_7 z1_1_7 z1_2_7 z1_3_7 z1_4_7 z1_5_7 l1_7 z2_0_7 z2_1_7 z2_2_7 l2_7
      have l0_8 : w.heap.size < w8.heap.size := K0_8.out.lt
      have z0_0_8 : w8.cell? ⟨w.heap.size, 0, none⟩ = some (.slice (some ⟨m.b1, m.o1, none⟩) m.n m.c1) := K0_8.out.cell 0
      have z0_1_8 : w8.cell? ⟨w.heap.size, 1, none⟩ = some (.slice (some ⟨m.b2, m.o2, none⟩) m.n m.c2) := K0_8.out.cell 1
      have z0_2_8 : w8.cell? ⟨w.heap.size, 2, none⟩ = some (.slice (some ⟨m.b3, m.o3, none⟩) m.n m.c3) := K0_8.out.cell 2
      have l1_8 : w.heap.size + 1 < w8.heap.size := K1_8.out.lt
      have z1_0_8 : w8.cell? ⟨w.heap.size + 1, 0, none⟩ = some (.int .i64 (a)) := K1_8.out.cell 0
      have z1_1_8 : w8.cell? ⟨w.heap.size + 1, 1, none⟩ = some (.int .i64 (b)) := K1_8.out.cell 1
      have z1_2_8 : w8.cell? ⟨w.heap.size + 1, 2, none⟩ = some (.int .i64 (c)) := K1_8.out.cell 2
      have z1_3_8 : w8.cell? ⟨w.heap.size + 1, 3, none⟩ = some (.int .i64 (d)) := K1_8.out.cell 3
      have z1_4_8 : w8.cell? ⟨w.heap.size + 1, 4, none⟩ = some (.int .i64 ((xn : Int))) := K1_8.out.cell 4
      have z1_5_8 : w8.cell? ⟨w.heap.size + 1, 5, none⟩ = some (.int .i64 ((yn : Int))) := K1_8.out.cell 5
      have l2_8 : w5.heap.size < w8.heap.size := K2_8.out.lt
      have z2_0_8 : w8.cell? ⟨w5.heap.size, 0, none⟩ = some (.int .i64 (m.sw m.n)) := K2_8.out.cell 0
      have z2_1_8 : w8.cell? ⟨w5.heap.size, 1, none⟩ = some (.int .i64 (m.sq m.n)) := K2_8.out.cell 1
      have z2_2_8 : w8.cell? ⟨w5.heap.size, 2, none⟩ = some (.int .i64 (m.sh m.n)) := K2_8.out.cell 2
      by_cases g1 : u = 0
      rotate_left
      · have dg : (u != 0) = true := by simpa using g1
        have HRR := Lib.hid (show R = (0, 22) from HR.out.symm.trans (cref_proof HUN.out H1.out H2.out (.inl (by rw [Int.toNat_natCast, HU.out]; exact g1))))
        clear g1
        go_wp2
        go_ret2
        exact ⟨by rw [HRR.out]; rfl, HB8.out⟩
      subst g1
      by_cases g1 : 0 < s1
      · have dg : decide (0 < s1) = true := by simpa using g1
        have HRR := Lib.hid (show R = (0, 22) from HR.out.symm.trans (cref_proof HUN.out H1.out H2.out (.inr (.inr (.inl (by rw [Int.toNat_natCast]; exact HC1.out.1 g1))))))
        clear g1
        go_wp2
        go_ret2
        exact ⟨by rw [HRR.out]; rfl, HB8.out⟩
      have dg : decide (0 < s1) = false := by simpa using g1
      have HF1 := Lib.hid (show m.q xn * m.sw m.n ≤ m.sq m.n from Int.not_lt.1 fun h => g1 (HC1.out.2 h))
      have HZ1 := HU
      clear g1 HU HC1
      go_wp2
      rw [rounds_succ]
      obtain ⟨u, hu⟩ : ∃ u, remN m a b c d yn = u := ⟨_, rfl⟩
      obtain ⟨s2, hs2⟩ : ∃ s, sideF m yn = s := ⟨_, rfl⟩
      have hcm := (side_cmp (m := m) (i := yn)).2
      rw [hs2] at hcm
      have HU := Lib.hid hu
      have HS2 := Lib.hid hs2
      have HC2 := Lib.hid hcm
      clear hu hs2 hcm
      go_wp2_with fail
      refine (removal_is m HM.out a b c d xn yn HL.out yn hyn u v HU.out HV.out _ (HX.out.lay HB8.out)).mono ?_
      rintro e w9 ⟨rfl, hb⟩
      have HB9 := Lib.hid (show Below w.heap.size w w9 from step_below hb (by repeat' (first | exact Below.refl _ _ | exact HB8.out | refine below_drewN ?_ _ | refine Below.drew ?_ | refine Below.alloc ?_ (by first | omega | (simp; done) | (simp; omega) | (simp [World.setCell]; omega)) _ | refine Below.setCell ?_ (by first | omega | (simp; done) | (simp; omega)) _ | assumption)))
      have K0_9 := Lib.hid (step_blk hb (show Blk _ (w.heap.size) 36 #[.slice (some ⟨m.b1, m.o1, none⟩) m.n m.c1, .slice (some ⟨m.b2, m.o2, none⟩) m.n m.c2, .slice (some ⟨m.b3, m.o3, none⟩) m.n m.c3] by repeat' (first | exact K0_8.out | exact K1_8.out | exact K2_8.out | exact Blk.at_ _ (by first | rfl | (simp; done) | (simp; omega)) _ _ | refine Blk.drewN ?_ _ | refine Blk.drew ?_ | refine Blk.alloc ?_ _ | refine Blk.far ?_ (by first | omega | (simp; done) | (simp; omega)) _ | assumption)))
      have K1_9 := Lib.hid (step_blk hb (show Blk _ (w.heap.size + 1) 45 #[.int .i64 (a), .int .i64 (b), .int .i64 (c), .int .i64 (d), .int .i64 ((xn : Int)), .int .i64 ((yn : Int))] by repeat' (first | exact K0_8.out | exact K1_8.out | exact K2_8.out | exact Blk.at_ _ (by first | rfl | (simp; done) | (simp; omega)) _ _ | refine Blk.drewN ?_ _ | refine Blk.drew ?_ | refine Blk.alloc ?_ _ | refine Blk.far ?_ (by first | omega | (simp; done) | (simp; omega)) _ | assumption)))
      have K2_9 := Lib.hid (step_blk hb (show Blk _ (w5.heap.size) 72 #[.int .i64 (m.sw m.n), .int .i64 (m.sq m.n), .int .i64 (m.sh m.n)] by repeat' (first | exact K0_8.out | exact K1_8.out | exact K2_8.out | exact Blk.at_ _ (by first | rfl | (simp; done) | (simp; omega)) _ _ | refine Blk.drewN ?_ _ | refine Blk.drew ?_ | refine Blk.alloc ?_ _ | refine Blk.far ?_ (by first | omega | (simp; done) | (simp; omega)) _ | assumption)))
      have C0_9 := Lib.hid (step_cell hb (show World.cell? _ ⟨m.b2, m.o2 + xn, none⟩ = some (.int .i64 (m.q xn)) by first | exact C0_8.out | go_simp) (by have := lb2w; first | omega | (simp; omega)))
      have hz9 := hb.size
      try simp only [World.size_alloc, World.drewN, World.drew] at hz9
      clear hb K0_8 K1_8 K2_8 z0_0_8 z0_1_8 z0_2_8 l0_8 z1_0_8 z1_1_8 z1_2_8 z1_3_8 z1_4_8 z1_5_8 l1_8 z2_0_8 z2_1_8 z2_2_8 l2_8
      have l0_9 : w.heap.size < w9.heap.size := K0_9.out.lt
      have z0_0_9 : w9.cell? ⟨w.heap.size, 0, none⟩ = some (.slice (some ⟨m.b1, m.o1, none⟩) m.n m.c1) := K0_9.out.cell 0
      have z0_1_9 : w9.cell? ⟨w.heap.size, 1, none⟩ = some (.slice (some ⟨m.b2, m.o2, none⟩) m.n m.c2) := K0_9.out.cell 1
      have z0_2_9 : w9.cell? ⟨w.heap.size, 2, none⟩ = some (.slice (some ⟨m.b3, m.o3, none⟩) m.n m.c3) := K0_9.out.cell 2
      have l1_9 : w.heap.size + 1 < w9.heap.size := K1_9.out.lt
      have z1_0_9 : w9.cell? ⟨w.heap.size + 1, 0, none⟩ = some (.int .i64 (a)) := K1_9.out.cell 0
      have z1_1_9 : w9.cell? ⟨w.heap.size + 1, 1, none⟩ = some (.int .i64 (b)) := K1_9.out.cell 1
      have z1_2_9 : w9.cell? ⟨w.heap.size + 1, 2, none⟩ = some (.int .i64 (c)) := K1_9.out.cell 2
      have z1_3_9 : w9.cell? ⟨w.heap.size + 1, 3, none⟩ = some (.int .i64 (d)) := K1_9.out.cell 3
      have z1_4_9 : w9.cell? ⟨w.heap.size + 1, 4, none⟩ = some (.int .i64 ((xn : Int))) := K1_9.out.cell 4
      have z1_5_9 : w9.cell? ⟨w.heap.size + 1, 5, none⟩ = some (.int .i64 ((yn : Int))) := K1_9.out.cell 5
      have l2_9 : w5.heap.size < w9.heap.size := K2_9.out.lt
      have z2_0_9 : w9.cell? ⟨w5.heap.size, 0, none⟩ = some (.int .i64 (m.sw m.n)) := K2_9.out.cell 0
      have z2_1_9 : w9.cell? ⟨w5.heap.size, 1, none⟩ = some (.int .i64 (m.sq m.n)) := K2_9.out.cell 1
      have z2_2_9 : w9.cell? ⟨w5.heap.size, 2, none⟩ = some (.int .i64 (m.sh m.n)) := K2_9.out.cell 2
      have g2y := (HX.out.lay HB9.out).r2 yn hyn
      have hy1 : (yn : Int) < (m.n : Int) := by omega
      have lb2y : m.b2 < w9.heap.size := by have := HB9.out.size; omega
      have C1_9 := Lib.hid g2y
      clear g2y
      go_wp2_with fail
      refine Fx.regionW (fun W f w' => Below W.heap.size W w') (by kernel_rfl) (by kernel_rfl) ?_ ?_
      · intro f hf0
        exact below_drewN (Below.refl _ _) 1
      repeat (first
        | (refine Fx.skip_ (by rfl) (fun f w h => h) ?_; simp only [Act.put, List.setIfInBounds_toArray, List.set_cons_zero, List.set_cons_succ])
        | (refine Fx.val_ ?_ (by rfl) ?_ (fun f w h => h) ?_
           rotate_left
           · intro f w' hD hk
             have hb := hD
             have kb0 := step_blk hb (show Blk _ (w.heap.size) 36 #[.slice (some ⟨m.b1, m.o1, none⟩) m.n m.c1, .slice (some ⟨m.b2, m.o2, none⟩) m.n m.c2, .slice (some ⟨m.b3, m.o3, none⟩) m.n m.c3] by repeat' (first | exact K0_9.out | exact K1_9.out | exact K2_9.out | exact Blk.at_ _ (by first | rfl | (simp; done) | (simp; omega)) _ _ | refine Blk.drewN ?_ _ | refine Blk.drew ?_ | refine Blk.alloc ?_ _ | refine Blk.far ?_ (by first | omega | (simp; done) | (simp; omega)) _ | assumption))
             have y0_0 : w'.cell? ⟨w.heap.size, 0, none⟩ = some (.slice (some ⟨m.b1, m.o1, none⟩) m.n m.c1) := kb0.cell 0
             have y0_1 : w'.cell? ⟨w.heap.size, 1, none⟩ = some (.slice (some ⟨m.b2, m.o2, none⟩) m.n m.c2) := kb0.cell 1
             have y0_2 : w'.cell? ⟨w.heap.size, 2, none⟩ = some (.slice (some ⟨m.b3, m.o3, none⟩) m.n m.c3) := kb0.cell 2
             have kb1 := step_blk hb (show Blk _ (w.heap.size + 1) 45 #[.int .i64 (a), .int .i64 (b), .int .i64 (c), .int .i64 (d), .int .i64 ((xn : Int)), .int .i64 ((yn : Int))] by repeat' (first | exact K0_9.out | exact K1_9.out | exact K2_9.out | exact Blk.at_ _ (by first | rfl | (simp; done) | (simp; omega)) _ _ | refine Blk.drewN ?_ _ | refine Blk.drew ?_ | refine Blk.alloc ?_ _ | refine Blk.far ?_ (by first | omega | (simp; done) | (simp; omega)) _ | assumption))
             have y1_0 : w'.cell? ⟨w.heap.size + 1, 0, none⟩ = some (.int .i64 (a)) := kb1.cell 0
             have y1_1 : w'.cell? ⟨w.heap.size + 1, 1, none⟩ = some (.int .i64 (b)) := kb1.cell 1
             have y1_2 : w'.cell? ⟨w.heap.size + 1, 2, none⟩ = some (.int .i64 (c)) := kb1.cell 2
             have y1_3 : w'.cell? ⟨w.heap.size + 1, 3, none⟩ = some (.int .i64 (d)) := kb1.cell 3
             have y1_4 : w'.cell? ⟨w.heap.size + 1, 4, none⟩ = some (.int .i64 ((xn : Int))) := kb1.cell 4
             have y1_5 : w'.cell? ⟨w.heap.size + 1, 5, none⟩ = some (.int .i64 ((yn : Int))) := kb1.cell 5
             have kb2 := step_blk hb (show Blk _ (w5.heap.size) 72 #[.int .i64 (m.sw m.n), .int .i64 (m.sq m.n), .int .i64 (m.sh m.n)] by repeat' (first | exact K0_9.out | exact K1_9.out | exact K2_9.out | exact Blk.at_ _ (by first | rfl | (simp; done) | (simp; omega)) _ _ | refine Blk.drewN ?_ _ | refine Blk.drew ?_ | refine Blk.alloc ?_ _ | refine Blk.far ?_ (by first | omega | (simp; done) | (simp; omega)) _ | assumption))
             have y2_0 : w'.cell? ⟨w5.heap.size, 0, none⟩ = some (.int .i64 (m.sw m.n)) := kb2.cell 0
             have y2_1 : w'.cell? ⟨w5.heap.size, 1, none⟩ = some (.int .i64 (m.sq m.n)) := kb2.cell 1
             have y2_2 : w'.cell? ⟨w5.heap.size, 2, none⟩ = some (.int .i64 (m.sh m.n)) := kb2.cell 2
             have yc0 : w'.cell? ⟨m.b2, m.o2 + xn, none⟩ = some (.int .i64 (m.q xn)) := step_cell hb (show World.cell? _ ⟨m.b2, m.o2 + xn, none⟩ = some (.int .i64 (m.q xn)) by first | exact C0_9.out | go_simp) (by have := lb2w; first | omega | (simp; omega))
             have yc1 : w'.cell? ⟨m.b2, m.o2 + yn, none⟩ = some (.int .i64 (m.q yn)) := step_cell hb (show World.cell? _ ⟨m.b2, m.o2 + yn, none⟩ = some (.int .i64 (m.q yn)) by first | exact C1_9.out | go_simp) (by have := lb2y; first | omega | (simp; omega))
             clear kb0 kb1 kb2
             clear hk hD hb
             go_simp
             try rfl
           simp only [Act.put, List.setIfInBounds_toArray, List.set_cons_zero, List.set_cons_succ]))
      refine Fx.call_ (.int .i64 (s2)) ?_ ?_ (by rfl) ?_ ?_ ?_
      rotate_left 2
      · intro w'
        go_simp
        refine ⟨?_, ?_⟩ <;> rfl
      · intro f w' hD hk
        exact (side_is m HM.out yn hyn s2 HS2.out w').mono fun e w'' ⟨he, hw⟩ => ⟨he, step_below hw hD⟩
      simp only [Act.put, List.setIfInBounds_toArray, List.set_cons_zero, List.set_cons_succ]
      repeat (first
        | (refine Fx.skip_ (by rfl) (fun f w h => h) ?_; simp only [Act.put, List.setIfInBounds_toArray, List.set_cons_zero, List.set_cons_succ])
        | (refine Fx.val_ ?_ (by rfl) ?_ (fun f w h => h) ?_
           rotate_left
           · intro f w' hD hk
             have hb := hD
             have kb0 := step_blk hb (show Blk _ (w.heap.size) 36 #[.slice (some ⟨m.b1, m.o1, none⟩) m.n m.c1, .slice (some ⟨m.b2, m.o2, none⟩) m.n m.c2, .slice (some ⟨m.b3, m.o3, none⟩) m.n m.c3] by repeat' (first | exact K0_9.out | exact K1_9.out | exact K2_9.out | exact Blk.at_ _ (by first | rfl | (simp; done) | (simp; omega)) _ _ | refine Blk.drewN ?_ _ | refine Blk.drew ?_ | refine Blk.alloc ?_ _ | refine Blk.far ?_ (by first | omega | (simp; done) | (simp; omega)) _ | assumption))
             have y0_0 : w'.cell? ⟨w.heap.size, 0, none⟩ = some (.slice (some ⟨m.b1, m.o1, none⟩) m.n m.c1) := kb0.cell 0
             have y0_1 : w'.cell? ⟨w.heap.size, 1, none⟩ = some (.slice (some ⟨m.b2, m.o2, none⟩) m.n m.c2) := kb0.cell 1
             have y0_2 : w'.cell? ⟨w.heap.size, 2, none⟩ = some (.slice (some ⟨m.b3, m.o3, none⟩) m.n m.c3) := kb0.cell 2
             have kb1 := step_blk hb (show Blk _ (w.heap.size + 1) 45 #[.int .i64 (a), .int .i64 (b), .int .i64 (c), .int .i64 (d), .int .i64 ((xn : Int)), .int .i64 ((yn : Int))] by repeat' (first | exact K0_9.out | exact K1_9.out | exact K2_9.out | exact Blk.at_ _ (by first | rfl | (simp; done) | (simp; omega)) _ _ | refine Blk.drewN ?_ _ | refine Blk.drew ?_ | refine Blk.alloc ?_ _ | refine Blk.far ?_ (by first | omega | (simp; done) | (simp; omega)) _ | assumption))
             have y1_0 : w'.cell? ⟨w.heap.size + 1, 0, none⟩ = some (.int .i64 (a)) := kb1.cell 0
             have y1_1 : w'.cell? ⟨w.heap.size + 1, 1, none⟩ = some (.int .i64 (b)) := kb1.cell 1
             have y1_2 : w'.cell? ⟨w.heap.size + 1, 2, none⟩ = some (.int .i64 (c)) := kb1.cell 2
             have y1_3 : w'.cell? ⟨w.heap.size + 1, 3, none⟩ = some (.int .i64 (d)) := kb1.cell 3
             have y1_4 : w'.cell? ⟨w.heap.size + 1, 4, none⟩ = some (.int .i64 ((xn : Int))) := kb1.cell 4
             have y1_5 : w'.cell? ⟨w.heap.size + 1, 5, none⟩ = some (.int .i64 ((yn : Int))) := kb1.cell 5
             have kb2 := step_blk hb (show Blk _ (w5.heap.size) 72 #[.int .i64 (m.sw m.n), .int .i64 (m.sq m.n), .int .i64 (m.sh m.n)] by repeat' (first | exact K0_9.out | exact K1_9.out | exact K2_9.out | exact Blk.at_ _ (by first | rfl | (simp; done) | (simp; omega)) _ _ | refine Blk.drewN ?_ _ | refine Blk.drew ?_ | refine Blk.alloc ?_ _ | refine Blk.far ?_ (by first | omega | (simp; done) | (simp; omega)) _ | assumption))
             have y2_0 : w'.cell? ⟨w5.heap.size, 0, none⟩ = some (.int .i64 (m.sw m.n)) := kb2.cell 0
             have y2_1 : w'.cell? ⟨w5.heap.size, 1, none⟩ = some (.int .i64 (m.sq m.n)) := kb2.cell 1
             have y2_2 : w'.cell? ⟨w5.heap.size, 2, none⟩ = some (.int .i64 (m.sh m.n)) := kb2.cell 2
             have yc0 : w'.cell? ⟨m.b2, m.o2 + xn, none⟩ = some (.int .i64 (m.q xn)) := step_cell hb (show World.cell? _ ⟨m.b2, m.o2 + xn, none⟩ = some (.int .i64 (m.q xn)) by first | exact C0_9.out | go_simp) (by have := lb2w; first | omega | (simp; omega))
             have yc1 : w'.cell? ⟨m.b2, m.o2 + yn, none⟩ = some (.int .i64 (m.q yn)) := step_cell hb (show World.cell? _ ⟨m.b2, m.o2 + yn, none⟩ = some (.int .i64 (m.q yn)) by first | exact C1_9.out | go_simp) (by have := lb2y; first | omega | (simp; omega))
             clear kb0 kb1 kb2
             clear hk hD hb
             go_simp
             try rfl
           simp only [Act.put, List.setIfInBounds_toArray, List.set_cons_zero, List.set_cons_succ]))
      refine Fx.nil_ ?_
      intro f w10 hall hb
      try clear hall
      have HB910 := Lib.hid hb
      have HB10 := Lib.hid (show Below w.heap.size w w10 from step_below hb (by repeat' (first | exact Below.refl _ _ | exact HB9.out | refine below_drewN ?_ _ | refine Below.drew ?_ | refine Below.alloc ?_ (by first | omega | (simp; done) | (simp; omega) | (simp [World.setCell]; omega)) _ | refine Below.setCell ?_ (by first | omega | (simp; done) | (simp; omega)) _ | assumption)))
      have K0_10 := Lib.hid (step_blk hb (show Blk _ (w.heap.size) 36 #[.slice (some ⟨m.b1, m.o1, none⟩) m.n m.c1, .slice (some ⟨m.b2, m.o2, none⟩) m.n m.c2, .slice (some ⟨m.b3, m.o3, none⟩) m.n m.c3] by repeat' (first | exact K0_9.out | exact K1_9.out | exact K2_9.out | exact Blk.at_ _ (by first | rfl | (simp; done) | (simp; omega)) _ _ | refine Blk.drewN ?_ _ | refine Blk.drew ?_ | refine Blk.alloc ?_ _ | refine Blk.far ?_ (by first | omega | (simp; done) | (simp; omega)) _ | assumption)))
      have K1_10 := Lib.hid (step_blk hb (show Blk _ (w.heap.size + 1) 45 #[.int .i64 (a), .int .i64 (b), .int .i64 (c), .int .i64 (d), .int .i64 ((xn : Int)), .int .i64 ((yn : Int))] by repeat' (first | exact K0_9.out | exact K1_9.out | exact K2_9.out | exact Blk.at_ _ (by first | rfl | (simp; done) | (simp; omega)) _ _ | refine Blk.drewN ?_ _ | refine Blk.drew ?_ | refine Blk.alloc ?_ _ | refine Blk.far ?_ (by first | omega | (simp; done) | (simp; omega)) _ | assumption)))
      have K2_10 := Lib.hid (step_blk hb (show Blk _ (w5.heap.size) 72 #[.int .i64 (m.sw m.n), .int .i64 (m.sq m.n), .int .i64 (m.sh m.n)] by repeat' (first | exact K0_9.out | exact K1_9.out | exact K2_9.out | exact Blk.at_ _ (by first | rfl | (simp; done) | (simp; omega)) _ _ | refine Blk.drewN ?_ _ | refine Blk.drew ?_ | refine Blk.alloc ?_ _ | refine Blk.far ?_ (by first | omega | (simp; done) | (simp; omega)) _ | assumption)))
      have C0_10 := Lib.hid (step_cell hb (show World.cell? _ ⟨m.b2, m.o2 + xn, none⟩ = some (.int .i64 (m.q xn)) by first | exact C0_9.out | go_simp) (by have := lb2w; first | omega | (simp; omega)))
      have C1_10 := Lib.hid (step_cell hb (show World.cell? _ ⟨m.b2, m.o2 + yn, none⟩ = some (.int .i64 (m.q yn)) by first | exact C1_9.out | go_simp) (by have := lb2y; first | omega | (simp; omega)))
      have hz10 := hb.size
      try simp only [World.size_alloc, World.drewN, World.drew] at hz10
      clear hb K0_9 K1_9 K2_9 z0_0_9 z0_1_9 z0_2_9 l0_9 z1_0_9 z1_1_9 z1_2_9 z1_3_9 z1_4_9 z1_5_9 l1_9 z2_0_9 z2_1_9 z2_2_9 l2_9
      have l0_10 : w.heap.size < w10.heap.size := K0_10.out.lt
      have z0_0_10 : w10.cell? ⟨w.heap.size, 0, none⟩ = some (.slice (some ⟨m.b1, m.o1, none⟩) m.n m.c1) := K0_10.out.cell 0
      have z0_1_10 : w10.cell? ⟨w.heap.size, 1, none⟩ = some (.slice (some ⟨m.b2, m.o2, none⟩) m.n m.c2) := K0_10.out.cell 1
      have z0_2_10 : w10.cell? ⟨w.heap.size, 2, none⟩ = some (.slice (some ⟨m.b3, m.o3, none⟩) m.n m.c3) := K0_10.out.cell 2
      have l1_10 : w.heap.size + 1 < w10.heap.size := K1_10.out.lt
      have z1_0_10 : w10.cell? ⟨w.heap.size + 1, 0, none⟩ = some (.int .i64 (a)) := K1_10.out.cell 0
      have z1_1_10 : w10.cell? ⟨w.heap.size + 1, 1, none⟩ = some (.int .i64 (b)) := K1_10.out.cell 1
      have z1_2_10 : w10.cell? ⟨w.heap.size + 1, 2, none⟩ = some (.int .i64 (c)) := K1_10.out.cell 2
      have z1_3_10 : w10.cell? ⟨w.heap.size + 1, 3, none⟩ = some (.int .i64 (d)) := K1_10.out.cell 3
      have z1_4_10 : w10.cell? ⟨w.heap.size + 1, 4, none⟩ = some (.int .i64 ((xn : Int))) := K1_10.out.cell 4
      have z1_5_10 : w10.cell? ⟨w.heap.size + 1, 5, none⟩ = some (.int .i64 ((yn : Int))) := K1_10.out.cell 5
      have l2_10 : w5.heap.size < w10.heap.size := K2_10.out.lt
      have z2_0_10 : w10.cell? ⟨w5.heap.size, 0, none⟩ = some (.int .i64 (m.sw m.n)) := K2_10.out.cell 0
      have z2_1_10 : w10.cell? ⟨w5.heap.size, 1, none⟩ = some (.int .i64 (m.sq m.n)) := K2_10.out.cell 1
      have z2_2_10 : w10.cell? ⟨w5.heap.size, 2, none⟩ = some (.int .i64 (m.sh m.n)) := K2_10.out.cell 2
      by_cases g1 : u = 0
      rotate_left
      · have dg : (u != 0) = true := by simpa using g1
        have HRR := Lib.hid (show R = (0, 22) from HR.out.symm.trans (cref_proof HUN.out H1.out H2.out (.inr (.inl (by rw [Int.toNat_natCast, HU.out]; exact g1)))))
        clear g1
        go_wp2
        go_ret2
        exact ⟨by rw [HRR.out]; rfl, HB10.out⟩
      subst g1
      by_cases g1 : s2 < 0
      · have dg : decide (s2 < 0) = true := by simpa using g1
        have HRR := Lib.hid (show R = (0, 22) from HR.out.symm.trans (cref_proof HUN.out H1.out H2.out (.inr (.inr (.inr (by rw [Int.toNat_natCast]; exact HC2.out.1 g1))))))
        clear g1
        go_wp2
        go_ret2
        exact ⟨by rw [HRR.out]; rfl, HB10.out⟩
      have dg : decide (s2 < 0) = false := by simpa using g1
      have HF2 := Lib.hid (show m.sq m.n ≤ m.q yn * m.sw m.n from Int.not_lt.1 fun h => g1 (HC2.out.2 h))
      have HRR := Lib.hid (show R = (0, 0) from HR.out.symm.trans (cref_ok HUN.out H1.out H2.out (by rw [Int.toNat_natCast]; exact HZ1.out) (by rw [Int.toNat_natCast]; exact HU.out) (by rw [Int.toNat_natCast]; exact HF1.out) (by rw [Int.toNat_natCast]; exact HF2.out)))
      clear g1
      go_wp2
      rw [rounds_succ]
      go_wp2
      go_ret2
      exact ⟨by rw [HRR.out]; rfl, HB10.out⟩

end Go.Proofs.Ytkfecbkcghmmhaa

end
