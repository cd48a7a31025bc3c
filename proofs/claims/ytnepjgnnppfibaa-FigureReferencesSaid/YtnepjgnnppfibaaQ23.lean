import Derived.Test.YtnepjgnnppfibaaQ21
import Derived.Test.YtnepjgnnppfibaaQ22

section
/- The reference's removal of a zone, and its check of a line. -/
namespace Go.Proofs.Ytnepjgnnppfibaa
open Go Go.RowKit

theorem redN_sign {a b : Int} (hb : 1 ≤ b) : (redN a b < 0 ↔ a < 0) ∧ (redN a b = 0 ↔ a = 0) := by
  obtain ⟨h1, h2, -⟩ := redm_mul (a := a) (b := b) (by omega)
  generalize redN a b = x at *
  generalize redD a b = y at *
  refine ⟨⟨fun h => ?_, fun h => ?_⟩, ⟨fun h => ?_, fun h => ?_⟩⟩
  · refine Int.not_le.1 fun h3 => ?_
    have := Int.mul_nonneg (show (0 : Int) ≤ y by omega) h3
    have := Int.mul_neg_of_neg_of_pos h (show (0 : Int) < b by omega)
    omega
  · refine Int.not_le.1 fun h3 => ?_
    have := Int.mul_nonneg h3 (show (0 : Int) ≤ b by omega)
    have := Int.mul_neg_of_neg_of_pos h h2
    rw [Int.mul_comm] at this
    omega
  · subst h
    rw [Int.zero_mul] at h1
    rcases Int.mul_eq_zero.1 h1.symm with h | h
    · omega
    · exact h
  · subst h
    rw [Int.mul_zero] at h1
    rcases Int.mul_eq_zero.1 h1 with h | h
    · exact h
    · omega

set_option maxRecDepth 100000 in
set_option maxHeartbeats 4000000 in
theorem rremoval_is (m : Rm) (hm : m.Ok) (a b c d ta tb : Int) (hl : LnOk a b c d) (z : Nat) (hz : z < m.n) (x y : Int) (hxv : redN (remN m a b c d z) (b * d) = x) (hyv : redD (remN m a b c d z) (b * d) = y) (w : World) (hx : RmAt m w) :
    Calls Try.prog 51 #[m.val, .agg #[.int .i64 a, .int .i64 b, .int .i64 c, .int .i64 d, .int .i64 ta, .int .i64 tb], .int .i64 (z : Int)] w fun e w' => e = .returned (.agg #[.int .i64 x, .int .i64 y]) ∧ Below w.heap.size w w' := by
  obtain ⟨q0, q1, q2, q3, q4⟩ := rem_in hm hl hz
  obtain ⟨r, hr⟩ : ∃ r, remN m a b c d z = r := ⟨_, rfl⟩
  obtain ⟨v, hv⟩ : ∃ v, b * d = v := ⟨_, rfl⟩
  rw [hr, hv] at hxv hyv
  unfold remN at hr
  rw [hv] at hr q0 q1
  have e0 : IntKind.i64.wrap (b * d) = v := by rw [hv]; exact IntWalk.i64_in v ⟨by omega, by omega⟩
  have e1 := IntWalk.i64_in (m.h z * v) ⟨by omega, by omega⟩
  have e2 := IntWalk.i64_in (a * d) ⟨by omega, by omega⟩
  have e3 := IntWalk.i64_in (m.h z * v - a * d) ⟨by omega, by omega⟩
  have e4 := IntWalk.i64_in (c * m.q z) ⟨by omega, by omega⟩
  have e5 := IntWalk.i64_in (c * m.q z * b) ⟨by omega, by omega⟩
  have e6 : IntKind.i64.wrap (m.h z * v - a * d - c * m.q z * b) = r := by rw [hr]; exact IntWalk.i64_in r ⟨by omega, by omega⟩
  have g1 : -9223372036854775808 < r := by rw [← hr]; omega
  have g2 : r ≤ 9223372036854775807 := by rw [← hr]; omega
  have g3 : 1 ≤ v ∧ v ≤ 1000000 := q0
  have HX := Lib.hid hx
  have HXV := Lib.hid hxv
  have HYV := Lib.hid hyv
  have lb1 := hx.l1
  have lb2 := hx.l2
  have hzz : (z : Int) < (m.n : Int) := by omega
  clear hr hv hm hl hx q0 q1 q2 q3 q4 hxv hyv
  unfold Rm.val
  go_enter Try.func51, Try.ntmps51
  go_wp2
  generalize hwn : (((w.alloc (.cells #[.slice (some ⟨m.b1, m.o1, none⟩) m.n m.c1, .slice (some ⟨m.b2, m.o2, none⟩) m.n m.c2, .slice (some ⟨m.b3, m.o3, none⟩) m.n m.c3] 24)).alloc (.cells #[.int .i64 (a), .int .i64 (b), .int .i64 (c), .int .i64 (d), .int .i64 (ta), .int .i64 (tb)] 75)).alloc (.cells #[.int .i64 (0), .int .i64 (0)] 28)) = w1
  have hbn : Below w.heap.size w w1 := by rw [← hwn]; repeat' (first | exact Below.refl _ _ | refine below_drewN ?_ _ | refine Below.drew ?_ | refine Below.alloc ?_ (by first | omega | (simp; done) | (simp; omega) | (simp [World.setCell]; omega)) _ | refine Below.setCell ?_ (by first | omega | (simp; done) | (simp; omega)) _)
  have HB1 := Lib.hid (show Below w.heap.size w w1 from hbn)
  have K0_1 := Lib.hid (show Blk w1 (w.heap.size) 24 #[.slice (some ⟨m.b1, m.o1, none⟩) m.n m.c1, .slice (some ⟨m.b2, m.o2, none⟩) m.n m.c2, .slice (some ⟨m.b3, m.o3, none⟩) m.n m.c3] by rw [← hwn]; repeat' (first | exact Blk.at_ _ (by first | rfl | (simp; done) | (simp; omega)) _ _ | refine Blk.drewN ?_ _ | refine Blk.drew ?_ | refine Blk.alloc ?_ _ | refine Blk.far ?_ (by first | omega | (simp; done) | (simp; omega)) _ | assumption))
  have K1_1 := Lib.hid (show Blk w1 (w.heap.size + 1) 75 #[.int .i64 (a), .int .i64 (b), .int .i64 (c), .int .i64 (d), .int .i64 (ta), .int .i64 (tb)] by rw [← hwn]; repeat' (first | exact Blk.at_ _ (by first | rfl | (simp; done) | (simp; omega)) _ _ | refine Blk.drewN ?_ _ | refine Blk.drew ?_ | refine Blk.alloc ?_ _ | refine Blk.far ?_ (by first | omega | (simp; done) | (simp; omega)) _ | assumption))
  have K2_1 := Lib.hid (show Blk w1 (w.heap.size + 1 + 1) 28 #[.int .i64 (0), .int .i64 (0)] by rw [← hwn]; repeat' (first | exact Blk.at_ _ (by first | rfl | (simp; done) | (simp; omega)) _ _ | refine Blk.drewN ?_ _ | refine Blk.drew ?_ | refine Blk.alloc ?_ _ | refine Blk.far ?_ (by first | omega | (simp; done) | (simp; omega)) _ | assumption))
  have HN1 := Lib.hid hbn
  have hz1 := hbn.size
  clear hwn hbn
  have l0_1 : w.heap.size < w1.heap.size := K0_1.out.lt
  have z0_0_1 : w1.cell? ⟨w.heap.size, 0, none⟩ = some (.slice (some ⟨m.b1, m.o1, none⟩) m.n m.c1) := K0_1.out.cell 0
  have z0_1_1 : w1.cell? ⟨w.heap.size, 1, none⟩ = some (.slice (some ⟨m.b2, m.o2, none⟩) m.n m.c2) := K0_1.out.cell 1
  have z0_2_1 : w1.cell? ⟨w.heap.size, 2, none⟩ = some (.slice (some ⟨m.b3, m.o3, none⟩) m.n m.c3) := K0_1.out.cell 2
  have l1_1 : w.heap.size + 1 < w1.heap.size := K1_1.out.lt
  have z1_0_1 : w1.cell? ⟨w.heap.size + 1, 0, none⟩ = some (.int .i64 (a)) := K1_1.out.cell 0
  have z1_1_1 : w1.cell? ⟨w.heap.size + 1, 1, none⟩ = some (.int .i64 (b)) := K1_1.out.cell 1
  have z1_2_1 : w1.cell? ⟨w.heap.size + 1, 2, none⟩ = some (.int .i64 (c)) := K1_1.out.cell 2
  have z1_3_1 : w1.cell? ⟨w.heap.size + 1, 3, none⟩ = some (.int .i64 (d)) := K1_1.out.cell 3
  have z1_4_1 : w1.cell? ⟨w.heap.size + 1, 4, none⟩ = some (.int .i64 (ta)) := K1_1.out.cell 4
  have z1_5_1 : w1.cell? ⟨w.heap.size + 1, 5, none⟩ = some (.int .i64 (tb)) := K1_1.out.cell 5
  have l2_1 : w.heap.size + 1 + 1 < w1.heap.size := K2_1.out.lt
  have z2_0_1 : w1.cell? ⟨w.heap.size + 1 + 1, 0, none⟩ = some (.int .i64 (0)) := K2_1.out.cell 0
  have z2_1_1 : w1.cell? ⟨w.heap.size + 1 + 1, 1, none⟩ = some (.int .i64 (0)) := K2_1.out.cell 1
  have d1 := (HX.out.lay HB1.out).r1 z (by omega)
  have d2 := (HX.out.lay HB1.out).r2 z (by omega)
  refine Fx.regionW (fun W f w' => Below (w.heap.size + 1 + 1) W w' ∧ Blk w' (w.heap.size + 1 + 1) 28 (if f 31 then #[.int .i64 (x), .int .i64 (y)] else #[.int .i64 (0), .int .i64 (0)])) (by kernel_rfl) (by kernel_rfl) ?_ ?_
  · intro f hf0
    rw [hf0 31]
    exact ⟨below_drewN (Below.refl _ _) 1, Blk.drewN K2_1.out 1⟩
  repeat (first
    | (refine Fx.skip_ (by rfl) (fun f w h => h) ?_; simp only [Act.put, List.setIfInBounds_toArray, List.set_cons_zero, List.set_cons_succ])
    | (refine Fx.val_ ?_ (by rfl) ?_ (fun f w h => h) ?_
       rotate_left
       · intro f w' hD hk
         obtain ⟨hb, hblk⟩ := id hD
         have y0_0 : w'.cell? ⟨w.heap.size, 0, none⟩ = some (.slice (some ⟨m.b1, m.o1, none⟩) m.n m.c1) := (Blk.below K0_1.out hb (by first | omega | (simp; omega))).cell 0
         have y0_1 : w'.cell? ⟨w.heap.size, 1, none⟩ = some (.slice (some ⟨m.b2, m.o2, none⟩) m.n m.c2) := (Blk.below K0_1.out hb (by first | omega | (simp; omega))).cell 1
         have y0_2 : w'.cell? ⟨w.heap.size, 2, none⟩ = some (.slice (some ⟨m.b3, m.o3, none⟩) m.n m.c3) := (Blk.below K0_1.out hb (by first | omega | (simp; omega))).cell 2
         have y1_0 : w'.cell? ⟨w.heap.size + 1, 0, none⟩ = some (.int .i64 (a)) := (Blk.below K1_1.out hb (by first | omega | (simp; omega))).cell 0
         have y1_1 : w'.cell? ⟨w.heap.size + 1, 1, none⟩ = some (.int .i64 (b)) := (Blk.below K1_1.out hb (by first | omega | (simp; omega))).cell 1
         have y1_2 : w'.cell? ⟨w.heap.size + 1, 2, none⟩ = some (.int .i64 (c)) := (Blk.below K1_1.out hb (by first | omega | (simp; omega))).cell 2
         have y1_3 : w'.cell? ⟨w.heap.size + 1, 3, none⟩ = some (.int .i64 (d)) := (Blk.below K1_1.out hb (by first | omega | (simp; omega))).cell 3
         have y1_4 : w'.cell? ⟨w.heap.size + 1, 4, none⟩ = some (.int .i64 (ta)) := (Blk.below K1_1.out hb (by first | omega | (simp; omega))).cell 4
         have y1_5 : w'.cell? ⟨w.heap.size + 1, 5, none⟩ = some (.int .i64 (tb)) := (Blk.below K1_1.out hb (by first | omega | (simp; omega))).cell 5
         have ya : w'.cell? ⟨m.b1, m.o1 + z, none⟩ = some (.int .i64 (m.h z)) := (Below.cell hb (p := ⟨m.b1, m.o1 + z, none⟩) (by show m.b1 < _; omega)).trans d1
         have yb : w'.cell? ⟨m.b2, m.o2 + z, none⟩ = some (.int .i64 (m.q z)) := (Below.cell hb (p := ⟨m.b2, m.o2 + z, none⟩) (by show m.b2 < _; omega)).trans d2
         clear hk hD hb hblk
         go_simp
         try rfl
       simp only [Act.put, List.setIfInBounds_toArray, List.set_cons_zero, List.set_cons_succ]))
  refine Fx.call_ (.agg #[.int .i64 x, .int .i64 y]) ?_ ?_ (by rfl) ?_ ?_ ?_
  rotate_left 2
  · intro w'
    go_simp
    refine ⟨?_, ?_⟩ <;> rfl
  · intro f w' hD hk
    have hbw := HB1.out.trans (hD.1.mono (show w.heap.size ≤ w.heap.size + 1 + 1 by first | omega | (simp; omega)))
    have hgl : w.heap.size + 1 + 1 ≤ w1.heap.size := (by have := K2_1.out.lt; omega)
    exact (lowest_red r v x y HXV.out HYV.out w' g1 g2 g3.1 (by omega)).mono fun e w'' ⟨he, hw⟩ => ⟨he, step_belowAt hw hD.1 hgl, step_blk hw hD.2⟩
  simp only [Act.put, List.setIfInBounds_toArray, List.set_cons_zero, List.set_cons_succ]
  repeat (first
    | (refine Fx.skip_ (by rfl) (fun f w h => h) ?_; simp only [Act.put, List.setIfInBounds_toArray, List.set_cons_zero, List.set_cons_succ])
    | (refine Fx.val_ ?_ (by rfl) ?_ (fun f w h => h) ?_
       rotate_left
       · intro f w' hD hk
         obtain ⟨hb, hblk⟩ := id hD
         have y0_0 : w'.cell? ⟨w.heap.size, 0, none⟩ = some (.slice (some ⟨m.b1, m.o1, none⟩) m.n m.c1) := (Blk.below K0_1.out hb (by first | omega | (simp; omega))).cell 0
         have y0_1 : w'.cell? ⟨w.heap.size, 1, none⟩ = some (.slice (some ⟨m.b2, m.o2, none⟩) m.n m.c2) := (Blk.below K0_1.out hb (by first | omega | (simp; omega))).cell 1
         have y0_2 : w'.cell? ⟨w.heap.size, 2, none⟩ = some (.slice (some ⟨m.b3, m.o3, none⟩) m.n m.c3) := (Blk.below K0_1.out hb (by first | omega | (simp; omega))).cell 2
         have y1_0 : w'.cell? ⟨w.heap.size + 1, 0, none⟩ = some (.int .i64 (a)) := (Blk.below K1_1.out hb (by first | omega | (simp; omega))).cell 0
         have y1_1 : w'.cell? ⟨w.heap.size + 1, 1, none⟩ = some (.int .i64 (b)) := (Blk.below K1_1.out hb (by first | omega | (simp; omega))).cell 1
         have y1_2 : w'.cell? ⟨w.heap.size + 1, 2, none⟩ = some (.int .i64 (c)) := (Blk.below K1_1.out hb (by first | omega | (simp; omega))).cell 2
         have y1_3 : w'.cell? ⟨w.heap.size + 1, 3, none⟩ = some (.int .i64 (d)) := (Blk.below K1_1.out hb (by first | omega | (simp; omega))).cell 3
         have y1_4 : w'.cell? ⟨w.heap.size + 1, 4, none⟩ = some (.int .i64 (ta)) := (Blk.below K1_1.out hb (by first | omega | (simp; omega))).cell 4
         have y1_5 : w'.cell? ⟨w.heap.size + 1, 5, none⟩ = some (.int .i64 (tb)) := (Blk.below K1_1.out hb (by first | omega | (simp; omega))).cell 5
         have ya : w'.cell? ⟨m.b1, m.o1 + z, none⟩ = some (.int .i64 (m.h z)) := (Below.cell hb (p := ⟨m.b1, m.o1 + z, none⟩) (by show m.b1 < _; omega)).trans d1
         have yb : w'.cell? ⟨m.b2, m.o2 + z, none⟩ = some (.int .i64 (m.q z)) := (Below.cell hb (p := ⟨m.b2, m.o2 + z, none⟩) (by show m.b2 < _; omega)).trans d2
         clear hk hD hb hblk
         go_simp
         try rfl
       simp only [Act.put, List.setIfInBounds_toArray, List.set_cons_zero, List.set_cons_succ]))
  refine Fx.store_ (fun w' => ((w'.setCell ⟨w.heap.size + 1 + 1, 0, none⟩ (.int .i64 (x))).setCell ⟨w.heap.size + 1 + 1, 1, none⟩ (.int .i64 (y)))) (by rfl) ?_ ?_ ?_
  · intro f w' hD hk
    obtain ⟨hb, hblk⟩ := id hD
    rw [show f 31 = false from hk.1] at hblk
    have q0 := hblk.cell 0
    have q1 := hblk.cell 1
    have p0 := hblk.frozen 0
    have p1 := hblk.frozen 1
    clear hk hD hb hblk
    go_simp
  · intro f w' hD hk
    obtain ⟨hb, hblk⟩ := id hD
    rw [show f 31 = false from hk.1] at hblk
    have q0 := hblk.cell 0
    have q1 := hblk.cell 1
    have p0 := hblk.frozen 0
    have p1 := hblk.frozen 1
    exact ⟨((hb.setCell (p := ⟨w.heap.size + 1 + 1, 0, none⟩) (Nat.le_refl _) _).setCell (p := ⟨w.heap.size + 1 + 1, 1, none⟩) (Nat.le_refl _) _), by simpa [Fx.add] using ((hblk.set_ 0 (.int .i64 (x))).set_ 1 (.int .i64 (y)))⟩
  simp only [Act.put, List.setIfInBounds_toArray, List.set_cons_zero, List.set_cons_succ]
  repeat (first
    | (refine Fx.skip_ (by rfl) (fun f w h => h) ?_; simp only [Act.put, List.setIfInBounds_toArray, List.set_cons_zero, List.set_cons_succ])
    | (refine Fx.val_ ?_ (by rfl) ?_ (fun f w h => h) ?_
       rotate_left
       · intro f w' hD hk
         obtain ⟨hb, hblk⟩ := id hD
         have y0_0 : w'.cell? ⟨w.heap.size, 0, none⟩ = some (.slice (some ⟨m.b1, m.o1, none⟩) m.n m.c1) := (Blk.below K0_1.out hb (by first | omega | (simp; omega))).cell 0
         have y0_1 : w'.cell? ⟨w.heap.size, 1, none⟩ = some (.slice (some ⟨m.b2, m.o2, none⟩) m.n m.c2) := (Blk.below K0_1.out hb (by first | omega | (simp; omega))).cell 1
         have y0_2 : w'.cell? ⟨w.heap.size, 2, none⟩ = some (.slice (some ⟨m.b3, m.o3, none⟩) m.n m.c3) := (Blk.below K0_1.out hb (by first | omega | (simp; omega))).cell 2
         have y1_0 : w'.cell? ⟨w.heap.size + 1, 0, none⟩ = some (.int .i64 (a)) := (Blk.below K1_1.out hb (by first | omega | (simp; omega))).cell 0
         have y1_1 : w'.cell? ⟨w.heap.size + 1, 1, none⟩ = some (.int .i64 (b)) := (Blk.below K1_1.out hb (by first | omega | (simp; omega))).cell 1
         have y1_2 : w'.cell? ⟨w.heap.size + 1, 2, none⟩ = some (.int .i64 (c)) := (Blk.below K1_1.out hb (by first | omega | (simp; omega))).cell 2
         have y1_3 : w'.cell? ⟨w.heap.size + 1, 3, none⟩ = some (.int .i64 (d)) := (Blk.below K1_1.out hb (by first | omega | (simp; omega))).cell 3
         have y1_4 : w'.cell? ⟨w.heap.size + 1, 4, none⟩ = some (.int .i64 (ta)) := (Blk.below K1_1.out hb (by first | omega | (simp; omega))).cell 4
         have y1_5 : w'.cell? ⟨w.heap.size + 1, 5, none⟩ = some (.int .i64 (tb)) := (Blk.below K1_1.out hb (by first | omega | (simp; omega))).cell 5
         have ya : w'.cell? ⟨m.b1, m.o1 + z, none⟩ = some (.int .i64 (m.h z)) := (Below.cell hb (p := ⟨m.b1, m.o1 + z, none⟩) (by show m.b1 < _; omega)).trans d1
         have yb : w'.cell? ⟨m.b2, m.o2 + z, none⟩ = some (.int .i64 (m.q z)) := (Below.cell hb (p := ⟨m.b2, m.o2 + z, none⟩) (by show m.b2 < _; omega)).trans d2
         clear hk hD hb hblk
         go_simp
         try rfl
       simp only [Act.put, List.setIfInBounds_toArray, List.set_cons_zero, List.set_cons_succ]))
  refine Fx.nil_ ?_
  intro f w2 hall hD
  obtain ⟨hb, hblk⟩ := hD
  rw [hall 31 (by simp)] at hblk
  clear hall
  replace hblk : Blk w2 (w.heap.size + 1 + 1) 28 #[.int .i64 (x), .int .i64 (y)] := hblk
  have hbw : Below w.heap.size w w2 := HB1.out.trans (hb.mono (by first | omega | (simp; omega)))
  have kk0 := Blk.below K0_1.out hb (by first | omega | (simp; omega))
  have kk1 := Blk.below K1_1.out hb (by first | omega | (simp; omega))
  clear hb
  have HB2 := Lib.hid hbw
  have K0_2 := Lib.hid (show Blk w2 (w.heap.size) 24 #[.slice (some ⟨m.b1, m.o1, none⟩) m.n m.c1, .slice (some ⟨m.b2, m.o2, none⟩) m.n m.c2, .slice (some ⟨m.b3, m.o3, none⟩) m.n m.c3] from kk0)
  have K1_2 := Lib.hid (show Blk w2 (w.heap.size + 1) 75 #[.int .i64 (a), .int .i64 (b), .int .i64 (c), .int .i64 (d), .int .i64 (ta), .int .i64 (tb)] from kk1)
  have K2_2 := Lib.hid (show Blk w2 (w.heap.size + 1 + 1) 28 #[.int .i64 (x), .int .i64 (y)] from hblk)
  clear hbw kk0 kk1 hblk
  have l0_2 : w.heap.size < w2.heap.size := K0_2.out.lt
  have z0_0_2 : w2.cell? ⟨w.heap.size, 0, none⟩ = some (.slice (some ⟨m.b1, m.o1, none⟩) m.n m.c1) := K0_2.out.cell 0
  have z0_1_2 : w2.cell? ⟨w.heap.size, 1, none⟩ = some (.slice (some ⟨m.b2, m.o2, none⟩) m.n m.c2) := K0_2.out.cell 1
  have z0_2_2 : w2.cell? ⟨w.heap.size, 2, none⟩ = some (.slice (some ⟨m.b3, m.o3, none⟩) m.n m.c3) := K0_2.out.cell 2
  have l1_2 : w.heap.size + 1 < w2.heap.size := K1_2.out.lt
  have z1_0_2 : w2.cell? ⟨w.heap.size + 1, 0, none⟩ = some (.int .i64 (a)) := K1_2.out.cell 0
  have z1_1_2 : w2.cell? ⟨w.heap.size + 1, 1, none⟩ = some (.int .i64 (b)) := K1_2.out.cell 1
  have z1_2_2 : w2.cell? ⟨w.heap.size + 1, 2, none⟩ = some (.int .i64 (c)) := K1_2.out.cell 2
  have z1_3_2 : w2.cell? ⟨w.heap.size + 1, 3, none⟩ = some (.int .i64 (d)) := K1_2.out.cell 3
  have z1_4_2 : w2.cell? ⟨w.heap.size + 1, 4, none⟩ = some (.int .i64 (ta)) := K1_2.out.cell 4
  have z1_5_2 : w2.cell? ⟨w.heap.size + 1, 5, none⟩ = some (.int .i64 (tb)) := K1_2.out.cell 5
  have l2_2 : w.heap.size + 1 + 1 < w2.heap.size := K2_2.out.lt
  have z2_0_2 : w2.cell? ⟨w.heap.size + 1 + 1, 0, none⟩ = some (.int .i64 (x)) := K2_2.out.cell 0
  have z2_1_2 : w2.cell? ⟨w.heap.size + 1 + 1, 1, none⟩ = some (.int .i64 (y)) := K2_2.out.cell 1
  go_wp2
  exact bodyPost_ret (v := .agg #[.int .i64 x, .int .i64 y]) (by simp [results, Try.results51, go_sem, z2_0_2, z2_1_2, l2_2]) rfl ⟨rfl, by repeat' (first | exact Below.refl _ _ | exact HB2.out | refine below_drewN ?_ _ | refine Below.drew ?_ | refine Below.alloc ?_ (by first | omega | (simp; done) | (simp; omega) | (simp [World.setCell]; omega)) _ | refine Below.setCell ?_ (by first | omega | (simp; done) | (simp; omega)) _ | assumption)⟩

/-- What the check of a line answers. -/
def crefF (m : Rm) (a b c d x y : Int) : Int × Int :=
  match (List.range m.n).find? (fun i => decide (remN m a b c d i < 0)) with
  | some i => ((i : Int), 26)
  | none => if (withinB x 0 ((m.n : Int) - 1) && withinB y 0 ((m.n : Int) - 1)) = false then (0, 6)
    else if remN m a b c d x.toNat ≠ 0 ∨ remN m a b c d y.toNat ≠ 0 ∨ m.sq m.n < m.q x.toNat * m.sw m.n ∨ m.q y.toNat * m.sw m.n < m.sq m.n then (0, 22) else (0, 0)
theorem range_find {n k : Nat} {p : Nat → Bool} (hk : k < n) (h : ∀ j, j < k → p j = false) (hp : p k = true) : (List.range n).find? p = some k := by
  rw [List.find?_eq_some_iff_append]
  refine ⟨hp, List.range k, (List.range n).drop (k + 1), ?_, fun a ha => ?_⟩
  · have e : (List.range n).take k = List.range k := by rw [List.take_range]; congr 1; omega
    conv => lhs; rw [← List.take_append_drop k (List.range n), e]
    congr 1
    rw [List.drop_eq_getElem_cons (by simpa using hk)]
    simp
  · have := h a (List.mem_range.1 ha)
    simp [this]
theorem range_none {n : Nat} {p : Nat → Bool} (h : ∀ j, j < n → p j = false) : (List.range n).find? p = none := by
  rw [List.find?_eq_none]
  intro a ha
  rw [h a (List.mem_range.1 ha)]
  simp
section
variable {m : Rm} {a b c d x y : Int}
theorem cref_neg {k : Nat} (hk : k < m.n) (h : ∀ j, j < k → 0 ≤ remN m a b c d j) (hn : remN m a b c d k < 0) : crefF m a b c d x y = ((k : Int), 26) := by
  unfold crefF
  rw [range_find hk (fun j hj => by have := h j hj; simp; omega) (by simpa using hn)]
theorem cref_miss (h : ∀ j, j < m.n → 0 ≤ remN m a b c d j) (hw : withinB x 0 ((m.n : Int) - 1) = false ∨ withinB y 0 ((m.n : Int) - 1) = false) : crefF m a b c d x y = (0, 6) := by
  unfold crefF
  rw [range_none (fun j hj => by have := h j hj; simp; omega)]
  have e : (withinB x 0 ((m.n : Int) - 1) && withinB y 0 ((m.n : Int) - 1)) = false := by rcases hw with hw | hw <;> simp [hw]
  simp only [e, if_true]
theorem cref_proof (h : ∀ j, j < m.n → 0 ≤ remN m a b c d j) (h1 : withinB x 0 ((m.n : Int) - 1) = true) (h2 : withinB y 0 ((m.n : Int) - 1) = true) (h3 : remN m a b c d x.toNat ≠ 0 ∨ remN m a b c d y.toNat ≠ 0 ∨ m.sq m.n < m.q x.toNat * m.sw m.n ∨ m.q y.toNat * m.sw m.n < m.sq m.n) : crefF m a b c d x y = (0, 22) := by
  unfold crefF
  rw [range_none (fun j hj => by have := h j hj; simp; omega)]
  simp only [h1, h2, Bool.and_self, Bool.true_eq_false, if_false]
  rw [if_pos h3]
theorem cref_ok (h : ∀ j, j < m.n → 0 ≤ remN m a b c d j) (h1 : withinB x 0 ((m.n : Int) - 1) = true) (h2 : withinB y 0 ((m.n : Int) - 1) = true) (h3 : remN m a b c d x.toNat = 0) (h4 : remN m a b c d y.toNat = 0) (h5 : m.q x.toNat * m.sw m.n ≤ m.sq m.n) (h6 : m.sq m.n ≤ m.q y.toNat * m.sw m.n) : crefF m a b c d x y = (0, 0) := by
  unfold crefF
  rw [range_none (fun j hj => by have := h j hj; simp; omega)]
  simp only [h1, h2, Bool.and_self, Bool.true_eq_false, if_false]
  rw [if_neg (by omega)]
end
end Go.Proofs.Ytnepjgnnppfibaa

end
