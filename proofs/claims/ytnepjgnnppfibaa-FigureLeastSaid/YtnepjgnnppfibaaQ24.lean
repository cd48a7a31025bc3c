import Derived.Test.YtnepjgnnppfibaaQ23
import Derived.Test.YtnepjgnnppfibaaQ9
import Derived.Test.YtnepjgnnppfibaaQ22

section
/- The removals of a line; the line that is found; refusals of wrong maps. -/
namespace Go.Proofs.Ytnepjgnnppfibaa
open Go Go.RowKit

theorem info_frac6 : (Try.prog.info? 28).map (fun i => (i.zero, i.size, i.bytes)) = some (some (.agg #[.int .i64 0, .int .i64 0]), 2, 16) := by kernel_rfl
theorem snocfrac6_run (B : Nat) (v : Value) (k : Nat) (xs : List Value) (a b : Int) (w : World) (ho : w.ownsRow B 28 2 v k xs) (hB : B ≤ w.heap.size) (hk : k ≤ 100000) :
    ∃ v' W2, (Builtin.append_ #[77, 77] 77 #[v, .slice (some ⟨w.heap.size, 0, none⟩) 1 1]).run Try.prog (w.alloc (.cells #[.int .i64 a, .int .i64 b] 28)) = .ok v' W2 ∧ W2.ownsRow B 28 2 v' (k + 1) (xs ++ [.int .i64 a, .int .i64 b]) ∧ Below B w W2 := by
  obtain ⟨i0, hi0, hz0, hz1, hz2⟩ := info_parts info_frac6
  have hbW : Below B w (w.alloc (.cells #[.int .i64 a, .int .i64 b] 28)) := (Below.refl _ _).alloc hB _
  obtain ⟨v', W2, hrun, o2', hg2, -⟩ := run_append_any (P := Try.prog) (w.alloc (.cells #[.int .i64 a, .int .i64 b] 28)) B 77 77 28 i0 _ 2 16 Try.underlying77 hi0 hz0 hz1 hz2 rfl (by omega) v k _ (ho.alloc _) (w.alloc (.cells #[.int .i64 a, .int .i64 b] 28)).heap.size (some ⟨w.heap.size, 0, none⟩) 1 1 [.int .i64 a, .int .i64 b] (Blk.reads (Blk.new _ _ _) rfl) (by simp [Value.oneCell']) (by unfold maxLen; omega) (by first | omega | (simp; omega)) (by first | omega | (simp; omega))
  exact ⟨v', W2, hrun, o2', hbW.grown hg2 (Nat.le_trans hB hbW.size) (fun g hg => (own_lt ho hg).1)⟩

/-- The removals of the first zones. -/
def remL (m : Rm) (a b c d : Int) (k : Nat) : List (Int × Int) := (List.range k).map fun z => (redN (remN m a b c d z) (b * d), redD (remN m a b c d z) (b * d))
theorem remL_succ (m : Rm) (a b c d : Int) (k : Nat) : remL m a b c d (k + 1) = remL m a b c d k ++ [(redN (remN m a b c d k) (b * d), redD (remN m a b c d k) (b * d))] := by
  unfold remL; rw [List.range_succ, List.map_append]; rfl
theorem remL_get (m : Rm) (a b c d : Int) {n z : Nat} (hz : z < n) : (remL m a b c d n)[z]? = some (redN (remN m a b c d z) (b * d), redD (remN m a b c d z) (b * d)) := by
  unfold remL
  rw [List.getElem?_map, List.getElem?_range hz]; rfl

set_option maxRecDepth 100000 in
set_option maxHeartbeats 4000000 in
theorem rems_is (m : Rm) (hm : m.Ok) (a b c d x y : Int) (hE : lineErr a b c d = 0) (ia : I64 a) (ib : I64 b) (ic : I64 c) (id : I64 d) (w : World) (hx : RmAt m w) (hck : CkOk m w) :
    Calls Try.prog 49 #[m.val, .agg #[.int .i64 a, .int .i64 b, .int .i64 c, .int .i64 d, .int .i64 x, .int .i64 y]] w fun e w' => ∃ A' c', e = .returned (.tuple #[.slice A' m.n c', .int .i64 0]) ∧ Below w.heap.size w w' ∧ Reads w' w'.heap.size 2 A' m.n (cells2 (remL m a b c d m.n)) := by
  have hn1 := hm.n1
  have hn2 := hm.n2
  have hl := (line_ok hE).1
  have hbd : (1 ≤ b * d ∧ b * d ≤ 1000000) := (rem_in hm hl (show 0 < m.n by omega)).1
  have HX := Lib.hid hx
  have HM := Lib.hid hm
  have HL := Lib.hid hl
  have HE := Lib.hid hE
  have HCK := Lib.hid hck
  have HBD := Lib.hid hbd
  clear hx hm hl hE hck hbd
  unfold Rm.val
  go_enter Try.func49, Try.ntmps49
  go_wp2_with fail
  generalize hwn : ((w.alloc (.cells #[.slice (some ⟨m.b1, m.o1, none⟩) m.n m.c1, .slice (some ⟨m.b2, m.o2, none⟩) m.n m.c2, .slice (some ⟨m.b3, m.o3, none⟩) m.n m.c3] 24)).alloc (.cells #[.int .i64 (a), .int .i64 (b), .int .i64 (c), .int .i64 (d), .int .i64 (x), .int .i64 (y)] 75)) = w1
  have hbn : Below w.heap.size w w1 := by rw [← hwn]; repeat' (first | exact Below.refl _ _ | refine below_drewN ?_ _ | refine Below.drew ?_ | refine Below.alloc ?_ (by first | omega | (simp; done) | (simp; omega) | (simp [World.setCell]; omega)) _ | refine Below.setCell ?_ (by first | omega | (simp; done) | (simp; omega)) _)
  have HB1 := Lib.hid (show Below w.heap.size w w1 from hbn)
  have K0_1 := Lib.hid (show Blk w1 (w.heap.size) 24 #[.slice (some ⟨m.b1, m.o1, none⟩) m.n m.c1, .slice (some ⟨m.b2, m.o2, none⟩) m.n m.c2, .slice (some ⟨m.b3, m.o3, none⟩) m.n m.c3] by rw [← hwn]; repeat' (first | exact Blk.at_ _ (by first | rfl | (simp; done) | (simp; omega)) _ _ | refine Blk.drewN ?_ _ | refine Blk.drew ?_ | refine Blk.alloc ?_ _ | refine Blk.far ?_ (by first | omega | (simp; done) | (simp; omega)) _ | assumption))
  have K1_1 := Lib.hid (show Blk w1 (w.heap.size + 1) 75 #[.int .i64 (a), .int .i64 (b), .int .i64 (c), .int .i64 (d), .int .i64 (x), .int .i64 (y)] by rw [← hwn]; repeat' (first | exact Blk.at_ _ (by first | rfl | (simp; done) | (simp; omega)) _ _ | refine Blk.drewN ?_ _ | refine Blk.drew ?_ | refine Blk.alloc ?_ _ | refine Blk.far ?_ (by first | omega | (simp; done) | (simp; omega)) _ | assumption))
  have HN1 := Lib.hid hbn
  have hz1 := hbn.size
  clear hwn hbn
  have l0_1 : w.heap.size < w1.heap.size := K0_1.out.lt
  have z0_0_1 : w1.cell? ⟨w.heap.size, 0, none⟩ = some (.slice (some ⟨m.b1, m.o1, none⟩) m.n m.c1) := K0_1.out.cell 0
  have z0_1_1 : w1.cell? ⟨w.heap.size, 1, none⟩ = some (.slice (some ⟨m.b2, m.o2, none⟩) m.n m.c2) := K0_1.out.cell 1
  have z0_2_1 : w1.cell? ⟨w.heap.size, 2, none⟩ = some (.slice (some ⟨m.b3, m.o3, none⟩) m.n m.c3) := K0_1.out.cell 2
  have l1_1 : w.heap.size + 1 < w1.heap.size := K1_1.out.lt
  have z1_0_1 : w1.cell? ⟨w.heap.size + 1, 0, none⟩ = some (.int .i64 (a)) := K1_1.out.cell 0
  have z1_1_1 : w1.cell? ⟨w.heap.size + 1, 1, none⟩ = some (.int .i64 (b)) := K1_1.out.cell 1
  have z1_2_1 : w1.cell? ⟨w.heap.size + 1, 2, none⟩ = some (.int .i64 (c)) := K1_1.out.cell 2
  have z1_3_1 : w1.cell? ⟨w.heap.size + 1, 3, none⟩ = some (.int .i64 (d)) := K1_1.out.cell 3
  have z1_4_1 : w1.cell? ⟨w.heap.size + 1, 4, none⟩ = some (.int .i64 (x)) := K1_1.out.cell 4
  have z1_5_1 : w1.cell? ⟨w.heap.size + 1, 5, none⟩ = some (.int .i64 (y)) := K1_1.out.cell 5
  refine (HCK.out w1 HB1.out).mono ?_
  rintro e w2 ⟨rfl, hb⟩
  have HB2 := Lib.hid (show Below w.heap.size w w2 from step_below hb (by repeat' (first | exact Below.refl _ _ | exact HB1.out | refine below_drewN ?_ _ | refine Below.drew ?_ | refine Below.alloc ?_ (by first | omega | (simp; done) | (simp; omega) | (simp [World.setCell]; omega)) _ | refine Below.setCell ?_ (by first | omega | (simp; done) | (simp; omega)) _ | assumption)))
  have K0_2 := Lib.hid (step_blk hb (show Blk _ (w.heap.size) 24 #[.slice (some ⟨m.b1, m.o1, none⟩) m.n m.c1, .slice (some ⟨m.b2, m.o2, none⟩) m.n m.c2, .slice (some ⟨m.b3, m.o3, none⟩) m.n m.c3] by repeat' (first | exact K0_1.out | exact K1_1.out | exact Blk.at_ _ (by first | rfl | (simp; done) | (simp; omega)) _ _ | refine Blk.drewN ?_ _ | refine Blk.drew ?_ | refine Blk.alloc ?_ _ | refine Blk.far ?_ (by first | omega | (simp; done) | (simp; omega)) _ | assumption)))
  have K1_2 := Lib.hid (step_blk hb (show Blk _ (w.heap.size + 1) 75 #[.int .i64 (a), .int .i64 (b), .int .i64 (c), .int .i64 (d), .int .i64 (x), .int .i64 (y)] by repeat' (first | exact K0_1.out | exact K1_1.out | exact Blk.at_ _ (by first | rfl | (simp; done) | (simp; omega)) _ _ | refine Blk.drewN ?_ _ | refine Blk.drew ?_ | refine Blk.alloc ?_ _ | refine Blk.far ?_ (by first | omega | (simp; done) | (simp; omega)) _ | assumption)))
  have hz2 := hb.size
  try simp only [World.size_alloc, World.drewN, World.drew] at hz2
  clear hb K0_1 K1_1 z0_0_1 z0_1_1 z0_2_1 l0_1 z1_0_1 z1_1_1 z1_2_1 z1_3_1 z1_4_1 z1_5_1 l1_1
  have l0_2 : w.heap.size < w2.heap.size := K0_2.out.lt
  have z0_0_2 : w2.cell? ⟨w.heap.size, 0, none⟩ = some (.slice (some ⟨m.b1, m.o1, none⟩) m.n m.c1) := K0_2.out.cell 0
  have z0_1_2 : w2.cell? ⟨w.heap.size, 1, none⟩ = some (.slice (some ⟨m.b2, m.o2, none⟩) m.n m.c2) := K0_2.out.cell 1
  have z0_2_2 : w2.cell? ⟨w.heap.size, 2, none⟩ = some (.slice (some ⟨m.b3, m.o3, none⟩) m.n m.c3) := K0_2.out.cell 2
  have l1_2 : w.heap.size + 1 < w2.heap.size := K1_2.out.lt
  have z1_0_2 : w2.cell? ⟨w.heap.size + 1, 0, none⟩ = some (.int .i64 (a)) := K1_2.out.cell 0
  have z1_1_2 : w2.cell? ⟨w.heap.size + 1, 1, none⟩ = some (.int .i64 (b)) := K1_2.out.cell 1
  have z1_2_2 : w2.cell? ⟨w.heap.size + 1, 2, none⟩ = some (.int .i64 (c)) := K1_2.out.cell 2
  have z1_3_2 : w2.cell? ⟨w.heap.size + 1, 3, none⟩ = some (.int .i64 (d)) := K1_2.out.cell 3
  have z1_4_2 : w2.cell? ⟨w.heap.size + 1, 4, none⟩ = some (.int .i64 (x)) := K1_2.out.cell 4
  have z1_5_2 : w2.cell? ⟨w.heap.size + 1, 5, none⟩ = some (.int .i64 (y)) := K1_2.out.cell 5
  go_wp2_with fail
  refine (checkline_is a b c d x y 0 HE.out ia ib ic id _).mono ?_
  rintro e w3 ⟨rfl, hb⟩
  have HB3 := Lib.hid (show Below w.heap.size w w3 from step_below hb (by repeat' (first | exact Below.refl _ _ | exact HB2.out | refine below_drewN ?_ _ | refine Below.drew ?_ | refine Below.alloc ?_ (by first | omega | (simp; done) | (simp; omega) | (simp [World.setCell]; omega)) _ | refine Below.setCell ?_ (by first | omega | (simp; done) | (simp; omega)) _ | assumption)))
  have K0_3 := Lib.hid (step_blk hb (show Blk _ (w.heap.size) 24 #[.slice (some ⟨m.b1, m.o1, none⟩) m.n m.c1, .slice (some ⟨m.b2, m.o2, none⟩) m.n m.c2, .slice (some ⟨m.b3, m.o3, none⟩) m.n m.c3] by repeat' (first | exact K0_2.out | exact K1_2.out | exact Blk.at_ _ (by first | rfl | (simp; done) | (simp; omega)) _ _ | refine Blk.drewN ?_ _ | refine Blk.drew ?_ | refine Blk.alloc ?_ _ | refine Blk.far ?_ (by first | omega | (simp; done) | (simp; omega)) _ | assumption)))
  have K1_3 := Lib.hid (step_blk hb (show Blk _ (w.heap.size + 1) 75 #[.int .i64 (a), .int .i64 (b), .int .i64 (c), .int .i64 (d), .int .i64 (x), .int .i64 (y)] by repeat' (first | exact K0_2.out | exact K1_2.out | exact Blk.at_ _ (by first | rfl | (simp; done) | (simp; omega)) _ _ | refine Blk.drewN ?_ _ | refine Blk.drew ?_ | refine Blk.alloc ?_ _ | refine Blk.far ?_ (by first | omega | (simp; done) | (simp; omega)) _ | assumption)))
  have hz3 := hb.size
  try simp only [World.size_alloc, World.drewN, World.drew] at hz3
  clear hb K0_2 K1_2 z0_0_2 z0_1_2 z0_2_2 l0_2 z1_0_2 z1_1_2 z1_2_2 z1_3_2 z1_4_2 z1_5_2 l1_2
  have l0_3 : w.heap.size < w3.heap.size := K0_3.out.lt
  have z0_0_3 : w3.cell? ⟨w.heap.size, 0, none⟩ = some (.slice (some ⟨m.b1, m.o1, none⟩) m.n m.c1) := K0_3.out.cell 0
  have z0_1_3 : w3.cell? ⟨w.heap.size, 1, none⟩ = some (.slice (some ⟨m.b2, m.o2, none⟩) m.n m.c2) := K0_3.out.cell 1
  have z0_2_3 : w3.cell? ⟨w.heap.size, 2, none⟩ = some (.slice (some ⟨m.b3, m.o3, none⟩) m.n m.c3) := K0_3.out.cell 2
  have l1_3 : w.heap.size + 1 < w3.heap.size := K1_3.out.lt
  have z1_0_3 : w3.cell? ⟨w.heap.size + 1, 0, none⟩ = some (.int .i64 (a)) := K1_3.out.cell 0
  have z1_1_3 : w3.cell? ⟨w.heap.size + 1, 1, none⟩ = some (.int .i64 (b)) := K1_3.out.cell 1
  have z1_2_3 : w3.cell? ⟨w.heap.size + 1, 2, none⟩ = some (.int .i64 (c)) := K1_3.out.cell 2
  have z1_3_3 : w3.cell? ⟨w.heap.size + 1, 3, none⟩ = some (.int .i64 (d)) := K1_3.out.cell 3
  have z1_4_3 : w3.cell? ⟨w.heap.size + 1, 4, none⟩ = some (.int .i64 (x)) := K1_3.out.cell 4
  have z1_5_3 : w3.cell? ⟨w.heap.size + 1, 5, none⟩ = some (.int .i64 (y)) := K1_3.out.cell 5
  go_wp2_with fail
  have hs1 := HB3.out.size
  have KA := K0_3
  have KB := K1_3
  go_loopw [8, 23] (fun v i wr => ∃ k : Nat, k ≤ m.n ∧ i = .int .i64 k ∧ Below w3.heap.size w3 wr ∧ wr.ownsRow w3.heap.size 28 2 v k (cells2 (remL m a b c d k))) (fun _ i _ => m.n - (intOf i).toNat)
  case atStart => exact ⟨0, by omega, rfl, Below.refl _ _, World.ownsRow_nil _ _ _ _⟩
  case round =>
    obtain ⟨k, hk, rfl, hb, ho⟩ := hrel
    obtain ⟨w4, hnm⟩ : ∃ z : World, z = wr := ⟨_, rfl⟩
    subst hnm
    have HBW := Lib.hid hb
    have HOW := Lib.hid ho
    have k0 := Blk.below KA.out hb KA.out.lt
    have k1 := Blk.below KB.out hb KB.out.lt
    have hb2 := HB3.out.trans (hb.mono HB3.out.size)
    clear hb ho
    have HB4 := Lib.hid hb2
    have K0_4 := Lib.hid (show Blk w4 (w.heap.size) 24 #[.slice (some ⟨m.b1, m.o1, none⟩) m.n m.c1, .slice (some ⟨m.b2, m.o2, none⟩) m.n m.c2, .slice (some ⟨m.b3, m.o3, none⟩) m.n m.c3] from k0)
    have K1_4 := Lib.hid (show Blk w4 (w.heap.size + 1) 75 #[.int .i64 (a), .int .i64 (b), .int .i64 (c), .int .i64 (d), .int .i64 (x), .int .i64 (y)] from k1)
    clear hb2 k0 k1
    have l0_4 : w.heap.size < w4.heap.size := K0_4.out.lt
    have z0_0_4 : w4.cell? ⟨w.heap.size, 0, none⟩ = some (.slice (some ⟨m.b1, m.o1, none⟩) m.n m.c1) := K0_4.out.cell 0
    have z0_1_4 : w4.cell? ⟨w.heap.size, 1, none⟩ = some (.slice (some ⟨m.b2, m.o2, none⟩) m.n m.c2) := K0_4.out.cell 1
    have z0_2_4 : w4.cell? ⟨w.heap.size, 2, none⟩ = some (.slice (some ⟨m.b3, m.o3, none⟩) m.n m.c3) := K0_4.out.cell 2
    have l1_4 : w.heap.size + 1 < w4.heap.size := K1_4.out.lt
    have z1_0_4 : w4.cell? ⟨w.heap.size + 1, 0, none⟩ = some (.int .i64 (a)) := K1_4.out.cell 0
    have z1_1_4 : w4.cell? ⟨w.heap.size + 1, 1, none⟩ = some (.int .i64 (b)) := K1_4.out.cell 1
    have z1_2_4 : w4.cell? ⟨w.heap.size + 1, 2, none⟩ = some (.int .i64 (c)) := K1_4.out.cell 2
    have z1_3_4 : w4.cell? ⟨w.heap.size + 1, 3, none⟩ = some (.int .i64 (d)) := K1_4.out.cell 3
    have z1_4_4 : w4.cell? ⟨w.heap.size + 1, 4, none⟩ = some (.int .i64 (x)) := K1_4.out.cell 4
    have z1_5_4 : w4.cell? ⟨w.heap.size + 1, 5, none⟩ = some (.int .i64 (y)) := K1_4.out.cell 5
    by_cases hlt : k < m.n
    rotate_left
    · obtain rfl : k = m.n := by omega
      obtain ⟨A6, c6, rfl, hr6⟩ := own_reads HOW.out
      have HR6 := Lib.hid hr6
      clear hr6
      go_wp2
      go_ret2
      exact ⟨A6, c6, rfl, by repeat' (first | exact Below.refl _ _ | exact HB4.out | refine below_drewN ?_ _ | refine Below.drew ?_ | refine Below.alloc ?_ (by first | omega | (simp; done) | (simp; omega) | (simp [World.setCell]; omega)) _ | refine Below.setCell ?_ (by first | omega | (simp; done) | (simp; omega)) _ | assumption), HR6.out⟩
    obtain ⟨r, hr⟩ : ∃ r, remN m a b c d k = r := ⟨_, rfl⟩
    obtain ⟨v, hv⟩ : ∃ v, b * d = v := ⟨_, rfl⟩
    obtain ⟨q0, q1, q2, q3, q4⟩ := rem_in HM.out HL.out hlt
    obtain ⟨u1, hu1⟩ : ∃ u, redN r v = u := ⟨_, rfl⟩
    obtain ⟨u2, hu2⟩ : ∃ u, redD r v = u := ⟨_, rfl⟩
    have g1 : -9223372036854775808 < r := by rw [← hr]; unfold remN; omega
    have g2 : r ≤ 9223372036854775807 := by rw [← hr]; unfold remN; omega
    have g3 : 1 ≤ v ∧ v ≤ 1000000 := by rw [← hv]; exact q0
    have hnx : cells2 (remL m a b c d (k + 1)) = cells2 (remL m a b c d k) ++ [.int .i64 u1, .int .i64 u2] := by
      rw [remL_succ, hr, hv, hu1, hu2]; simp [cells2]
    have HRR := Lib.hid hr
    have HV := Lib.hid hv
    have HU1 := Lib.hid hu1
    have HU2 := Lib.hid hu2
    have HNX := Lib.hid hnx
    have hkk : (k : Int) < (m.n : Int) := by omega
    clear hr hv hu1 hu2 hnx q0 q1 q2 q3 q4
    have HA4 := Lib.hid (show Below w4.heap.size w4 w4 from Below.refl _ _)
    go_wp2_with fail
    refine (removal_is m HM.out a b c d x y HL.out k hlt r v HRR.out HV.out _ (HX.out.lay HB4.out)).mono ?_
    rintro e w5 ⟨rfl, hb⟩
    have HB5 := Lib.hid (show Below w.heap.size w w5 from step_below hb (by repeat' (first | exact Below.refl _ _ | exact HB4.out | refine below_drewN ?_ _ | refine Below.drew ?_ | refine Below.alloc ?_ (by first | omega | (simp; done) | (simp; omega) | (simp [World.setCell]; omega)) _ | refine Below.setCell ?_ (by first | omega | (simp; done) | (simp; omega)) _ | assumption)))
    have K0_5 := Lib.hid (step_blk hb (show Blk _ (w.heap.size) 24 #[.slice (some ⟨m.b1, m.o1, none⟩) m.n m.c1, .slice (some ⟨m.b2, m.o2, none⟩) m.n m.c2, .slice (some ⟨m.b3, m.o3, none⟩) m.n m.c3] by repeat' (first | exact K0_4.out | exact K1_4.out | exact Blk.at_ _ (by first | rfl | (simp; done) | (simp; omega)) _ _ | refine Blk.drewN ?_ _ | refine Blk.drew ?_ | refine Blk.alloc ?_ _ | refine Blk.far ?_ (by first | omega | (simp; done) | (simp; omega)) _ | assumption)))
    have K1_5 := Lib.hid (step_blk hb (show Blk _ (w.heap.size + 1) 75 #[.int .i64 (a), .int .i64 (b), .int .i64 (c), .int .i64 (d), .int .i64 (x), .int .i64 (y)] by repeat' (first | exact K0_4.out | exact K1_4.out | exact Blk.at_ _ (by first | rfl | (simp; done) | (simp; omega)) _ _ | refine Blk.drewN ?_ _ | refine Blk.drew ?_ | refine Blk.alloc ?_ _ | refine Blk.far ?_ (by first | omega | (simp; done) | (simp; omega)) _ | assumption)))
    have HA5 := Lib.hid (step_below hb HA4.out)
    clear HA4
    have hz5 := hb.size
    try simp only [World.size_alloc, World.drewN, World.drew] at hz5
    clear hb K0_4 K1_4 z0_0_4 z0_1_4 z0_2_4 l0_4 z1_0_4 z1_1_4 z1_2_4 z1_3_4 z1_4_4 z1_5_4 l1_4
    have l0_5 : w.heap.size < w5.heap.size := K0_5.out.lt
    have z0_0_5 : w5.cell? ⟨w.heap.size, 0, none⟩ = some (.slice (some ⟨m.b1, m.o1, none⟩) m.n m.c1) := K0_5.out.cell 0
    have z0_1_5 : w5.cell? ⟨w.heap.size, 1, none⟩ = some (.slice (some ⟨m.b2, m.o2, none⟩) m.n m.c2) := K0_5.out.cell 1
    have z0_2_5 : w5.cell? ⟨w.heap.size, 2, none⟩ = some (.slice (some ⟨m.b3, m.o3, none⟩) m.n m.c3) := K0_5.out.cell 2
    have l1_5 : w.heap.size + 1 < w5.heap.size := K1_5.out.lt
    have z1_0_5 : w5.cell? ⟨w.heap.size + 1, 0, none⟩ = some (.int .i64 (a)) := K1_5.out.cell 0
    have z1_1_5 : w5.cell? ⟨w.heap.size + 1, 1, none⟩ = some (.int .i64 (b)) := K1_5.out.cell 1
    have z1_2_5 : w5.cell? ⟨w.heap.size + 1, 2, none⟩ = some (.int .i64 (c)) := K1_5.out.cell 2
    have z1_3_5 : w5.cell? ⟨w.heap.size + 1, 3, none⟩ = some (.int .i64 (d)) := K1_5.out.cell 3
    have z1_4_5 : w5.cell? ⟨w.heap.size + 1, 4, none⟩ = some (.int .i64 (x)) := K1_5.out.cell 4
    have z1_5_5 : w5.cell? ⟨w.heap.size + 1, 5, none⟩ = some (.int .i64 (y)) := K1_5.out.cell 5
    go_wp2_with fail
    refine (lowestfig_is r v u1 u2 HU1.out HU2.out _ g1 g2 g3.1 (by omega)).mono ?_
    rintro e w6 ⟨rfl, hb⟩
    have HB6 := Lib.hid (show Below w.heap.size w w6 from step_below hb (by repeat' (first | exact Below.refl _ _ | exact HB5.out | refine below_drewN ?_ _ | refine Below.drew ?_ | refine Below.alloc ?_ (by first | omega | (simp; done) | (simp; omega) | (simp [World.setCell]; omega)) _ | refine Below.setCell ?_ (by first | omega | (simp; done) | (simp; omega)) _ | assumption)))
    have K0_6 := Lib.hid (step_blk hb (show Blk _ (w.heap.size) 24 #[.slice (some ⟨m.b1, m.o1, none⟩) m.n m.c1, .slice (some ⟨m.b2, m.o2, none⟩) m.n m.c2, .slice (some ⟨m.b3, m.o3, none⟩) m.n m.c3] by repeat' (first | exact K0_5.out | exact K1_5.out | exact Blk.at_ _ (by first | rfl | (simp; done) | (simp; omega)) _ _ | refine Blk.drewN ?_ _ | refine Blk.drew ?_ | refine Blk.alloc ?_ _ | refine Blk.far ?_ (by first | omega | (simp; done) | (simp; omega)) _ | assumption)))
    have K1_6 := Lib.hid (step_blk hb (show Blk _ (w.heap.size + 1) 75 #[.int .i64 (a), .int .i64 (b), .int .i64 (c), .int .i64 (d), .int .i64 (x), .int .i64 (y)] by repeat' (first | exact K0_5.out | exact K1_5.out | exact Blk.at_ _ (by first | rfl | (simp; done) | (simp; omega)) _ _ | refine Blk.drewN ?_ _ | refine Blk.drew ?_ | refine Blk.alloc ?_ _ | refine Blk.far ?_ (by first | omega | (simp; done) | (simp; omega)) _ | assumption)))
    have HA6 := Lib.hid (step_below hb HA5.out)
    clear HA5
    have hz6 := hb.size
    try simp only [World.size_alloc, World.drewN, World.drew] at hz6
    clear hb K0_5 K1_5 z0_0_5 z0_1_5 z0_2_5 l0_5 z1_0_5 z1_1_5 z1_2_5 z1_3_5 z1_4_5 z1_5_5 l1_5
    have l0_6 : w.heap.size < w6.heap.size := K0_6.out.lt
    have z0_0_6 : w6.cell? ⟨w.heap.size, 0, none⟩ = some (.slice (some ⟨m.b1, m.o1, none⟩) m.n m.c1) := K0_6.out.cell 0
    have z0_1_6 : w6.cell? ⟨w.heap.size, 1, none⟩ = some (.slice (some ⟨m.b2, m.o2, none⟩) m.n m.c2) := K0_6.out.cell 1
    have z0_2_6 : w6.cell? ⟨w.heap.size, 2, none⟩ = some (.slice (some ⟨m.b3, m.o3, none⟩) m.n m.c3) := K0_6.out.cell 2
    have l1_6 : w.heap.size + 1 < w6.heap.size := K1_6.out.lt
    have z1_0_6 : w6.cell? ⟨w.heap.size + 1, 0, none⟩ = some (.int .i64 (a)) := K1_6.out.cell 0
    have z1_1_6 : w6.cell? ⟨w.heap.size + 1, 1, none⟩ = some (.int .i64 (b)) := K1_6.out.cell 1
    have z1_2_6 : w6.cell? ⟨w.heap.size + 1, 2, none⟩ = some (.int .i64 (c)) := K1_6.out.cell 2
    have z1_3_6 : w6.cell? ⟨w.heap.size + 1, 3, none⟩ = some (.int .i64 (d)) := K1_6.out.cell 3
    have z1_4_6 : w6.cell? ⟨w.heap.size + 1, 4, none⟩ = some (.int .i64 (x)) := K1_6.out.cell 4
    have z1_5_6 : w6.cell? ⟨w.heap.size + 1, 5, none⟩ = some (.int .i64 (y)) := K1_6.out.cell 5
    have hb46 : Below w4.heap.size w4 w6 := HA6.out
    have hbx : Below w3.heap.size w3 w6 := HBW.out.trans (hb46.mono HBW.out.size)
    have HO7 := Lib.hid (own_below HOW.out hb46 (Nat.le_refl _))
    obtain ⟨v', W2, hrun, ho2, hb2⟩ := snocfrac6_run w3.heap.size _ k _ u1 u2 w6 HO7.out hbx.size (by omega)
    have HRUN := Lib.hid hrun
    have HO2 := Lib.hid ho2
    have HBX := Lib.hid (hbx.trans hb2)
    clear hrun ho2 hb2 hbx hb46
    go_wp2_with (first | (at_builtin; refine wpList_app _ W2 v' rfl _ _ _ rfl _ _ rfl rfl HRUN.out ?_))
    go_roundw
    case rel => exact ⟨k + 1, by omega, by go_num, HBX.out, by rw [HNX.out]; exact HO2.out⟩
    case measure => simp [intOf]; omega

end Go.Proofs.Ytnepjgnnppfibaa

end

section
/- The walk of the statement on lines of least removal. -/
namespace Go.Proofs.Ytnepjgnnppfibaa
open Go Go.RowKit

theorem LikeM.rem {m x : Rm} (h : LikeM m x) (a b c d : Int) (z : Nat) : remN x a b c d z = remN m a b c d z := by unfold remN; rw [h.h, h.q]
theorem LikeM.remL {m x : Rm} (h : LikeM m x) (a b c d : Int) (k : Nat) : remL x a b c d k = Go.Proofs.Ytnepjgnnppfibaa.remL m a b c d k := by
  unfold Go.Proofs.Ytnepjgnnppfibaa.remL
  simp only [h.rem a b c d]
/-- What is known of copies of a map. -/
def PfM3 (n1 n2 n3 : Nat) (l1 l2 l3 : List Int) (i : Nat) (x : Pick3) (w : World) : Prop := i = 1 → Reads w w.heap.size 1 x.1.1 n1 (l1.map (.int .i64)) ∧ Reads w w.heap.size 1 x.2.1.1 n2 (l2.map (.int .i64)) ∧ Reads w w.heap.size 1 x.2.2.1 n3 (l3.map (.int .i64))
theorem PfM3.stb {n1 n2 n3 : Nat} {l1 l2 l3 : List Int} : StbT (PfM3 n1 n2 n3 l1 l2 l3) := fun _ _ _ _ hb h e => ⟨((h e).1.below hb).more hb.size, ((h e).2.1.below hb).more hb.size, ((h e).2.2.below hb).more hb.size⟩
/-- What is known of a copy of a right map, and of removals. -/
def PfMR (m : Rm) (n : Nat) (L : List (Int × Int)) (i : Nat) (x : Rm × Pick) (w : World) : Prop := (i = 1 → CopyM m x.1 w) ∧ (i = 3 → Reads w w.heap.size 2 x.2.1 n (cells2 L))
theorem PfMR.stb {m : Rm} {n : Nat} {L : List (Int × Int)} : StbT (PfMR m n L) := fun _ _ _ _ hb h => ⟨fun e => (h.1 e).lay hb, fun e => ((h.2 e).below hb).more hb.size⟩

theorem rems_copy {m x : Rm} (hm : m.Ok) {n : Nat} (hn : m.n = n) (a b c d u v : Int) (hE : lineErr a b c d = 0) (ia : I64 a) (ib : I64 b) (ic : I64 c) (jd : I64 d) (w : World) (hx : CopyM m x w) :
    Calls Try.prog 49 #[x.val, .agg #[.int .i64 a, .int .i64 b, .int .i64 c, .int .i64 d, .int .i64 u, .int .i64 v]] w fun e w' => ∃ A' c', e = .returned (.tuple #[.slice A' n c', .int .i64 0]) ∧ Below w.heap.size w w' ∧ Reads w' w'.heap.size 2 A' n (cells2 (remL m a b c d m.n)) := by
  have h := rems_is x (hx.like.ok hm) a b c d u v hE ia ib ic jd w hx.at_ hx.ck
  rw [hx.like.n, hx.like.remL, hn] at h
  rw [hn]
  exact h

end Go.Proofs.Ytnepjgnnppfibaa

end

section
/- Plain law of the least sum: whole parts first. -/
namespace Go.Proofs.Ytnepjgnnppfibaa
open Go.RowKit

theorem floor_parts {s d n v : Int} (hd : 0 < d) (hv : 0 < v) (h : n * d ≤ s * v) : n / v < s / d ∨ (n / v = s / d ∧ (n - n / v * v) * d ≤ (s - s / d * d) * v) := by
  have a1 := Int.mul_ediv_self_le (x := s) (k := d) (by omega)
  have a2 := Int.lt_mul_ediv_self_add (x := s) (k := d) (by omega)
  have b1 := Int.mul_ediv_self_le (x := n) (k := v) (by omega)
  have b2 := Int.lt_mul_ediv_self_add (x := n) (k := v) (by omega)
  generalize s / d = p at *
  generalize n / v = q at *
  rcases Int.lt_trichotomy q p with h1 | h1 | h1
  · exact .inl h1
  · subst h1
    refine .inr ⟨rfl, ?_⟩
    have e1 : (n - q * v) * d = n * d - q * v * d := by grind
    have e2 : (s - q * d) * v = s * v - q * v * d := by grind
    rw [e1, e2]; omega
  · exfalso
    have c1 : (p + 1) * d ≤ q * d := Int.mul_le_mul_of_nonneg_right (by omega) (by omega)
    have c2 : s < q * d := by
      have : (p + 1) * d = d * p + d := by grind
      omega
    have c3 : s * v < q * d * v := Int.mul_lt_mul_of_pos_right c2 hv
    have c4 : q * v * d ≤ n * d := Int.mul_le_mul_of_nonneg_right (by rw [Int.mul_comm]; exact b1) (by omega)
    have c5 : q * d * v = q * v * d := by grind
    omega
/-- The numerator times what is missing of the denominator. -/
theorem red_back {r v : Int} (hv : 1 ≤ v) : redN r v * v.tdiv (redD r v) = r ∧ 1 ≤ redD r v ∧ redD r v ≤ v ∧ 1 ≤ v.tdiv (redD r v) ∧ v.tdiv (redD r v) ≤ v := by
  have hg0 : 0 < Int.gcd r v := Int.gcd_pos_of_ne_zero_right r (by omega)
  have hg : 0 < (Int.gcd r v : Int) := by exact_mod_cast hg0
  obtain ⟨p, hp⟩ := Int.gcd_dvd_left r v
  obtain ⟨q, hq⟩ := Int.gcd_dvd_right r v
  have e1 : redN r v = p := by unfold redN; exact Int.ediv_eq_of_eq_mul_right (by omega) hp
  have e2 : redD r v = q := by unfold redD; exact Int.ediv_eq_of_eq_mul_right (by omega) hq
  rw [e1, e2]
  generalize (Int.gcd r v : Int) = g at *
  have hq0 : 0 < q := by
    rw [hq, Int.mul_comm] at hv
    exact Int.pos_of_mul_pos_left (by omega) hg
  have h3 : v.tdiv q = g := by rw [hq]; exact Int.mul_tdiv_cancel _ (by omega)
  rw [h3]
  have h4 : q * 1 ≤ q * g := Int.mul_le_mul_of_nonneg_left (by omega) (by omega)
  have h5 : g * 1 ≤ g * q := Int.mul_le_mul_of_nonneg_left (by omega) (by omega)
  refine ⟨by rw [hp, Int.mul_comm], by omega, by rw [hq, Int.mul_comm g q]; omega, by omega, by rw [hq]; omega⟩
end Go.Proofs.Ytnepjgnnppfibaa

end
