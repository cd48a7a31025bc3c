import Derived.Test.YtclnffpfbngjoaaQ15
import Derived.Test.YtclnffpfbngjoaaQ21

section
/- The contract of the reference's check of a tour. -/
namespace Go.Proofs.Ytclnffpfbngjoaa
open Go Go.RowKit

theorem any_snoc {l : List Tgt} {j : Nat} {u : Tgt} {s : ByteArray} (h : (l.take j).any (sameN s) = false) (hu : l[j]? = some u) (hn : sameN s u = false) : (l.take (j + 1)).any (sameN s) = false := by
  rw [List.take_add_one, hu, List.any_append, h]
  simp [hn]
theorem any_hit {l : List Tgt} {j k : Nat} {u : Tgt} {s : ByteArray} (hj : j < k) (hu : l[j]? = some u) (hn : sameN s u = true) : (l.take k).any (sameN s) = true :=
  List.any_eq_true.2 ⟨u, List.mem_of_getElem? (by rw [List.getElem?_take, if_pos hj]; exact hu), hn⟩

set_option maxRecDepth 100000 in
set_option maxHeartbeats 4000000 in
theorem rtour_is (m : Mnt) (day pos : Int) (l : List Tgt) (A : Option Addr) (n c : Nat) (i0 E0 : Int) (hT0 : tourF m l day pos = (i0, E0)) (w : World) (hx : MntAt m w) (hl : Reads w w.heap.size 6 A n (tgtCells l)) (hn : n ≤ 9223372036854775807) (hfit : ∀ t ∈ l, t.name.size ≤ maxLen) :
    Calls Try.prog 9 #[m.val, .slice A n c, .agg #[.int .i64 day, .int .i64 pos]] w fun e w' => e = .returned (.tuple #[.int .i64 i0, .int .i64 E0]) ∧ Below w.heap.size w w' := by
  have hll := hl.tlen
  have HX := Lib.hid hx
  have HL := Lib.hid hl
  have HLL := Lib.hid hll
  have HT0 := Lib.hid hT0
  clear hx hl hll hT0
  obtain ⟨e1, he1⟩ : ∃ z, mntErr m = z := ⟨_, rfl⟩
  have H1 := Lib.hid he1
  clear he1
  unfold Mnt.val
  by_cases h1 : e1 = 0
  rotate_left
  · have hb : (e1 != 0) = true := by simpa using h1
    have hT : (i0, E0) = (0, e1) := by rw [← HT0.out]; unfold tourF; rw [H1.out, if_pos h1]
    obtain ⟨rfl, rfl⟩ : i0 = 0 ∧ E0 = e1 := by simpa using hT
    clear hT
    go_enter Try.func9, Try.ntmps9
    go_wp2_with fail
    refine (rmount_is m E0 H1.out _ (HX.out.lay (by repeat' (first | exact Below.refl _ _ | refine below_drewN ?_ _ | refine Below.drew ?_ | refine Below.alloc ?_ (by first | omega | (simp; done) | (simp; omega) | (simp [World.setCell]; omega)) _ | refine Below.setCell ?_ (by first | omega | (simp; done) | (simp; omega)) _)))).mono ?_
    rintro e w1 ⟨rfl, hb⟩
    have HB1 := Lib.hid (show Below w.heap.size w w1 from step_below hb (by repeat' (first | exact Below.refl _ _ | exact HB0.out | refine below_drewN ?_ _ | refine Below.drew ?_ | refine Below.alloc ?_ (by first | omega | (simp; done) | (simp; omega) | (simp [World.setCell]; omega)) _ | refine Below.setCell ?_ (by first | omega | (simp; done) | (simp; omega)) _ | assumption)))
    have K0_1 := Lib.hid (step_blk hb (show Blk _ (w.heap.size) 24 #[.int .i64 (m.ls), .int .i64 (m.ms), .int .i64 (m.lo), .int .i64 (m.hi), .int .i64 (m.sp), .slice m.A1 m.n1 m.c1, .slice m.A2 m.n2 m.c2] by repeat' (first | exact Blk.at_ _ (by first | rfl | (simp; done) | (simp; omega)) _ _ | refine Blk.drewN ?_ _ | refine Blk.drew ?_ | refine Blk.alloc ?_ _ | refine Blk.far ?_ (by first | omega | (simp; done) | (simp; omega)) _ | assumption)))
    have K1_1 := Lib.hid (step_blk hb (show Blk _ (w.heap.size + 1) 26 #[.int .i64 (day), .int .i64 (pos)] by repeat' (first | exact Blk.at_ _ (by first | rfl | (simp; done) | (simp; omega)) _ _ | refine Blk.drewN ?_ _ | refine Blk.drew ?_ | refine Blk.alloc ?_ _ | refine Blk.far ?_ (by first | omega | (simp; done) | (simp; omega)) _ | assumption)))
    have hz1 := hb.size
    try simp only [World.size_alloc, World.drewN, World.drew] at hz1
    clear hb
    have l0_1 : w.heap.size < w1.heap.size := K0_1.out.lt
    have z0_0_1 : w1.cell? ⟨w.heap.size, 0, none⟩ = some (.int .i64 (m.ls)) := K0_1.out.cell 0
    have z0_1_1 : w1.cell? ⟨w.heap.size, 1, none⟩ = some (.int .i64 (m.ms)) := K0_1.out.cell 1
    have z0_2_1 : w1.cell? ⟨w.heap.size, 2, none⟩ = some (.int .i64 (m.lo)) := K0_1.out.cell 2
    have z0_3_1 : w1.cell? ⟨w.heap.size, 3, none⟩ = some (.int .i64 (m.hi)) := K0_1.out.cell 3
    have z0_4_1 : w1.cell? ⟨w.heap.size, 4, none⟩ = some (.int .i64 (m.sp)) := K0_1.out.cell 4
    have z0_5_1 : w1.cell? ⟨w.heap.size, 5, none⟩ = some (.slice m.A1 m.n1 m.c1) := K0_1.out.cell 5
    have z0_6_1 : w1.cell? ⟨w.heap.size, 6, none⟩ = some (.slice m.A2 m.n2 m.c2) := K0_1.out.cell 6
    have l1_1 : w.heap.size + 1 < w1.heap.size := K1_1.out.lt
    have z1_0_1 : w1.cell? ⟨w.heap.size + 1, 0, none⟩ = some (.int .i64 (day)) := K1_1.out.cell 0
    have z1_1_1 : w1.cell? ⟨w.heap.size + 1, 1, none⟩ = some (.int .i64 (pos)) := K1_1.out.cell 1
    go_wp2
    go_ret2
    exact ⟨rfl, HB1.out⟩
  subst h1
  cases hw2 : withinB day 0 100000
  · have H2 := Lib.hid hw2
    have hT : (i0, E0) = (0, 2) := by rw [← HT0.out]; unfold tourF; rw [H1.out, if_neg (by simp)]; simp [dayErr, hw2]
    obtain ⟨rfl, rfl⟩ : i0 = 0 ∧ E0 = 2 := by simpa using hT
    clear hT hw2
    go_enter Try.func9, Try.ntmps9
    go_wp2_with fail
    refine (rmount_is m 0 H1.out _ (HX.out.lay (by repeat' (first | exact Below.refl _ _ | refine below_drewN ?_ _ | refine Below.drew ?_ | refine Below.alloc ?_ (by first | omega | (simp; done) | (simp; omega) | (simp [World.setCell]; omega)) _ | refine Below.setCell ?_ (by first | omega | (simp; done) | (simp; omega)) _)))).mono ?_
    rintro e w1 ⟨rfl, hb⟩
    have HB1 := Lib.hid (show Below w.heap.size w w1 from step_below hb (by repeat' (first | exact Below.refl _ _ | exact HB0.out | refine below_drewN ?_ _ | refine Below.drew ?_ | refine Below.alloc ?_ (by first | omega | (simp; done) | (simp; omega) | (simp [World.setCell]; omega)) _ | refine Below.setCell ?_ (by first | omega | (simp; done) | (simp; omega)) _ | assumption)))
    have K0_1 := Lib.hid (step_blk hb (show Blk _ (w.heap.size) 24 #[.int .i64 (m.ls), .int .i64 (m.ms), .int .i64 (m.lo), .int .i64 (m.hi), .int .i64 (m.sp), .slice m.A1 m.n1 m.c1, .slice m.A2 m.n2 m.c2] by repeat' (first | exact Blk.at_ _ (by first | rfl | (simp; done) | (simp; omega)) _ _ | refine Blk.drewN ?_ _ | refine Blk.drew ?_ | refine Blk.alloc ?_ _ | refine Blk.far ?_ (by first | omega | (simp; done) | (simp; omega)) _ | assumption)))
    have K1_1 := Lib.hid (step_blk hb (show Blk _ (w.heap.size + 1) 26 #[.int .i64 (day), .int .i64 (pos)] by repeat' (first | exact Blk.at_ _ (by first | rfl | (simp; done) | (simp; omega)) _ _ | refine Blk.drewN ?_ _ | refine Blk.drew ?_ | refine Blk.alloc ?_ _ | refine Blk.far ?_ (by first | omega | (simp; done) | (simp; omega)) _ | assumption)))
    have hz1 := hb.size
    try simp only [World.size_alloc, World.drewN, World.drew] at hz1
    clear hb
    have l0_1 : w.heap.size < w1.heap.size := K0_1.out.lt
    have z0_0_1 : w1.cell? ⟨w.heap.size, 0, none⟩ = some (.int .i64 (m.ls)) := K0_1.out.cell 0
    have z0_1_1 : w1.cell? ⟨w.heap.size, 1, none⟩ = some (.int .i64 (m.ms)) := K0_1.out.cell 1
    have z0_2_1 : w1.cell? ⟨w.heap.size, 2, none⟩ = some (.int .i64 (m.lo)) := K0_1.out.cell 2
    have z0_3_1 : w1.cell? ⟨w.heap.size, 3, none⟩ = some (.int .i64 (m.hi)) := K0_1.out.cell 3
    have z0_4_1 : w1.cell? ⟨w.heap.size, 4, none⟩ = some (.int .i64 (m.sp)) := K0_1.out.cell 4
    have z0_5_1 : w1.cell? ⟨w.heap.size, 5, none⟩ = some (.slice m.A1 m.n1 m.c1) := K0_1.out.cell 5
    have z0_6_1 : w1.cell? ⟨w.heap.size, 6, none⟩ = some (.slice m.A2 m.n2 m.c2) := K0_1.out.cell 6
    have l1_1 : w.heap.size + 1 < w1.heap.size := K1_1.out.lt
    have z1_0_1 : w1.cell? ⟨w.heap.size + 1, 0, none⟩ = some (.int .i64 (day)) := K1_1.out.cell 0
    have z1_1_1 : w1.cell? ⟨w.heap.size + 1, 1, none⟩ = some (.int .i64 (pos)) := K1_1.out.cell 1
    go_wp2_with fail
    refine (isday_is day false H2.out _).mono ?_
    rintro e w' ⟨rfl, rfl⟩
    go_wp2
    go_ret2
    exact ⟨rfl, HB1.out⟩
  have hd0 : dayErr day = 0 := by simp [dayErr, hw2]
  have H2 := Lib.hid hw2
  have HD := Lib.hid hd0
  clear hw2 hd0
  cases hw : withinB pos m.ls m.ms
  · have HW := Lib.hid hw
    have hT : (i0, E0) = (0, 2) := by rw [← HT0.out]; unfold tourF; rw [H1.out, if_neg (by simp), HD.out, if_neg (by simp), if_pos hw]
    obtain ⟨rfl, rfl⟩ : i0 = 0 ∧ E0 = 2 := by simpa using hT
    clear hT hw
    go_enter Try.func9, Try.ntmps9
    go_wp2_with fail
    refine (rmount_is m 0 H1.out _ (HX.out.lay (by repeat' (first | exact Below.refl _ _ | refine below_drewN ?_ _ | refine Below.drew ?_ | refine Below.alloc ?_ (by first | omega | (simp; done) | (simp; omega) | (simp [World.setCell]; omega)) _ | refine Below.setCell ?_ (by first | omega | (simp; done) | (simp; omega)) _)))).mono ?_
    rintro e w1 ⟨rfl, hb⟩
    have HB1 := Lib.hid (show Below w.heap.size w w1 from step_below hb (by repeat' (first | exact Below.refl _ _ | exact HB0.out | refine below_drewN ?_ _ | refine Below.drew ?_ | refine Below.alloc ?_ (by first | omega | (simp; done) | (simp; omega) | (simp [World.setCell]; omega)) _ | refine Below.setCell ?_ (by first | omega | (simp; done) | (simp; omega)) _ | assumption)))
    have K0_1 := Lib.hid (step_blk hb (show Blk _ (w.heap.size) 24 #[.int .i64 (m.ls), .int .i64 (m.ms), .int .i64 (m.lo), .int .i64 (m.hi), .int .i64 (m.sp), .slice m.A1 m.n1 m.c1, .slice m.A2 m.n2 m.c2] by repeat' (first | exact Blk.at_ _ (by first | rfl | (simp; done) | (simp; omega)) _ _ | refine Blk.drewN ?_ _ | refine Blk.drew ?_ | refine Blk.alloc ?_ _ | refine Blk.far ?_ (by first | omega | (simp; done) | (simp; omega)) _ | assumption)))
    have K1_1 := Lib.hid (step_blk hb (show Blk _ (w.heap.size + 1) 26 #[.int .i64 (day), .int .i64 (pos)] by repeat' (first | exact Blk.at_ _ (by first | rfl | (simp; done) | (simp; omega)) _ _ | refine Blk.drewN ?_ _ | refine Blk.drew ?_ | refine Blk.alloc ?_ _ | refine Blk.far ?_ (by first | omega | (simp; done) | (simp; omega)) _ | assumption)))
    have hz1 := hb.size
    try simp only [World.size_alloc, World.drewN, World.drew] at hz1
    clear hb
    have l0_1 : w.heap.size < w1.heap.size := K0_1.out.lt
    have z0_0_1 : w1.cell? ⟨w.heap.size, 0, none⟩ = some (.int .i64 (m.ls)) := K0_1.out.cell 0
    have z0_1_1 : w1.cell? ⟨w.heap.size, 1, none⟩ = some (.int .i64 (m.ms)) := K0_1.out.cell 1
    have z0_2_1 : w1.cell? ⟨w.heap.size, 2, none⟩ = some (.int .i64 (m.lo)) := K0_1.out.cell 2
    have z0_3_1 : w1.cell? ⟨w.heap.size, 3, none⟩ = some (.int .i64 (m.hi)) := K0_1.out.cell 3
    have z0_4_1 : w1.cell? ⟨w.heap.size, 4, none⟩ = some (.int .i64 (m.sp)) := K0_1.out.cell 4
    have z0_5_1 : w1.cell? ⟨w.heap.size, 5, none⟩ = some (.slice m.A1 m.n1 m.c1) := K0_1.out.cell 5
    have z0_6_1 : w1.cell? ⟨w.heap.size, 6, none⟩ = some (.slice m.A2 m.n2 m.c2) := K0_1.out.cell 6
    have l1_1 : w.heap.size + 1 < w1.heap.size := K1_1.out.lt
    have z1_0_1 : w1.cell? ⟨w.heap.size + 1, 0, none⟩ = some (.int .i64 (day)) := K1_1.out.cell 0
    have z1_1_1 : w1.cell? ⟨w.heap.size + 1, 1, none⟩ = some (.int .i64 (pos)) := K1_1.out.cell 1
    go_wp2_with fail
    refine (isday_is day true H2.out _).mono ?_
    rintro e w' ⟨rfl, rfl⟩
    go_wp2_with fail
    refine (withinref_is _ _ _ false HW.out _).mono ?_
    rintro e w' ⟨rfl, rfl⟩
    go_wp2
    go_ret2
    exact ⟨rfl, HB1.out⟩
  have HW := Lib.hid hw
  have HTF : Hid (tourF m l day pos = if 20 < l.length then (0, 8) else firstStep (stepErr m day l) 0 l) := by show _ = _; unfold tourF; rw [H1.out, if_neg (by simp), HD.out, if_neg (by simp), if_neg (by rw [hw]; simp)]
  clear hw
  by_cases h20 : 20 < n
  · have hT : (i0, E0) = (0, 8) := by rw [← HT0.out, HTF.out, if_pos (by rw [HLL.out]; exact h20)]
    obtain ⟨rfl, rfl⟩ : i0 = 0 ∧ E0 = 8 := by simpa using hT
    have hd : (20 : Int) < (n : Int) := by omega
    clear hT HTF
    go_enter Try.func9, Try.ntmps9
    go_wp2_with fail
    refine (rmount_is m 0 H1.out _ (HX.out.lay (by repeat' (first | exact Below.refl _ _ | refine below_drewN ?_ _ | refine Below.drew ?_ | refine Below.alloc ?_ (by first | omega | (simp; done) | (simp; omega) | (simp [World.setCell]; omega)) _ | refine Below.setCell ?_ (by first | omega | (simp; done) | (simp; omega)) _)))).mono ?_
    rintro e w1 ⟨rfl, hb⟩
    have HB1 := Lib.hid (show Below w.heap.size w w1 from step_below hb (by repeat' (first | exact Below.refl _ _ | exact HB0.out | refine below_drewN ?_ _ | refine Below.drew ?_ | refine Below.alloc ?_ (by first | omega | (simp; done) | (simp; omega) | (simp [World.setCell]; omega)) _ | refine Below.setCell ?_ (by first | omega | (simp; done) | (simp; omega)) _ | assumption)))
    have K0_1 := Lib.hid (step_blk hb (show Blk _ (w.heap.size) 24 #[.int .i64 (m.ls), .int .i64 (m.ms), .int .i64 (m.lo), .int .i64 (m.hi), .int .i64 (m.sp), .slice m.A1 m.n1 m.c1, .slice m.A2 m.n2 m.c2] by repeat' (first | exact Blk.at_ _ (by first | rfl | (simp; done) | (simp; omega)) _ _ | refine Blk.drewN ?_ _ | refine Blk.drew ?_ | refine Blk.alloc ?_ _ | refine Blk.far ?_ (by first | omega | (simp; done) | (simp; omega)) _ | assumption)))
    have K1_1 := Lib.hid (step_blk hb (show Blk _ (w.heap.size + 1) 26 #[.int .i64 (day), .int .i64 (pos)] by repeat' (first | exact Blk.at_ _ (by first | rfl | (simp; done) | (simp; omega)) _ _ | refine Blk.drewN ?_ _ | refine Blk.drew ?_ | refine Blk.alloc ?_ _ | refine Blk.far ?_ (by first | omega | (simp; done) | (simp; omega)) _ | assumption)))
    have hz1 := hb.size
    try simp only [World.size_alloc, World.drewN, World.drew] at hz1
    clear hb
    have l0_1 : w.heap.size < w1.heap.size := K0_1.out.lt
    have z0_0_1 : w1.cell? ⟨w.heap.size, 0, none⟩ = some (.int .i64 (m.ls)) := K0_1.out.cell 0
    have z0_1_1 : w1.cell? ⟨w.heap.size, 1, none⟩ = some (.int .i64 (m.ms)) := K0_1.out.cell 1
    have z0_2_1 : w1.cell? ⟨w.heap.size, 2, none⟩ = some (.int .i64 (m.lo)) := K0_1.out.cell 2
    have z0_3_1 : w1.cell? ⟨w.heap.size, 3, none⟩ = some (.int .i64 (m.hi)) := K0_1.out.cell 3
    have z0_4_1 : w1.cell? ⟨w.heap.size, 4, none⟩ = some (.int .i64 (m.sp)) := K0_1.out.cell 4
    have z0_5_1 : w1.cell? ⟨w.heap.size, 5, none⟩ = some (.slice m.A1 m.n1 m.c1) := K0_1.out.cell 5
    have z0_6_1 : w1.cell? ⟨w.heap.size, 6, none⟩ = some (.slice m.A2 m.n2 m.c2) := K0_1.out.cell 6
    have l1_1 : w.heap.size + 1 < w1.heap.size := K1_1.out.lt
    have z1_0_1 : w1.cell? ⟨w.heap.size + 1, 0, none⟩ = some (.int .i64 (day)) := K1_1.out.cell 0
    have z1_1_1 : w1.cell? ⟨w.heap.size + 1, 1, none⟩ = some (.int .i64 (pos)) := K1_1.out.cell 1
    go_wp2_with fail
    refine (isday_is day true H2.out _).mono ?_
    rintro e w' ⟨rfl, rfl⟩
    go_wp2_with fail
    refine (withinref_is _ _ _ true HW.out _).mono ?_
    rintro e w' ⟨rfl, rfl⟩
    go_wp2
    go_ret2
    exact ⟨rfl, HB1.out⟩
  have HT : Hid (firstStep (stepErr m day l) 0 l = (i0, E0)) := by show _ = _; rw [← HT0.out, HTF.out, if_neg (by rw [HLL.out]; exact h20)]
  clear HTF HT0
  go_enter Try.func9, Try.ntmps9
  go_wp2_with fail
  refine (rmount_is m 0 H1.out _ (HX.out.lay (by repeat' (first | exact Below.refl _ _ | refine below_drewN ?_ _ | refine Below.drew ?_ | refine Below.alloc ?_ (by first | omega | (simp; done) | (simp; omega) | (simp [World.setCell]; omega)) _ | refine Below.setCell ?_ (by first | omega | (simp; done) | (simp; omega)) _)))).mono ?_
  rintro e w1 ⟨rfl, hb⟩
  have HB1 := Lib.hid (show Below w.heap.size w w1 from step_below hb (by repeat' (first | exact Below.refl _ _ | exact HB0.out | refine below_drewN ?_ _ | refine Below.drew ?_ | refine Below.alloc ?_ (by first | omega | (simp; done) | (simp; omega) | (simp [World.setCell]; omega)) _ | refine Below.setCell ?_ (by first | omega | (simp; done) | (simp; omega)) _ | assumption)))
  have K0_1 := Lib.hid (step_blk hb (show Blk _ (w.heap.size) 24 #[.int .i64 (m.ls), .int .i64 (m.ms), .int .i64 (m.lo), .int .i64 (m.hi), .int .i64 (m.sp), .slice m.A1 m.n1 m.c1, .slice m.A2 m.n2 m.c2] by repeat' (first | exact Blk.at_ _ (by first | rfl | (simp; done) | (simp; omega)) _ _ | refine Blk.drewN ?_ _ | refine Blk.drew ?_ | refine Blk.alloc ?_ _ | refine Blk.far ?_ (by first | omega | (simp; done) | (simp; omega)) _ | assumption)))
  have K1_1 := Lib.hid (step_blk hb (show Blk _ (w.heap.size + 1) 26 #[.int .i64 (day), .int .i64 (pos)] by repeat' (first | exact Blk.at_ _ (by first | rfl | (simp; done) | (simp; omega)) _ _ | refine Blk.drewN ?_ _ | refine Blk.drew ?_ | refine Blk.alloc ?_ _ | refine Blk.far ?_ (by first | omega | (simp; done) | (simp; omega)) _ | assumption)))
  have hz1 := hb.size
  try simp only [World.size_alloc, World.drewN, World.drew] at hz1
  clear hb
  have l0_1 : w.heap.size < w1.heap.size := K0_1.out.lt
  have z0_0_1 : w1.cell? ⟨w.heap.size, 0, none⟩ = some (.int .i64 (m.ls)) := K0_1.out.cell 0
  have z0_1_1 : w1.cell? ⟨w.heap.size, 1, none⟩ = some (.int .i64 (m.ms)) := K0_1.out.cell 1
  have z0_2_1 : w1.cell? ⟨w.heap.size, 2, none⟩ = some (.int .i64 (m.lo)) := K0_1.out.cell 2
  have z0_3_1 : w1.cell? ⟨w.heap.size, 3, none⟩ = some (.int .i64 (m.hi)) := K0_1.out.cell 3
  have z0_4_1 : w1.cell? ⟨w.heap.size, 4, none⟩ = some (.int .i64 (m.sp)) := K0_1.out.cell 4
  have z0_5_1 : w1.cell? ⟨w.heap.size, 5, none⟩ = some (.slice m.A1 m.n1 m.c1) := K0_1.out.cell 5
  have z0_6_1 : w1.cell? ⟨w.heap.size, 6, none⟩ = some (.slice m.A2 m.n2 m.c2) := K0_1.out.cell 6
  have l1_1 : w.heap.size + 1 < w1.heap.size := K1_1.out.lt
  have z1_0_1 : w1.cell? ⟨w.heap.size + 1, 0, none⟩ = some (.int .i64 (day)) := K1_1.out.cell 0
  have z1_1_1 : w1.cell? ⟨w.heap.size + 1, 1, none⟩ = some (.int .i64 (pos)) := K1_1.out.cell 1
  go_wp2_with fail
  refine (isday_is day true H2.out _).mono ?_
  rintro e w' ⟨rfl, rfl⟩
  go_wp2_with fail
  refine (withinref_is _ _ _ true HW.out _).mono ?_
  rintro e w' ⟨rfl, rfl⟩
  go_wp2
  go_loopw [9] (fun i wr => ∃ k : Nat, k ≤ n ∧ i = .int .i64 k ∧ Below w1.heap.size w1 wr ∧ (∀ j t, j < k → l[j]? = some t → stepErr m day l j t = 0)) (fun i _ => n - (intOf i).toNat)
  case atStart => exact ⟨0, by omega, rfl, by repeat' (first | exact Below.refl _ _ | refine below_drewN ?_ _ | refine Below.drew ?_ | refine Below.alloc ?_ (by first | omega | (simp; done) | (simp; omega) | (simp [World.setCell]; omega)) _ | refine Below.setCell ?_ (by first | omega | (simp; done) | (simp; omega)) _), fun j t hj => absurd hj (by omega)⟩
  case round =>
    obtain ⟨k, hk, rfl, hb, hpre⟩ := hrel
    obtain ⟨w2, hnm⟩ : ∃ z : World, z = wr := ⟨_, rfl⟩
    subst hnm
    have hk0 := Blk.below K0_1.out hb l0_1
    have hk1 := Blk.below K1_1.out hb l1_1
    have hb' := HB1.out.trans (hb.mono HB1.out.size)
    have hrd := (HL.out.below hb').more hb'.size
    have hxm := HX.out.lay hb'
    have HBR := Lib.hid hb
    have HPRE := Lib.hid hpre
    clear hb hpre
    have HB2 := Lib.hid hb'
    have K0_2 := Lib.hid (show Blk w2 (w.heap.size) 24 #[.int .i64 (m.ls), .int .i64 (m.ms), .int .i64 (m.lo), .int .i64 (m.hi), .int .i64 (m.sp), .slice m.A1 m.n1 m.c1, .slice m.A2 m.n2 m.c2] from hk0)
    have K1_2 := Lib.hid (show Blk w2 (w.heap.size + 1) 26 #[.int .i64 (day), .int .i64 (pos)] from hk1)
    clear hb' hk0 hk1
    have l0_2 : w.heap.size < w2.heap.size := K0_2.out.lt
    have z0_0_2 : w2.cell? ⟨w.heap.size, 0, none⟩ = some (.int .i64 (m.ls)) := K0_2.out.cell 0
    have z0_1_2 : w2.cell? ⟨w.heap.size, 1, none⟩ = some (.int .i64 (m.ms)) := K0_2.out.cell 1
    have z0_2_2 : w2.cell? ⟨w.heap.size, 2, none⟩ = some (.int .i64 (m.lo)) := K0_2.out.cell 2
    have z0_3_2 : w2.cell? ⟨w.heap.size, 3, none⟩ = some (.int .i64 (m.hi)) := K0_2.out.cell 3
    have z0_4_2 : w2.cell? ⟨w.heap.size, 4, none⟩ = some (.int .i64 (m.sp)) := K0_2.out.cell 4
    have z0_5_2 : w2.cell? ⟨w.heap.size, 5, none⟩ = some (.slice m.A1 m.n1 m.c1) := K0_2.out.cell 5
    have z0_6_2 : w2.cell? ⟨w.heap.size, 6, none⟩ = some (.slice m.A2 m.n2 m.c2) := K0_2.out.cell 6
    have l1_2 : w.heap.size + 1 < w2.heap.size := K1_2.out.lt
    have z1_0_2 : w2.cell? ⟨w.heap.size + 1, 0, none⟩ = some (.int .i64 (day)) := K1_2.out.cell 0
    have z1_1_2 : w2.cell? ⟨w.heap.size + 1, 1, none⟩ = some (.int .i64 (pos)) := K1_2.out.cell 1
    by_cases hlt : k < n
    rotate_left
    · have hkn : n = k := by omega
      subst hkn
      have hz : (i0, E0) = (0, 0) := by
        rw [← HT.out]
        exact firstStep_all fun j t hj ht => HPRE.out j t (by rw [← HLL.out]; exact hj) ht
      obtain ⟨rfl, rfl⟩ : i0 = 0 ∧ E0 = 0 := by simpa using hz
      clear hz hrd hxm
      go_wp2
      go_ret2
      exact ⟨rfl, HB2.out⟩
    obtain ⟨xb, xo, t, rfl, hxb, ht, c0, c1, c2, c3, c4, c5⟩ := hrd.tgt hlt
    have htl := hfit t (List.mem_of_getElem? ht)
    have HTT := Lib.hid ht
    have hkk : (k : Int) < (n : Int) := by omega
    obtain ⟨E1, hE1⟩ : ∃ z, tgtErr t = z := ⟨_, rfl⟩
    have HE1 := Lib.hid hE1
    have C0_2 := Lib.hid c0
    have C1_2 := Lib.hid c1
    have C2_2 := Lib.hid c2
    have C3_2 := Lib.hid c3
    have C4_2 := Lib.hid c4
    have C5_2 := Lib.hid c5
    have R0_2 := Lib.hid hrd
    clear hrd
    have R1_2 := Lib.hid hxm
    clear hxm
    clear ht hE1
    go_wp2_with fail
    clear c0 c1 c2 c3 c4 c5
    have HA2 := Lib.hid (show Below w2.heap.size w2 w2 from Below.refl _ _)
    refine (rtarget_is t E1 HE1.out _ htl).mono ?_
    rintro e w3 ⟨rfl, hb⟩
    have HB3 := Lib.hid (show Below w.heap.size w w3 from step_below hb (by repeat' (first | exact Below.refl _ _ | exact HB2.out | refine below_drewN ?_ _ | refine Below.drew ?_ | refine Below.alloc ?_ (by first | omega | (simp; done) | (simp; omega) | (simp [World.setCell]; omega)) _ | refine Below.setCell ?_ (by first | omega | (simp; done) | (simp; omega)) _ | assumption)))
    have K0_3 := Lib.hid (step_blk hb (show Blk _ (w.heap.size) 24 #[.int .i64 (m.ls), .int .i64 (m.ms), .int .i64 (m.lo), .int .i64 (m.hi), .int .i64 (m.sp), .slice m.A1 m.n1 m.c1, .slice m.A2 m.n2 m.c2] by repeat' (first | exact K0_2.out | exact K1_2.out | exact Blk.at_ _ (by first | rfl | (simp; done) | (simp; omega)) _ _ | refine Blk.drewN ?_ _ | refine Blk.drew ?_ | refine Blk.alloc ?_ _ | refine Blk.far ?_ (by first | omega | (simp; done) | (simp; omega)) _ | assumption)))
    have K1_3 := Lib.hid (step_blk hb (show Blk _ (w.heap.size + 1) 26 #[.int .i64 (day), .int .i64 (pos)] by repeat' (first | exact K0_2.out | exact K1_2.out | exact Blk.at_ _ (by first | rfl | (simp; done) | (simp; omega)) _ _ | refine Blk.drewN ?_ _ | refine Blk.drew ?_ | refine Blk.alloc ?_ _ | refine Blk.far ?_ (by first | omega | (simp; done) | (simp; omega)) _ | assumption)))
    have C0_3 := Lib.hid (step_cell hb (show World.cell? _ ⟨xb, xo + k * 6, none⟩ = some (.string t.name) by first | exact C0_2.out | go_simp) (by have := hxb; first | omega | (simp; omega)))
    have C1_3 := Lib.hid (step_cell hb (show World.cell? _ ⟨xb, xo + k * 6 + 1, none⟩ = some (.int .i64 (t.az)) by first | exact C1_2.out | go_simp) (by have := hxb; first | omega | (simp; omega)))
    have C2_3 := Lib.hid (step_cell hb (show World.cell? _ ⟨xb, xo + k * 6 + 2, none⟩ = some (.int .i64 (t.ht)) by first | exact C2_2.out | go_simp) (by have := hxb; first | omega | (simp; omega)))
    have C3_3 := Lib.hid (step_cell hb (show World.cell? _ ⟨xb, xo + k * 6 + 3, none⟩ = some (.int .i64 (t.fr)) by first | exact C3_2.out | go_simp) (by have := hxb; first | omega | (simp; omega)))
    have C4_3 := Lib.hid (step_cell hb (show World.cell? _ ⟨xb, xo + k * 6 + 4, none⟩ = some (.int .i64 (t.to)) by first | exact C4_2.out | go_simp) (by have := hxb; first | omega | (simp; omega)))
    have C5_3 := Lib.hid (step_cell hb (show World.cell? _ ⟨xb, xo + k * 6 + 5, none⟩ = some (.int .i64 (t.dw)) by first | exact C5_2.out | go_simp) (by have := hxb; first | omega | (simp; omega)))
    have hL3 := Lib.hid (show Below w2.heap.size w2 _ from reads_mid hb (by repeat' (first | exact Below.refl _ _ | refine below_drewN ?_ _ | refine Below.drew ?_ | refine Below.alloc ?_ (by first | omega | (simp; done) | (simp; omega) | (simp [World.setCell]; omega)) _ | refine Below.setCell ?_ (by first | omega | (simp; done) | (simp; omega)) _)))
    have R0_3 := Lib.hid (reads_lay hb hL3.out R0_2.out)
    have R1_3 := Lib.hid (mnt_lay hb hL3.out R1_2.out)
    clear hL3 R0_2 R1_2
    have HA3 := Lib.hid (step_below hb HA2.out)
    clear HA2
    have hz3 := hb.size
    try simp only [World.size_alloc, World.drewN, World.drew] at hz3
    clear hb K0_2 K1_2 z0_0_2 z0_1_2 z0_2_2 z0_3_2 z0_4_2 z0_5_2 z0_6_2 l0_2 z1_0_2 z1_1_2 l1_2
    have l0_3 : w.heap.size < w3.heap.size := K0_3.out.lt
    have z0_0_3 : w3.cell? ⟨w.heap.size, 0, none⟩ = some (.int .i64 (m.ls)) := K0_3.out.cell 0
    have z0_1_3 : w3.cell? ⟨w.heap.size, 1, none⟩ = some (.int .i64 (m.ms)) := K0_3.out.cell 1
    have z0_2_3 : w3.cell? ⟨w.heap.size, 2, none⟩ = some (.int .i64 (m.lo)) := K0_3.out.cell 2
    have z0_3_3 : w3.cell? ⟨w.heap.size, 3, none⟩ = some (.int .i64 (m.hi)) := K0_3.out.cell 3
    have z0_4_3 : w3.cell? ⟨w.heap.size, 4, none⟩ = some (.int .i64 (m.sp)) := K0_3.out.cell 4
    have z0_5_3 : w3.cell? ⟨w.heap.size, 5, none⟩ = some (.slice m.A1 m.n1 m.c1) := K0_3.out.cell 5
    have z0_6_3 : w3.cell? ⟨w.heap.size, 6, none⟩ = some (.slice m.A2 m.n2 m.c2) := K0_3.out.cell 6
    have l1_3 : w.heap.size + 1 < w3.heap.size := K1_3.out.lt
    have z1_0_3 : w3.cell? ⟨w.heap.size + 1, 0, none⟩ = some (.int .i64 (day)) := K1_3.out.cell 0
    have z1_1_3 : w3.cell? ⟨w.heap.size + 1, 1, none⟩ = some (.int .i64 (pos)) := K1_3.out.cell 1
    by_cases h1 : E1 = 0
    rotate_left
    · have hne : nextErr (l.take k) t = E1 := by unfold nextErr; rw [HE1.out, if_pos h1]
      have hs : stepErr m day l k t = E1 := by unfold stepErr; rw [hne, if_pos h1]
      have hz : (i0, E0) = ((k : Int), E1) := by rw [← HT.out, firstStep_stop HPRE.out HTT.out (by rw [hs]; exact h1), hs]
      obtain ⟨rfl, rfl⟩ : i0 = k ∧ E0 = E1 := by simpa using hz
      have hb1 : (E0 != 0) = true := by simpa using h1
      clear hne hs hz
      go_wp2
      go_ret2
      exact ⟨rfl, HB3.out⟩
    subst h1
    go_wp2
    go_loopw [11] (fun i wr => ∃ j : Nat, j ≤ k ∧ i = .int .i64 j ∧ Below w3.heap.size w3 wr ∧ (l.take j).any (sameN t.name) = false) (fun i _ => k - (intOf i).toNat)
    case atStart => exact ⟨0, by omega, rfl, by repeat' (first | exact Below.refl _ _ | refine below_drewN ?_ _ | refine Below.drew ?_ | refine Below.alloc ?_ (by first | omega | (simp; done) | (simp; omega) | (simp [World.setCell]; omega)) _ | refine Below.setCell ?_ (by first | omega | (simp; done) | (simp; omega)) _), rfl⟩
    case round =>
      obtain ⟨j, hj, rfl, hb, hany⟩ := hrel
      obtain ⟨w4, hnm⟩ : ∃ z : World, z = wr := ⟨_, rfl⟩
      subst hnm
      have HANY := Lib.hid hany
      by_cases hjk : j < k
      · obtain ⟨yb, yo, u, hA, -, hu, d0, -⟩ := ((R0_3.out.below hb).more hb.size).tgt (show j < n by omega)
        obtain ⟨rfl, rfl⟩ : xb = yb ∧ xo = yo := by simpa using hA
        have c0 := (hb.cell (p := ⟨xb, xo + k * 6, none⟩) (by show xb < _; omega)).trans C0_3.out
        have HU := Lib.hid hu
        have HBJ := Lib.hid hb
        have hjj : (j : Int) < (k : Int) := by omega
        have hjn : (j : Int) < (n : Int) := by omega
        clear hA hu hany hb
        cases hs : sameN t.name u
        · have e : (u.name.toList == t.name.toList) = false := by
            have h : ¬ u.name = t.name := by simpa [sameN] using hs
            exact beq_eq_false_iff_ne.2 (fun e => h (toList_inj e))
          have HS := Lib.hid hs
          clear hs
          go_wp2
          go_quiet (fail)
          go_wp2
          go_roundw
          case rel => exact ⟨j + 1, by omega, by go_num, below_drewN HBJ.out _, any_snoc HANY.out HU.out HS.out⟩
          case measure => simp [intOf]; omega
        · have e : (u.name.toList == t.name.toList) = true := by
            have h : u.name = t.name := by simpa [sameN] using hs
            rw [h]; simp
          have hne : nextErr (l.take k) t = 5 := by unfold nextErr; rw [HE1.out, if_neg (by simp), if_pos (any_hit hjk HU.out hs)]
          have hs5 : stepErr m day l k t = 5 := by unfold stepErr; rw [hne, if_pos (by decide)]
          have hz : (i0, E0) = ((k : Int), 5) := by rw [← HT.out, firstStep_stop HPRE.out HTT.out (by rw [hs5]; decide), hs5]
          obtain ⟨rfl, rfl⟩ : i0 = k ∧ E0 = 5 := by simpa using hz
          clear hne hs5 hz hs
          go_wp2
          go_quiet (fail)
          go_wp2
          go_ret2
          exact ⟨rfl, below_drewN (HB3.out.trans (HBJ.out.mono HB3.out.size)) _⟩
      obtain rfl : k = j := by omega
      have hne : nextErr (l.take k) t = 0 := by unfold nextErr; rw [HE1.out, if_neg (by simp), if_neg (by rw [HANY.out]; simp)]
      have HNE := Lib.hid hne
      clear hne hany
      go_wp2
      obtain ⟨X, Y, hA⟩ : ∃ X Y, appF m t day = (X, Y) := ⟨_, _, rfl⟩
      obtain ⟨L, F, hTA⟩ : ∃ L F, turnsAt m X Y = (L, F) := ⟨_, _, rfl⟩
      obtain ⟨q, hq⟩ : ∃ q, L.length = q := ⟨_, rfl⟩
      have hF : stepErr m day l k t = F := by unfold stepErr turnsF; rw [HNE.out, if_neg (by simp), hA, hTA]
      have HA := Lib.hid hA
      have HTA := Lib.hid hTA
      have HQ := Lib.hid hq
      have HF := Lib.hid hF
      clear hA hTA hq hF
      have HB4 := Lib.hid (show Below w.heap.size w w4 from step_below hb (by repeat' (first | exact Below.refl _ _ | exact HB3.out | refine below_drewN ?_ _ | refine Below.drew ?_ | refine Below.alloc ?_ (by first | omega | (simp; done) | (simp; omega) | (simp [World.setCell]; omega)) _ | refine Below.setCell ?_ (by first | omega | (simp; done) | (simp; omega)) _ | assumption)))
      have K0_4 := Lib.hid (step_blk hb (show Blk _ (w.heap.size) 24 #[.int .i64 (m.ls), .int .i64 (m.ms), .int .i64 (m.lo), .int .i64 (m.hi), .int .i64 (m.sp), .slice m.A1 m.n1 m.c1, .slice m.A2 m.n2 m.c2] by repeat' (first | exact K0_3.out | exact K1_3.out | exact Blk.at_ _ (by first | rfl | (simp; done) | (simp; omega)) _ _ | refine Blk.drewN ?_ _ | refine Blk.drew ?_ | refine Blk.alloc ?_ _ | refine Blk.far ?_ (by first | omega | (simp; done) | (simp; omega)) _ | assumption)))
      have K1_4 := Lib.hid (step_blk hb (show Blk _ (w.heap.size + 1) 26 #[.int .i64 (day), .int .i64 (pos)] by repeat' (first | exact K0_3.out | exact K1_3.out | exact Blk.at_ _ (by first | rfl | (simp; done) | (simp; omega)) _ _ | refine Blk.drewN ?_ _ | refine Blk.drew ?_ | refine Blk.alloc ?_ _ | refine Blk.far ?_ (by first | omega | (simp; done) | (simp; omega)) _ | assumption)))
      have C0_4 := Lib.hid (step_cell hb (show World.cell? _ ⟨xb, xo + k * 6, none⟩ = some (.string t.name) by first | exact C0_3.out | go_simp) (by have := hxb; first | omega | (simp; omega)))
      have C1_4 := Lib.hid (step_cell hb (show World.cell? _ ⟨xb, xo + k * 6 + 1, none⟩ = some (.int .i64 (t.az)) by first | exact C1_3.out | go_simp) (by have := hxb; first | omega | (simp; omega)))
      have C2_4 := Lib.hid (step_cell hb (show World.cell? _ ⟨xb, xo + k * 6 + 2, none⟩ = some (.int .i64 (t.ht)) by first | exact C2_3.out | go_simp) (by have := hxb; first | omega | (simp; omega)))
      have C3_4 := Lib.hid (step_cell hb (show World.cell? _ ⟨xb, xo + k * 6 + 3, none⟩ = some (.int .i64 (t.fr)) by first | exact C3_3.out | go_simp) (by have := hxb; first | omega | (simp; omega)))
      have C4_4 := Lib.hid (step_cell hb (show World.cell? _ ⟨xb, xo + k * 6 + 4, none⟩ = some (.int .i64 (t.to)) by first | exact C4_3.out | go_simp) (by have := hxb; first | omega | (simp; omega)))
      have C5_4 := Lib.hid (step_cell hb (show World.cell? _ ⟨xb, xo + k * 6 + 5, none⟩ = some (.int .i64 (t.dw)) by first | exact C5_3.out | go_simp) (by have := hxb; first | omega | (simp; omega)))
      have hL4 := Lib.hid (show Below w3.heap.size w3 _ from reads_mid hb (by repeat' (first | exact Below.refl _ _ | refine below_drewN ?_ _ | refine Below.drew ?_ | refine Below.alloc ?_ (by first | omega | (simp; done) | (simp; omega) | (simp [World.setCell]; omega)) _ | refine Below.setCell ?_ (by first | omega | (simp; done) | (simp; omega)) _)))
      have R0_4 := Lib.hid (reads_lay hb hL4.out R0_3.out)
      have R1_4 := Lib.hid (mnt_lay hb hL4.out R1_3.out)
      clear hL4 R0_3 R1_3
      have HA4 := Lib.hid (step_below hb HA3.out)
      clear HA3
      have hz4 := hb.size
      try simp only [World.size_alloc, World.drewN, World.drew] at hz4
      clear hb K0_3 K1_3 z0_0_3 z0_1_3 z0_2_3 z0_3_3 z0_4_3 z0_5_3 z0_6_3 l0_3 z1_0_3 z1_1_3 l1_3
      have l0_4 : w.heap.size < w4.heap.size := K0_4.out.lt
      have z0_0_4 : w4.cell? ⟨w.heap.size, 0, none⟩ = some (.int .i64 (m.ls)) := K0_4.out.cell 0
      have z0_1_4 : w4.cell? ⟨w.heap.size, 1, none⟩ = some (.int .i64 (m.ms)) := K0_4.out.cell 1
      have z0_2_4 : w4.cell? ⟨w.heap.size, 2, none⟩ = some (.int .i64 (m.lo)) := K0_4.out.cell 2
      have z0_3_4 : w4.cell? ⟨w.heap.size, 3, none⟩ = some (.int .i64 (m.hi)) := K0_4.out.cell 3
      have z0_4_4 : w4.cell? ⟨w.heap.size, 4, none⟩ = some (.int .i64 (m.sp)) := K0_4.out.cell 4
      have z0_5_4 : w4.cell? ⟨w.heap.size, 5, none⟩ = some (.slice m.A1 m.n1 m.c1) := K0_4.out.cell 5
      have z0_6_4 : w4.cell? ⟨w.heap.size, 6, none⟩ = some (.slice m.A2 m.n2 m.c2) := K0_4.out.cell 6
      have l1_4 : w.heap.size + 1 < w4.heap.size := K1_4.out.lt
      have z1_0_4 : w4.cell? ⟨w.heap.size + 1, 0, none⟩ = some (.int .i64 (day)) := K1_4.out.cell 0
      have z1_1_4 : w4.cell? ⟨w.heap.size + 1, 1, none⟩ = some (.int .i64 (pos)) := K1_4.out.cell 1
      refine Fx.regionM (fun W g f w' => Kp (PfT m 0 [] 0 [] 97 99 98) W g w') (fun i (x : Pick2) => .tuple #[.slice x.1.1 q x.1.2, .int .i64 F]) (by kernel_rfl) ?_ ?_
      · intro f hf0
        exact Kp.start
      first
      | (refine Fx.WM.skip 0 (by rfl) (by kernel_rfl) (by kernel_rfl) (by kernel_rfl) (by rfl) (fun g f w h => h) ?_; simp only [Act.put, List.setIfInBounds_toArray, List.set_cons_zero, List.set_cons_succ])
      | (refine Fx.WM.val_ 0 ?_ (by rfl) (by kernel_rfl) (by kernel_rfl) (by kernel_rfl) (by rfl) ?_ (fun g f w h => h) ?_
         rotate_left
         · intro g f w' hx hD hk
           obtain hkp := id hD
           have y0_0 := (K0_4.out.below hkp.bel l0_4).cell 0
           have y0_1 := (K0_4.out.below hkp.bel l0_4).cell 1
           have y0_2 := (K0_4.out.below hkp.bel l0_4).cell 2
           have y0_3 := (K0_4.out.below hkp.bel l0_4).cell 3
           have y0_4 := (K0_4.out.below hkp.bel l0_4).cell 4
           have y0_5 := (K0_4.out.below hkp.bel l0_4).cell 5
           have y0_6 := (K0_4.out.below hkp.bel l0_4).cell 6
           clear hx hk hD hkp
           go_simp
           try rfl
         simp only [Act.put, List.setIfInBounds_toArray, List.set_cons_zero, List.set_cons_succ])
      first
      | (refine Fx.WM.skip 1 (by rfl) (by kernel_rfl) (by kernel_rfl) (by kernel_rfl) (by rfl) (fun g f w h => h) ?_; simp only [Act.put, List.setIfInBounds_toArray, List.set_cons_zero, List.set_cons_succ])
      | (refine Fx.WM.val_ 1 ?_ (by rfl) (by kernel_rfl) (by kernel_rfl) (by kernel_rfl) (by rfl) ?_ (fun g f w h => h) ?_
         rotate_left
         · intro g f w' hx hD hk
           obtain hkp := id hD
           clear hx hk hD hkp
           go_simp
           try rfl
         simp only [Act.put, List.setIfInBounds_toArray, List.set_cons_zero, List.set_cons_succ])
      first
      | (refine Fx.WM.skip 2 (by rfl) (by kernel_rfl) (by kernel_rfl) (by kernel_rfl) (by rfl) (fun g f w h => h) ?_; simp only [Act.put, List.setIfInBounds_toArray, List.set_cons_zero, List.set_cons_succ])
      | (refine Fx.WM.val_ 2 ?_ (by rfl) (by kernel_rfl) (by kernel_rfl) (by kernel_rfl) (by rfl) ?_ (fun g f w h => h) ?_
         rotate_left
         · intro g f w' hx hD hk
           obtain hkp := id hD
           clear hx hk hD hkp
           go_simp
           try rfl
         simp only [Act.put, List.setIfInBounds_toArray, List.set_cons_zero, List.set_cons_succ])
      first
      | (refine Fx.WM.skip 3 (by rfl) (by kernel_rfl) (by kernel_rfl) (by kernel_rfl) (by rfl) (fun g f w h => h) ?_; simp only [Act.put, List.setIfInBounds_toArray, List.set_cons_zero, List.set_cons_succ])
      | (refine Fx.WM.val_ 3 ?_ (by rfl) (by kernel_rfl) (by kernel_rfl) (by kernel_rfl) (by rfl) ?_ (fun g f w h => h) ?_
         rotate_left
         · intro g f w' hx hD hk
           obtain hkp := id hD
           clear hx hk hD hkp
           go_simp
           try rfl
         simp only [Act.put, List.setIfInBounds_toArray, List.set_cons_zero, List.set_cons_succ])
      first
      | (refine Fx.WM.skip 4 (by rfl) (by kernel_rfl) (by kernel_rfl) (by kernel_rfl) (by rfl) (fun g f w h => h) ?_; simp only [Act.put, List.setIfInBounds_toArray, List.set_cons_zero, List.set_cons_succ])
      | (refine Fx.WM.val_ 4 ?_ (by rfl) (by kernel_rfl) (by kernel_rfl) (by kernel_rfl) (by rfl) ?_ (fun g f w h => h) ?_
         rotate_left
         · intro g f w' hx hD hk
           obtain hkp := id hD
           have yc0 := (hkp.bel.cell (p := ⟨xb, xo + k * 6, none⟩) (by have := hxb; show xb < _; omega)).trans C0_4.out
           have yc1 := (hkp.bel.cell (p := ⟨xb, xo + k * 6 + 1, none⟩) (by have := hxb; show xb < _; omega)).trans C1_4.out
           have yc2 := (hkp.bel.cell (p := ⟨xb, xo + k * 6 + 2, none⟩) (by have := hxb; show xb < _; omega)).trans C2_4.out
           have yc3 := (hkp.bel.cell (p := ⟨xb, xo + k * 6 + 3, none⟩) (by have := hxb; show xb < _; omega)).trans C3_4.out
           have yc4 := (hkp.bel.cell (p := ⟨xb, xo + k * 6 + 4, none⟩) (by have := hxb; show xb < _; omega)).trans C4_4.out
           have yc5 := (hkp.bel.cell (p := ⟨xb, xo + k * 6 + 5, none⟩) (by have := hxb; show xb < _; omega)).trans C5_4.out
           clear hx hk hD hkp
           go_simp
           try rfl
         simp only [Act.put, List.setIfInBounds_toArray, List.set_cons_zero, List.set_cons_succ])
      first
      | (refine Fx.WM.skip 5 (by rfl) (by kernel_rfl) (by kernel_rfl) (by kernel_rfl) (by rfl) (fun g f w h => h) ?_; simp only [Act.put, List.setIfInBounds_toArray, List.set_cons_zero, List.set_cons_succ])
      | (refine Fx.WM.val_ 5 ?_ (by rfl) (by kernel_rfl) (by kernel_rfl) (by kernel_rfl) (by rfl) ?_ (fun g f w h => h) ?_
         rotate_left
         · intro g f w' hx hD hk
           obtain hkp := id hD
           have y1_0 := (K1_4.out.below hkp.bel l1_4).cell 0
           have y1_1 := (K1_4.out.below hkp.bel l1_4).cell 1
           clear hx hk hD hkp
           go_simp
           try rfl
         simp only [Act.put, List.setIfInBounds_toArray, List.set_cons_zero, List.set_cons_succ])
      first
      | (refine Fx.WM.skip 6 (by rfl) (by kernel_rfl) (by kernel_rfl) (by kernel_rfl) (by rfl) (fun g f w h => h) ?_; simp only [Act.put, List.setIfInBounds_toArray, List.set_cons_zero, List.set_cons_succ])
      | (refine Fx.WM.val_ 6 ?_ (by rfl) (by kernel_rfl) (by kernel_rfl) (by kernel_rfl) (by rfl) ?_ (fun g f w h => h) ?_
         rotate_left
         · intro g f w' hx hD hk
           obtain hkp := id hD
           have y1_0 := (K1_4.out.below hkp.bel l1_4).cell 0
           have y1_1 := (K1_4.out.below hkp.bel l1_4).cell 1
           clear hx hk hD hkp
           go_simp
           try rfl
         simp only [Act.put, List.setIfInBounds_toArray, List.set_cons_zero, List.set_cons_succ])
      refine Fx.WM.choose 7 (by rfl) (by kernel_rfl) (by rfl) ?_ ?_
      · skip
        refine Fx.Chooses.call ?_ ?_ (by rfl) ?_ ?_
        rotate_left 2
        · intro w'
          go_simp
          refine ⟨?_, ?_⟩ <;> rfl
        · intro f w' hD hk
          exact (rturns_is m t day X Y L F q HA.out HTA.out HQ.out w' (R1_4.out.lay hD.bel) H1.out HE1.out HD.out).mono fun e w'' ⟨A', c', he, hb, hr⟩ => ⟨((A', c'), (none, 0)), he, hD.choose PfT.stb hb 7 _ ⟨fun e => absurd e (by decide), fun e => absurd e (by decide), fun e => absurd e (by decide)⟩⟩
      intro x
      simp only [Act.put, List.setIfInBounds_toArray, List.set_cons_zero, List.set_cons_succ]
      first
      | (refine Fx.WM.skip 8 (by rfl) (by kernel_rfl) (by kernel_rfl) (by kernel_rfl) (by rfl) (fun g f w h => h) ?_; simp only [Act.put, List.setIfInBounds_toArray, List.set_cons_zero, List.set_cons_succ])
      | (refine Fx.WM.val_ 8 ?_ (by rfl) (by kernel_rfl) (by kernel_rfl) (by kernel_rfl) (by rfl) ?_ (fun g f w h => h) ?_
         rotate_left
         · intro g f w' hx hD hk
           obtain hkp := id hD
           clear hx hk hD hkp
           go_simp
           try rfl
         simp only [Act.put, List.setIfInBounds_toArray, List.set_cons_zero, List.set_cons_succ])
      first
      | (refine Fx.WM.skip 9 (by rfl) (by kernel_rfl) (by kernel_rfl) (by kernel_rfl) (by rfl) (fun g f w h => h) ?_; simp only [Act.put, List.setIfInBounds_toArray, List.set_cons_zero, List.set_cons_succ])
      | (refine Fx.WM.val_ 9 ?_ (by rfl) (by kernel_rfl) (by kernel_rfl) (by kernel_rfl) (by rfl) ?_ (fun g f w h => h) ?_
         rotate_left
         · intro g f w' hx hD hk
           obtain hkp := id hD
           clear hx hk hD hkp
           go_simp
           try rfl
         simp only [Act.put, List.setIfInBounds_toArray, List.set_cons_zero, List.set_cons_succ])
      first
      | (refine Fx.WM.skip 10 (by rfl) (by kernel_rfl) (by kernel_rfl) (by kernel_rfl) (by rfl) (fun g f w h => h) ?_; simp only [Act.put, List.setIfInBounds_toArray, List.set_cons_zero, List.set_cons_succ])
      | (refine Fx.WM.val_ 10 ?_ (by rfl) (by kernel_rfl) (by kernel_rfl) (by kernel_rfl) (by rfl) ?_ (fun g f w h => h) ?_
         rotate_left
         · intro g f w' hx hD hk
           obtain hkp := id hD
           clear hx hk hD hkp
           go_simp
           try rfl
         simp only [Act.put, List.setIfInBounds_toArray, List.set_cons_zero, List.set_cons_succ])
      first
      | (refine Fx.WM.skip 11 (by rfl) (by kernel_rfl) (by kernel_rfl) (by kernel_rfl) (by rfl) (fun g f w h => h) ?_; simp only [Act.put, List.setIfInBounds_toArray, List.set_cons_zero, List.set_cons_succ])
      | (refine Fx.WM.val_ 11 ?_ (by rfl) (by kernel_rfl) (by kernel_rfl) (by kernel_rfl) (by rfl) ?_ (fun g f w h => h) ?_
         rotate_left
         · intro g f w' hx hD hk
           obtain hkp := id hD
           clear hx hk hD hkp
           go_simp
           try rfl
         simp only [Act.put, List.setIfInBounds_toArray, List.set_cons_zero, List.set_cons_succ])
      first
      | (refine Fx.WM.skip 12 (by rfl) (by kernel_rfl) (by kernel_rfl) (by kernel_rfl) (by rfl) (fun g f w h => h) ?_; simp only [Act.put, List.setIfInBounds_toArray, List.set_cons_zero, List.set_cons_succ])
      | (refine Fx.WM.val_ 12 ?_ (by rfl) (by kernel_rfl) (by kernel_rfl) (by kernel_rfl) (by rfl) ?_ (fun g f w h => h) ?_
         rotate_left
         · intro g f w' hx hD hk
           obtain hkp := id hD
           clear hx hk hD hkp
           go_simp
           try rfl
         simp only [Act.put, List.setIfInBounds_toArray, List.set_cons_zero, List.set_cons_succ])
      refine Fx.WM.nil (by kernel_rfl) ?_
      intro wz hkp
      have hb := hkp.bel
      clear hkp
      obtain ⟨w5, hnm⟩ : ∃ z : World, z = wz := ⟨_, rfl⟩
      subst hnm
      have HBX := Lib.hid (HBR.out.trans ((HA4.out.trans (hb.mono HA4.out.size)).mono HBR.out.size))
      have HBY := Lib.hid (HB4.out.trans (hb.mono HB4.out.size))
      clear hb
      by_cases hf : F = 0
      · subst hf
        go_wp2
        go_roundw
        case rel => exact ⟨k + 1, by omega, by go_num, HBX.out, fun j' t' hj' ht' => by
          rcases Nat.lt_or_ge j' k with h | h
          · exact HPRE.out j' t' h ht'
          · obtain rfl : j' = k := by omega
            rw [HTT.out] at ht'
            cases ht'
            exact HF.out⟩
        case measure => simp [intOf]; omega
      · have hb1 : (F != 0) = true := by simpa using hf
        have hz : (i0, E0) = ((k : Int), F) := by rw [← HT.out, firstStep_stop HPRE.out HTT.out (by rw [HF.out]; exact hf), HF.out]
        obtain ⟨rfl, rfl⟩ : i0 = k ∧ E0 = F := by simpa using hz
        clear hz
        go_wp2
        go_ret2
        exact ⟨rfl, HBY.out⟩
end Go.Proofs.Ytclnffpfbngjoaa

end
