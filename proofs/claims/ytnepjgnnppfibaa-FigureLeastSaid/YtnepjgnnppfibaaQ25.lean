import Derived.Test.YtnepjgnnppfibaaQ24
import Derived.Test.YtnepjgnnppfibaaQ5

section
/- The walk of the statement that no line removes less. -/
namespace Go.Proofs.Ytnepjgnnppfibaa
open Go Go.RowKit

theorem floor6_is (a b q : Int) (hq : a / b = q) (w : World) (h1 : -4000000000000000000 ≤ a) (h2 : a ≤ 4000000000000000000) (h3 : 1 ≤ b) (h4 : b ≤ 9223372036854775807) :
    Calls Try.prog 52 #[.int .i64 a, .int .i64 b] w fun e w' => e = .returned (.int .i64 q) ∧ w = w' := by
  subst hq; exact floorref_any a b w h1 h2 h3 h4
theorem LikeM.ref {m x : Rm} (h : LikeM m x) : refF x = refF m := by
  obtain ⟨h1, h2, h3, h4⟩ := h
  cases m; cases x
  simp only at h1 h2 h3 h4
  subst h1 h2 h3 h4
  rfl
theorem LikeM.lsum {m x : Rm} (h : LikeM m x) : lsumF x x.n = lsumF m m.n := by
  unfold lsumF
  rw [h.ref, h.n, h.u]
  exact sumN_congr fun i _ => by rw [h.rem]
theorem LikeM.lwhole {m x : Rm} (h : LikeM m x) : Go.Proofs.Ytnepjgnnppfibaa.lwhole x = Go.Proofs.Ytnepjgnnppfibaa.lwhole m := by
  unfold Go.Proofs.Ytnepjgnnppfibaa.lwhole
  rw [h.ref]

set_option maxRecDepth 100000 in
set_option maxHeartbeats 4000000 in
theorem lawFE_bad (A1 : Option Addr) (n1 c1 : Nat) (l1 : List Int) (A2 : Option Addr) (n2 c2 : Nat) (l2 : List Int) (A3 : Option Addr) (n3 c3 : Nat) (l3 : List Int) (a b c d x y : Int) (w : World)
    (hF : (fewB6 n1 && (fewB6 n2 && fewB6 n3)) = true → mapErr l1 l2 l3 ≠ 0)
    (r1 : Reads w w.heap.size 1 A1 n1 (l1.map (.int .i64))) (r2 : Reads w w.heap.size 1 A2 n2 (l2.map (.int .i64))) (r3 : Reads w w.heap.size 1 A3 n3 (l3.map (.int .i64))) :
    Calls Try.prog 9 #[.agg #[.slice A1 n1 c1, .slice A2 n2 c2, .slice A3 n3 c3], .agg #[.int .i64 a, .int .i64 b, .int .i64 c, .int .i64 d, .int .i64 x, .int .i64 y]] w fun e w' => e = .returned (.bool true) ∧ Below w.heap.size w w' := by
  obtain ⟨t, ht⟩ : ∃ t, (fewB6 n1 && (fewB6 n2 && fewB6 n3)) = t := ⟨_, rfl⟩
  have HT := Lib.hid ht
  cases t
  · clear ht r1 r2 r3 hF
    go_enter Try.func9, Try.ntmps9
    go_wp2_with fail
    generalize hwn : ((w.alloc (.cells #[.slice A1 n1 c1, .slice A2 n2 c2, .slice A3 n3 c3] 24)).alloc (.cells #[.int .i64 (a), .int .i64 (b), .int .i64 (c), .int .i64 (d), .int .i64 (x), .int .i64 (y)] 75)) = w1
    have hbn : Below w.heap.size w w1 := by rw [← hwn]; repeat' (first | exact Below.refl _ _ | refine below_drewN ?_ _ | refine Below.drew ?_ | refine Below.alloc ?_ (by first | omega | (simp; done) | (simp; omega) | (simp [World.setCell]; omega)) _ | refine Below.setCell ?_ (by first | omega | (simp; done) | (simp; omega)) _)
    have HB1 := Lib.hid (show Below w.heap.size w w1 from hbn)
    have K0_1 := Lib.hid (show Blk w1 (w.heap.size) 24 #[.slice A1 n1 c1, .slice A2 n2 c2, .slice A3 n3 c3] by rw [← hwn]; repeat' (first | exact Blk.at_ _ (by first | rfl | (simp; done) | (simp; omega)) _ _ | refine Blk.drewN ?_ _ | refine Blk.drew ?_ | refine Blk.alloc ?_ _ | refine Blk.far ?_ (by first | omega | (simp; done) | (simp; omega)) _ | assumption))
    have K1_1 := Lib.hid (show Blk w1 (w.heap.size + 1) 75 #[.int .i64 (a), .int .i64 (b), .int .i64 (c), .int .i64 (d), .int .i64 (x), .int .i64 (y)] by rw [← hwn]; repeat' (first | exact Blk.at_ _ (by first | rfl | (simp; done) | (simp; omega)) _ _ | refine Blk.drewN ?_ _ | refine Blk.drew ?_ | refine Blk.alloc ?_ _ | refine Blk.far ?_ (by first | omega | (simp; done) | (simp; omega)) _ | assumption))
    have HN1 := Lib.hid hbn
    have hz1 := hbn.size
    clear hwn hbn
    have l0_1 : w.heap.size < w1.heap.size := K0_1.out.lt
    have z0_0_1 : w1.cell? ⟨w.heap.size, 0, none⟩ = some (.slice A1 n1 c1) := K0_1.out.cell 0
    have z0_1_1 : w1.cell? ⟨w.heap.size, 1, none⟩ = some (.slice A2 n2 c2) := K0_1.out.cell 1
    have z0_2_1 : w1.cell? ⟨w.heap.size, 2, none⟩ = some (.slice A3 n3 c3) := K0_1.out.cell 2
    have l1_1 : w.heap.size + 1 < w1.heap.size := K1_1.out.lt
    have z1_0_1 : w1.cell? ⟨w.heap.size + 1, 0, none⟩ = some (.int .i64 (a)) := K1_1.out.cell 0
    have z1_1_1 : w1.cell? ⟨w.heap.size + 1, 1, none⟩ = some (.int .i64 (b)) := K1_1.out.cell 1
    have z1_2_1 : w1.cell? ⟨w.heap.size + 1, 2, none⟩ = some (.int .i64 (c)) := K1_1.out.cell 2
    have z1_3_1 : w1.cell? ⟨w.heap.size + 1, 3, none⟩ = some (.int .i64 (d)) := K1_1.out.cell 3
    have z1_4_1 : w1.cell? ⟨w.heap.size + 1, 4, none⟩ = some (.int .i64 (x)) := K1_1.out.cell 4
    have z1_5_1 : w1.cell? ⟨w.heap.size + 1, 5, none⟩ = some (.int .i64 (y)) := K1_1.out.cell 5
    refine (awake6_any _).mono ?_
    rintro e w2 ⟨rfl, hb⟩
    have HB2 := Lib.hid (show Below w.heap.size w w2 from step_below hb (by repeat' (first | exact Below.refl _ _ | exact HB1.out | refine below_drewN ?_ _ | refine Below.drew ?_ | refine Below.alloc ?_ (by first | omega | (simp; done) | (simp; omega) | (simp [World.setCell]; omega)) _ | refine Below.setCell ?_ (by first | omega | (simp; done) | (simp; omega)) _ | assumption)))
    have K0_2 := Lib.hid (step_blk hb (show Blk _ (w.heap.size) 24 #[.slice A1 n1 c1, .slice A2 n2 c2, .slice A3 n3 c3] by repeat' (first | exact K0_1.out | exact K1_1.out | exact Blk.at_ _ (by first | rfl | (simp; done) | (simp; omega)) _ _ | refine Blk.drewN ?_ _ | refine Blk.drew ?_ | refine Blk.alloc ?_ _ | refine Blk.far ?_ (by first | omega | (simp; done) | (simp; omega)) _ | assumption)))
    have K1_2 := Lib.hid (step_blk hb (show Blk _ (w.heap.size + 1) 75 #[.int .i64 (a), .int .i64 (b), .int .i64 (c), .int .i64 (d), .int .i64 (x), .int .i64 (y)] by repeat' (first | exact K0_1.out | exact K1_1.out | exact Blk.at_ _ (by first | rfl | (simp; done) | (simp; omega)) _ _ | refine Blk.drewN ?_ _ | refine Blk.drew ?_ | refine Blk.alloc ?_ _ | refine Blk.far ?_ (by first | omega | (simp; done) | (simp; omega)) _ | assumption)))
    have hz2 := hb.size
    try simp only [World.size_alloc, World.drewN, World.drew] at hz2
    clear hb K0_1 K1_1 z0_0_1 z0_1_1 z0_2_1 l0_1 z1_0_1 z1_1_1 z1_2_1 z1_3_1 z1_4_1 z1_5_1 l1_1
    have l0_2 : w.heap.size < w2.heap.size := K0_2.out.lt
    have z0_0_2 : w2.cell? ⟨w.heap.size, 0, none⟩ = some (.slice A1 n1 c1) := K0_2.out.cell 0
    have z0_1_2 : w2.cell? ⟨w.heap.size, 1, none⟩ = some (.slice A2 n2 c2) := K0_2.out.cell 1
    have z0_2_2 : w2.cell? ⟨w.heap.size, 2, none⟩ = some (.slice A3 n3 c3) := K0_2.out.cell 2
    have l1_2 : w.heap.size + 1 < w2.heap.size := K1_2.out.lt
    have z1_0_2 : w2.cell? ⟨w.heap.size + 1, 0, none⟩ = some (.int .i64 (a)) := K1_2.out.cell 0
    have z1_1_2 : w2.cell? ⟨w.heap.size + 1, 1, none⟩ = some (.int .i64 (b)) := K1_2.out.cell 1
    have z1_2_2 : w2.cell? ⟨w.heap.size + 1, 2, none⟩ = some (.int .i64 (c)) := K1_2.out.cell 2
    have z1_3_2 : w2.cell? ⟨w.heap.size + 1, 3, none⟩ = some (.int .i64 (d)) := K1_2.out.cell 3
    have z1_4_2 : w2.cell? ⟨w.heap.size + 1, 4, none⟩ = some (.int .i64 (x)) := K1_2.out.cell 4
    have z1_5_2 : w2.cell? ⟨w.heap.size + 1, 5, none⟩ = some (.int .i64 (y)) := K1_2.out.cell 5
    go_wp2_with fail
    refine (few6_is A1 A2 A3 n1 c1 n2 c2 n3 c3 false HT.out _).mono ?_
    rintro e w3 ⟨rfl, hb⟩
    have HB3 := Lib.hid (show Below w.heap.size w w3 from step_below hb (by repeat' (first | exact Below.refl _ _ | exact HB2.out | refine below_drewN ?_ _ | refine Below.drew ?_ | refine Below.alloc ?_ (by first | omega | (simp; done) | (simp; omega) | (simp [World.setCell]; omega)) _ | refine Below.setCell ?_ (by first | omega | (simp; done) | (simp; omega)) _ | assumption)))
    have K0_3 := Lib.hid (step_blk hb (show Blk _ (w.heap.size) 24 #[.slice A1 n1 c1, .slice A2 n2 c2, .slice A3 n3 c3] by repeat' (first | exact K0_2.out | exact K1_2.out | exact Blk.at_ _ (by first | rfl | (simp; done) | (simp; omega)) _ _ | refine Blk.drewN ?_ _ | refine Blk.drew ?_ | refine Blk.alloc ?_ _ | refine Blk.far ?_ (by first | omega | (simp; done) | (simp; omega)) _ | assumption)))
    have K1_3 := Lib.hid (step_blk hb (show Blk _ (w.heap.size + 1) 75 #[.int .i64 (a), .int .i64 (b), .int .i64 (c), .int .i64 (d), .int .i64 (x), .int .i64 (y)] by repeat' (first | exact K0_2.out | exact K1_2.out | exact Blk.at_ _ (by first | rfl | (simp; done) | (simp; omega)) _ _ | refine Blk.drewN ?_ _ | refine Blk.drew ?_ | refine Blk.alloc ?_ _ | refine Blk.far ?_ (by first | omega | (simp; done) | (simp; omega)) _ | assumption)))
    have hz3 := hb.size
    try simp only [World.size_alloc, World.drewN, World.drew] at hz3
    clear hb K0_2 K1_2 z0_0_2 z0_1_2 z0_2_2 l0_2 z1_0_2 z1_1_2 z1_2_2 z1_3_2 z1_4_2 z1_5_2 l1_2
    have l0_3 : w.heap.size < w3.heap.size := K0_3.out.lt
    have z0_0_3 : w3.cell? ⟨w.heap.size, 0, none⟩ = some (.slice A1 n1 c1) := K0_3.out.cell 0
    have z0_1_3 : w3.cell? ⟨w.heap.size, 1, none⟩ = some (.slice A2 n2 c2) := K0_3.out.cell 1
    have z0_2_3 : w3.cell? ⟨w.heap.size, 2, none⟩ = some (.slice A3 n3 c3) := K0_3.out.cell 2
    have l1_3 : w.heap.size + 1 < w3.heap.size := K1_3.out.lt
    have z1_0_3 : w3.cell? ⟨w.heap.size + 1, 0, none⟩ = some (.int .i64 (a)) := K1_3.out.cell 0
    have z1_1_3 : w3.cell? ⟨w.heap.size + 1, 1, none⟩ = some (.int .i64 (b)) := K1_3.out.cell 1
    have z1_2_3 : w3.cell? ⟨w.heap.size + 1, 2, none⟩ = some (.int .i64 (c)) := K1_3.out.cell 2
    have z1_3_3 : w3.cell? ⟨w.heap.size + 1, 3, none⟩ = some (.int .i64 (d)) := K1_3.out.cell 3
    have z1_4_3 : w3.cell? ⟨w.heap.size + 1, 4, none⟩ = some (.int .i64 (x)) := K1_3.out.cell 4
    have z1_5_3 : w3.cell? ⟨w.heap.size + 1, 5, none⟩ = some (.int .i64 (y)) := K1_3.out.cell 5
    go_wp2
    go_ret
    exact ⟨rfl, by repeat' (first | exact Below.refl _ _ | exact HB3.out | refine below_drewN ?_ _ | refine Below.drew ?_ | refine Below.alloc ?_ (by first | omega | (simp; done) | (simp; omega) | (simp [World.setCell]; omega)) _ | refine Below.setCell ?_ (by first | omega | (simp; done) | (simp; omega)) _ | assumption)⟩
  have f1 : n1 ≤ 42 := few6_true (by cases h : fewB6 n1 <;> simp_all)
  have f2 : n2 ≤ 42 := few6_true (by cases h : fewB6 n2 <;> simp_all)
  have f3 : n3 ≤ 42 := few6_true (by cases h : fewB6 n3 <;> simp_all)
  have R1 := Lib.hid r1
  have R2 := Lib.hid r2
  have R3 := Lib.hid r3
  obtain ⟨E, hE⟩ : ∃ E, mapErr l1 l2 l3 = E := ⟨_, rfl⟩
  have h0 := hF ht
  rw [hE] at h0
  have HE := Lib.hid hE
  have e1 : (E != 0) = true := by simpa using h0
  clear ht r1 r2 r3 hE h0 hF
  go_enter Try.func9, Try.ntmps9
  go_wp2_with fail
  generalize hwn : ((w.alloc (.cells #[.slice A1 n1 c1, .slice A2 n2 c2, .slice A3 n3 c3] 24)).alloc (.cells #[.int .i64 (a), .int .i64 (b), .int .i64 (c), .int .i64 (d), .int .i64 (x), .int .i64 (y)] 75)) = w1
  have hbn : Below w.heap.size w w1 := by rw [← hwn]; repeat' (first | exact Below.refl _ _ | refine below_drewN ?_ _ | refine Below.drew ?_ | refine Below.alloc ?_ (by first | omega | (simp; done) | (simp; omega) | (simp [World.setCell]; omega)) _ | refine Below.setCell ?_ (by first | omega | (simp; done) | (simp; omega)) _)
  have HB1 := Lib.hid (show Below w.heap.size w w1 from hbn)
  have K0_1 := Lib.hid (show Blk w1 (w.heap.size) 24 #[.slice A1 n1 c1, .slice A2 n2 c2, .slice A3 n3 c3] by rw [← hwn]; repeat' (first | exact Blk.at_ _ (by first | rfl | (simp; done) | (simp; omega)) _ _ | refine Blk.drewN ?_ _ | refine Blk.drew ?_ | refine Blk.alloc ?_ _ | refine Blk.far ?_ (by first | omega | (simp; done) | (simp; omega)) _ | assumption))
  have K1_1 := Lib.hid (show Blk w1 (w.heap.size + 1) 75 #[.int .i64 (a), .int .i64 (b), .int .i64 (c), .int .i64 (d), .int .i64 (x), .int .i64 (y)] by rw [← hwn]; repeat' (first | exact Blk.at_ _ (by first | rfl | (simp; done) | (simp; omega)) _ _ | refine Blk.drewN ?_ _ | refine Blk.drew ?_ | refine Blk.alloc ?_ _ | refine Blk.far ?_ (by first | omega | (simp; done) | (simp; omega)) _ | assumption))
  have HN1 := Lib.hid hbn
  have hz1 := hbn.size
  clear hwn hbn
  have l0_1 : w.heap.size < w1.heap.size := K0_1.out.lt
  have z0_0_1 : w1.cell? ⟨w.heap.size, 0, none⟩ = some (.slice A1 n1 c1) := K0_1.out.cell 0
  have z0_1_1 : w1.cell? ⟨w.heap.size, 1, none⟩ = some (.slice A2 n2 c2) := K0_1.out.cell 1
  have z0_2_1 : w1.cell? ⟨w.heap.size, 2, none⟩ = some (.slice A3 n3 c3) := K0_1.out.cell 2
  have l1_1 : w.heap.size + 1 < w1.heap.size := K1_1.out.lt
  have z1_0_1 : w1.cell? ⟨w.heap.size + 1, 0, none⟩ = some (.int .i64 (a)) := K1_1.out.cell 0
  have z1_1_1 : w1.cell? ⟨w.heap.size + 1, 1, none⟩ = some (.int .i64 (b)) := K1_1.out.cell 1
  have z1_2_1 : w1.cell? ⟨w.heap.size + 1, 2, none⟩ = some (.int .i64 (c)) := K1_1.out.cell 2
  have z1_3_1 : w1.cell? ⟨w.heap.size + 1, 3, none⟩ = some (.int .i64 (d)) := K1_1.out.cell 3
  have z1_4_1 : w1.cell? ⟨w.heap.size + 1, 4, none⟩ = some (.int .i64 (x)) := K1_1.out.cell 4
  have z1_5_1 : w1.cell? ⟨w.heap.size + 1, 5, none⟩ = some (.int .i64 (y)) := K1_1.out.cell 5
  refine (awake6_any _).mono ?_
  rintro e w2 ⟨rfl, hb⟩
  have HB2 := Lib.hid (show Below w.heap.size w w2 from step_below hb (by repeat' (first | exact Below.refl _ _ | exact HB1.out | refine below_drewN ?_ _ | refine Below.drew ?_ | refine Below.alloc ?_ (by first | omega | (simp; done) | (simp; omega) | (simp [World.setCell]; omega)) _ | refine Below.setCell ?_ (by first | omega | (simp; done) | (simp; omega)) _ | assumption)))
  have K0_2 := Lib.hid (step_blk hb (show Blk _ (w.heap.size) 24 #[.slice A1 n1 c1, .slice A2 n2 c2, .slice A3 n3 c3] by repeat' (first | exact K0_1.out | exact K1_1.out | exact Blk.at_ _ (by first | rfl | (simp; done) | (simp; omega)) _ _ | refine Blk.drewN ?_ _ | refine Blk.drew ?_ | refine Blk.alloc ?_ _ | refine Blk.far ?_ (by first | omega | (simp; done) | (simp; omega)) _ | assumption)))
  have K1_2 := Lib.hid (step_blk hb (show Blk _ (w.heap.size + 1) 75 #[.int .i64 (a), .int .i64 (b), .int .i64 (c), .int .i64 (d), .int .i64 (x), .int .i64 (y)] by repeat' (first | exact K0_1.out | exact K1_1.out | exact Blk.at_ _ (by first | rfl | (simp; done) | (simp; omega)) _ _ | refine Blk.drewN ?_ _ | refine Blk.drew ?_ | refine Blk.alloc ?_ _ | refine Blk.far ?_ (by first | omega | (simp; done) | (simp; omega)) _ | assumption)))
  have hz2 := hb.size
  try simp only [World.size_alloc, World.drewN, World.drew] at hz2
  clear hb K0_1 K1_1 z0_0_1 z0_1_1 z0_2_1 l0_1 z1_0_1 z1_1_1 z1_2_1 z1_3_1 z1_4_1 z1_5_1 l1_1
  have l0_2 : w.heap.size < w2.heap.size := K0_2.out.lt
  have z0_0_2 : w2.cell? ⟨w.heap.size, 0, none⟩ = some (.slice A1 n1 c1) := K0_2.out.cell 0
  have z0_1_2 : w2.cell? ⟨w.heap.size, 1, none⟩ = some (.slice A2 n2 c2) := K0_2.out.cell 1
  have z0_2_2 : w2.cell? ⟨w.heap.size, 2, none⟩ = some (.slice A3 n3 c3) := K0_2.out.cell 2
  have l1_2 : w.heap.size + 1 < w2.heap.size := K1_2.out.lt
  have z1_0_2 : w2.cell? ⟨w.heap.size + 1, 0, none⟩ = some (.int .i64 (a)) := K1_2.out.cell 0
  have z1_1_2 : w2.cell? ⟨w.heap.size + 1, 1, none⟩ = some (.int .i64 (b)) := K1_2.out.cell 1
  have z1_2_2 : w2.cell? ⟨w.heap.size + 1, 2, none⟩ = some (.int .i64 (c)) := K1_2.out.cell 2
  have z1_3_2 : w2.cell? ⟨w.heap.size + 1, 3, none⟩ = some (.int .i64 (d)) := K1_2.out.cell 3
  have z1_4_2 : w2.cell? ⟨w.heap.size + 1, 4, none⟩ = some (.int .i64 (x)) := K1_2.out.cell 4
  have z1_5_2 : w2.cell? ⟨w.heap.size + 1, 5, none⟩ = some (.int .i64 (y)) := K1_2.out.cell 5
  go_wp2_with fail
  refine (few6_is A1 A2 A3 n1 c1 n2 c2 n3 c3 true HT.out _).mono ?_
  rintro e w3 ⟨rfl, hb⟩
  have HB3 := Lib.hid (show Below w.heap.size w w3 from step_below hb (by repeat' (first | exact Below.refl _ _ | exact HB2.out | refine below_drewN ?_ _ | refine Below.drew ?_ | refine Below.alloc ?_ (by first | omega | (simp; done) | (simp; omega) | (simp [World.setCell]; omega)) _ | refine Below.setCell ?_ (by first | omega | (simp; done) | (simp; omega)) _ | assumption)))
  have K0_3 := Lib.hid (step_blk hb (show Blk _ (w.heap.size) 24 #[.slice A1 n1 c1, .slice A2 n2 c2, .slice A3 n3 c3] by repeat' (first | exact K0_2.out | exact K1_2.out | exact Blk.at_ _ (by first | rfl | (simp; done) | (simp; omega)) _ _ | refine Blk.drewN ?_ _ | refine Blk.drew ?_ | refine Blk.alloc ?_ _ | refine Blk.far ?_ (by first | omega | (simp; done) | (simp; omega)) _ | assumption)))
  have K1_3 := Lib.hid (step_blk hb (show Blk _ (w.heap.size + 1) 75 #[.int .i64 (a), .int .i64 (b), .int .i64 (c), .int .i64 (d), .int .i64 (x), .int .i64 (y)] by repeat' (first | exact K0_2.out | exact K1_2.out | exact Blk.at_ _ (by first | rfl | (simp; done) | (simp; omega)) _ _ | refine Blk.drewN ?_ _ | refine Blk.drew ?_ | refine Blk.alloc ?_ _ | refine Blk.far ?_ (by first | omega | (simp; done) | (simp; omega)) _ | assumption)))
  have hz3 := hb.size
  try simp only [World.size_alloc, World.drewN, World.drew] at hz3
  clear hb K0_2 K1_2 z0_0_2 z0_1_2 z0_2_2 l0_2 z1_0_2 z1_1_2 z1_2_2 z1_3_2 z1_4_2 z1_5_2 l1_2
  have l0_3 : w.heap.size < w3.heap.size := K0_3.out.lt
  have z0_0_3 : w3.cell? ⟨w.heap.size, 0, none⟩ = some (.slice A1 n1 c1) := K0_3.out.cell 0
  have z0_1_3 : w3.cell? ⟨w.heap.size, 1, none⟩ = some (.slice A2 n2 c2) := K0_3.out.cell 1
  have z0_2_3 : w3.cell? ⟨w.heap.size, 2, none⟩ = some (.slice A3 n3 c3) := K0_3.out.cell 2
  have l1_3 : w.heap.size + 1 < w3.heap.size := K1_3.out.lt
  have z1_0_3 : w3.cell? ⟨w.heap.size + 1, 0, none⟩ = some (.int .i64 (a)) := K1_3.out.cell 0
  have z1_1_3 : w3.cell? ⟨w.heap.size + 1, 1, none⟩ = some (.int .i64 (b)) := K1_3.out.cell 1
  have z1_2_3 : w3.cell? ⟨w.heap.size + 1, 2, none⟩ = some (.int .i64 (c)) := K1_3.out.cell 2
  have z1_3_3 : w3.cell? ⟨w.heap.size + 1, 3, none⟩ = some (.int .i64 (d)) := K1_3.out.cell 3
  have z1_4_3 : w3.cell? ⟨w.heap.size + 1, 4, none⟩ = some (.int .i64 (x)) := K1_3.out.cell 4
  have z1_5_3 : w3.cell? ⟨w.heap.size + 1, 5, none⟩ = some (.int .i64 (y)) := K1_3.out.cell 5
  have g1 := (R1.out.below HB3.out).more HB3.out.size
  have g2 := (R2.out.below HB3.out).more HB3.out.size
  have g3 := (R3.out.below HB3.out).more HB3.out.size
  have R0_3 := Lib.hid g1
  clear g1
  have R1_3 := Lib.hid g2
  clear g2
  have R2_3 := Lib.hid g3
  clear g3
  go_wp2_with fail
  refine (rcheckmap_is A1 n1 c1 l1 A2 n2 c2 l2 A3 n3 c3 l3 E HE.out _ R0_3.out R1_3.out R2_3.out (by omega) (by omega) (by omega)).mono ?_
  rintro e w4 ⟨rfl, hb⟩
  have HB4 := Lib.hid (show Below w.heap.size w w4 from step_below hb (by repeat' (first | exact Below.refl _ _ | exact HB3.out | refine below_drewN ?_ _ | refine Below.drew ?_ | refine Below.alloc ?_ (by first | omega | (simp; done) | (simp; omega) | (simp [World.setCell]; omega)) _ | refine Below.setCell ?_ (by first | omega | (simp; done) | (simp; omega)) _ | assumption)))
  have K0_4 := Lib.hid (step_blk hb (show Blk _ (w.heap.size) 24 #[.slice A1 n1 c1, .slice A2 n2 c2, .slice A3 n3 c3] by repeat' (first | exact K0_3.out | exact K1_3.out | exact Blk.at_ _ (by first | rfl | (simp; done) | (simp; omega)) _ _ | refine Blk.drewN ?_ _ | refine Blk.drew ?_ | refine Blk.alloc ?_ _ | refine Blk.far ?_ (by first | omega | (simp; done) | (simp; omega)) _ | assumption)))
  have K1_4 := Lib.hid (step_blk hb (show Blk _ (w.heap.size + 1) 75 #[.int .i64 (a), .int .i64 (b), .int .i64 (c), .int .i64 (d), .int .i64 (x), .int .i64 (y)] by repeat' (first | exact K0_3.out | exact K1_3.out | exact Blk.at_ _ (by first | rfl | (simp; done) | (simp; omega)) _ _ | refine Blk.drewN ?_ _ | refine Blk.drew ?_ | refine Blk.alloc ?_ _ | refine Blk.far ?_ (by first | omega | (simp; done) | (simp; omega)) _ | assumption)))
  have hL4 := Lib.hid (show Below w3.heap.size w3 _ from reads_mid hb (by repeat' (first | exact Below.refl _ _ | refine below_drewN ?_ _ | refine Below.drew ?_ | refine Below.alloc ?_ (by first | omega | (simp; done) | (simp; omega) | (simp [World.setCell]; omega)) _ | refine Below.setCell ?_ (by first | omega | (simp; done) | (simp; omega)) _)))
  have R0_4 := Lib.hid (reads_lay hb hL4.out R0_3.out)
  have R1_4 := Lib.hid (reads_lay hb hL4.out R1_3.out)
  have R2_4 := Lib.hid (reads_lay hb hL4.out R2_3.out)
  clear hL4 R0_3 R1_3 R2_3
  have hz4 := hb.size
  try simp only [World.size_alloc, World.drewN, World.drew] at hz4
  clear hb K0_3 K1_3 z0_0_3 z0_1_3 z0_2_3 l0_3 z1_0_3 z1_1_3 z1_2_3 z1_3_3 z1_4_3 z1_5_3 l1_3
  have l0_4 : w.heap.size < w4.heap.size := K0_4.out.lt
  have z0_0_4 : w4.cell? ⟨w.heap.size, 0, none⟩ = some (.slice A1 n1 c1) := K0_4.out.cell 0
  have z0_1_4 : w4.cell? ⟨w.heap.size, 1, none⟩ = some (.slice A2 n2 c2) := K0_4.out.cell 1
  have z0_2_4 : w4.cell? ⟨w.heap.size, 2, none⟩ = some (.slice A3 n3 c3) := K0_4.out.cell 2
  have l1_4 : w.heap.size + 1 < w4.heap.size := K1_4.out.lt
  have z1_0_4 : w4.cell? ⟨w.heap.size + 1, 0, none⟩ = some (.int .i64 (a)) := K1_4.out.cell 0
  have z1_1_4 : w4.cell? ⟨w.heap.size + 1, 1, none⟩ = some (.int .i64 (b)) := K1_4.out.cell 1
  have z1_2_4 : w4.cell? ⟨w.heap.size + 1, 2, none⟩ = some (.int .i64 (c)) := K1_4.out.cell 2
  have z1_3_4 : w4.cell? ⟨w.heap.size + 1, 3, none⟩ = some (.int .i64 (d)) := K1_4.out.cell 3
  have z1_4_4 : w4.cell? ⟨w.heap.size + 1, 4, none⟩ = some (.int .i64 (x)) := K1_4.out.cell 4
  have z1_5_4 : w4.cell? ⟨w.heap.size + 1, 5, none⟩ = some (.int .i64 (y)) := K1_4.out.cell 5
  go_wp2
  go_ret
  exact ⟨rfl, by repeat' (first | exact Below.refl _ _ | exact HB4.out | refine below_drewN ?_ _ | refine Below.drew ?_ | refine Below.alloc ?_ (by first | omega | (simp; done) | (simp; omega) | (simp [World.setCell]; omega)) _ | refine Below.setCell ?_ (by first | omega | (simp; done) | (simp; omega)) _ | assumption)⟩

set_option maxRecDepth 100000 in
set_option maxHeartbeats 4000000 in
theorem lawFE_line (n b1 o1 c1 b2 o2 c2 b3 o3 c3 : Nat) (l1 l2 l3 : List Int) (a b c d x y : Int) (w : World) (hF : (fewB6 n && (fewB6 n && fewB6 n)) = true) (hE : mapErr l1 l2 l3 = 0) (ia : I64 a) (ib : I64 b) (ic : I64 c) (jd : I64 d)
    (h0 : lineErr a b c d ≠ 0 ∨ withinB a (-10000000) 10000000 = false ∨ withinB c (-10000000) 10000000 = false)
    (r1 : Reads w w.heap.size 1 (some ⟨b1, o1, none⟩) n (l1.map (.int .i64))) (r2 : Reads w w.heap.size 1 (some ⟨b2, o2, none⟩) n (l2.map (.int .i64))) (r3 : Reads w w.heap.size 1 (some ⟨b3, o3, none⟩) n (l3.map (.int .i64))) :
    Calls Try.prog 9 #[.agg #[.slice (some ⟨b1, o1, none⟩) n c1, .slice (some ⟨b2, o2, none⟩) n c2, .slice (some ⟨b3, o3, none⟩) n c3], .agg #[.int .i64 a, .int .i64 b, .int .i64 c, .int .i64 d, .int .i64 x, .int .i64 y]] w fun e w' => e = .returned (.bool true) ∧ Below w.heap.size w w' := by
  have f1 : n ≤ 42 := few6_true (by cases h : fewB6 n <;> simp_all)
  obtain ⟨LE, hL⟩ : ∃ E, lineErr a b c d = E := ⟨_, rfl⟩
  obtain ⟨ta, hta⟩ : ∃ t, withinB a (-10000000) 10000000 = t := ⟨_, rfl⟩
  obtain ⟨tc, htc⟩ : ∃ t, withinB c (-10000000) 10000000 = t := ⟨_, rfl⟩
  rw [hL, hta, htc] at h0
  have HT := Lib.hid hF
  have R1 := Lib.hid r1
  have R2 := Lib.hid r2
  have R3 := Lib.hid r3
  have HE := Lib.hid hE
  have HL := Lib.hid hL
  have HTA := Lib.hid hta
  have HTC := Lib.hid htc
  have H0 := Lib.hid h0
  clear r1 r2 r3 hE hL h0 hF hta htc
  go_enter Try.func9, Try.ntmps9
  go_wp2_with fail
  generalize hwn : ((w.alloc (.cells #[.slice (some ⟨b1, o1, none⟩) n c1, .slice (some ⟨b2, o2, none⟩) n c2, .slice (some ⟨b3, o3, none⟩) n c3] 24)).alloc (.cells #[.int .i64 (a), .int .i64 (b), .int .i64 (c), .int .i64 (d), .int .i64 (x), .int .i64 (y)] 75)) = w1
  have hbn : Below w.heap.size w w1 := by rw [← hwn]; repeat' (first | exact Below.refl _ _ | refine below_drewN ?_ _ | refine Below.drew ?_ | refine Below.alloc ?_ (by first | omega | (simp; done) | (simp; omega) | (simp [World.setCell]; omega)) _ | refine Below.setCell ?_ (by first | omega | (simp; done) | (simp; omega)) _)
  have HB1 := Lib.hid (show Below w.heap.size w w1 from hbn)
  have K0_1 := Lib.hid (show Blk w1 (w.heap.size) 24 #[.slice (some ⟨b1, o1, none⟩) n c1, .slice (some ⟨b2, o2, none⟩) n c2, .slice (some ⟨b3, o3, none⟩) n c3] by rw [← hwn]; repeat' (first | exact Blk.at_ _ (by first | rfl | (simp; done) | (simp; omega)) _ _ | refine Blk.drewN ?_ _ | refine Blk.drew ?_ | refine Blk.alloc ?_ _ | refine Blk.far ?_ (by first | omega | (simp; done) | (simp; omega)) _ | assumption))
  have K1_1 := Lib.hid (show Blk w1 (w.heap.size + 1) 75 #[.int .i64 (a), .int .i64 (b), .int .i64 (c), .int .i64 (d), .int .i64 (x), .int .i64 (y)] by rw [← hwn]; repeat' (first | exact Blk.at_ _ (by first | rfl | (simp; done) | (simp; omega)) _ _ | refine Blk.drewN ?_ _ | refine Blk.drew ?_ | refine Blk.alloc ?_ _ | refine Blk.far ?_ (by first | omega | (simp; done) | (simp; omega)) _ | assumption))
  have HN1 := Lib.hid hbn
  have hz1 := hbn.size
  clear hwn hbn
  have l0_1 : w.heap.size < w1.heap.size := K0_1.out.lt
  have z0_0_1 : w1.cell? ⟨w.heap.size, 0, none⟩ = some (.slice (some ⟨b1, o1, none⟩) n c1) := K0_1.out.cell 0
  have z0_1_1 : w1.cell? ⟨w.heap.size, 1, none⟩ = some (.slice (some ⟨b2, o2, none⟩) n c2) := K0_1.out.cell 1
  have z0_2_1 : w1.cell? ⟨w.heap.size, 2, none⟩ = some (.slice (some ⟨b3, o3, none⟩) n c3) := K0_1.out.cell 2
  have l1_1 : w.heap.size + 1 < w1.heap.size := K1_1.out.lt
  have z1_0_1 : w1.cell? ⟨w.heap.size + 1, 0, none⟩ = some (.int .i64 (a)) := K1_1.out.cell 0
  have z1_1_1 : w1.cell? ⟨w.heap.size + 1, 1, none⟩ = some (.int .i64 (b)) := K1_1.out.cell 1
  have z1_2_1 : w1.cell? ⟨w.heap.size + 1, 2, none⟩ = some (.int .i64 (c)) := K1_1.out.cell 2
  have z1_3_1 : w1.cell? ⟨w.heap.size + 1, 3, none⟩ = some (.int .i64 (d)) := K1_1.out.cell 3
  have z1_4_1 : w1.cell? ⟨w.heap.size + 1, 4, none⟩ = some (.int .i64 (x)) := K1_1.out.cell 4
  have z1_5_1 : w1.cell? ⟨w.heap.size + 1, 5, none⟩ = some (.int .i64 (y)) := K1_1.out.cell 5
  refine (awake6_any _).mono ?_
  rintro e w2 ⟨rfl, hb⟩
  have HB2 := Lib.hid (show Below w.heap.size w w2 from step_below hb (by repeat' (first | exact Below.refl _ _ | exact HB1.out | refine below_drewN ?_ _ | refine Below.drew ?_ | refine Below.alloc ?_ (by first | omega | (simp; done) | (simp; omega) | (simp [World.setCell]; omega)) _ | refine Below.setCell ?_ (by first | omega | (simp; done) | (simp; omega)) _ | assumption)))
  have K0_2 := Lib.hid (step_blk hb (show Blk _ (w.heap.size) 24 #[.slice (some ⟨b1, o1, none⟩) n c1, .slice (some ⟨b2, o2, none⟩) n c2, .slice (some ⟨b3, o3, none⟩) n c3] by repeat' (first | exact K0_1.out | exact K1_1.out | exact Blk.at_ _ (by first | rfl | (simp; done) | (simp; omega)) _ _ | refine Blk.drewN ?_ _ | refine Blk.drew ?_ | refine Blk.alloc ?_ _ | refine Blk.far ?_ (by first | omega | (simp; done) | (simp; omega)) _ | assumption)))
  have K1_2 := Lib.hid (step_blk hb (show Blk _ (w.heap.size + 1) 75 #[.int .i64 (a), .int .i64 (b), .int .i64 (c), .int .i64 (d), .int .i64 (x), .int .i64 (y)] by repeat' (first | exact K0_1.out | exact K1_1.out | exact Blk.at_ _ (by first | rfl | (simp; done) | (simp; omega)) _ _ | refine Blk.drewN ?_ _ | refine Blk.drew ?_ | refine Blk.alloc ?_ _ | refine Blk.far ?_ (by first | omega | (simp; done) | (simp; omega)) _ | assumption)))
  have hz2 := hb.size
  try simp only [World.size_alloc, World.drewN, World.drew] at hz2
  clear hb K0_1 K1_1 z0_0_1 z0_1_1 z0_2_1 l0_1 z1_0_1 z1_1_1 z1_2_1 z1_3_1 z1_4_1 z1_5_1 l1_1
  have l0_2 : w.heap.size < w2.heap.size := K0_2.out.lt
  have z0_0_2 : w2.cell? ⟨w.heap.size, 0, none⟩ = some (.slice (some ⟨b1, o1, none⟩) n c1) := K0_2.out.cell 0
  have z0_1_2 : w2.cell? ⟨w.heap.size, 1, none⟩ = some (.slice (some ⟨b2, o2, none⟩) n c2) := K0_2.out.cell 1
  have z0_2_2 : w2.cell? ⟨w.heap.size, 2, none⟩ = some (.slice (some ⟨b3, o3, none⟩) n c3) := K0_2.out.cell 2
  have l1_2 : w.heap.size + 1 < w2.heap.size := K1_2.out.lt
  have z1_0_2 : w2.cell? ⟨w.heap.size + 1, 0, none⟩ = some (.int .i64 (a)) := K1_2.out.cell 0
  have z1_1_2 : w2.cell? ⟨w.heap.size + 1, 1, none⟩ = some (.int .i64 (b)) := K1_2.out.cell 1
  have z1_2_2 : w2.cell? ⟨w.heap.size + 1, 2, none⟩ = some (.int .i64 (c)) := K1_2.out.cell 2
  have z1_3_2 : w2.cell? ⟨w.heap.size + 1, 3, none⟩ = some (.int .i64 (d)) := K1_2.out.cell 3
  have z1_4_2 : w2.cell? ⟨w.heap.size + 1, 4, none⟩ = some (.int .i64 (x)) := K1_2.out.cell 4
  have z1_5_2 : w2.cell? ⟨w.heap.size + 1, 5, none⟩ = some (.int .i64 (y)) := K1_2.out.cell 5
  go_wp2_with fail
  refine (few6_is _ _ _ n c1 n c2 n c3 true HT.out _).mono ?_
  rintro e w3 ⟨rfl, hb⟩
  have HB3 := Lib.hid (show Below w.heap.size w w3 from step_below hb (by repeat' (first | exact Below.refl _ _ | exact HB2.out | refine below_drewN ?_ _ | refine Below.drew ?_ | refine Below.alloc ?_ (by first | omega | (simp; done) | (simp; omega) | (simp [World.setCell]; omega)) _ | refine Below.setCell ?_ (by first | omega | (simp; done) | (simp; omega)) _ | assumption)))
  have K0_3 := Lib.hid (step_blk hb (show Blk _ (w.heap.size) 24 #[.slice (some ⟨b1, o1, none⟩) n c1, .slice (some ⟨b2, o2, none⟩) n c2, .slice (some ⟨b3, o3, none⟩) n c3] by repeat' (first | exact K0_2.out | exact K1_2.out | exact Blk.at_ _ (by first | rfl | (simp; done) | (simp; omega)) _ _ | refine Blk.drewN ?_ _ | refine Blk.drew ?_ | refine Blk.alloc ?_ _ | refine Blk.far ?_ (by first | omega | (simp; done) | (simp; omega)) _ | assumption)))
  have K1_3 := Lib.hid (step_blk hb (show Blk _ (w.heap.size + 1) 75 #[.int .i64 (a), .int .i64 (b), .int .i64 (c), .int .i64 (d), .int .i64 (x), .int .i64 (y)] by repeat' (first | exact K0_2.out | exact K1_2.out | exact Blk.at_ _ (by first | rfl | (simp; done) | (simp; omega)) _ _ | refine Blk.drewN ?_ _ | refine Blk.drew ?_ | refine Blk.alloc ?_ _ | refine Blk.far ?_ (by first | omega | (simp; done) | (simp; omega)) _ | assumption)))
  have hz3 := hb.size
  try simp only [World.size_alloc, World.drewN, World.drew] at hz3
  clear hb K0_2 K1_2 z0_0_2 z0_1_2 z0_2_2 l0_2 z1_0_2 z1_1_2 z1_2_2 z1_3_2 z1_4_2 z1_5_2 l1_2
  have l0_3 : w.heap.size < w3.heap.size := K0_3.out.lt
  have z0_0_3 : w3.cell? ⟨w.heap.size, 0, none⟩ = some (.slice (some ⟨b1, o1, none⟩) n c1) := K0_3.out.cell 0
  have z0_1_3 : w3.cell? ⟨w.heap.size, 1, none⟩ = some (.slice (some ⟨b2, o2, none⟩) n c2) := K0_3.out.cell 1
  have z0_2_3 : w3.cell? ⟨w.heap.size, 2, none⟩ = some (.slice (some ⟨b3, o3, none⟩) n c3) := K0_3.out.cell 2
  have l1_3 : w.heap.size + 1 < w3.heap.size := K1_3.out.lt
  have z1_0_3 : w3.cell? ⟨w.heap.size + 1, 0, none⟩ = some (.int .i64 (a)) := K1_3.out.cell 0
  have z1_1_3 : w3.cell? ⟨w.heap.size + 1, 1, none⟩ = some (.int .i64 (b)) := K1_3.out.cell 1
  have z1_2_3 : w3.cell? ⟨w.heap.size + 1, 2, none⟩ = some (.int .i64 (c)) := K1_3.out.cell 2
  have z1_3_3 : w3.cell? ⟨w.heap.size + 1, 3, none⟩ = some (.int .i64 (d)) := K1_3.out.cell 3
  have z1_4_3 : w3.cell? ⟨w.heap.size + 1, 4, none⟩ = some (.int .i64 (x)) := K1_3.out.cell 4
  have z1_5_3 : w3.cell? ⟨w.heap.size + 1, 5, none⟩ = some (.int .i64 (y)) := K1_3.out.cell 5
  have g1 := (R1.out.below HB3.out).more HB3.out.size
  have g2 := (R2.out.below HB3.out).more HB3.out.size
  have g3 := (R3.out.below HB3.out).more HB3.out.size
  have R0_3 := Lib.hid g1
  clear g1
  have R1_3 := Lib.hid g2
  clear g2
  have R2_3 := Lib.hid g3
  clear g3
  go_wp2_with fail
  refine (rcheckmap_is _ n c1 l1 _ n c2 l2 _ n c3 l3 0 HE.out _ R0_3.out R1_3.out R2_3.out (by omega) (by omega) (by omega)).mono ?_
  rintro e w4 ⟨rfl, hb⟩
  have HB4 := Lib.hid (show Below w.heap.size w w4 from step_below hb (by repeat' (first | exact Below.refl _ _ | exact HB3.out | refine below_drewN ?_ _ | refine Below.drew ?_ | refine Below.alloc ?_ (by first | omega | (simp; done) | (simp; omega) | (simp [World.setCell]; omega)) _ | refine Below.setCell ?_ (by first | omega | (simp; done) | (simp; omega)) _ | assumption)))
  have K0_4 := Lib.hid (step_blk hb (show Blk _ (w.heap.size) 24 #[.slice (some ⟨b1, o1, none⟩) n c1, .slice (some ⟨b2, o2, none⟩) n c2, .slice (some ⟨b3, o3, none⟩) n c3] by repeat' (first | exact K0_3.out | exact K1_3.out | exact Blk.at_ _ (by first | rfl | (simp; done) | (simp; omega)) _ _ | refine Blk.drewN ?_ _ | refine Blk.drew ?_ | refine Blk.alloc ?_ _ | refine Blk.far ?_ (by first | omega | (simp; done) | (simp; omega)) _ | assumption)))
  have K1_4 := Lib.hid (step_blk hb (show Blk _ (w.heap.size + 1) 75 #[.int .i64 (a), .int .i64 (b), .int .i64 (c), .int .i64 (d), .int .i64 (x), .int .i64 (y)] by repeat' (first | exact K0_3.out | exact K1_3.out | exact Blk.at_ _ (by first | rfl | (simp; done) | (simp; omega)) _ _ | refine Blk.drewN ?_ _ | refine Blk.drew ?_ | refine Blk.alloc ?_ _ | refine Blk.far ?_ (by first | omega | (simp; done) | (simp; omega)) _ | assumption)))
  have hL4 := Lib.hid (show Below w3.heap.size w3 _ from reads_mid hb (by repeat' (first | exact Below.refl _ _ | refine below_drewN ?_ _ | refine Below.drew ?_ | refine Below.alloc ?_ (by first | omega | (simp; done) | (simp; omega) | (simp [World.setCell]; omega)) _ | refine Below.setCell ?_ (by first | omega | (simp; done) | (simp; omega)) _)))
  have R0_4 := Lib.hid (reads_lay hb hL4.out R0_3.out)
  have R1_4 := Lib.hid (reads_lay hb hL4.out R1_3.out)
  have R2_4 := Lib.hid (reads_lay hb hL4.out R2_3.out)
  clear hL4 R0_3 R1_3 R2_3
  have hz4 := hb.size
  try simp only [World.size_alloc, World.drewN, World.drew] at hz4
  clear hb K0_3 K1_3 z0_0_3 z0_1_3 z0_2_3 l0_3 z1_0_3 z1_1_3 z1_2_3 z1_3_3 z1_4_3 z1_5_3 l1_3
  have l0_4 : w.heap.size < w4.heap.size := K0_4.out.lt
  have z0_0_4 : w4.cell? ⟨w.heap.size, 0, none⟩ = some (.slice (some ⟨b1, o1, none⟩) n c1) := K0_4.out.cell 0
  have z0_1_4 : w4.cell? ⟨w.heap.size, 1, none⟩ = some (.slice (some ⟨b2, o2, none⟩) n c2) := K0_4.out.cell 1
  have z0_2_4 : w4.cell? ⟨w.heap.size, 2, none⟩ = some (.slice (some ⟨b3, o3, none⟩) n c3) := K0_4.out.cell 2
  have l1_4 : w.heap.size + 1 < w4.heap.size := K1_4.out.lt
  have z1_0_4 : w4.cell? ⟨w.heap.size + 1, 0, none⟩ = some (.int .i64 (a)) := K1_4.out.cell 0
  have z1_1_4 : w4.cell? ⟨w.heap.size + 1, 1, none⟩ = some (.int .i64 (b)) := K1_4.out.cell 1
  have z1_2_4 : w4.cell? ⟨w.heap.size + 1, 2, none⟩ = some (.int .i64 (c)) := K1_4.out.cell 2
  have z1_3_4 : w4.cell? ⟨w.heap.size + 1, 3, none⟩ = some (.int .i64 (d)) := K1_4.out.cell 3
  have z1_4_4 : w4.cell? ⟨w.heap.size + 1, 4, none⟩ = some (.int .i64 (x)) := K1_4.out.cell 4
  have z1_5_4 : w4.cell? ⟨w.heap.size + 1, 5, none⟩ = some (.int .i64 (y)) := K1_4.out.cell 5
  go_wp2_with fail
  refine (rcheckline_is a b c d x y LE HL.out ia ib ic jd _).mono ?_
  rintro e w5 ⟨rfl, hb⟩
  have HB5 := Lib.hid (show Below w.heap.size w w5 from step_below hb (by repeat' (first | exact Below.refl _ _ | exact HB4.out | refine below_drewN ?_ _ | refine Below.drew ?_ | refine Below.alloc ?_ (by first | omega | (simp; done) | (simp; omega) | (simp [World.setCell]; omega)) _ | refine Below.setCell ?_ (by first | omega | (simp; done) | (simp; omega)) _ | assumption)))
  have K0_5 := Lib.hid (step_blk hb (show Blk _ (w.heap.size) 24 #[.slice (some ⟨b1, o1, none⟩) n c1, .slice (some ⟨b2, o2, none⟩) n c2, .slice (some ⟨b3, o3, none⟩) n c3] by repeat' (first | exact K0_4.out | exact K1_4.out | exact Blk.at_ _ (by first | rfl | (simp; done) | (simp; omega)) _ _ | refine Blk.drewN ?_ _ | refine Blk.drew ?_ | refine Blk.alloc ?_ _ | refine Blk.far ?_ (by first | omega | (simp; done) | (simp; omega)) _ | assumption)))
  have K1_5 := Lib.hid (step_blk hb (show Blk _ (w.heap.size + 1) 75 #[.int .i64 (a), .int .i64 (b), .int .i64 (c), .int .i64 (d), .int .i64 (x), .int .i64 (y)] by repeat' (first | exact K0_4.out | exact K1_4.out | exact Blk.at_ _ (by first | rfl | (simp; done) | (simp; omega)) _ _ | refine Blk.drewN ?_ _ | refine Blk.drew ?_ | refine Blk.alloc ?_ _ | refine Blk.far ?_ (by first | omega | (simp; done) | (simp; omega)) _ | assumption)))
  have hL5 := Lib.hid (show Below w4.heap.size w4 _ from reads_mid hb (by repeat' (first | exact Below.refl _ _ | refine below_drewN ?_ _ | refine Below.drew ?_ | refine Below.alloc ?_ (by first | omega | (simp; done) | (simp; omega) | (simp [World.setCell]; omega)) _ | refine Below.setCell ?_ (by first | omega | (simp; done) | (simp; omega)) _)))
  have R0_5 := Lib.hid (reads_lay hb hL5.out R0_4.out)
  have R1_5 := Lib.hid (reads_lay hb hL5.out R1_4.out)
  have R2_5 := Lib.hid (reads_lay hb hL5.out R2_4.out)
  clear hL5 R0_4 R1_4 R2_4
  have hz5 := hb.size
  try simp only [World.size_alloc, World.drewN, World.drew] at hz5
  clear hb K0_4 K1_4 z0_0_4 z0_1_4 z0_2_4 l0_4 z1_0_4 z1_1_4 z1_2_4 z1_3_4 z1_4_4 z1_5_4 l1_4
  have l0_5 : w.heap.size < w5.heap.size := K0_5.out.lt
  have z0_0_5 : w5.cell? ⟨w.heap.size, 0, none⟩ = some (.slice (some ⟨b1, o1, none⟩) n c1) := K0_5.out.cell 0
  have z0_1_5 : w5.cell? ⟨w.heap.size, 1, none⟩ = some (.slice (some ⟨b2, o2, none⟩) n c2) := K0_5.out.cell 1
  have z0_2_5 : w5.cell? ⟨w.heap.size, 2, none⟩ = some (.slice (some ⟨b3, o3, none⟩) n c3) := K0_5.out.cell 2
  have l1_5 : w.heap.size + 1 < w5.heap.size := K1_5.out.lt
  have z1_0_5 : w5.cell? ⟨w.heap.size + 1, 0, none⟩ = some (.int .i64 (a)) := K1_5.out.cell 0
  have z1_1_5 : w5.cell? ⟨w.heap.size + 1, 1, none⟩ = some (.int .i64 (b)) := K1_5.out.cell 1
  have z1_2_5 : w5.cell? ⟨w.heap.size + 1, 2, none⟩ = some (.int .i64 (c)) := K1_5.out.cell 2
  have z1_3_5 : w5.cell? ⟨w.heap.size + 1, 3, none⟩ = some (.int .i64 (d)) := K1_5.out.cell 3
  have z1_4_5 : w5.cell? ⟨w.heap.size + 1, 4, none⟩ = some (.int .i64 (x)) := K1_5.out.cell 4
  have z1_5_5 : w5.cell? ⟨w.heap.size + 1, 5, none⟩ = some (.int .i64 (y)) := K1_5.out.cell 5
  by_cases h1 : LE = 0
  rotate_left
  · have e1 : (LE != 0) = true := by simpa using h1
    clear h1
    go_wp2
    go_ret
    exact ⟨rfl, by repeat' (first | exact Below.refl _ _ | exact HB5.out | refine below_drewN ?_ _ | refine Below.drew ?_ | refine Below.alloc ?_ (by first | omega | (simp; done) | (simp; omega) | (simp [World.setCell]; omega)) _ | refine Below.setCell ?_ (by first | omega | (simp; done) | (simp; omega)) _ | assumption)⟩
  subst h1
  go_wp2_with fail
  refine (withinref_is _ _ _ ta HTA.out _).mono ?_
  rintro e w' ⟨rfl, rfl⟩
  cases ta
  · go_wp2
    go_ret
    exact ⟨rfl, by repeat' (first | exact Below.refl _ _ | exact HB5.out | refine below_drewN ?_ _ | refine Below.drew ?_ | refine Below.alloc ?_ (by first | omega | (simp; done) | (simp; omega) | (simp [World.setCell]; omega)) _ | refine Below.setCell ?_ (by first | omega | (simp; done) | (simp; omega)) _ | assumption)⟩
  go_wp2_with fail
  refine (withinref_is _ _ _ tc HTC.out _).mono ?_
  rintro e w' ⟨rfl, rfl⟩
  cases tc
  · go_wp2
    go_ret
    exact ⟨rfl, by repeat' (first | exact Below.refl _ _ | exact HB5.out | refine below_drewN ?_ _ | refine Below.drew ?_ | refine Below.alloc ?_ (by first | omega | (simp; done) | (simp; omega) | (simp [World.setCell]; omega)) _ | refine Below.setCell ?_ (by first | omega | (simp; done) | (simp; omega)) _ | assumption)⟩
  rcases H0.out with h | h | h
  · exact absurd rfl h
  · cases h
  · cases h

set_option maxRecDepth 100000 in
set_option maxHeartbeats 4000000 in
theorem lawFE_ok (n b1 o1 c1 b2 o2 c2 b3 o3 c3 : Nat) (l1 l2 l3 : List Int) (a b c d x y : Int) (w : World) (hF : (fewB6 n && (fewB6 n && fewB6 n)) = true) (hE : mapErr l1 l2 l3 = 0) (hL : lineErr a b c d = 0) (hta : withinB a (-10000000) 10000000 = true) (htc : withinB c (-10000000) 10000000 = true) (ia : I64 a) (ib : I64 b) (ic : I64 c) (jd : I64 d)
    (r1 : Reads w w.heap.size 1 (some ⟨b1, o1, none⟩) n (l1.map (.int .i64))) (r2 : Reads w w.heap.size 1 (some ⟨b2, o2, none⟩) n (l2.map (.int .i64))) (r3 : Reads w w.heap.size 1 (some ⟨b3, o3, none⟩) n (l3.map (.int .i64))) :
    Calls Try.prog 9 #[.agg #[.slice (some ⟨b1, o1, none⟩) n c1, .slice (some ⟨b2, o2, none⟩) n c2, .slice (some ⟨b3, o3, none⟩) n c3], .agg #[.int .i64 a, .int .i64 b, .int .i64 c, .int .i64 d, .int .i64 x, .int .i64 y]] w fun e w' => e = .returned (.bool true) ∧ Below w.heap.size w w' := by
  have f1 : n ≤ 42 := few6_true (by cases h : fewB6 n <;> simp_all)
  obtain ⟨m, hm⟩ : ∃ m, m = rmL n b1 o1 c1 b2 o2 c2 b3 o3 c3 l1 l2 l3 := ⟨_, rfl⟩
  obtain ⟨-, -, b1', o1', b2', o2', b3', o3', ea, eb, ec, hat, hok, hw1⟩ := rm_of hE c1 c2 c3 r1 r2 r3
  obtain ⟨rfl, rfl⟩ : b1 = b1' ∧ o1 = o1' := by simpa using ea
  obtain ⟨rfl, rfl⟩ : b2 = b2' ∧ o2 = o2' := by simpa using eb
  obtain ⟨rfl, rfl⟩ : b3 = b3' ∧ o3 = o3' := by simpa using ec
  have hmn : m.n = n := by rw [hm]; rfl
  have hmb3 : m.b3 = b3 ∧ m.o3 = o3 := by rw [hm]; exact ⟨rfl, rfl⟩
  rw [← hm] at hat hok hw1
  rw [← hmn] at hw1
  have hn19 : m.n < 20 := by
    rw [hmn]
    have h1 := hok.n2
    rw [hmn] at h1
    rcases few6_cases n with ⟨h2, h3⟩ | ⟨h2, h3⟩ | ⟨h2, h3⟩ | ⟨h2, h3⟩
    all_goals first | omega | (rw [h2] at hF; cases hF)
  have hl := (line_ok hL).1
  have hv : m.val = .agg #[.slice (some ⟨b1, o1, none⟩) n c1, .slice (some ⟨b2, o2, none⟩) n c2, .slice (some ⟨b3, o3, none⟩) n c3] := by rw [hm]; rfl
  have hrm := fun z hz => rremoval_is m hok a b c d x y hl z hz
  rw [hv] at hrm
  -- the sums
  have hta2 := within_yes hta
  have htc2 := within_yes htc
  have hrem : ∀ z, z < m.n → -20000000000000 ≤ remN m a b c d z ∧ remN m a b c d z ≤ 20000000000000 := by
    intro z hz
    have r1 := hok.h z hz
    have r2 := hok.q z hz
    have hb1 := hl.b1
    have hb2 := hl.b2
    have hd1 := hl.d1
    have hd2 := hl.d2
    have p0 := prod_small (x := b) (y := d) (X := 1000) (Y := 1000) (by omega) (by omega) (by omega) (by omega)
    have p1 := prod_small (x := m.h z) (y := b * d) (X := 100000) (Y := 1000000) (by omega) (by omega) (by omega) (by omega)
    have p2 := prod_small (x := a) (y := d) (X := 10000000) (Y := 1000) (by omega) (by omega) (by omega) (by omega)
    have p3 := prod_small (x := c) (y := m.q z) (X := 10000000) (Y := 1000) (by omega) (by omega) (by omega) (by omega)
    have p4 := prod_small (x := c * m.q z) (y := b) (X := 10000000000) (Y := 1000) (by omega) (by omega) (by omega) (by omega)
    unfold remN
    omega
  have hrs : ∀ k, k ≤ m.n → -800000000000000000 ≤ remS m a b c d k ∧ remS m a b c d k ≤ 800000000000000000 := by
    intro k hk
    have h3 := sumN_in m.n (f := fun i => m.u i * remN m a b c d i) (lo := -20000000000000000) (hi := 20000000000000000) (fun i hi => by
      have a := hok.u i hi
      have b := hrem i hi
      have := prod_small (x := m.u i) (y := remN m _ _ _ _ i) (X := 1000) (Y := 20000000000000) (by omega) (by omega) b.1 b.2
      exact ⟨by omega, by omega⟩) k hk
    have hn2 := hok.n2
    unfold remS
    omega
  obtain ⟨v, hvv⟩ : ∃ v, b * d = v := ⟨_, rfl⟩
  have hbd : 1 ≤ v ∧ v ≤ 1000000 := by
    have := (rem_in hok hl (show 0 < m.n from hok.n1)).1
    rw [hvv] at this; exact this
  -- the least sum
  obtain ⟨s, hs⟩ : ∃ s, redN (lsumF m m.n) (lwhole m) = s := ⟨_, rfl⟩
  obtain ⟨sv, hsv⟩ : ∃ s, redD (lsumF m m.n) (lwhole m) = s := ⟨_, rfl⟩
  have hro := ref_ok hok hw1
  have hls := lsum_in hok (k := m.n) (Nat.le_refl _)
  have hlw : 1 ≤ lwhole m ∧ lwhole m ≤ 1000000 := (remR_in hok (ref_in hok).1 (show 0 < m.n from hok.n1)).1
  have hl0 : 0 ≤ lsumF m m.n := by
    have h1 := sumN_in m.n (f := fun i => m.u i * remN m (refF m).1.1.1 (refF m).1.1.2 (refF m).1.2.1 (refF m).1.2.2 i) (lo := 0) (hi := 1000000000000000) (fun i hi => by
      have a := hok.u i hi
      have b := hro.up i hi
      have b2 := (remR_in hok (ref_in hok).1 hi).2
      have := prod_small (x := m.u i) (y := remN m (refF m).1.1.1 (refF m).1.1.2 (refF m).1.2.1 (refF m).1.2.2 i) (X := 1000) (Y := 1000000000000) (by omega) (by omega) (by omega) (by omega)
      exact ⟨Int.mul_nonneg a.1 b, by omega⟩) m.n (Nat.le_refl _)
    unfold lsumF
    omega
  have hrl := red_le (a := lsumF m m.n) (b := lwhole m) hlw.1
  obtain ⟨m1, m2, -⟩ := redm_mul (a := lsumF m m.n) (b := lwhole m) (by omega)
  rw [hs, hsv] at hrl m1
  rw [hsv] at m2
  have hs0 : 0 ≤ s ∧ s ≤ 40000000000000000 := by
    constructor
    · refine nonneg_of (y := lwhole m) (by omega) ?_
      rw [m1]; exact Int.mul_nonneg (by omega) hl0
    · omega
  have hsv0 : 1 ≤ sv ∧ sv ≤ 1000000 := by omega
  have hfin : (∀ z, z < m.n → 0 ≤ remN m a b c d z) → s * v ≤ remS m a b c d m.n * sv := by
    intro hup
    have h1 := ref_least hw1 hro hl.b1 hl.d1 hup
    rw [hvv] at h1
    have h2 : remS m (refF m).1.1.1 (refF m).1.1.2 (refF m).1.2.1 (refF m).1.2.2 m.n = lsumF m m.n := rfl
    have h3 : (refF m).1.1.2 * (refF m).1.2.2 = lwhole m := rfl
    rw [h2, h3] at h1
    have h4 : 0 ≤ (remS m a b c d m.n * sv - s * v) * lwhole m := by
      have e : (remS m a b c d m.n * sv - s * v) * lwhole m = (remS m a b c d m.n * lwhole m - lsumF m m.n * v) * sv := by
        have : s * v * lwhole m = (s * lwhole m) * v := by grind
        rw [Int.sub_mul, Int.sub_mul, this, m1]; grind
      rw [e]
      exact Int.mul_nonneg (by omega) (by omega)
    have := nonneg_of (by omega) h4
    omega
  have HEX := Lib.hid (show ∃ b1 o1 c1 b2 o2 c2 b3 o3 c3, m = rmL n b1 o1 c1 b2 o2 c2 b3 o3 c3 l1 l2 l3 from ⟨_, _, _, _, _, _, _, _, _, hm⟩)
  have HT := Lib.hid hF
  have R1 := Lib.hid r1
  have R2 := Lib.hid r2
  have R3 := Lib.hid r3
  have HE := Lib.hid hE
  have HL := Lib.hid hL
  have HTA := Lib.hid hta
  have HTC := Lib.hid htc
  have HAT := Lib.hid hat
  have HOK := Lib.hid hok
  have HRM := Lib.hid hrm
  have HREM := Lib.hid hrem
  have HRS := Lib.hid hrs
  have HFIN := Lib.hid hfin
  have HMN := Lib.hid hmn
  have HMB := Lib.hid hmb3
  have HS := Lib.hid hs
  have HSV := Lib.hid hsv
  have HVV := Lib.hid hvv
  have HN19 := Lib.hid hn19
  have e4 : ((n : Int) != (n : Int)) = false := by simp
  have e5 : IntKind.i64.wrap (b * d) = v := by rw [hvv]; exact IntWalk.i64_in v ⟨by omega, by omega⟩
  have d1 : decide (sv < 1) = false := by simp; omega
  have d2 : decide (40000000 < sv) = false := by simp; omega
  have HW3 := Lib.hid (within_mk (n := s) (lo := 0) (hi := 1000000000000000000) hs0.1 (by omega))
  clear r1 r2 r3 hE hL hF hm ea eb ec hat hok hw1 hv hrm hrem hrs hfin hmn hmb3 hs hsv hvv hta htc hta2 htc2 hl hro hls hlw hl0 hrl m1 m2 hn19
  go_enter Try.func9, Try.ntmps9
  go_wp2_with fail
  generalize hwn : ((w.alloc (.cells #[.slice (some ⟨b1, o1, none⟩) n c1, .slice (some ⟨b2, o2, none⟩) n c2, .slice (some ⟨b3, o3, none⟩) n c3] 24)).alloc (.cells #[.int .i64 (a), .int .i64 (b), .int .i64 (c), .int .i64 (d), .int .i64 (x), .int .i64 (y)] 75)) = w1
  have hbn : Below w.heap.size w w1 := by rw [← hwn]; repeat' (first | exact Below.refl _ _ | refine below_drewN ?_ _ | refine Below.drew ?_ | refine Below.alloc ?_ (by first | omega | (simp; done) | (simp; omega) | (simp [World.setCell]; omega)) _ | refine Below.setCell ?_ (by first | omega | (simp; done) | (simp; omega)) _)
  have HB1 := Lib.hid (show Below w.heap.size w w1 from hbn)
  have K0_1 := Lib.hid (show Blk w1 (w.heap.size) 24 #[.slice (some ⟨b1, o1, none⟩) n c1, .slice (some ⟨b2, o2, none⟩) n c2, .slice (some ⟨b3, o3, none⟩) n c3] by rw [← hwn]; repeat' (first | exact Blk.at_ _ (by first | rfl | (simp; done) | (simp; omega)) _ _ | refine Blk.drewN ?_ _ | refine Blk.drew ?_ | refine Blk.alloc ?_ _ | refine Blk.far ?_ (by first | omega | (simp; done) | (simp; omega)) _ | assumption))
  have K1_1 := Lib.hid (show Blk w1 (w.heap.size + 1) 75 #[.int .i64 (a), .int .i64 (b), .int .i64 (c), .int .i64 (d), .int .i64 (x), .int .i64 (y)] by rw [← hwn]; repeat' (first | exact Blk.at_ _ (by first | rfl | (simp; done) | (simp; omega)) _ _ | refine Blk.drewN ?_ _ | refine Blk.drew ?_ | refine Blk.alloc ?_ _ | refine Blk.far ?_ (by first | omega | (simp; done) | (simp; omega)) _ | assumption))
  have HN1 := Lib.hid hbn
  have hz1 := hbn.size
  clear hwn hbn
  have l0_1 : w.heap.size < w1.heap.size := K0_1.out.lt
  have z0_0_1 : w1.cell? ⟨w.heap.size, 0, none⟩ = some (.slice (some ⟨b1, o1, none⟩) n c1) := K0_1.out.cell 0
  have z0_1_1 : w1.cell? ⟨w.heap.size, 1, none⟩ = some (.slice (some ⟨b2, o2, none⟩) n c2) := K0_1.out.cell 1
  have z0_2_1 : w1.cell? ⟨w.heap.size, 2, none⟩ = some (.slice (some ⟨b3, o3, none⟩) n c3) := K0_1.out.cell 2
  have l1_1 : w.heap.size + 1 < w1.heap.size := K1_1.out.lt
  have z1_0_1 : w1.cell? ⟨w.heap.size + 1, 0, none⟩ = some (.int .i64 (a)) := K1_1.out.cell 0
  have z1_1_1 : w1.cell? ⟨w.heap.size + 1, 1, none⟩ = some (.int .i64 (b)) := K1_1.out.cell 1
  have z1_2_1 : w1.cell? ⟨w.heap.size + 1, 2, none⟩ = some (.int .i64 (c)) := K1_1.out.cell 2
  have z1_3_1 : w1.cell? ⟨w.heap.size + 1, 3, none⟩ = some (.int .i64 (d)) := K1_1.out.cell 3
  have z1_4_1 : w1.cell? ⟨w.heap.size + 1, 4, none⟩ = some (.int .i64 (x)) := K1_1.out.cell 4
  have z1_5_1 : w1.cell? ⟨w.heap.size + 1, 5, none⟩ = some (.int .i64 (y)) := K1_1.out.cell 5
  refine (awake6_any _).mono ?_
  rintro e w2 ⟨rfl, hb⟩
  have HB2 := Lib.hid (show Below w.heap.size w w2 from step_below hb (by repeat' (first | exact Below.refl _ _ | exact HB1.out | refine below_drewN ?_ _ | refine Below.drew ?_ | refine Below.alloc ?_ (by first | omega | (simp; done) | (simp; omega) | (simp [World.setCell]; omega)) _ | refine Below.setCell ?_ (by first | omega | (simp; done) | (simp; omega)) _ | assumption)))
  have K0_2 := Lib.hid (step_blk hb (show Blk _ (w.heap.size) 24 #[.slice (some ⟨b1, o1, none⟩) n c1, .slice (some ⟨b2, o2, none⟩) n c2, .slice (some ⟨b3, o3, none⟩) n c3] by repeat' (first | exact K0_1.out | exact K1_1.out | exact Blk.at_ _ (by first | rfl | (simp; done) | (simp; omega)) _ _ | refine Blk.drewN ?_ _ | refine Blk.drew ?_ | refine Blk.alloc ?_ _ | refine Blk.far ?_ (by first | omega | (simp; done) | (simp; omega)) _ | assumption)))
  have K1_2 := Lib.hid (step_blk hb (show Blk _ (w.heap.size + 1) 75 #[.int .i64 (a), .int .i64 (b), .int .i64 (c), .int .i64 (d), .int .i64 (x), .int .i64 (y)] by repeat' (first | exact K0_1.out | exact K1_1.out | exact Blk.at_ _ (by first | rfl | (simp; done) | (simp; omega)) _ _ | refine Blk.drewN ?_ _ | refine Blk.drew ?_ | refine Blk.alloc ?_ _ | refine Blk.far ?_ (by first | omega | (simp; done) | (simp; omega)) _ | assumption)))
  have hz2 := hb.size
  try simp only [World.size_alloc, World.drewN, World.drew] at hz2
  clear hb K0_1 K1_1 z0_0_1 z0_1_1 z0_2_1 l0_1 z1_0_1 z1_1_1 z1_2_1 z1_3_1 z1_4_1 z1_5_1 l1_1
  have l0_2 : w.heap.size < w2.heap.size := K0_2.out.lt
  have z0_0_2 : w2.cell? ⟨w.heap.size, 0, none⟩ = some (.slice (some ⟨b1, o1, none⟩) n c1) := K0_2.out.cell 0
  have z0_1_2 : w2.cell? ⟨w.heap.size, 1, none⟩ = some (.slice (some ⟨b2, o2, none⟩) n c2) := K0_2.out.cell 1
  have z0_2_2 : w2.cell? ⟨w.heap.size, 2, none⟩ = some (.slice (some ⟨b3, o3, none⟩) n c3) := K0_2.out.cell 2
  have l1_2 : w.heap.size + 1 < w2.heap.size := K1_2.out.lt
  have z1_0_2 : w2.cell? ⟨w.heap.size + 1, 0, none⟩ = some (.int .i64 (a)) := K1_2.out.cell 0
  have z1_1_2 : w2.cell? ⟨w.heap.size + 1, 1, none⟩ = some (.int .i64 (b)) := K1_2.out.cell 1
  have z1_2_2 : w2.cell? ⟨w.heap.size + 1, 2, none⟩ = some (.int .i64 (c)) := K1_2.out.cell 2
  have z1_3_2 : w2.cell? ⟨w.heap.size + 1, 3, none⟩ = some (.int .i64 (d)) := K1_2.out.cell 3
  have z1_4_2 : w2.cell? ⟨w.heap.size + 1, 4, none⟩ = some (.int .i64 (x)) := K1_2.out.cell 4
  have z1_5_2 : w2.cell? ⟨w.heap.size + 1, 5, none⟩ = some (.int .i64 (y)) := K1_2.out.cell 5
  go_wp2_with fail
  refine (few6_is _ _ _ n c1 n c2 n c3 true HT.out _).mono ?_
  rintro e w3 ⟨rfl, hb⟩
  have HB3 := Lib.hid (show Below w.heap.size w w3 from step_below hb (by repeat' (first | exact Below.refl _ _ | exact HB2.out | refine below_drewN ?_ _ | refine Below.drew ?_ | refine Below.alloc ?_ (by first | omega | (simp; done) | (simp; omega) | (simp [World.setCell]; omega)) _ | refine Below.setCell ?_ (by first | omega | (simp; done) | (simp; omega)) _ | assumption)))
  have K0_3 := Lib.hid (step_blk hb (show Blk _ (w.heap.size) 24 #[.slice (some ⟨b1, o1, none⟩) n c1, .slice (some ⟨b2, o2, none⟩) n c2, .slice (some ⟨b3, o3, none⟩) n c3] by repeat' (first | exact K0_2.out | exact K1_2.out | exact Blk.at_ _ (by first | rfl | (simp; done) | (simp; omega)) _ _ | refine Blk.drewN ?_ _ | refine Blk.drew ?_ | refine Blk.alloc ?_ _ | refine Blk.far ?_ (by first | omega | (simp; done) | (simp; omega)) _ | assumption)))
  have K1_3 := Lib.hid (step_blk hb (show Blk _ (w.heap.size + 1) 75 #[.int .i64 (a), .int .i64 (b), .int .i64 (c), .int .i64 (d), .int .i64 (x), .int .i64 (y)] by repeat' (first | exact K0_2.out | exact K1_2.out | exact Blk.at_ _ (by first | rfl | (simp; done) | (simp; omega)) _ _ | refine Blk.drewN ?_ _ | refine Blk.drew ?_ | refine Blk.alloc ?_ _ | refine Blk.far ?_ (by first | omega | (simp; done) | (simp; omega)) _ | assumption)))
  have hz3 := hb.size
  try simp only [World.size_alloc, World.drewN, World.drew] at hz3
  clear hb K0_2 K1_2 z0_0_2 z0_1_2 z0_2_2 l0_2 z1_0_2 z1_1_2 z1_2_2 z1_3_2 z1_4_2 z1_5_2 l1_2
  have l0_3 : w.heap.size < w3.heap.size := K0_3.out.lt
  have z0_0_3 : w3.cell? ⟨w.heap.size, 0, none⟩ = some (.slice (some ⟨b1, o1, none⟩) n c1) := K0_3.out.cell 0
  have z0_1_3 : w3.cell? ⟨w.heap.size, 1, none⟩ = some (.slice (some ⟨b2, o2, none⟩) n c2) := K0_3.out.cell 1
  have z0_2_3 : w3.cell? ⟨w.heap.size, 2, none⟩ = some (.slice (some ⟨b3, o3, none⟩) n c3) := K0_3.out.cell 2
  have l1_3 : w.heap.size + 1 < w3.heap.size := K1_3.out.lt
  have z1_0_3 : w3.cell? ⟨w.heap.size + 1, 0, none⟩ = some (.int .i64 (a)) := K1_3.out.cell 0
  have z1_1_3 : w3.cell? ⟨w.heap.size + 1, 1, none⟩ = some (.int .i64 (b)) := K1_3.out.cell 1
  have z1_2_3 : w3.cell? ⟨w.heap.size + 1, 2, none⟩ = some (.int .i64 (c)) := K1_3.out.cell 2
  have z1_3_3 : w3.cell? ⟨w.heap.size + 1, 3, none⟩ = some (.int .i64 (d)) := K1_3.out.cell 3
  have z1_4_3 : w3.cell? ⟨w.heap.size + 1, 4, none⟩ = some (.int .i64 (x)) := K1_3.out.cell 4
  have z1_5_3 : w3.cell? ⟨w.heap.size + 1, 5, none⟩ = some (.int .i64 (y)) := K1_3.out.cell 5
  have g1 := (R1.out.below HB3.out).more HB3.out.size
  have g2 := (R2.out.below HB3.out).more HB3.out.size
  have g3 := (R3.out.below HB3.out).more HB3.out.size
  have R0_3 := Lib.hid g1
  clear g1
  have R1_3 := Lib.hid g2
  clear g2
  have R2_3 := Lib.hid g3
  clear g3
  go_wp2_with fail
  refine (rcheckmap_is _ n c1 l1 _ n c2 l2 _ n c3 l3 0 HE.out _ R0_3.out R1_3.out R2_3.out (by omega) (by omega) (by omega)).mono ?_
  rintro e w4 ⟨rfl, hb⟩
  have HB4 := Lib.hid (show Below w.heap.size w w4 from step_below hb (by repeat' (first | exact Below.refl _ _ | exact HB3.out | refine below_drewN ?_ _ | refine Below.drew ?_ | refine Below.alloc ?_ (by first | omega | (simp; done) | (simp; omega) | (simp [World.setCell]; omega)) _ | refine Below.setCell ?_ (by first | omega | (simp; done) | (simp; omega)) _ | assumption)))
  have K0_4 := Lib.hid (step_blk hb (show Blk _ (w.heap.size) 24 #[.slice (some ⟨b1, o1, none⟩) n c1, .slice (some ⟨b2, o2, none⟩) n c2, .slice (some ⟨b3, o3, none⟩) n c3] by repeat' (first | exact K0_3.out | exact K1_3.out | exact Blk.at_ _ (by first | rfl | (simp; done) | (simp; omega)) _ _ | refine Blk.drewN ?_ _ | refine Blk.drew ?_ | refine Blk.alloc ?_ _ | refine Blk.far ?_ (by first | omega | (simp; done) | (simp; omega)) _ | assumption)))
  have K1_4 := Lib.hid (step_blk hb (show Blk _ (w.heap.size + 1) 75 #[.int .i64 (a), .int .i64 (b), .int .i64 (c), .int .i64 (d), .int .i64 (x), .int .i64 (y)] by repeat' (first | exact K0_3.out | exact K1_3.out | exact Blk.at_ _ (by first | rfl | (simp; done) | (simp; omega)) _ _ | refine Blk.drewN ?_ _ | refine Blk.drew ?_ | refine Blk.alloc ?_ _ | refine Blk.far ?_ (by first | omega | (simp; done) | (simp; omega)) _ | assumption)))
  have hL4 := Lib.hid (show Below w3.heap.size w3 _ from reads_mid hb (by repeat' (first | exact Below.refl _ _ | refine below_drewN ?_ _ | refine Below.drew ?_ | refine Below.alloc ?_ (by first | omega | (simp; done) | (simp; omega) | (simp [World.setCell]; omega)) _ | refine Below.setCell ?_ (by first | omega | (simp; done) | (simp; omega)) _)))
  have R0_4 := Lib.hid (reads_lay hb hL4.out R0_3.out)
  have R1_4 := Lib.hid (reads_lay hb hL4.out R1_3.out)
  have R2_4 := Lib.hid (reads_lay hb hL4.out R2_3.out)
  clear hL4 R0_3 R1_3 R2_3
  have hz4 := hb.size
  try simp only [World.size_alloc, World.drewN, World.drew] at hz4
  clear hb K0_3 K1_3 z0_0_3 z0_1_3 z0_2_3 l0_3 z1_0_3 z1_1_3 z1_2_3 z1_3_3 z1_4_3 z1_5_3 l1_3
  have l0_4 : w.heap.size < w4.heap.size := K0_4.out.lt
  have z0_0_4 : w4.cell? ⟨w.heap.size, 0, none⟩ = some (.slice (some ⟨b1, o1, none⟩) n c1) := K0_4.out.cell 0
  have z0_1_4 : w4.cell? ⟨w.heap.size, 1, none⟩ = some (.slice (some ⟨b2, o2, none⟩) n c2) := K0_4.out.cell 1
  have z0_2_4 : w4.cell? ⟨w.heap.size, 2, none⟩ = some (.slice (some ⟨b3, o3, none⟩) n c3) := K0_4.out.cell 2
  have l1_4 : w.heap.size + 1 < w4.heap.size := K1_4.out.lt
  have z1_0_4 : w4.cell? ⟨w.heap.size + 1, 0, none⟩ = some (.int .i64 (a)) := K1_4.out.cell 0
  have z1_1_4 : w4.cell? ⟨w.heap.size + 1, 1, none⟩ = some (.int .i64 (b)) := K1_4.out.cell 1
  have z1_2_4 : w4.cell? ⟨w.heap.size + 1, 2, none⟩ = some (.int .i64 (c)) := K1_4.out.cell 2
  have z1_3_4 : w4.cell? ⟨w.heap.size + 1, 3, none⟩ = some (.int .i64 (d)) := K1_4.out.cell 3
  have z1_4_4 : w4.cell? ⟨w.heap.size + 1, 4, none⟩ = some (.int .i64 (x)) := K1_4.out.cell 4
  have z1_5_4 : w4.cell? ⟨w.heap.size + 1, 5, none⟩ = some (.int .i64 (y)) := K1_4.out.cell 5
  go_wp2_with fail
  refine (rcheckline_is a b c d x y 0 HL.out ia ib ic jd _).mono ?_
  rintro e w5 ⟨rfl, hb⟩
  have HB5 := Lib.hid (show Below w.heap.size w w5 from step_below hb (by repeat' (first | exact Below.refl _ _ | exact HB4.out | refine below_drewN ?_ _ | refine Below.drew ?_ | refine Below.alloc ?_ (by first | omega | (simp; done) | (simp; omega) | (simp [World.setCell]; omega)) _ | refine Below.setCell ?_ (by first | omega | (simp; done) | (simp; omega)) _ | assumption)))
  have K0_5 := Lib.hid (step_blk hb (show Blk _ (w.heap.size) 24 #[.slice (some ⟨b1, o1, none⟩) n c1, .slice (some ⟨b2, o2, none⟩) n c2, .slice (some ⟨b3, o3, none⟩) n c3] by repeat' (first | exact K0_4.out | exact K1_4.out | exact Blk.at_ _ (by first | rfl | (simp; done) | (simp; omega)) _ _ | refine Blk.drewN ?_ _ | refine Blk.drew ?_ | refine Blk.alloc ?_ _ | refine Blk.far ?_ (by first | omega | (simp; done) | (simp; omega)) _ | assumption)))
  have K1_5 := Lib.hid (step_blk hb (show Blk _ (w.heap.size + 1) 75 #[.int .i64 (a), .int .i64 (b), .int .i64 (c), .int .i64 (d), .int .i64 (x), .int .i64 (y)] by repeat' (first | exact K0_4.out | exact K1_4.out | exact Blk.at_ _ (by first | rfl | (simp; done) | (simp; omega)) _ _ | refine Blk.drewN ?_ _ | refine Blk.drew ?_ | refine Blk.alloc ?_ _ | refine Blk.far ?_ (by first | omega | (simp; done) | (simp; omega)) _ | assumption)))
  have hL5 := Lib.hid (show Below w4.heap.size w4 _ from reads_mid hb (by repeat' (first | exact Below.refl _ _ | refine below_drewN ?_ _ | refine Below.drew ?_ | refine Below.alloc ?_ (by first | omega | (simp; done) | (simp; omega) | (simp [World.setCell]; omega)) _ | refine Below.setCell ?_ (by first | omega | (simp; done) | (simp; omega)) _)))
  have R0_5 := Lib.hid (reads_lay hb hL5.out R0_4.out)
  have R1_5 := Lib.hid (reads_lay hb hL5.out R1_4.out)
  have R2_5 := Lib.hid (reads_lay hb hL5.out R2_4.out)
  clear hL5 R0_4 R1_4 R2_4
  have hz5 := hb.size
  try simp only [World.size_alloc, World.drewN, World.drew] at hz5
  clear hb K0_4 K1_4 z0_0_4 z0_1_4 z0_2_4 l0_4 z1_0_4 z1_1_4 z1_2_4 z1_3_4 z1_4_4 z1_5_4 l1_4
  have l0_5 : w.heap.size < w5.heap.size := K0_5.out.lt
  have z0_0_5 : w5.cell? ⟨w.heap.size, 0, none⟩ = some (.slice (some ⟨b1, o1, none⟩) n c1) := K0_5.out.cell 0
  have z0_1_5 : w5.cell? ⟨w.heap.size, 1, none⟩ = some (.slice (some ⟨b2, o2, none⟩) n c2) := K0_5.out.cell 1
  have z0_2_5 : w5.cell? ⟨w.heap.size, 2, none⟩ = some (.slice (some ⟨b3, o3, none⟩) n c3) := K0_5.out.cell 2
  have l1_5 : w.heap.size + 1 < w5.heap.size := K1_5.out.lt
  have z1_0_5 : w5.cell? ⟨w.heap.size + 1, 0, none⟩ = some (.int .i64 (a)) := K1_5.out.cell 0
  have z1_1_5 : w5.cell? ⟨w.heap.size + 1, 1, none⟩ = some (.int .i64 (b)) := K1_5.out.cell 1
  have z1_2_5 : w5.cell? ⟨w.heap.size + 1, 2, none⟩ = some (.int .i64 (c)) := K1_5.out.cell 2
  have z1_3_5 : w5.cell? ⟨w.heap.size + 1, 3, none⟩ = some (.int .i64 (d)) := K1_5.out.cell 3
  have z1_4_5 : w5.cell? ⟨w.heap.size + 1, 4, none⟩ = some (.int .i64 (x)) := K1_5.out.cell 4
  have z1_5_5 : w5.cell? ⟨w.heap.size + 1, 5, none⟩ = some (.int .i64 (y)) := K1_5.out.cell 5
  go_wp2_with fail
  refine (withinref_is _ _ _ true HTA.out _).mono ?_
  rintro e w' ⟨rfl, rfl⟩
  go_wp2_with fail
  refine (withinref_is _ _ _ true HTC.out _).mono ?_
  rintro e w' ⟨rfl, rfl⟩
  go_wp2_with fail
  refine Fx.regionM (fun W g f w' => Kt (PfMR m n (remL m a b c d m.n)) W g w') (fun i (x : Rm × Pick) => if i = 1 then x.1.val else .tuple #[.slice x.2.1 n x.2.2, .int .i64 0]) (by kernel_rfl) ?_ ?_
  · intro f hf0
    exact Kt.start
  first
  | (refine Fx.WM.skip 0 (by rfl) (by kernel_rfl) (by kernel_rfl) (by kernel_rfl) (by rfl) (fun g f w h => h) ?_; simp only [Act.put, List.setIfInBounds_toArray, List.set_cons_zero, List.set_cons_succ])
  | (refine Fx.WM.val_ 0 ?_ (by rfl) (by kernel_rfl) (by kernel_rfl) (by kernel_rfl) (by rfl) ?_ (fun g f w h => h) ?_
     rotate_left
     · intro g f w' hx hD hk
       obtain hkp := id hD
       have y0_0 := (K0_5.out.below hkp.bel l0_5).cell 0
       have y0_1 := (K0_5.out.below hkp.bel l0_5).cell 1
       have y0_2 := (K0_5.out.below hkp.bel l0_5).cell 2
       have y1_0 := (K1_5.out.below hkp.bel l1_5).cell 0
       have y1_1 := (K1_5.out.below hkp.bel l1_5).cell 1
       have y1_2 := (K1_5.out.below hkp.bel l1_5).cell 2
       have y1_3 := (K1_5.out.below hkp.bel l1_5).cell 3
       have y1_4 := (K1_5.out.below hkp.bel l1_5).cell 4
       have y1_5 := (K1_5.out.below hkp.bel l1_5).cell 5
       clear hx hk hD hkp
       go_simp
       try rfl
     simp only [Act.put, List.setIfInBounds_toArray, List.set_cons_zero, List.set_cons_succ])
  first
  | (refine Fx.WM.skip 2 (by rfl) (by kernel_rfl) (by kernel_rfl) (by kernel_rfl) (by rfl) (fun g f w h => h) ?_; simp only [Act.put, List.setIfInBounds_toArray, List.set_cons_zero, List.set_cons_succ])
  | (refine Fx.WM.val_ 2 ?_ (by rfl) (by kernel_rfl) (by kernel_rfl) (by kernel_rfl) (by rfl) ?_ (fun g f w h => h) ?_
     rotate_left
     · intro g f w' hx hD hk
       obtain hkp := id hD
       have y0_0 := (K0_5.out.below hkp.bel l0_5).cell 0
       have y0_1 := (K0_5.out.below hkp.bel l0_5).cell 1
       have y0_2 := (K0_5.out.below hkp.bel l0_5).cell 2
       have y1_0 := (K1_5.out.below hkp.bel l1_5).cell 0
       have y1_1 := (K1_5.out.below hkp.bel l1_5).cell 1
       have y1_2 := (K1_5.out.below hkp.bel l1_5).cell 2
       have y1_3 := (K1_5.out.below hkp.bel l1_5).cell 3
       have y1_4 := (K1_5.out.below hkp.bel l1_5).cell 4
       have y1_5 := (K1_5.out.below hkp.bel l1_5).cell 5
       clear hx hk hD hkp
       go_simp
       try rfl
     simp only [Act.put, List.setIfInBounds_toArray, List.set_cons_zero, List.set_cons_succ])
  refine Fx.WM.choose 1 (by rfl) (by kernel_rfl) (by rfl) ?_ ?_
  · skip
    refine Fx.Chooses.call ?_ ?_ (by rfl) ?_ ?_
    rotate_left 2
    · intro w'
      go_simp
      refine ⟨?_, ?_⟩ <;> rfl
    · intro f w' hD hk
      exact (mapped_ok HE.out n c1 c2 c3 _ _ _ m HEX.out (by omega) w' ((R0_5.out.below hD.bel).more hD.bel.size) ((R1_5.out.below hD.bel).more hD.bel.size) ((R2_5.out.below hD.bel).more hD.bel.size)).mono fun e w'' ⟨x, he, hb, hcm⟩ => ⟨(x, (none, 0)), he, hD.choose PfMR.stb hb 1 _ ⟨fun _ => hcm, fun e => absurd e (by decide)⟩⟩
  intro y_
  simp only [Act.put, List.setIfInBounds_toArray, List.set_cons_zero, List.set_cons_succ]
  refine Fx.WM.choose 3 (by rfl) (by kernel_rfl) (by rfl) ?_ ?_
  · skip
    refine Fx.Chooses.call ?_ ?_ (by rfl) ?_ ?_
    rotate_left 2
    · intro w'
      go_simp
      refine ⟨?_, ?_⟩ <;> rfl
    · intro f w' hD hk
      exact (rems_copy HOK.out HMN.out a b c d x y HL.out ia ib ic jd w' ((hD.has 1 y_ (by rfl)).1 rfl)).mono fun e w'' ⟨A', c', he, hb, hr⟩ => ⟨(y_.1, (A', c')), he, hD.choose PfMR.stb hb 3 _ ⟨fun e => absurd e (by decide), fun _ => hr⟩⟩
  intro u_
  simp only [Act.put, List.setIfInBounds_toArray, List.set_cons_zero, List.set_cons_succ]
  simp only [show ((3 : Nat) = 1) = False from by simp, if_false]
  first
  | (refine Fx.WM.skip 4 (by rfl) (by kernel_rfl) (by kernel_rfl) (by kernel_rfl) (by rfl) (fun g f w h => h) ?_; simp only [Act.put, List.setIfInBounds_toArray, List.set_cons_zero, List.set_cons_succ])
  | (refine Fx.WM.val_ 4 ?_ (by rfl) (by kernel_rfl) (by kernel_rfl) (by kernel_rfl) (by rfl) ?_ (fun g f w h => h) ?_
     rotate_left
     · intro g f w' hx hD hk
       obtain hkp := id hD
       clear hx hk hD hkp
       go_simp
       try rfl
     simp only [Act.put, List.setIfInBounds_toArray, List.set_cons_zero, List.set_cons_succ])
  first
  | (refine Fx.WM.skip 5 (by rfl) (by kernel_rfl) (by kernel_rfl) (by kernel_rfl) (by rfl) (fun g f w h => h) ?_; simp only [Act.put, List.setIfInBounds_toArray, List.set_cons_zero, List.set_cons_succ])
  | (refine Fx.WM.val_ 5 ?_ (by rfl) (by kernel_rfl) (by kernel_rfl) (by kernel_rfl) (by rfl) ?_ (fun g f w h => h) ?_
     rotate_left
     · intro g f w' hx hD hk
       obtain hkp := id hD
       clear hx hk hD hkp
       go_simp
       try rfl
     simp only [Act.put, List.setIfInBounds_toArray, List.set_cons_zero, List.set_cons_succ])
  first
  | (refine Fx.WM.skip 6 (by rfl) (by kernel_rfl) (by kernel_rfl) (by kernel_rfl) (by rfl) (fun g f w h => h) ?_; simp only [Act.put, List.setIfInBounds_toArray, List.set_cons_zero, List.set_cons_succ])
  | (refine Fx.WM.val_ 6 ?_ (by rfl) (by kernel_rfl) (by kernel_rfl) (by kernel_rfl) (by rfl) ?_ (fun g f w h => h) ?_
     rotate_left
     · intro g f w' hx hD hk
       obtain hkp := id hD
       clear hx hk hD hkp
       go_simp
       try rfl
     simp only [Act.put, List.setIfInBounds_toArray, List.set_cons_zero, List.set_cons_succ])
  first
  | (refine Fx.WM.skip 7 (by rfl) (by kernel_rfl) (by kernel_rfl) (by kernel_rfl) (by rfl) (fun g f w h => h) ?_; simp only [Act.put, List.setIfInBounds_toArray, List.set_cons_zero, List.set_cons_succ])
  | (refine Fx.WM.val_ 7 ?_ (by rfl) (by kernel_rfl) (by kernel_rfl) (by kernel_rfl) (by rfl) ?_ (fun g f w h => h) ?_
     rotate_left
     · intro g f w' hx hD hk
       obtain hkp := id hD
       clear hx hk hD hkp
       go_simp
       try rfl
     simp only [Act.put, List.setIfInBounds_toArray, List.set_cons_zero, List.set_cons_succ])
  first
  | (refine Fx.WM.skip 8 (by rfl) (by kernel_rfl) (by kernel_rfl) (by kernel_rfl) (by rfl) (fun g f w h => h) ?_; simp only [Act.put, List.setIfInBounds_toArray, List.set_cons_zero, List.set_cons_succ])
  | (refine Fx.WM.val_ 8 ?_ (by rfl) (by kernel_rfl) (by kernel_rfl) (by kernel_rfl) (by rfl) ?_ (fun g f w h => h) ?_
     rotate_left
     · intro g f w' hx hD hk
       obtain hkp := id hD
       clear hx hk hD hkp
       go_simp
       try rfl
     simp only [Act.put, List.setIfInBounds_toArray, List.set_cons_zero, List.set_cons_succ])
  refine Fx.WM.nil (by kernel_rfl) ?_
  intro wz hkp
  obtain ⟨A5, c5, hy5⟩ : ∃ A5 c5, u_.2 = (A5, c5) := ⟨_, _, rfl⟩
  have hs : Reads wz wz.heap.size 2 u_.2.1 n (cells2 (remL m a b c d m.n)) := (hkp.has 3 u_ (by rfl)).2 rfl
  rw [hy5] at hs
  simp only [hy5]
  have hb := hkp.bel
  clear hkp
  obtain ⟨w6, hnm⟩ : ∃ z : World, z = wz := ⟨_, rfl⟩
  subst hnm
  have HB6 := Lib.hid (show Below w.heap.size w w6 from step_below hb (by repeat' (first | exact Below.refl _ _ | exact HB5.out | refine below_drewN ?_ _ | refine Below.drew ?_ | refine Below.alloc ?_ (by first | omega | (simp; done) | (simp; omega) | (simp [World.setCell]; omega)) _ | refine Below.setCell ?_ (by first | omega | (simp; done) | (simp; omega)) _ | assumption)))
  have K0_6 := Lib.hid (step_blk hb (show Blk _ (w.heap.size) 24 #[.slice (some ⟨b1, o1, none⟩) n c1, .slice (some ⟨b2, o2, none⟩) n c2, .slice (some ⟨b3, o3, none⟩) n c3] by repeat' (first | exact K0_5.out | exact K1_5.out | exact Blk.at_ _ (by first | rfl | (simp; done) | (simp; omega)) _ _ | refine Blk.drewN ?_ _ | refine Blk.drew ?_ | refine Blk.alloc ?_ _ | refine Blk.far ?_ (by first | omega | (simp; done) | (simp; omega)) _ | assumption)))
  have K1_6 := Lib.hid (step_blk hb (show Blk _ (w.heap.size + 1) 75 #[.int .i64 (a), .int .i64 (b), .int .i64 (c), .int .i64 (d), .int .i64 (x), .int .i64 (y)] by repeat' (first | exact K0_5.out | exact K1_5.out | exact Blk.at_ _ (by first | rfl | (simp; done) | (simp; omega)) _ _ | refine Blk.drewN ?_ _ | refine Blk.drew ?_ | refine Blk.alloc ?_ _ | refine Blk.far ?_ (by first | omega | (simp; done) | (simp; omega)) _ | assumption)))
  have hL6 := Lib.hid (show Below w5.heap.size w5 _ from reads_mid hb (by repeat' (first | exact Below.refl _ _ | refine below_drewN ?_ _ | refine Below.drew ?_ | refine Below.alloc ?_ (by first | omega | (simp; done) | (simp; omega) | (simp [World.setCell]; omega)) _ | refine Below.setCell ?_ (by first | omega | (simp; done) | (simp; omega)) _)))
  have R0_6 := Lib.hid (reads_lay hb hL6.out R0_5.out)
  have R1_6 := Lib.hid (reads_lay hb hL6.out R1_5.out)
  have R2_6 := Lib.hid (reads_lay hb hL6.out R2_5.out)
  clear hL6 R0_5 R1_5 R2_5
  have hz6 := hb.size
  try simp only [World.size_alloc, World.drewN, World.drew] at hz6
  clear hb K0_5 K1_5 z0_0_5 z0_1_5 z0_2_5 l0_5 z1_0_5 z1_1_5 z1_2_5 z1_3_5 z1_4_5 z1_5_5 l1_5
  have l0_6 : w.heap.size < w6.heap.size := K0_6.out.lt
  have z0_0_6 : w6.cell? ⟨w.heap.size, 0, none⟩ = some (.slice (some ⟨b1, o1, none⟩) n c1) := K0_6.out.cell 0
  have z0_1_6 : w6.cell? ⟨w.heap.size, 1, none⟩ = some (.slice (some ⟨b2, o2, none⟩) n c2) := K0_6.out.cell 1
  have z0_2_6 : w6.cell? ⟨w.heap.size, 2, none⟩ = some (.slice (some ⟨b3, o3, none⟩) n c3) := K0_6.out.cell 2
  have l1_6 : w.heap.size + 1 < w6.heap.size := K1_6.out.lt
  have z1_0_6 : w6.cell? ⟨w.heap.size + 1, 0, none⟩ = some (.int .i64 (a)) := K1_6.out.cell 0
  have z1_1_6 : w6.cell? ⟨w.heap.size + 1, 1, none⟩ = some (.int .i64 (b)) := K1_6.out.cell 1
  have z1_2_6 : w6.cell? ⟨w.heap.size + 1, 2, none⟩ = some (.int .i64 (c)) := K1_6.out.cell 2
  have z1_3_6 : w6.cell? ⟨w.heap.size + 1, 3, none⟩ = some (.int .i64 (d)) := K1_6.out.cell 3
  have z1_4_6 : w6.cell? ⟨w.heap.size + 1, 4, none⟩ = some (.int .i64 (x)) := K1_6.out.cell 4
  have z1_5_6 : w6.cell? ⟨w.heap.size + 1, 5, none⟩ = some (.int .i64 (y)) := K1_6.out.cell 5
  have R3_6 := Lib.hid hs
  clear hs
  go_wp2_with fail
  refine (mapped_ok HE.out n c1 c2 c3 _ _ _ m HEX.out (by omega) _ R0_6.out R1_6.out R2_6.out).mono ?_
  rintro e w7 ⟨x6, rfl, hb, hcm⟩
  have HB7 := Lib.hid (show Below w.heap.size w w7 from step_below hb (by repeat' (first | exact Below.refl _ _ | exact HB6.out | refine below_drewN ?_ _ | refine Below.drew ?_ | refine Below.alloc ?_ (by first | omega | (simp; done) | (simp; omega) | (simp [World.setCell]; omega)) _ | refine Below.setCell ?_ (by first | omega | (simp; done) | (simp; omega)) _ | assumption)))
  have K0_7 := Lib.hid (step_blk hb (show Blk _ (w.heap.size) 24 #[.slice (some ⟨b1, o1, none⟩) n c1, .slice (some ⟨b2, o2, none⟩) n c2, .slice (some ⟨b3, o3, none⟩) n c3] by repeat' (first | exact K0_6.out | exact K1_6.out | exact Blk.at_ _ (by first | rfl | (simp; done) | (simp; omega)) _ _ | refine Blk.drewN ?_ _ | refine Blk.drew ?_ | refine Blk.alloc ?_ _ | refine Blk.far ?_ (by first | omega | (simp; done) | (simp; omega)) _ | assumption)))
  have K1_7 := Lib.hid (step_blk hb (show Blk _ (w.heap.size + 1) 75 #[.int .i64 (a), .int .i64 (b), .int .i64 (c), .int .i64 (d), .int .i64 (x), .int .i64 (y)] by repeat' (first | exact K0_6.out | exact K1_6.out | exact Blk.at_ _ (by first | rfl | (simp; done) | (simp; omega)) _ _ | refine Blk.drewN ?_ _ | refine Blk.drew ?_ | refine Blk.alloc ?_ _ | refine Blk.far ?_ (by first | omega | (simp; done) | (simp; omega)) _ | assumption)))
  have hL7 := Lib.hid (show Below w6.heap.size w6 _ from reads_mid hb (by repeat' (first | exact Below.refl _ _ | refine below_drewN ?_ _ | refine Below.drew ?_ | refine Below.alloc ?_ (by first | omega | (simp; done) | (simp; omega) | (simp [World.setCell]; omega)) _ | refine Below.setCell ?_ (by first | omega | (simp; done) | (simp; omega)) _)))
  have R0_7 := Lib.hid (reads_lay hb hL7.out R0_6.out)
  have R1_7 := Lib.hid (reads_lay hb hL7.out R1_6.out)
  have R2_7 := Lib.hid (reads_lay hb hL7.out R2_6.out)
  have R3_7 := Lib.hid (reads_lay hb hL7.out R3_6.out)
  clear hL7 R0_6 R1_6 R2_6 R3_6
  have hz7 := hb.size
  try simp only [World.size_alloc, World.drewN, World.drew] at hz7
  clear hb K0_6 K1_6 z0_0_6 z0_1_6 z0_2_6 l0_6 z1_0_6 z1_1_6 z1_2_6 z1_3_6 z1_4_6 z1_5_6 l1_6
  have l0_7 : w.heap.size < w7.heap.size := K0_7.out.lt
  have z0_0_7 : w7.cell? ⟨w.heap.size, 0, none⟩ = some (.slice (some ⟨b1, o1, none⟩) n c1) := K0_7.out.cell 0
  have z0_1_7 : w7.cell? ⟨w.heap.size, 1, none⟩ = some (.slice (some ⟨b2, o2, none⟩) n c2) := K0_7.out.cell 1
  have z0_2_7 : w7.cell? ⟨w.heap.size, 2, none⟩ = some (.slice (some ⟨b3, o3, none⟩) n c3) := K0_7.out.cell 2
  have l1_7 : w.heap.size + 1 < w7.heap.size := K1_7.out.lt
  have z1_0_7 : w7.cell? ⟨w.heap.size + 1, 0, none⟩ = some (.int .i64 (a)) := K1_7.out.cell 0
  have z1_1_7 : w7.cell? ⟨w.heap.size + 1, 1, none⟩ = some (.int .i64 (b)) := K1_7.out.cell 1
  have z1_2_7 : w7.cell? ⟨w.heap.size + 1, 2, none⟩ = some (.int .i64 (c)) := K1_7.out.cell 2
  have z1_3_7 : w7.cell? ⟨w.heap.size + 1, 3, none⟩ = some (.int .i64 (d)) := K1_7.out.cell 3
  have z1_4_7 : w7.cell? ⟨w.heap.size + 1, 4, none⟩ = some (.int .i64 (x)) := K1_7.out.cell 4
  have z1_5_7 : w7.cell? ⟨w.heap.size + 1, 5, none⟩ = some (.int .i64 (y)) := K1_7.out.cell 5
  have hlk := hcm.like
  have HSX := Lib.hid (show redN (lsumF x6 x6.n) (lwhole x6) = s by rw [hlk.lsum, hlk.lwhole]; exact HS.out)
  have HVX := Lib.hid (show redD (lsumF x6 x6.n) (lwhole x6) = sv by rw [hlk.lsum, hlk.lwhole]; exact HSV.out)
  have HCM := Lib.hid hcm
  clear hcm hlk
  go_wp2_with fail
  refine (least_ok x6 (HCM.out.like.ok HOK.out) (by rw [HCM.out.like.n]; exact HN19.out) _ HCM.out.at_ HCM.out.ck s sv HSX.out HVX.out).mono ?_
  rintro e w8 ⟨rfl, hb⟩
  have HB8 := Lib.hid (show Below w.heap.size w w8 from step_below hb (by repeat' (first | exact Below.refl _ _ | exact HB7.out | refine below_drewN ?_ _ | refine Below.drew ?_ | refine Below.alloc ?_ (by first | omega | (simp; done) | (simp; omega) | (simp [World.setCell]; omega)) _ | refine Below.setCell ?_ (by first | omega | (simp; done) | (simp; omega)) _ | assumption)))
  have K0_8 := Lib.hid (step_blk hb (show Blk _ (w.heap.size) 24 #[.slice (some ⟨b1, o1, none⟩) n c1, .slice (some ⟨b2, o2, none⟩) n c2, .slice (some ⟨b3, o3, none⟩) n c3] by repeat' (first | exact K0_7.out | exact K1_7.out | exact Blk.at_ _ (by first | rfl | (simp; done) | (simp; omega)) _ _ | refine Blk.drewN ?_ _ | refine Blk.drew ?_ | refine Blk.alloc ?_ _ | refine Blk.far ?_ (by first | omega | (simp; done) | (simp; omega)) _ | assumption)))
  have K1_8 := Lib.hid (step_blk hb (show Blk _ (w.heap.size + 1) 75 #[.int .i64 (a), .int .i64 (b), .int .i64 (c), .int .i64 (d), .int .i64 (x), .int .i64 (y)] by repeat' (first | exact K0_7.out | exact K1_7.out | exact Blk.at_ _ (by first | rfl | (simp; done) | (simp; omega)) _ _ | refine Blk.drewN ?_ _ | refine Blk.drew ?_ | refine Blk.alloc ?_ _ | refine Blk.far ?_ (by first | omega | (simp; done) | (simp; omega)) _ | assumption)))
  have hL8 := Lib.hid (show Below w7.heap.size w7 _ from reads_mid hb (by repeat' (first | exact Below.refl _ _ | refine below_drewN ?_ _ | refine Below.drew ?_ | refine Below.alloc ?_ (by first | omega | (simp; done) | (simp; omega) | (simp [World.setCell]; omega)) _ | refine Below.setCell ?_ (by first | omega | (simp; done) | (simp; omega)) _)))
  have R0_8 := Lib.hid (reads_lay hb hL8.out R0_7.out)
  have R1_8 := Lib.hid (reads_lay hb hL8.out R1_7.out)
  have R2_8 := Lib.hid (reads_lay hb hL8.out R2_7.out)
  have R3_8 := Lib.hid (reads_lay hb hL8.out R3_7.out)
  clear hL8 R0_7 R1_7 R2_7 R3_7
  have hz8 := hb.size
  try simp only [World.size_alloc, World.drewN, World.drew] at hz8
  clear hb K0_7 K1_7 z0_0_7 z0_1_7 z0_2_7 l0_7 z1_0_7 z1_1_7 z1_2_7 z1_3_7 z1_4_7 z1_5_7 l1_7
  have l0_8 : w.heap.size < w8.heap.size := K0_8.out.lt
  have z0_0_8 : w8.cell? ⟨w.heap.size, 0, none⟩ = some (.slice (some ⟨b1, o1, none⟩) n c1) := K0_8.out.cell 0
  have z0_1_8 : w8.cell? ⟨w.heap.size, 1, none⟩ = some (.slice (some ⟨b2, o2, none⟩) n c2) := K0_8.out.cell 1
  have z0_2_8 : w8.cell? ⟨w.heap.size, 2, none⟩ = some (.slice (some ⟨b3, o3, none⟩) n c3) := K0_8.out.cell 2
  have l1_8 : w.heap.size + 1 < w8.heap.size := K1_8.out.lt
  have z1_0_8 : w8.cell? ⟨w.heap.size + 1, 0, none⟩ = some (.int .i64 (a)) := K1_8.out.cell 0
  have z1_1_8 : w8.cell? ⟨w.heap.size + 1, 1, none⟩ = some (.int .i64 (b)) := K1_8.out.cell 1
  have z1_2_8 : w8.cell? ⟨w.heap.size + 1, 2, none⟩ = some (.int .i64 (c)) := K1_8.out.cell 2
  have z1_3_8 : w8.cell? ⟨w.heap.size + 1, 3, none⟩ = some (.int .i64 (d)) := K1_8.out.cell 3
  have z1_4_8 : w8.cell? ⟨w.heap.size + 1, 4, none⟩ = some (.int .i64 (x)) := K1_8.out.cell 4
  have z1_5_8 : w8.cell? ⟨w.heap.size + 1, 5, none⟩ = some (.int .i64 (y)) := K1_8.out.cell 5
  clear HCM HSX HVX
  go_wp2_with fail
  generalize hwn : (w8.alloc (.cells #[.int .i64 (s), .int .i64 (sv)] 28)) = w9
  have hbn : Below w8.heap.size w8 w9 := by rw [← hwn]; repeat' (first | exact Below.refl _ _ | refine below_drewN ?_ _ | refine Below.drew ?_ | refine Below.alloc ?_ (by first | omega | (simp; done) | (simp; omega) | (simp [World.setCell]; omega)) _ | refine Below.setCell ?_ (by first | omega | (simp; done) | (simp; omega)) _)
  have HB9 := Lib.hid (show Below w.heap.size w w9 from HB8.out.trans (hbn.mono HB8.out.size))
  have K0_9 := Lib.hid (step_blk hbn K0_8.out)
  have K1_9 := Lib.hid (step_blk hbn K1_8.out)
  have K2_9 := Lib.hid (show Blk w9 (w8.heap.size) 28 #[.int .i64 (s), .int .i64 (sv)] by rw [← hwn]; repeat' (first | exact Blk.at_ _ (by first | rfl | (simp; done) | (simp; omega)) _ _ | refine Blk.drewN ?_ _ | refine Blk.drew ?_ | refine Blk.alloc ?_ _ | refine Blk.far ?_ (by first | omega | (simp; done) | (simp; omega)) _ | assumption))
  have R0_9 := Lib.hid ((R0_8.out.below hbn).more hbn.size)
  have R1_9 := Lib.hid ((R1_8.out.below hbn).more hbn.size)
  have R2_9 := Lib.hid ((R2_8.out.below hbn).more hbn.size)
  have R3_9 := Lib.hid ((R3_8.out.below hbn).more hbn.size)
  have HN9 := Lib.hid hbn
  have hz9 := hbn.size
  clear hwn hbn K0_8 l0_8 z0_0_8 z0_1_8 z0_2_8 K1_8 l1_8 z1_0_8 z1_1_8 z1_2_8 z1_3_8 z1_4_8 z1_5_8 R0_8 R1_8 R2_8 R3_8
  have l0_9 : w.heap.size < w9.heap.size := K0_9.out.lt
  have z0_0_9 : w9.cell? ⟨w.heap.size, 0, none⟩ = some (.slice (some ⟨b1, o1, none⟩) n c1) := K0_9.out.cell 0
  have z0_1_9 : w9.cell? ⟨w.heap.size, 1, none⟩ = some (.slice (some ⟨b2, o2, none⟩) n c2) := K0_9.out.cell 1
  have z0_2_9 : w9.cell? ⟨w.heap.size, 2, none⟩ = some (.slice (some ⟨b3, o3, none⟩) n c3) := K0_9.out.cell 2
  have l1_9 : w.heap.size + 1 < w9.heap.size := K1_9.out.lt
  have z1_0_9 : w9.cell? ⟨w.heap.size + 1, 0, none⟩ = some (.int .i64 (a)) := K1_9.out.cell 0
  have z1_1_9 : w9.cell? ⟨w.heap.size + 1, 1, none⟩ = some (.int .i64 (b)) := K1_9.out.cell 1
  have z1_2_9 : w9.cell? ⟨w.heap.size + 1, 2, none⟩ = some (.int .i64 (c)) := K1_9.out.cell 2
  have z1_3_9 : w9.cell? ⟨w.heap.size + 1, 3, none⟩ = some (.int .i64 (d)) := K1_9.out.cell 3
  have z1_4_9 : w9.cell? ⟨w.heap.size + 1, 4, none⟩ = some (.int .i64 (x)) := K1_9.out.cell 4
  have z1_5_9 : w9.cell? ⟨w.heap.size + 1, 5, none⟩ = some (.int .i64 (y)) := K1_9.out.cell 5
  have l2_9 : w8.heap.size < w9.heap.size := K2_9.out.lt
  have z2_0_9 : w9.cell? ⟨w8.heap.size, 0, none⟩ = some (.int .i64 (s)) := K2_9.out.cell 0
  have z2_1_9 : w9.cell? ⟨w8.heap.size, 1, none⟩ = some (.int .i64 (sv)) := K2_9.out.cell 1
  refine (withinref_is _ _ _ true HW3.out _).mono ?_
  rintro e w' ⟨rfl, rfl⟩
  go_wp2
  have RS := R3_9
  have KT := K0_9
  have KU := K1_9
  have KF := K2_9
  clear R0_9 R1_9 R2_9 R3_9
  have hs9 := HB9.out.size
  obtain ⟨bf, hbf⟩ : ∃ bf, w8.heap.size = bf := ⟨_, rfl⟩
  rw [hbf] at KF
  rw [hbf]
  have hbf1 : w.heap.size ≤ bf := by have := HB8.out.size; omega
  have hs0s := HRS
  go_loopw [10, 11] (fun t v wr => ∃ j : Nat, j ≤ n ∧ t = .int .i64 (remS m a b c d j) ∧ v = .int .i64 j ∧ (∀ z, z < j → 0 ≤ remN m a b c d z) ∧ Below w9.heap.size w9 wr) (fun _ v _ => n - (intOf v).toNat)
  case atStart => exact ⟨0, by omega, rfl, rfl, fun z hz => absurd hz (by omega), Below.refl _ _⟩
  case round =>
    obtain ⟨j, hj, rfl, rfl, hup, hbj⟩ := hrel
    obtain ⟨w10, hnm⟩ : ∃ z : World, z = wr := ⟨_, rfl⟩
    subst hnm
    have HBJ := Lib.hid hbj
    have HUP := Lib.hid hup
    have hk0 := Blk.below KT.out hbj KT.out.lt
    have hk1 := Blk.below KU.out hbj KU.out.lt
    have hk2 := Blk.below KF.out hbj KF.out.lt
    have hb' := HB9.out.trans (hbj.mono HB9.out.size)
    have hsd := RS.out.below hbj
    have hat := HAT.out.lay hb'
    clear hbj hup
    have HB10 := Lib.hid hb'
    have K0_10 := Lib.hid (show Blk w10 (w.heap.size) 24 #[.slice (some ⟨b1, o1, none⟩) n c1, .slice (some ⟨b2, o2, none⟩) n c2, .slice (some ⟨b3, o3, none⟩) n c3] from hk0)
    have K1_10 := Lib.hid (show Blk w10 (w.heap.size + 1) 75 #[.int .i64 (a), .int .i64 (b), .int .i64 (c), .int .i64 (d), .int .i64 (x), .int .i64 (y)] from hk1)
    have K2_10 := Lib.hid (show Blk w10 (bf) 28 #[.int .i64 (s), .int .i64 (sv)] from hk2)
    clear hb' hk0 hk1 hk2
    have l0_10 : w.heap.size < w10.heap.size := K0_10.out.lt
    have z0_0_10 : w10.cell? ⟨w.heap.size, 0, none⟩ = some (.slice (some ⟨b1, o1, none⟩) n c1) := K0_10.out.cell 0
    have z0_1_10 : w10.cell? ⟨w.heap.size, 1, none⟩ = some (.slice (some ⟨b2, o2, none⟩) n c2) := K0_10.out.cell 1
    have z0_2_10 : w10.cell? ⟨w.heap.size, 2, none⟩ = some (.slice (some ⟨b3, o3, none⟩) n c3) := K0_10.out.cell 2
    have l1_10 : w.heap.size + 1 < w10.heap.size := K1_10.out.lt
    have z1_0_10 : w10.cell? ⟨w.heap.size + 1, 0, none⟩ = some (.int .i64 (a)) := K1_10.out.cell 0
    have z1_1_10 : w10.cell? ⟨w.heap.size + 1, 1, none⟩ = some (.int .i64 (b)) := K1_10.out.cell 1
    have z1_2_10 : w10.cell? ⟨w.heap.size + 1, 2, none⟩ = some (.int .i64 (c)) := K1_10.out.cell 2
    have z1_3_10 : w10.cell? ⟨w.heap.size + 1, 3, none⟩ = some (.int .i64 (d)) := K1_10.out.cell 3
    have z1_4_10 : w10.cell? ⟨w.heap.size + 1, 4, none⟩ = some (.int .i64 (x)) := K1_10.out.cell 4
    have z1_5_10 : w10.cell? ⟨w.heap.size + 1, 5, none⟩ = some (.int .i64 (y)) := K1_10.out.cell 5
    have l2_10 : bf < w10.heap.size := K2_10.out.lt
    have z2_0_10 : w10.cell? ⟨bf, 0, none⟩ = some (.int .i64 (s)) := K2_10.out.cell 0
    have z2_1_10 : w10.cell? ⟨bf, 1, none⟩ = some (.int .i64 (sv)) := K2_10.out.cell 1
    by_cases hjt : j < n
    · skip
      obtain ⟨xb, xo, pq, rfl, hxb, hpq, d0, d1⟩ := hsd.pair hjt
      rw [HMN.out, remL_get m a b c d hjt] at hpq
      obtain rfl : pq = (redN (remN m a b c d j) (b * d), redD (remN m a b c d j) (b * d)) := (Option.some.inj hpq).symm
      have hjm : j < m.n := by rw [HMN.out]; exact hjt
      have hin := HREM.out j hjm
      have hui := HOK.out.u j hjm
      have h3 := hat.r3 j hjm
      rw [HMB.out.1, HMB.out.2] at h3
      have hl3 := hat.l3
      rw [HMB.out.1] at hl3
      obtain ⟨k1, k2, k3, k4, k5⟩ := red_back (r := remN m a b c d j) hbd.1
      have hsg := (redN_sign (a := remN m a b c d j) hbd.1).1
      have hre := red_le (a := remN m a b c d j) hbd.1
      have hrj := HRS.out j (by omega)
      have hrj1 := HRS.out (j + 1) (by omega)
      have hnx : remS m a b c d (j + 1) = remS m a b c d j + m.u j * remN m a b c d j := rfl
      rw [HVV.out] at d0 d1 hpq
      simp only at d0 d1
      obtain ⟨r, hr⟩ : ∃ r, remN m a b c d j = r := ⟨_, rfl⟩
      obtain ⟨uu, huu⟩ : ∃ u, m.u j = u := ⟨_, rfl⟩
      obtain ⟨u, hu⟩ : ∃ u, redN r v = u := ⟨_, rfl⟩
      obtain ⟨q, hq⟩ : ∃ q, redD r v = q := ⟨_, rfl⟩
      obtain ⟨rs, hrs⟩ : ∃ q, remS m a b c d j = q := ⟨_, rfl⟩
      rw [hr] at d0 d1 k1 k2 k3 k4 k5 hsg hin hre hnx
      rw [hu] at d0 k1 hsg hre
      rw [hq] at d1 k1 k2 k3 k4 k5
      rw [huu] at h3 hui hnx
      rw [hrs] at hrj hnx
      rw [hnx] at hrj1
      rw [hrs]
      obtain ⟨qd, hqd⟩ : ∃ z, v.tdiv q = z := ⟨_, rfl⟩
      rw [hqd] at k1 k4 k5
      have p1 := prod_small (x := uu) (y := u) (X := 1000) (Y := 20000000000000) (by omega) (by omega) (by omega) (by omega)
      have e6 := IntWalk.i64_in (uu * u) ⟨by omega, by omega⟩
      have eqd := IntWalk.i64_in qd ⟨by omega, by omega⟩
      have hprod : uu * u * qd = uu * r := by rw [Int.mul_assoc, k1]
      have p2 := prod_small (x := uu) (y := r) (X := 1000) (Y := 20000000000000) (by omega) (by omega) (by omega) (by omega)
      have e7 : IntKind.i64.wrap (uu * u * qd) = uu * r := by rw [hprod]; exact IntWalk.i64_in _ ⟨by omega, by omega⟩
      obtain ⟨ur, hur⟩ : ∃ z, uu * r = z := ⟨_, rfl⟩
      rw [hur] at e7 hnx hrj1
      have e8 := IntWalk.i64_in (rs + ur) ⟨by omega, by omega⟩
      have hq0 : ¬ q = 0 := by omega
      have HU := Lib.hid (show redN (remN m a b c d j) (b * d) = u by rw [hr, HVV.out]; exact hu)
      have HV := Lib.hid (show redD (remN m a b c d j) (b * d) = q by rw [hr, HVV.out]; exact hq)
      have HSG := Lib.hid hsg
      have HR0 := Lib.hid hr
      have HNX := Lib.hid hnx
      have HQD := Lib.hid hqd
      have hjj : (j : Int) < (n : Int) := by omega
      have hz10 := HBJ.out.size
      have l9x : xb < w10.heap.size := by omega
      clear hpq hsd hat hr huu hu hq hrs hqd hprod hur hnx hsg hre p1 p2 hin hui k1 k2 k3 k4 k5 hrj hrj1
      have C0_10 := Lib.hid d0
      have C1_10 := Lib.hid d1
      have C2_10 := Lib.hid h3
      clear d0 d1 h3
      go_wp2
      refine Fx.regionW (fun W f w' => Below W.heap.size W w') (by kernel_rfl) (by kernel_rfl) ?_ ?_
      · intro f hf0
        exact below_drewN (Below.refl _ _) 1
      repeat (first
        | (refine Fx.skip_ (by rfl) (fun f w h => h) ?_; simp only [Act.put, List.setIfInBounds_toArray, List.set_cons_zero, List.set_cons_succ])
        | (refine Fx.val_ ?_ (by rfl) ?_ (fun f w h => h) ?_
           rotate_left
           · intro f w' hD hk
             have hb := hD
             have kb0 := step_blk hb (show Blk _ (w.heap.size) 24 #[.slice (some ⟨b1, o1, none⟩) n c1, .slice (some ⟨b2, o2, none⟩) n c2, .slice (some ⟨b3, o3, none⟩) n c3] by repeat' (first | exact K0_10.out | exact K1_10.out | exact K2_10.out | exact Blk.at_ _ (by first | rfl | (simp; done) | (simp; omega)) _ _ | refine Blk.drewN ?_ _ | refine Blk.drew ?_ | refine Blk.alloc ?_ _ | refine Blk.far ?_ (by first | omega | (simp; done) | (simp; omega)) _ | assumption))
             have y0_0 : w'.cell? ⟨w.heap.size, 0, none⟩ = some (.slice (some ⟨b1, o1, none⟩) n c1) := kb0.cell 0
             have y0_1 : w'.cell? ⟨w.heap.size, 1, none⟩ = some (.slice (some ⟨b2, o2, none⟩) n c2) := kb0.cell 1
             have y0_2 : w'.cell? ⟨w.heap.size, 2, none⟩ = some (.slice (some ⟨b3, o3, none⟩) n c3) := kb0.cell 2
             have kb1 := step_blk hb (show Blk _ (w.heap.size + 1) 75 #[.int .i64 (a), .int .i64 (b), .int .i64 (c), .int .i64 (d), .int .i64 (x), .int .i64 (y)] by repeat' (first | exact K0_10.out | exact K1_10.out | exact K2_10.out | exact Blk.at_ _ (by first | rfl | (simp; done) | (simp; omega)) _ _ | refine Blk.drewN ?_ _ | refine Blk.drew ?_ | refine Blk.alloc ?_ _ | refine Blk.far ?_ (by first | omega | (simp; done) | (simp; omega)) _ | assumption))
             have y1_0 : w'.cell? ⟨w.heap.size + 1, 0, none⟩ = some (.int .i64 (a)) := kb1.cell 0
             have y1_1 : w'.cell? ⟨w.heap.size + 1, 1, none⟩ = some (.int .i64 (b)) := kb1.cell 1
             have y1_2 : w'.cell? ⟨w.heap.size + 1, 2, none⟩ = some (.int .i64 (c)) := kb1.cell 2
             have y1_3 : w'.cell? ⟨w.heap.size + 1, 3, none⟩ = some (.int .i64 (d)) := kb1.cell 3
             have y1_4 : w'.cell? ⟨w.heap.size + 1, 4, none⟩ = some (.int .i64 (x)) := kb1.cell 4
             have y1_5 : w'.cell? ⟨w.heap.size + 1, 5, none⟩ = some (.int .i64 (y)) := kb1.cell 5
             have kb2 := step_blk hb (show Blk _ (bf) 28 #[.int .i64 (s), .int .i64 (sv)] by repeat' (first | exact K0_10.out | exact K1_10.out | exact K2_10.out | exact Blk.at_ _ (by first | rfl | (simp; done) | (simp; omega)) _ _ | refine Blk.drewN ?_ _ | refine Blk.drew ?_ | refine Blk.alloc ?_ _ | refine Blk.far ?_ (by first | omega | (simp; done) | (simp; omega)) _ | assumption))
             have y2_0 : w'.cell? ⟨bf, 0, none⟩ = some (.int .i64 (s)) := kb2.cell 0
             have y2_1 : w'.cell? ⟨bf, 1, none⟩ = some (.int .i64 (sv)) := kb2.cell 1
             have yc0 : w'.cell? ⟨xb, xo + j * 2, none⟩ = some (.int .i64 (u)) := step_cell hb (show World.cell? _ ⟨xb, xo + j * 2, none⟩ = some (.int .i64 (u)) by first | exact C0_10.out | go_simp) (by have := l9x; first | omega | (simp; omega))
             have yc1 : w'.cell? ⟨xb, xo + j * 2 + 1, none⟩ = some (.int .i64 (q)) := step_cell hb (show World.cell? _ ⟨xb, xo + j * 2 + 1, none⟩ = some (.int .i64 (q)) by first | exact C1_10.out | go_simp) (by have := l9x; first | omega | (simp; omega))
             have yc2 : w'.cell? ⟨b3, o3 + j, none⟩ = some (.int .i64 (uu)) := step_cell hb (show World.cell? _ ⟨b3, o3 + j, none⟩ = some (.int .i64 (uu)) by first | exact C2_10.out | go_simp) (by have := hl3; first | omega | (simp; omega))
             clear kb0 kb1 kb2
             clear hk hD hb
             go_simp
             try rfl
           simp only [Act.put, List.setIfInBounds_toArray, List.set_cons_zero, List.set_cons_succ]))
      refine Fx.call_ (.agg #[.int .i64 u, .int .i64 q]) ?_ ?_ (by rfl) ?_ ?_ ?_
      rotate_left 2
      · intro w'
        go_simp
        refine ⟨?_, ?_⟩ <;> rfl
      · intro f w' hD hk
        exact (HRM.out j hjm u q HU.out HV.out w' (HAT.out.lay (HB10.out.trans (hD.mono HB10.out.size)))).mono fun e w'' ⟨he, hw⟩ => ⟨he, step_below hw hD⟩
      simp only [Act.put, List.setIfInBounds_toArray, List.set_cons_zero, List.set_cons_succ]
      repeat (first
        | (refine Fx.skip_ (by rfl) (fun f w h => h) ?_; simp only [Act.put, List.setIfInBounds_toArray, List.set_cons_zero, List.set_cons_succ])
        | (refine Fx.val_ ?_ (by rfl) ?_ (fun f w h => h) ?_
           rotate_left
           · intro f w' hD hk
             have hb := hD
             have kb0 := step_blk hb (show Blk _ (w.heap.size) 24 #[.slice (some ⟨b1, o1, none⟩) n c1, .slice (some ⟨b2, o2, none⟩) n c2, .slice (some ⟨b3, o3, none⟩) n c3] by repeat' (first | exact K0_10.out | exact K1_10.out | exact K2_10.out | exact Blk.at_ _ (by first | rfl | (simp; done) | (simp; omega)) _ _ | refine Blk.drewN ?_ _ | refine Blk.drew ?_ | refine Blk.alloc ?_ _ | refine Blk.far ?_ (by first | omega | (simp; done) | (simp; omega)) _ | assumption))
             have y0_0 : w'.cell? ⟨w.heap.size, 0, none⟩ = some (.slice (some ⟨b1, o1, none⟩) n c1) := kb0.cell 0
             have y0_1 : w'.cell? ⟨w.heap.size, 1, none⟩ = some (.slice (some ⟨b2, o2, none⟩) n c2) := kb0.cell 1
             have y0_2 : w'.cell? ⟨w.heap.size, 2, none⟩ = some (.slice (some ⟨b3, o3, none⟩) n c3) := kb0.cell 2
             have kb1 := step_blk hb (show Blk _ (w.heap.size + 1) 75 #[.int .i64 (a), .int .i64 (b), .int .i64 (c), .int .i64 (d), .int .i64 (x), .int .i64 (y)] by repeat' (first | exact K0_10.out | exact K1_10.out | exact K2_10.out | exact Blk.at_ _ (by first | rfl | (simp; done) | (simp; omega)) _ _ | refine Blk.drewN ?_ _ | refine Blk.drew ?_ | refine Blk.alloc ?_ _ | refine Blk.far ?_ (by first | omega | (simp; done) | (simp; omega)) _ | assumption))
             have y1_0 : w'.cell? ⟨w.heap.size + 1, 0, none⟩ = some (.int .i64 (a)) := kb1.cell 0
             have y1_1 : w'.cell? ⟨w.heap.size + 1, 1, none⟩ = some (.int .i64 (b)) := kb1.cell 1
             have y1_2 : w'.cell? ⟨w.heap.size + 1, 2, none⟩ = some (.int .i64 (c)) := kb1.cell 2
             have y1_3 : w'.cell? ⟨w.heap.size + 1, 3, none⟩ = some (.int .i64 (d)) := kb1.cell 3
             have y1_4 : w'.cell? ⟨w.heap.size + 1, 4, none⟩ = some (.int .i64 (x)) := kb1.cell 4
             have y1_5 : w'.cell? ⟨w.heap.size + 1, 5, none⟩ = some (.int .i64 (y)) := kb1.cell 5
             have kb2 := step_blk hb (show Blk _ (bf) 28 #[.int .i64 (s), .int .i64 (sv)] by repeat' (first | exact K0_10.out | exact K1_10.out | exact K2_10.out | exact Blk.at_ _ (by first | rfl | (simp; done) | (simp; omega)) _ _ | refine Blk.drewN ?_ _ | refine Blk.drew ?_ | refine Blk.alloc ?_ _ | refine Blk.far ?_ (by first | omega | (simp; done) | (simp; omega)) _ | assumption))
             have y2_0 : w'.cell? ⟨bf, 0, none⟩ = some (.int .i64 (s)) := kb2.cell 0
             have y2_1 : w'.cell? ⟨bf, 1, none⟩ = some (.int .i64 (sv)) := kb2.cell 1
             have yc0 : w'.cell? ⟨xb, xo + j * 2, none⟩ = some (.int .i64 (u)) := step_cell hb (show World.cell? _ ⟨xb, xo + j * 2, none⟩ = some (.int .i64 (u)) by first | exact C0_10.out | go_simp) (by have := l9x; first | omega | (simp; omega))
             have yc1 : w'.cell? ⟨xb, xo + j * 2 + 1, none⟩ = some (.int .i64 (q)) := step_cell hb (show World.cell? _ ⟨xb, xo + j * 2 + 1, none⟩ = some (.int .i64 (q)) by first | exact C1_10.out | go_simp) (by have := l9x; first | omega | (simp; omega))
             have yc2 : w'.cell? ⟨b3, o3 + j, none⟩ = some (.int .i64 (uu)) := step_cell hb (show World.cell? _ ⟨b3, o3 + j, none⟩ = some (.int .i64 (uu)) by first | exact C2_10.out | go_simp) (by have := hl3; first | omega | (simp; omega))
             clear kb0 kb1 kb2
             clear hk hD hb
             go_simp
             try rfl
           simp only [Act.put, List.setIfInBounds_toArray, List.set_cons_zero, List.set_cons_succ]))
      refine Fx.nil_ ?_
      intro f w11 hall hb
      try clear hall
      have HB1011 := Lib.hid hb
      have HB11 := Lib.hid (show Below w.heap.size w w11 from step_below hb (by repeat' (first | exact Below.refl _ _ | exact HB10.out | refine below_drewN ?_ _ | refine Below.drew ?_ | refine Below.alloc ?_ (by first | omega | (simp; done) | (simp; omega) | (simp [World.setCell]; omega)) _ | refine Below.setCell ?_ (by first | omega | (simp; done) | (simp; omega)) _ | assumption)))
      have K0_11 := Lib.hid (step_blk hb (show Blk _ (w.heap.size) 24 #[.slice (some ⟨b1, o1, none⟩) n c1, .slice (some ⟨b2, o2, none⟩) n c2, .slice (some ⟨b3, o3, none⟩) n c3] by repeat' (first | exact K0_10.out | exact K1_10.out | exact K2_10.out | exact Blk.at_ _ (by first | rfl | (simp; done) | (simp; omega)) _ _ | refine Blk.drewN ?_ _ | refine Blk.drew ?_ | refine Blk.alloc ?_ _ | refine Blk.far ?_ (by first | omega | (simp; done) | (simp; omega)) _ | assumption)))
      have K1_11 := Lib.hid (step_blk hb (show Blk _ (w.heap.size + 1) 75 #[.int .i64 (a), .int .i64 (b), .int .i64 (c), .int .i64 (d), .int .i64 (x), .int .i64 (y)] by repeat' (first | exact K0_10.out | exact K1_10.out | exact K2_10.out | exact Blk.at_ _ (by first | rfl | (simp; done) | (simp; omega)) _ _ | refine Blk.drewN ?_ _ | refine Blk.drew ?_ | refine Blk.alloc ?_ _ | refine Blk.far ?_ (by first | omega | (simp; done) | (simp; omega)) _ | assumption)))
      have K2_11 := Lib.hid (step_blk hb (show Blk _ (bf) 28 #[.int .i64 (s), .int .i64 (sv)] by repeat' (first | exact K0_10.out | exact K1_10.out | exact K2_10.out | exact Blk.at_ _ (by first | rfl | (simp; done) | (simp; omega)) _ _ | refine Blk.drewN ?_ _ | refine Blk.drew ?_ | refine Blk.alloc ?_ _ | refine Blk.far ?_ (by first | omega | (simp; done) | (simp; omega)) _ | assumption)))
      have C0_11 := Lib.hid (step_cell hb (show World.cell? _ ⟨xb, xo + j * 2, none⟩ = some (.int .i64 (u)) by first | exact C0_10.out | go_simp) (by have := l9x; first | omega | (simp; omega)))
      have C1_11 := Lib.hid (step_cell hb (show World.cell? _ ⟨xb, xo + j * 2 + 1, none⟩ = some (.int .i64 (q)) by first | exact C1_10.out | go_simp) (by have := l9x; first | omega | (simp; omega)))
      have C2_11 := Lib.hid (step_cell hb (show World.cell? _ ⟨b3, o3 + j, none⟩ = some (.int .i64 (uu)) by first | exact C2_10.out | go_simp) (by have := hl3; first | omega | (simp; omega)))
      have hz11 := hb.size
      try simp only [World.size_alloc, World.drewN, World.drew] at hz11
      clear hb K0_10 K1_10 K2_10 z0_0_10 z0_1_10 z0_2_10 l0_10 z1_0_10 z1_1_10 z1_2_10 z1_3_10 z1_4_10 z1_5_10 l1_10 z2_0_10 z2_1_10 l2_10
      have l0_11 : w.heap.size < w11.heap.size := K0_11.out.lt
      have z0_0_11 : w11.cell? ⟨w.heap.size, 0, none⟩ = some (.slice (some ⟨b1, o1, none⟩) n c1) := K0_11.out.cell 0
      have z0_1_11 : w11.cell? ⟨w.heap.size, 1, none⟩ = some (.slice (some ⟨b2, o2, none⟩) n c2) := K0_11.out.cell 1
      have z0_2_11 : w11.cell? ⟨w.heap.size, 2, none⟩ = some (.slice (some ⟨b3, o3, none⟩) n c3) := K0_11.out.cell 2
      have l1_11 : w.heap.size + 1 < w11.heap.size := K1_11.out.lt
      have z1_0_11 : w11.cell? ⟨w.heap.size + 1, 0, none⟩ = some (.int .i64 (a)) := K1_11.out.cell 0
      have z1_1_11 : w11.cell? ⟨w.heap.size + 1, 1, none⟩ = some (.int .i64 (b)) := K1_11.out.cell 1
      have z1_2_11 : w11.cell? ⟨w.heap.size + 1, 2, none⟩ = some (.int .i64 (c)) := K1_11.out.cell 2
      have z1_3_11 : w11.cell? ⟨w.heap.size + 1, 3, none⟩ = some (.int .i64 (d)) := K1_11.out.cell 3
      have z1_4_11 : w11.cell? ⟨w.heap.size + 1, 4, none⟩ = some (.int .i64 (x)) := K1_11.out.cell 4
      have z1_5_11 : w11.cell? ⟨w.heap.size + 1, 5, none⟩ = some (.int .i64 (y)) := K1_11.out.cell 5
      have l2_11 : bf < w11.heap.size := K2_11.out.lt
      have z2_0_11 : w11.cell? ⟨bf, 0, none⟩ = some (.int .i64 (s)) := K2_11.out.cell 0
      have z2_1_11 : w11.cell? ⟨bf, 1, none⟩ = some (.int .i64 (sv)) := K2_11.out.cell 1
      have HBZ := Lib.hid (HBJ.out.trans ((show Below w10.heap.size w10 w11 from HB1011.out).mono HBJ.out.size))
      by_cases hneg : u < 0
      · have dn : decide (u < 0) = true := by simpa using hneg
        clear hneg
        have C0x := C0_11.out
        go_wp2
        go_ret
        exact ⟨rfl, by repeat' (first | exact Below.refl _ _ | exact HB11.out | refine below_drewN ?_ _ | refine Below.drew ?_ | refine Below.alloc ?_ (by first | omega | (simp; done) | (simp; omega) | (simp [World.setCell]; omega)) _ | refine Below.setCell ?_ (by first | omega | (simp; done) | (simp; omega)) _ | assumption)⟩
      have dn : decide (u < 0) = false := by simpa using hneg
      have HNN := Lib.hid (show 0 ≤ remN m a b c d j by rw [HR0.out]; exact Int.not_lt.1 fun h => hneg (HSG.out.2 h))
      clear hneg
      have C0x := C0_11.out
      have C1x := C1_11.out
      have C2x := C2_11.out
      have e9 : v.tdiv q = qd := HQD.out
      go_wp2
      go_quiet (fail)
      go_wp2
      go_roundw
      case rel => exact ⟨j + 1, by omega, by rw [HNX.out], by go_num, fun z hz => by
        by_cases e : z = j
        · rw [e]; exact HNN.out
        · exact HUP.out z (by omega), below_drewN HBZ.out _⟩
      case measure => simp [intOf]; omega
    · obtain rfl : n = j := by omega
      have hrj := HRS.out n (Nat.le_of_eq HMN.out.symm)
      have hfp := floor_parts (d := v) (v := sv) (by omega) (by omega) (by have h := HFIN.out (fun z hz => HUP.out z (by rw [← HMN.out]; exact hz)); rw [HMN.out] at h; exact h)
      obtain ⟨rs, hrs⟩ : ∃ q, remS m a b c d n = q := ⟨_, rfl⟩
      rw [hrs] at hrj hfp
      rw [hrs]
      have q1 := Int.mul_ediv_self_le (x := rs) (k := v) (by omega)
      have q2 := Int.lt_mul_ediv_self_add (x := rs) (k := v) (by omega)
      have q3 := Int.mul_ediv_self_le (x := s) (k := sv) (by omega)
      have q4 := Int.lt_mul_ediv_self_add (x := s) (k := sv) (by omega)
      obtain ⟨P, hP⟩ : ∃ p, rs / v = p := ⟨_, rfl⟩
      obtain ⟨Q, hQ⟩ : ∃ p, s / sv = p := ⟨_, rfl⟩
      rw [hP] at q1 q2 hfp
      rw [hQ] at q3 q4 hfp
      rw [Int.mul_comm] at q1 q2 q3 q4
      obtain ⟨pv, hpv⟩ : ∃ z, P * v = z := ⟨_, rfl⟩
      obtain ⟨qv, hqv⟩ : ∃ z, Q * sv = z := ⟨_, rfl⟩
      rw [hpv] at q1 q2 hfp
      rw [hqv] at q3 q4 hfp
      have e10 : IntKind.i64.wrap (P * v) = pv := by rw [hpv]; exact IntWalk.i64_in _ ⟨by omega, by omega⟩
      have e11 : IntKind.i64.wrap (Q * sv) = qv := by rw [hqv]; exact IntWalk.i64_in _ ⟨by omega, by omega⟩
      have e12 := IntWalk.i64_in (rs - pv) ⟨by omega, by omega⟩
      have e13 := IntWalk.i64_in (s - qv) ⟨by omega, by omega⟩
      have p1 := prod_small (x := rs - pv) (y := sv) (X := 1000000) (Y := 1000000) (by omega) (by omega) (by omega) (by omega)
      have p2 := prod_small (x := s - qv) (y := v) (X := 1000000) (Y := 1000000) (by omega) (by omega) (by omega) (by omega)
      have e14 := IntWalk.i64_in ((rs - pv) * sv) ⟨by omega, by omega⟩
      have e15 := IntWalk.i64_in ((s - qv) * v) ⟨by omega, by omega⟩
      have HP := Lib.hid hP
      have HQ := Lib.hid hQ
      have HFP := Lib.hid hfp
      clear hrs hP hQ hpv hqv hfp q1 q2 q3 q4 p1 p2 hsd hat
      go_wp2_with fail
      refine Fx.regionW (fun W f w' => Below W.heap.size W w') (by kernel_rfl) (by kernel_rfl) ?_ ?_
      · intro f hf0
        exact below_drewN (Below.refl _ _) 1
      repeat (first
        | (refine Fx.skip_ (by rfl) (fun f w h => h) ?_; simp only [Act.put, List.setIfInBounds_toArray, List.set_cons_zero, List.set_cons_succ])
        | (refine Fx.val_ ?_ (by rfl) ?_ (fun f w h => h) ?_
           rotate_left
           · intro f w' hD hk
             have hb := hD
             have kb0 := step_blk hb (show Blk _ (w.heap.size) 24 #[.slice (some ⟨b1, o1, none⟩) n c1, .slice (some ⟨b2, o2, none⟩) n c2, .slice (some ⟨b3, o3, none⟩) n c3] by repeat' (first | exact K0_10.out | exact K1_10.out | exact K2_10.out | exact Blk.at_ _ (by first | rfl | (simp; done) | (simp; omega)) _ _ | refine Blk.drewN ?_ _ | refine Blk.drew ?_ | refine Blk.alloc ?_ _ | refine Blk.far ?_ (by first | omega | (simp; done) | (simp; omega)) _ | assumption))
             have y0_0 : w'.cell? ⟨w.heap.size, 0, none⟩ = some (.slice (some ⟨b1, o1, none⟩) n c1) := kb0.cell 0
             have y0_1 : w'.cell? ⟨w.heap.size, 1, none⟩ = some (.slice (some ⟨b2, o2, none⟩) n c2) := kb0.cell 1
             have y0_2 : w'.cell? ⟨w.heap.size, 2, none⟩ = some (.slice (some ⟨b3, o3, none⟩) n c3) := kb0.cell 2
             have kb1 := step_blk hb (show Blk _ (w.heap.size + 1) 75 #[.int .i64 (a), .int .i64 (b), .int .i64 (c), .int .i64 (d), .int .i64 (x), .int .i64 (y)] by repeat' (first | exact K0_10.out | exact K1_10.out | exact K2_10.out | exact Blk.at_ _ (by first | rfl | (simp; done) | (simp; omega)) _ _ | refine Blk.drewN ?_ _ | refine Blk.drew ?_ | refine Blk.alloc ?_ _ | refine Blk.far ?_ (by first | omega | (simp; done) | (simp; omega)) _ | assumption))
             have y1_0 : w'.cell? ⟨w.heap.size + 1, 0, none⟩ = some (.int .i64 (a)) := kb1.cell 0
             have y1_1 : w'.cell? ⟨w.heap.size + 1, 1, none⟩ = some (.int .i64 (b)) := kb1.cell 1
             have y1_2 : w'.cell? ⟨w.heap.size + 1, 2, none⟩ = some (.int .i64 (c)) := kb1.cell 2
             have y1_3 : w'.cell? ⟨w.heap.size + 1, 3, none⟩ = some (.int .i64 (d)) := kb1.cell 3
             have y1_4 : w'.cell? ⟨w.heap.size + 1, 4, none⟩ = some (.int .i64 (x)) := kb1.cell 4
             have y1_5 : w'.cell? ⟨w.heap.size + 1, 5, none⟩ = some (.int .i64 (y)) := kb1.cell 5
             have kb2 := step_blk hb (show Blk _ (bf) 28 #[.int .i64 (s), .int .i64 (sv)] by repeat' (first | exact K0_10.out | exact K1_10.out | exact K2_10.out | exact Blk.at_ _ (by first | rfl | (simp; done) | (simp; omega)) _ _ | refine Blk.drewN ?_ _ | refine Blk.drew ?_ | refine Blk.alloc ?_ _ | refine Blk.far ?_ (by first | omega | (simp; done) | (simp; omega)) _ | assumption))
             have y2_0 : w'.cell? ⟨bf, 0, none⟩ = some (.int .i64 (s)) := kb2.cell 0
             have y2_1 : w'.cell? ⟨bf, 1, none⟩ = some (.int .i64 (sv)) := kb2.cell 1
             clear kb0 kb1 kb2
             clear hk hD hb
             go_simp
             try rfl
           simp only [Act.put, List.setIfInBounds_toArray, List.set_cons_zero, List.set_cons_succ]))
      refine Fx.call_ (.int .i64 (P)) ?_ ?_ (by rfl) ?_ ?_ ?_
      rotate_left 2
      · intro w'
        go_simp
        refine ⟨?_, ?_⟩ <;> rfl
      · intro f w' hD hk
        exact (floor6_is rs v P HP.out w' (by omega) (by omega) hbd.1 (by omega)).mono fun e w'' ⟨he, hw⟩ => ⟨he, hw ▸ hD⟩
      simp only [Act.put, List.setIfInBounds_toArray, List.set_cons_zero, List.set_cons_succ]
      repeat (first
        | (refine Fx.skip_ (by rfl) (fun f w h => h) ?_; simp only [Act.put, List.setIfInBounds_toArray, List.set_cons_zero, List.set_cons_succ])
        | (refine Fx.val_ ?_ (by rfl) ?_ (fun f w h => h) ?_
           rotate_left
           · intro f w' hD hk
             have hb := hD
             have kb0 := step_blk hb (show Blk _ (w.heap.size) 24 #[.slice (some ⟨b1, o1, none⟩) n c1, .slice (some ⟨b2, o2, none⟩) n c2, .slice (some ⟨b3, o3, none⟩) n c3] by repeat' (first | exact K0_10.out | exact K1_10.out | exact K2_10.out | exact Blk.at_ _ (by first | rfl | (simp; done) | (simp; omega)) _ _ | refine Blk.drewN ?_ _ | refine Blk.drew ?_ | refine Blk.alloc ?_ _ | refine Blk.far ?_ (by first | omega | (simp; done) | (simp; omega)) _ | assumption))
             have y0_0 : w'.cell? ⟨w.heap.size, 0, none⟩ = some (.slice (some ⟨b1, o1, none⟩) n c1) := kb0.cell 0
             have y0_1 : w'.cell? ⟨w.heap.size, 1, none⟩ = some (.slice (some ⟨b2, o2, none⟩) n c2) := kb0.cell 1
             have y0_2 : w'.cell? ⟨w.heap.size, 2, none⟩ = some (.slice (some ⟨b3, o3, none⟩) n c3) := kb0.cell 2
             have kb1 := step_blk hb (show Blk _ (w.heap.size + 1) 75 #[.int .i64 (a), .int .i64 (b), .int .i64 (c), .int .i64 (d), .int .i64 (x), .int .i64 (y)] by repeat' (first | exact K0_10.out | exact K1_10.out | exact K2_10.out | exact Blk.at_ _ (by first | rfl | (simp; done) | (simp; omega)) _ _ | refine Blk.drewN ?_ _ | refine Blk.drew ?_ | refine Blk.alloc ?_ _ | refine Blk.far ?_ (by first | omega | (simp; done) | (simp; omega)) _ | assumption))
             have y1_0 : w'.cell? ⟨w.heap.size + 1, 0, none⟩ = some (.int .i64 (a)) := kb1.cell 0
             have y1_1 : w'.cell? ⟨w.heap.size + 1, 1, none⟩ = some (.int .i64 (b)) := kb1.cell 1
             have y1_2 : w'.cell? ⟨w.heap.size + 1, 2, none⟩ = some (.int .i64 (c)) := kb1.cell 2
             have y1_3 : w'.cell? ⟨w.heap.size + 1, 3, none⟩ = some (.int .i64 (d)) := kb1.cell 3
             have y1_4 : w'.cell? ⟨w.heap.size + 1, 4, none⟩ = some (.int .i64 (x)) := kb1.cell 4
             have y1_5 : w'.cell? ⟨w.heap.size + 1, 5, none⟩ = some (.int .i64 (y)) := kb1.cell 5
             have kb2 := step_blk hb (show Blk _ (bf) 28 #[.int .i64 (s), .int .i64 (sv)] by repeat' (first | exact K0_10.out | exact K1_10.out | exact K2_10.out | exact Blk.at_ _ (by first | rfl | (simp; done) | (simp; omega)) _ _ | refine Blk.drewN ?_ _ | refine Blk.drew ?_ | refine Blk.alloc ?_ _ | refine Blk.far ?_ (by first | omega | (simp; done) | (simp; omega)) _ | assumption))
             have y2_0 : w'.cell? ⟨bf, 0, none⟩ = some (.int .i64 (s)) := kb2.cell 0
             have y2_1 : w'.cell? ⟨bf, 1, none⟩ = some (.int .i64 (sv)) := kb2.cell 1
             clear kb0 kb1 kb2
             clear hk hD hb
             go_simp
             try rfl
           simp only [Act.put, List.setIfInBounds_toArray, List.set_cons_zero, List.set_cons_succ]))
      refine Fx.call_ (.int .i64 (Q)) ?_ ?_ (by rfl) ?_ ?_ ?_
      rotate_left 2
      · intro w'
        go_simp
        refine ⟨?_, ?_⟩ <;> rfl
      · intro f w' hD hk
        exact (floor6_is s sv Q HQ.out w' (by omega) (by omega) hsv0.1 (by omega)).mono fun e w'' ⟨he, hw⟩ => ⟨he, hw ▸ hD⟩
      simp only [Act.put, List.setIfInBounds_toArray, List.set_cons_zero, List.set_cons_succ]
      repeat (first
        | (refine Fx.skip_ (by rfl) (fun f w h => h) ?_; simp only [Act.put, List.setIfInBounds_toArray, List.set_cons_zero, List.set_cons_succ])
        | (refine Fx.val_ ?_ (by rfl) ?_ (fun f w h => h) ?_
           rotate_left
           · intro f w' hD hk
             have hb := hD
             have kb0 := step_blk hb (show Blk _ (w.heap.size) 24 #[.slice (some ⟨b1, o1, none⟩) n c1, .slice (some ⟨b2, o2, none⟩) n c2, .slice (some ⟨b3, o3, none⟩) n c3] by repeat' (first | exact K0_10.out | exact K1_10.out | exact K2_10.out | exact Blk.at_ _ (by first | rfl | (simp; done) | (simp; omega)) _ _ | refine Blk.drewN ?_ _ | refine Blk.drew ?_ | refine Blk.alloc ?_ _ | refine Blk.far ?_ (by first | omega | (simp; done) | (simp; omega)) _ | assumption))
             have y0_0 : w'.cell? ⟨w.heap.size, 0, none⟩ = some (.slice (some ⟨b1, o1, none⟩) n c1) := kb0.cell 0
             have y0_1 : w'.cell? ⟨w.heap.size, 1, none⟩ = some (.slice (some ⟨b2, o2, none⟩) n c2) := kb0.cell 1
             have y0_2 : w'.cell? ⟨w.heap.size, 2, none⟩ = some (.slice (some ⟨b3, o3, none⟩) n c3) := kb0.cell 2
             have kb1 := step_blk hb (show Blk _ (w.heap.size + 1) 75 #[.int .i64 (a), .int .i64 (b), .int .i64 (c), .int .i64 (d), .int .i64 (x), .int .i64 (y)] by repeat' (first | exact K0_10.out | exact K1_10.out | exact K2_10.out | exact Blk.at_ _ (by first | rfl | (simp; done) | (simp; omega)) _ _ | refine Blk.drewN ?_ _ | refine Blk.drew ?_ | refine Blk.alloc ?_ _ | refine Blk.far ?_ (by first | omega | (simp; done) | (simp; omega)) _ | assumption))
             have y1_0 : w'.cell? ⟨w.heap.size + 1, 0, none⟩ = some (.int .i64 (a)) := kb1.cell 0
             have y1_1 : w'.cell? ⟨w.heap.size + 1, 1, none⟩ = some (.int .i64 (b)) := kb1.cell 1
             have y1_2 : w'.cell? ⟨w.heap.size + 1, 2, none⟩ = some (.int .i64 (c)) := kb1.cell 2
             have y1_3 : w'.cell? ⟨w.heap.size + 1, 3, none⟩ = some (.int .i64 (d)) := kb1.cell 3
             have y1_4 : w'.cell? ⟨w.heap.size + 1, 4, none⟩ = some (.int .i64 (x)) := kb1.cell 4
             have y1_5 : w'.cell? ⟨w.heap.size + 1, 5, none⟩ = some (.int .i64 (y)) := kb1.cell 5
             have kb2 := step_blk hb (show Blk _ (bf) 28 #[.int .i64 (s), .int .i64 (sv)] by repeat' (first | exact K0_10.out | exact K1_10.out | exact K2_10.out | exact Blk.at_ _ (by first | rfl | (simp; done) | (simp; omega)) _ _ | refine Blk.drewN ?_ _ | refine Blk.drew ?_ | refine Blk.alloc ?_ _ | refine Blk.far ?_ (by first | omega | (simp; done) | (simp; omega)) _ | assumption))
             have y2_0 : w'.cell? ⟨bf, 0, none⟩ = some (.int .i64 (s)) := kb2.cell 0
             have y2_1 : w'.cell? ⟨bf, 1, none⟩ = some (.int .i64 (sv)) := kb2.cell 1
             clear kb0 kb1 kb2
             clear hk hD hb
             go_simp
             try rfl
           simp only [Act.put, List.setIfInBounds_toArray, List.set_cons_zero, List.set_cons_succ]))
      refine Fx.nil_ ?_
      intro f w11 hall hb
      try clear hall
      have HB1011 := Lib.hid hb
      have HB11 := Lib.hid (show Below w.heap.size w w11 from step_below hb (by repeat' (first | exact Below.refl _ _ | exact HB10.out | refine below_drewN ?_ _ | refine Below.drew ?_ | refine Below.alloc ?_ (by first | omega | (simp; done) | (simp; omega) | (simp [World.setCell]; omega)) _ | refine Below.setCell ?_ (by first | omega | (simp; done) | (simp; omega)) _ | assumption)))
      have K0_11 := Lib.hid (step_blk hb (show Blk _ (w.heap.size) 24 #[.slice (some ⟨b1, o1, none⟩) n c1, .slice (some ⟨b2, o2, none⟩) n c2, .slice (some ⟨b3, o3, none⟩) n c3] by repeat' (first | exact K0_10.out | exact K1_10.out | exact K2_10.out | exact Blk.at_ _ (by first | rfl | (simp; done) | (simp; omega)) _ _ | refine Blk.drewN ?_ _ | refine Blk.drew ?_ | refine Blk.alloc ?_ _ | refine Blk.far ?_ (by first | omega | (simp; done) | (simp; omega)) _ | assumption)))
      have K1_11 := Lib.hid (step_blk hb (show Blk _ (w.heap.size + 1) 75 #[.int .i64 (a), .int .i64 (b), .int .i64 (c), .int .i64 (d), .int .i64 (x), .int .i64 (y)] by repeat' (first | exact K0_10.out | exact K1_10.out | exact K2_10.out | exact Blk.at_ _ (by first | rfl | (simp; done) | (simp; omega)) _ _ | refine Blk.drewN ?_ _ | refine Blk.drew ?_ | refine Blk.alloc ?_ _ | refine Blk.far ?_ (by first | omega | (simp; done) | (simp; omega)) _ | assumption)))
      have K2_11 := Lib.hid (step_blk hb (show Blk _ (bf) 28 #[.int .i64 (s), .int .i64 (sv)] by repeat' (first | exact K0_10.out | exact K1_10.out | exact K2_10.out | exact Blk.at_ _ (by first | rfl | (simp; done) | (simp; omega)) _ _ | refine Blk.drewN ?_ _ | refine Blk.drew ?_ | refine Blk.alloc ?_ _ | refine Blk.far ?_ (by first | omega | (simp; done) | (simp; omega)) _ | assumption)))
      have hz11 := hb.size
      try simp only [World.size_alloc, World.drewN, World.drew] at hz11
      clear hb K0_10 K1_10 K2_10 z0_0_10 z0_1_10 z0_2_10 l0_10 z1_0_10 z1_1_10 z1_2_10 z1_3_10 z1_4_10 z1_5_10 l1_10 z2_0_10 z2_1_10 l2_10
      have l0_11 : w.heap.size < w11.heap.size := K0_11.out.lt
      have z0_0_11 : w11.cell? ⟨w.heap.size, 0, none⟩ = some (.slice (some ⟨b1, o1, none⟩) n c1) := K0_11.out.cell 0
      have z0_1_11 : w11.cell? ⟨w.heap.size, 1, none⟩ = some (.slice (some ⟨b2, o2, none⟩) n c2) := K0_11.out.cell 1
      have z0_2_11 : w11.cell? ⟨w.heap.size, 2, none⟩ = some (.slice (some ⟨b3, o3, none⟩) n c3) := K0_11.out.cell 2
      have l1_11 : w.heap.size + 1 < w11.heap.size := K1_11.out.lt
      have z1_0_11 : w11.cell? ⟨w.heap.size + 1, 0, none⟩ = some (.int .i64 (a)) := K1_11.out.cell 0
      have z1_1_11 : w11.cell? ⟨w.heap.size + 1, 1, none⟩ = some (.int .i64 (b)) := K1_11.out.cell 1
      have z1_2_11 : w11.cell? ⟨w.heap.size + 1, 2, none⟩ = some (.int .i64 (c)) := K1_11.out.cell 2
      have z1_3_11 : w11.cell? ⟨w.heap.size + 1, 3, none⟩ = some (.int .i64 (d)) := K1_11.out.cell 3
      have z1_4_11 : w11.cell? ⟨w.heap.size + 1, 4, none⟩ = some (.int .i64 (x)) := K1_11.out.cell 4
      have z1_5_11 : w11.cell? ⟨w.heap.size + 1, 5, none⟩ = some (.int .i64 (y)) := K1_11.out.cell 5
      have l2_11 : bf < w11.heap.size := K2_11.out.lt
      have z2_0_11 : w11.cell? ⟨bf, 0, none⟩ = some (.int .i64 (s)) := K2_11.out.cell 0
      have z2_1_11 : w11.cell? ⟨bf, 1, none⟩ = some (.int .i64 (sv)) := K2_11.out.cell 1
      by_cases hlt : Q < P
      · have dq : decide (Q < P) = true := by simpa using hlt
        clear hlt
        go_wp2
        go_ret
        exact ⟨rfl, by repeat' (first | exact Below.refl _ _ | exact HB11.out | refine below_drewN ?_ _ | refine Below.drew ?_ | refine Below.alloc ?_ (by first | omega | (simp; done) | (simp; omega) | (simp [World.setCell]; omega)) _ | refine Below.setCell ?_ (by first | omega | (simp; done) | (simp; omega)) _ | assumption)⟩
      have dq : decide (Q < P) = false := by simpa using hlt
      obtain ⟨rfl, hge⟩ : Q = P ∧ (s - qv) * v ≤ (rs - pv) * sv := by
        rcases HFP.out with h | h
        · exact absurd h hlt
        · exact h
      have dg : decide ((s - qv) * v ≤ (rs - pv) * sv) = true := by simpa using hge
      have dz : (Q == Q) = true := by simp
      clear hlt hge
      go_wp2
      go_ret
      exact ⟨rfl, by repeat' (first | exact Below.refl _ _ | exact HB11.out | refine below_drewN ?_ _ | refine Below.drew ?_ | refine Below.alloc ?_ (by first | omega | (simp; done) | (simp; omega) | (simp [World.setCell]; omega)) _ | refine Below.setCell ?_ (by first | omega | (simp; done) | (simp; omega)) _ | assumption)⟩

set_option maxRecDepth 100000 in
theorem lawFE_any (A1 : Option Addr) (n1 c1 : Nat) (l1 : List Int) (A2 : Option Addr) (n2 c2 : Nat) (l2 : List Int) (A3 : Option Addr) (n3 c3 : Nat) (l3 : List Int) (a b c d x y : Int) (w : World)
    (_ : n1 ≤ c1 ∧ c1 ≤ 9223372036854775807) (_ : n2 ≤ c2 ∧ c2 ≤ 9223372036854775807) (_ : n3 ≤ c3 ∧ c3 ≤ 9223372036854775807)
    (r1 : Reads w w.heap.size 1 A1 n1 (l1.map (.int .i64))) (r2 : Reads w w.heap.size 1 A2 n2 (l2.map (.int .i64))) (r3 : Reads w w.heap.size 1 A3 n3 (l3.map (.int .i64))) (ia : I64 a) (ib : I64 b) (ic : I64 c) (jd : I64 d) (_ : I64 x) (_ : I64 y) :
    Calls Try.prog 9 #[.agg #[.slice A1 n1 c1, .slice A2 n2 c2, .slice A3 n3 c3], .agg #[.int .i64 a, .int .i64 b, .int .i64 c, .int .i64 d, .int .i64 x, .int .i64 y]] w fun e w' => e = .returned (.bool true) ∧ Below w.heap.size w w' := by
  by_cases hF : (fewB6 n1 && (fewB6 n2 && fewB6 n3)) = true → mapErr l1 l2 l3 ≠ 0
  · exact lawFE_bad A1 n1 c1 l1 A2 n2 c2 l2 A3 n3 c3 l3 a b c d x y w hF r1 r2 r3
  rw [Classical.not_imp, Decidable.not_not] at hF
  obtain ⟨hf, hE⟩ := hF
  obtain ⟨rfl, rfl, b1, o1, b2, o2, b3, o3, rfl, rfl, rfl, -, -, -⟩ := rm_of hE c1 c2 c3 r1 r2 r3
  by_cases h0 : lineErr a b c d ≠ 0 ∨ withinB a (-10000000) 10000000 = false ∨ withinB c (-10000000) 10000000 = false
  · exact lawFE_line _ b1 o1 c1 b2 o2 c2 b3 o3 c3 l1 l2 l3 a b c d x y w hf hE ia ib ic jd h0 r1 r2 r3
  · have h1 : lineErr a b c d = 0 := Decidable.not_not.1 fun h => h0 (.inl h)
    have h2 : withinB a (-10000000) 10000000 = true := by cases h : withinB a (-10000000) 10000000 <;> simp_all
    have h3 : withinB c (-10000000) 10000000 = true := by cases h : withinB c (-10000000) 10000000 <;> simp_all
    exact lawFE_ok _ b1 o1 c1 b2 o2 c2 b3 o3 c3 l1 l2 l3 a b c d x y w hf hE h1 h2 h3 ia ib ic jd r1 r2 r3
end Go.Proofs.Ytnepjgnnppfibaa

end
