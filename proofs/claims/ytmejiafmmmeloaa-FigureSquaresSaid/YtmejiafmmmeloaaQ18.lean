import Derived.Test.YtmejiafmmmeloaaQ17
import Derived.Test.YtmejiafmmmeloaaQ9
import Derived.Test.YtmejiafmmmeloaaQ2
import Derived.Test.YtmejiafmmmeloaaQ6
import Derived.Test.YtmejiafmmmeloaaQ5

section
/- The document's examples of chapter 6. -/
namespace Go.Proofs.Ytmejiafmmmeloaa
open Go Go.RowKit

theorem four_any (w : World) : Calls Try.prog 10 #[] w fun e w' => ∃ b1 b2 b3, e = .returned (.agg #[.slice (some ⟨b1, 0, none⟩) 4 4, .slice (some ⟨b2, 0, none⟩) 4 4, .slice (some ⟨b3, 0, none⟩) 4 4]) ∧ Below w.heap.size w w' ∧
    Blk w' b1 3 (([10, 4, 6, 12] : List Int).map (.int .i64)).toArray ∧ Blk w' b2 3 (([0, 1, 2, 3] : List Int).map (.int .i64)).toArray ∧ Blk w' b3 3 (([1, 1, 1, 1] : List Int).map (.int .i64)).toArray := by
  go_enter Try.func10, Try.ntmps10
  go_wp2
  generalize hw1 : World.alloc _ _ = w1
  have hb : Below w.heap.size w w1 := by rw [← hw1]; repeat' (first | exact Below.refl _ _ | refine below_drewN ?_ _ | refine Below.drew ?_ | refine Below.alloc ?_ (by first | omega | (simp; done) | (simp; omega) | (simp [World.setCell]; omega)) _ | refine Below.setCell ?_ (by first | omega | (simp; done) | (simp; omega)) _)
  have k0 : Blk w1 w.heap.size 38 #[.slice (some ⟨w.heap.size + 1, 0, none⟩) 4 4, .slice (some ⟨w.heap.size + 1 + 1, 0, none⟩) 4 4, .slice (some ⟨w.heap.size + 1 + 1 + 1, 0, none⟩) 4 4] := by rw [← hw1]; repeat' (first | exact Blk.at_ _ (by first | rfl | (simp; done) | (simp; omega)) _ _ | refine Blk.drewN ?_ _ | refine Blk.drew ?_ | refine Blk.alloc ?_ _ | refine Blk.far ?_ (by first | omega | (simp; done) | (simp; omega)) _ | assumption)
  have k1 : Blk w1 (w.heap.size + 1) 3 (([10, 4, 6, 12] : List Int).map (.int .i64)).toArray := by rw [← hw1]; repeat' (first | exact Blk.at_ _ (by first | rfl | (simp; done) | (simp; omega)) _ _ | refine Blk.drewN ?_ _ | refine Blk.drew ?_ | refine Blk.alloc ?_ _ | refine Blk.far ?_ (by first | omega | (simp; done) | (simp; omega)) _ | assumption)
  have k2 : Blk w1 (w.heap.size + 1 + 1) 3 (([0, 1, 2, 3] : List Int).map (.int .i64)).toArray := by rw [← hw1]; repeat' (first | exact Blk.at_ _ (by first | rfl | (simp; done) | (simp; omega)) _ _ | refine Blk.drewN ?_ _ | refine Blk.drew ?_ | refine Blk.alloc ?_ _ | refine Blk.far ?_ (by first | omega | (simp; done) | (simp; omega)) _ | assumption)
  have k3 : Blk w1 (w.heap.size + 1 + 1 + 1) 3 (([1, 1, 1, 1] : List Int).map (.int .i64)).toArray := by rw [← hw1]; repeat' (first | exact Blk.at_ _ (by first | rfl | (simp; done) | (simp; omega)) _ _ | refine Blk.drewN ?_ _ | refine Blk.drew ?_ | refine Blk.alloc ?_ _ | refine Blk.far ?_ (by first | omega | (simp; done) | (simp; omega)) _ | assumption)
  have y0 := k0.cell 0
  have y1 := k0.cell 1
  have y2 := k0.cell 2
  have yl := k0.lt
  exact bodyPost_ret (v := .agg #[.slice (some ⟨w.heap.size + 1, 0, none⟩) 4 4, .slice (some ⟨w.heap.size + 1 + 1, 0, none⟩) 4 4, .slice (some ⟨w.heap.size + 1 + 1 + 1, 0, none⟩) 4 4]) (by simp [results, Try.results10, go_sem, y0, y1, y2, yl]) rfl ⟨_, _, _, rfl, hb, k1, k2, k3⟩
theorem known_any (w : World) : Calls Try.prog 12 #[] w fun e w' => ∃ g, e = .returned (.slice (some ⟨g, 0, none⟩) 3 3) ∧ Below w.heap.size w w' ∧ Blk w' g 54 (cells2 [(0, 2), (1, 4), (3, 5)]).toArray := by
  go_enter Try.func12, Try.ntmps12
  go_wp2
  go_ret
  exact ⟨_, rfl, by repeat' (first | exact Below.refl _ _ | refine below_drewN ?_ _ | refine Below.drew ?_ | refine Below.alloc ?_ (by first | omega | (simp; done) | (simp; omega) | (simp [World.setCell]; omega)) _ | refine Below.setCell ?_ (by first | omega | (simp; done) | (simp; omega)) _), Blk.new _ _ _⟩

def ls4 : List Int := [10, 4, 6, 12]
def ls0 : List Int := [0, 1, 2, 3]
def ls1 : List Int := [1, 1, 1, 1]
def four (b1 b2 b3 : Nat) : Rm := { n := 4, b1 := b1, o1 := 0, c1 := 4, b2 := b2, o2 := 0, c2 := 4, b3 := b3, o3 := 0, c3 := 4, h := fun i => ls4.getD i 0, q := fun i => ls0.getD i 0, u := fun i => ls1.getD i 0 }
theorem four_ok (b1 b2 b3 : Nat) : (four b1 b2 b3).Ok := by
  refine ⟨by show 1 ≤ 4; omega, by show 4 ≤ 40; omega, fun i hi => ?_, fun i hi => ?_, fun i hi => ?_⟩
  all_goals
    have hi4 : i < 4 := hi
    rcases (show i = 0 ∨ i = 1 ∨ i = 2 ∨ i = 3 by omega) with rfl | rfl | rfl | rfl <;> exact ⟨of_decide_eq_true (by kernel_rfl), of_decide_eq_true (by kernel_rfl)⟩
theorem four_s (b1 b2 b3 : Nat) : redN (lsumF (four b1 b2 b3) (four b1 b2 b3).n) (lwhole (four b1 b2 b3)) = 12 := by kernel_rfl
theorem four_v (b1 b2 b3 : Nat) : redD (lsumF (four b1 b2 b3) (four b1 b2 b3).n) (lwhole (four b1 b2 b3)) = 1 := by kernel_rfl
theorem blk_cells {w : World} {g : Nat} {T : TypeId} {l : List Int} (h : Blk w g T (l.map (.int .i64)).toArray) {i : Nat} (hi : i < l.length) : w.cell? ⟨g, 0 + i, none⟩ = some (.int .i64 (l.getD i 0)) := by
  rw [Nat.zero_add, h.cell, List.getD_eq_getElem?_getD]
  simp [hi]
theorem four_at {w : World} {b1 b2 b3 : Nat} (k1 : Blk w b1 3 (ls4.map (.int .i64)).toArray) (k2 : Blk w b2 3 (ls0.map (.int .i64)).toArray) (k3 : Blk w b3 3 (ls1.map (.int .i64)).toArray) : RmAt (four b1 b2 b3) w :=
  ⟨k1.lt, k2.lt, k3.lt, fun i hi => blk_cells k1 hi, fun i hi => blk_cells k2 hi, fun i hi => blk_cells k3 hi⟩
theorem four_ck {w : World} {b1 b2 b3 : Nat} (k1 : Blk w b1 3 (ls4.map (.int .i64)).toArray) (k2 : Blk w b2 3 (ls0.map (.int .i64)).toArray) (k3 : Blk w b3 3 (ls1.map (.int .i64)).toArray) : CkOk (four b1 b2 b3) w := fun w' hb =>
  checkmap_is (some ⟨b1, 0, none⟩) 4 4 ls4 (some ⟨b2, 0, none⟩) 4 4 ls0 (some ⟨b3, 0, none⟩) 4 4 ls1 0 (by kernel_rfl) w' (Blk.reads (k1.below hb k1.lt) rfl) (Blk.reads (k2.below hb k2.lt) rfl) (Blk.reads (k3.below hb k3.lt) rfl) (by omega) (by omega) (by omega)

def knownL : List (Int × Int) := [(0, 2), (1, 4), (3, 5)]
set_option maxRecDepth 100000 in
set_option maxHeartbeats 4000000 in
theorem awake6_any (w : World) : Calls Try.prog 4 #[] w fun e w' => e = .returned (.bool true) ∧ Below w.heap.size w w' := by
  obtain ⟨v, p, hj⟩ : ∃ v p, judgeF knownL 3 2 = (v, p) := ⟨_, _, rfl⟩
  obtain ⟨i, k⟩ := p
  have hv : v ≠ -1 := by
    have h1 : (judgeF knownL 3 2).1 ≠ -1 := by decide
    rw [hj] at h1
    exact h1
  have HJ := Lib.hid hj
  have HV := Lib.hid hv
  clear hj hv
  go_enter Try.func4, Try.ntmps4
  go_wp2_with fail
  refine (four_any _).mono ?_
  rintro e w1 ⟨b1, b2, b3, rfl, hb1, k1, k2, k3⟩
  have HB0 := Lib.hid (Below.refl w.heap.size w)
  have K1 := Lib.hid k1
  have K2 := Lib.hid k2
  have K3 := Lib.hid k3
  have HB1 := Lib.hid (show Below w.heap.size w w1 from step_below hb1 (by repeat' (first | exact Below.refl _ _ | exact HB0.out | refine below_drewN ?_ _ | refine Below.drew ?_ | refine Below.alloc ?_ (by first | omega | (simp; done) | (simp; omega) | (simp [World.setCell]; omega)) _ | refine Below.setCell ?_ (by first | omega | (simp; done) | (simp; omega)) _ | assumption)))
  have hz1 := hb1.size
  try simp only [World.size_alloc, World.drewN, World.drew] at hz1
  clear hb1
  clear k1 k2 k3
  go_wp2_with fail
  refine (least_ok (four b1 b2 b3) (four_ok b1 b2 b3) (show 4 < 20 by omega) _ (four_at K1.out K2.out K3.out) (four_ck K1.out K2.out K3.out) 12 1 (four_s b1 b2 b3) (four_v b1 b2 b3)).mono ?_
  rintro e w2 ⟨rfl, hb⟩
  clear K1 K2 K3
  have HB2 := Lib.hid (show Below w.heap.size w w2 from step_below hb (by repeat' (first | exact Below.refl _ _ | exact HB1.out | refine below_drewN ?_ _ | refine Below.drew ?_ | refine Below.alloc ?_ (by first | omega | (simp; done) | (simp; omega) | (simp [World.setCell]; omega)) _ | refine Below.setCell ?_ (by first | omega | (simp; done) | (simp; omega)) _ | assumption)))
  have hz2 := hb.size
  try simp only [World.size_alloc, World.drewN, World.drew] at hz2
  clear hb
  go_wp2_with fail
  generalize hwn : (w2.alloc (.cells #[.int .i64 (12), .int .i64 (1)] 25)) = w3
  have hbn : Below w2.heap.size w2 w3 := by rw [← hwn]; repeat' (first | exact Below.refl _ _ | refine below_drewN ?_ _ | refine Below.drew ?_ | refine Below.alloc ?_ (by first | omega | (simp; done) | (simp; omega) | (simp [World.setCell]; omega)) _ | refine Below.setCell ?_ (by first | omega | (simp; done) | (simp; omega)) _)
  have HB3 := Lib.hid (show Below w.heap.size w w3 from HB2.out.trans (hbn.mono HB2.out.size))
  have K0_3 := Lib.hid (show Blk w3 (w2.heap.size) 25 #[.int .i64 (12), .int .i64 (1)] by rw [← hwn]; repeat' (first | exact Blk.at_ _ (by first | rfl | (simp; done) | (simp; omega)) _ _ | refine Blk.drewN ?_ _ | refine Blk.drew ?_ | refine Blk.alloc ?_ _ | refine Blk.far ?_ (by first | omega | (simp; done) | (simp; omega)) _ | assumption))
  have HN3 := Lib.hid hbn
  have hz3 := hbn.size
  clear hwn hbn
  have l0_3 : w2.heap.size < w3.heap.size := K0_3.out.lt
  have z0_0_3 : w3.cell? ⟨w2.heap.size, 0, none⟩ = some (.int .i64 (12)) := K0_3.out.cell 0
  have z0_1_3 : w3.cell? ⟨w2.heap.size, 1, none⟩ = some (.int .i64 (1)) := K0_3.out.cell 1
  refine (known_any _).mono ?_
  rintro e w4 ⟨g4, rfl, hb, hk4⟩
  have HB4 := Lib.hid (show Below w.heap.size w w4 from step_below hb (by repeat' (first | exact Below.refl _ _ | exact HB3.out | refine below_drewN ?_ _ | refine Below.drew ?_ | refine Below.alloc ?_ (by first | omega | (simp; done) | (simp; omega) | (simp [World.setCell]; omega)) _ | refine Below.setCell ?_ (by first | omega | (simp; done) | (simp; omega)) _ | assumption)))
  have K0_4 := Lib.hid (step_blk hb (show Blk _ (w2.heap.size) 25 #[.int .i64 (12), .int .i64 (1)] by repeat' (first | exact K0_3.out | exact Blk.at_ _ (by first | rfl | (simp; done) | (simp; omega)) _ _ | refine Blk.drewN ?_ _ | refine Blk.drew ?_ | refine Blk.alloc ?_ _ | refine Blk.far ?_ (by first | omega | (simp; done) | (simp; omega)) _ | assumption)))
  have hz4 := hb.size
  try simp only [World.size_alloc, World.drewN, World.drew] at hz4
  clear hb K0_3 z0_0_3 z0_1_3 l0_3
  have l0_4 : w2.heap.size < w4.heap.size := K0_4.out.lt
  have z0_0_4 : w4.cell? ⟨w2.heap.size, 0, none⟩ = some (.int .i64 (12)) := K0_4.out.cell 0
  have z0_1_4 : w4.cell? ⟨w2.heap.size, 1, none⟩ = some (.int .i64 (1)) := K0_4.out.cell 1
  have HK4 := Lib.hid hk4
  clear hk4
  go_wp2_with fail
  refine (Judge_ok (some ⟨g4, 0, none⟩) 3 3 knownL 0 0 (by kernel_rfl) (-1) 2 0 (by kernel_rfl) _ (Blk.reads HK4.out rfl)).mono ?_
  rintro e w5 ⟨rfl, hb⟩
  have HB5 := Lib.hid (show Below w.heap.size w w5 from step_below hb (by repeat' (first | exact Below.refl _ _ | exact HB4.out | refine below_drewN ?_ _ | refine Below.drew ?_ | refine Below.alloc ?_ (by first | omega | (simp; done) | (simp; omega) | (simp [World.setCell]; omega)) _ | refine Below.setCell ?_ (by first | omega | (simp; done) | (simp; omega)) _ | assumption)))
  have K0_5 := Lib.hid (step_blk hb (show Blk _ (w2.heap.size) 25 #[.int .i64 (12), .int .i64 (1)] by repeat' (first | exact K0_4.out | exact Blk.at_ _ (by first | rfl | (simp; done) | (simp; omega)) _ _ | refine Blk.drewN ?_ _ | refine Blk.drew ?_ | refine Blk.alloc ?_ _ | refine Blk.far ?_ (by first | omega | (simp; done) | (simp; omega)) _ | assumption)))
  have hz5 := hb.size
  try simp only [World.size_alloc, World.drewN, World.drew] at hz5
  clear hb K0_4 z0_0_4 z0_1_4 l0_4
  have l0_5 : w2.heap.size < w5.heap.size := K0_5.out.lt
  have z0_0_5 : w5.cell? ⟨w2.heap.size, 0, none⟩ = some (.int .i64 (12)) := K0_5.out.cell 0
  have z0_1_5 : w5.cell? ⟨w2.heap.size, 1, none⟩ = some (.int .i64 (1)) := K0_5.out.cell 1
  clear HK4
  go_wp2_with fail
  generalize hwn : (w5.alloc (.cells #[.int .i64 (2), .int .i64 (0)] 40)) = w6
  have hbn : Below w5.heap.size w5 w6 := by rw [← hwn]; repeat' (first | exact Below.refl _ _ | refine below_drewN ?_ _ | refine Below.drew ?_ | refine Below.alloc ?_ (by first | omega | (simp; done) | (simp; omega) | (simp [World.setCell]; omega)) _ | refine Below.setCell ?_ (by first | omega | (simp; done) | (simp; omega)) _)
  have HB6 := Lib.hid (show Below w.heap.size w w6 from HB5.out.trans (hbn.mono HB5.out.size))
  have K0_6 := Lib.hid (step_blk hbn K0_5.out)
  have K1_6 := Lib.hid (show Blk w6 (w5.heap.size) 40 #[.int .i64 (2), .int .i64 (0)] by rw [← hwn]; repeat' (first | exact Blk.at_ _ (by first | rfl | (simp; done) | (simp; omega)) _ _ | refine Blk.drewN ?_ _ | refine Blk.drew ?_ | refine Blk.alloc ?_ _ | refine Blk.far ?_ (by first | omega | (simp; done) | (simp; omega)) _ | assumption))
  have HN6 := Lib.hid hbn
  have hz6 := hbn.size
  clear hwn hbn K0_5 l0_5 z0_0_5 z0_1_5
  have l0_6 : w2.heap.size < w6.heap.size := K0_6.out.lt
  have z0_0_6 : w6.cell? ⟨w2.heap.size, 0, none⟩ = some (.int .i64 (12)) := K0_6.out.cell 0
  have z0_1_6 : w6.cell? ⟨w2.heap.size, 1, none⟩ = some (.int .i64 (1)) := K0_6.out.cell 1
  have l1_6 : w5.heap.size < w6.heap.size := K1_6.out.lt
  have z1_0_6 : w6.cell? ⟨w5.heap.size, 0, none⟩ = some (.int .i64 (2)) := K1_6.out.cell 0
  have z1_1_6 : w6.cell? ⟨w5.heap.size, 1, none⟩ = some (.int .i64 (0)) := K1_6.out.cell 1
  refine (known_any _).mono ?_
  rintro e w7 ⟨g7, rfl, hb, hk7⟩
  have HB7 := Lib.hid (show Below w.heap.size w w7 from step_below hb (by repeat' (first | exact Below.refl _ _ | exact HB6.out | refine below_drewN ?_ _ | refine Below.drew ?_ | refine Below.alloc ?_ (by first | omega | (simp; done) | (simp; omega) | (simp [World.setCell]; omega)) _ | refine Below.setCell ?_ (by first | omega | (simp; done) | (simp; omega)) _ | assumption)))
  have K0_7 := Lib.hid (step_blk hb (show Blk _ (w2.heap.size) 25 #[.int .i64 (12), .int .i64 (1)] by repeat' (first | exact K0_6.out | exact K1_6.out | exact Blk.at_ _ (by first | rfl | (simp; done) | (simp; omega)) _ _ | refine Blk.drewN ?_ _ | refine Blk.drew ?_ | refine Blk.alloc ?_ _ | refine Blk.far ?_ (by first | omega | (simp; done) | (simp; omega)) _ | assumption)))
  have K1_7 := Lib.hid (step_blk hb (show Blk _ (w5.heap.size) 40 #[.int .i64 (2), .int .i64 (0)] by repeat' (first | exact K0_6.out | exact K1_6.out | exact Blk.at_ _ (by first | rfl | (simp; done) | (simp; omega)) _ _ | refine Blk.drewN ?_ _ | refine Blk.drew ?_ | refine Blk.alloc ?_ _ | refine Blk.far ?_ (by first | omega | (simp; done) | (simp; omega)) _ | assumption)))
  have hz7 := hb.size
  try simp only [World.size_alloc, World.drewN, World.drew] at hz7
  clear hb K0_6 K1_6 z0_0_6 z0_1_6 l0_6 z1_0_6 z1_1_6 l1_6
  have l0_7 : w2.heap.size < w7.heap.size := K0_7.out.lt
  have z0_0_7 : w7.cell? ⟨w2.heap.size, 0, none⟩ = some (.int .i64 (12)) := K0_7.out.cell 0
  have z0_1_7 : w7.cell? ⟨w2.heap.size, 1, none⟩ = some (.int .i64 (1)) := K0_7.out.cell 1
  have l1_7 : w5.heap.size < w7.heap.size := K1_7.out.lt
  have z1_0_7 : w7.cell? ⟨w5.heap.size, 0, none⟩ = some (.int .i64 (2)) := K1_7.out.cell 0
  have z1_1_7 : w7.cell? ⟨w5.heap.size, 1, none⟩ = some (.int .i64 (0)) := K1_7.out.cell 1
  have HK7 := Lib.hid hk7
  clear hk7
  go_wp2_with fail
  refine (surface_ok (some ⟨g7, 0, none⟩) 3 3 knownL 3 2 (by kernel_rfl) v i k HJ.out HV.out _ (Blk.reads HK7.out rfl)).mono ?_
  rintro e w8 ⟨A8, c8, rfl, hb, hr8⟩
  have HB8 := Lib.hid (show Below w.heap.size w w8 from step_below hb (by repeat' (first | exact Below.refl _ _ | exact HB7.out | refine below_drewN ?_ _ | refine Below.drew ?_ | refine Below.alloc ?_ (by first | omega | (simp; done) | (simp; omega) | (simp [World.setCell]; omega)) _ | refine Below.setCell ?_ (by first | omega | (simp; done) | (simp; omega)) _ | assumption)))
  have K0_8 := Lib.hid (step_blk hb (show Blk _ (w2.heap.size) 25 #[.int .i64 (12), .int .i64 (1)] by repeat' (first | exact K0_7.out | exact K1_7.out | exact Blk.at_ _ (by first | rfl | (simp; done) | (simp; omega)) _ _ | refine Blk.drewN ?_ _ | refine Blk.drew ?_ | refine Blk.alloc ?_ _ | refine Blk.far ?_ (by first | omega | (simp; done) | (simp; omega)) _ | assumption)))
  have K1_8 := Lib.hid (step_blk hb (show Blk _ (w5.heap.size) 40 #[.int .i64 (2), .int .i64 (0)] by repeat' (first | exact K0_7.out | exact K1_7.out | exact Blk.at_ _ (by first | rfl | (simp; done) | (simp; omega)) _ _ | refine Blk.drewN ?_ _ | refine Blk.drew ?_ | refine Blk.alloc ?_ _ | refine Blk.far ?_ (by first | omega | (simp; done) | (simp; omega)) _ | assumption)))
  have hz8 := hb.size
  try simp only [World.size_alloc, World.drewN, World.drew] at hz8
  clear hb K0_7 K1_7 z0_0_7 z0_1_7 l0_7 z1_0_7 z1_1_7 l1_7
  have l0_8 : w2.heap.size < w8.heap.size := K0_8.out.lt
  have z0_0_8 : w8.cell? ⟨w2.heap.size, 0, none⟩ = some (.int .i64 (12)) := K0_8.out.cell 0
  have z0_1_8 : w8.cell? ⟨w2.heap.size, 1, none⟩ = some (.int .i64 (1)) := K0_8.out.cell 1
  have l1_8 : w5.heap.size < w8.heap.size := K1_8.out.lt
  have z1_0_8 : w8.cell? ⟨w5.heap.size, 0, none⟩ = some (.int .i64 (2)) := K1_8.out.cell 0
  have z1_1_8 : w8.cell? ⟨w5.heap.size, 1, none⟩ = some (.int .i64 (0)) := K1_8.out.cell 1
  clear HK7
  have hr8' : Reads w8 w8.heap.size 1 A8 3 (([0, 1, 3] : List Int).map (.int .i64)) := hr8
  have HR8 := Lib.hid hr8'
  clear hr8 hr8'
  have hd1 : ((0 : Int) == 0) = true := by rfl
  have hd2 : ((-1 : Int) == -1) = true := by rfl
  go_wp2_with fail
  generalize hwn : (w8.alloc (.cells #[.int .i64 (0), .int .i64 (1), .int .i64 (3)] 3)) = w9
  have hbn : Below w8.heap.size w8 w9 := by rw [← hwn]; repeat' (first | exact Below.refl _ _ | refine below_drewN ?_ _ | refine Below.drew ?_ | refine Below.alloc ?_ (by first | omega | (simp; done) | (simp; omega) | (simp [World.setCell]; omega)) _ | refine Below.setCell ?_ (by first | omega | (simp; done) | (simp; omega)) _)
  have HB9 := Lib.hid (show Below w.heap.size w w9 from HB8.out.trans (hbn.mono HB8.out.size))
  have K0_9 := Lib.hid (step_blk hbn K0_8.out)
  have K1_9 := Lib.hid (step_blk hbn K1_8.out)
  have K2_9 := Lib.hid (show Blk w9 (w8.heap.size) 3 #[.int .i64 (0), .int .i64 (1), .int .i64 (3)] by rw [← hwn]; repeat' (first | exact Blk.at_ _ (by first | rfl | (simp; done) | (simp; omega)) _ _ | refine Blk.drewN ?_ _ | refine Blk.drew ?_ | refine Blk.alloc ?_ _ | refine Blk.far ?_ (by first | omega | (simp; done) | (simp; omega)) _ | assumption))
  have HN9 := Lib.hid hbn
  have hz9 := hbn.size
  clear hwn hbn K0_8 l0_8 z0_0_8 z0_1_8 K1_8 l1_8 z1_0_8 z1_1_8
  have l0_9 : w2.heap.size < w9.heap.size := K0_9.out.lt
  have z0_0_9 : w9.cell? ⟨w2.heap.size, 0, none⟩ = some (.int .i64 (12)) := K0_9.out.cell 0
  have z0_1_9 : w9.cell? ⟨w2.heap.size, 1, none⟩ = some (.int .i64 (1)) := K0_9.out.cell 1
  have l1_9 : w5.heap.size < w9.heap.size := K1_9.out.lt
  have z1_0_9 : w9.cell? ⟨w5.heap.size, 0, none⟩ = some (.int .i64 (2)) := K1_9.out.cell 0
  have z1_1_9 : w9.cell? ⟨w5.heap.size, 1, none⟩ = some (.int .i64 (0)) := K1_9.out.cell 1
  have l2_9 : w8.heap.size < w9.heap.size := K2_9.out.lt
  have z2_0_9 : w9.cell? ⟨w8.heap.size, 0, none⟩ = some (.int .i64 (0)) := K2_9.out.cell 0
  have z2_1_9 : w9.cell? ⟨w8.heap.size, 1, none⟩ = some (.int .i64 (1)) := K2_9.out.cell 1
  have z2_2_9 : w9.cell? ⟨w8.heap.size, 2, none⟩ = some (.int .i64 (3)) := K2_9.out.cell 2
  have hlit : Reads w9 w9.heap.size 1 (some ⟨w8.heap.size, 0, none⟩) 3 (([0, 1, 3] : List Int).map (.int .i64)) := Blk.reads K2_9.out rfl
  refine (ints_eqd A8 (some ⟨w8.heap.size, 0, none⟩) c8 3 3 3 [0, 1, 3] [0, 1, 3] true (by kernel_rfl) _ w9.heap.size w9.heap.size ((HR8.out.below HN9.out).more HN9.out.size) hlit (by omega) (by omega)).mono ?_
  rintro e w10 ⟨rfl, q, rfl⟩
  go_wp2
  go_ret
  exact ⟨rfl, by repeat' (first | exact Below.refl _ _ | exact HB9.out | refine below_drewN ?_ _ | refine Below.drew ?_ | refine Below.alloc ?_ (by first | omega | (simp; done) | (simp; omega) | (simp [World.setCell]; omega)) _ | refine Below.setCell ?_ (by first | omega | (simp; done) | (simp; omega)) _ | assumption)⟩
end Go.Proofs.Ytmejiafmmmeloaa

end

section
/- Contracts of the reference of chapter 6: enclosures, tolerances, bounds, the pair that refuses. -/
namespace Go.Proofs.Ytmejiafmmmeloaa
open Go Go.RowKit

theorem figheight_is (n : Int) (t : Bool) (ht : hgtB n = t) (w : World) : Calls Try.prog 19 #[.int .i64 n] w fun e w' => e = .returned (.bool t) ∧ w = w' := by
  have HT := Lib.hid ht
  clear ht
  go_enter Try.func19, Try.ntmps19
  go_wp2_with fail
  refine (withinref_is _ _ _ t HT.out _).mono ?_
  rintro e w' ⟨rfl, rfl⟩
  go_wp2
  go_ret
  exact ⟨rfl, rfl⟩
set_option maxRecDepth 100000 in
theorem rencl_is (A : Option Addr) (n c : Nat) (l : List (Int × Int)) (E : Int) (hE : enclErr l = E) (w : World) (hx : Reads w w.heap.size 2 A n (cells2 l)) :
    Calls Try.prog 7 #[.slice A n c] w fun e w' => e = .returned (.int .i64 E) ∧ Below w.heap.size w w' := by
  have hl := hx.len2
  have HE := Lib.hid hE
  have HL := Lib.hid hl
  clear hE hl
  cases hz : withinB (n : Int) 1 40
  · have e : (10 : Int) = E := by rw [← HE.out]; unfold enclErr; rw [HL.out, if_pos (zones_no hz)]
    have HEE := Lib.hid e
    have HZ := Lib.hid hz
    clear hz hx e
    go_enter Try.func7, Try.ntmps7
    go_wp2_with fail
    refine (withinref_is _ _ _ false HZ.out _).mono ?_
    rintro e w' ⟨rfl, rfl⟩
    go_wp2
    go_ret
    exact ⟨ret_int HEE.out, Below.refl _ _⟩
  have hn40 : n ≤ 40 := by have := within_yes hz; omega
  have HN := Lib.hid (zones_yes hz)
  have HZ := Lib.hid hz
  have HX := Lib.hid hx
  clear hz hx
  go_enter Try.func7, Try.ntmps7
  go_wp2_with fail
  refine (withinref_is _ _ _ true HZ.out _).mono ?_
  rintro e w' ⟨rfl, rfl⟩
  go_wp2
  go_loopw [3] (fun i wr => ∃ k : Nat, k ≤ n ∧ i = .int .i64 k ∧ Below w.heap.size w wr ∧ ∀ x ∈ l.take k, figErr x = 0) (fun i _ => n - (intOf i).toNat)
  case atStart => exact ⟨0, by omega, rfl, Below.refl _ _, by simp⟩
  case round =>
    obtain ⟨k, hk, rfl, hb, hup⟩ := hrel
    obtain ⟨w1, hnm⟩ : ∃ z : World, z = wr := ⟨_, rfl⟩
    subst hnm
    have HUP := Lib.hid hup
    have hrd : Reads w1 w1.heap.size 2 A n (cells2 l) := (HX.out.below hb).more hb.size
    have HBW := Lib.hid hb
    clear hup
    by_cases hlt : k < n
    · have hzb := hb.size
      obtain ⟨xb, xo, p, rfl, hxb, hp, c0, c1⟩ := hrd.pair hlt
      have HP := Lib.hid hp
      clear hp hrd hb
      obtain ⟨pa, pv⟩ := p
      simp only at c0 c1
      have hkk : (k : Int) < (n : Int) := by omega
      cases h1 : hgtB pa
      · have H1 := Lib.hid h1
        have HEE := Lib.hid (encl_at HL.out HN.out HP.out HUP.out (show figErr (pa, pv) = 2 by unfold figErr; simp [h1]) (by decide))
        clear h1
        go_wp2_with fail
        refine (figheight_is _ false H1.out _).mono ?_
        rintro e w' ⟨rfl, rfl⟩
        go_wp2
        go_ret
        exact ⟨ret_int (HEE.out.symm.trans HE.out), HBW.out⟩
      have H1 := Lib.hid h1
      cases h2 : hgtB pv
      · have H2 := Lib.hid h2
        have HEE := Lib.hid (encl_at HL.out HN.out HP.out HUP.out (show figErr (pa, pv) = 2 by unfold figErr; simp [h1, h2]) (by decide))
        clear h1 h2
        go_wp2_with fail
        refine (figheight_is _ true H1.out _).mono ?_
        rintro e w' ⟨rfl, rfl⟩
        go_wp2_with fail
        refine (figheight_is _ false H2.out _).mono ?_
        rintro e w' ⟨rfl, rfl⟩
        go_wp2
        go_ret
        exact ⟨ret_int (HEE.out.symm.trans HE.out), HBW.out⟩
      have H2 := Lib.hid h2
      by_cases hle : pv < pa
      · have HEE := Lib.hid (encl_at HL.out HN.out HP.out HUP.out (show figErr (pa, pv) = 9 by unfold figErr; simp [h1, h2, hle]) (by decide))
        clear h1 h2
        go_wp2_with fail
        refine (figheight_is _ true H1.out _).mono ?_
        rintro e w' ⟨rfl, rfl⟩
        go_wp2_with fail
        refine (figheight_is _ true H2.out _).mono ?_
        rintro e w' ⟨rfl, rfl⟩
        go_wp2
        go_quiet (fail)
        go_wp2
        go_ret
        exact ⟨ret_int (HEE.out.symm.trans HE.out), below_drewN HBW.out _⟩
      · have HU := Lib.hid (take_ok HP.out HUP.out (show figErr (pa, pv) = 0 by unfold figErr; simp [h1, h2, hle]))
        clear h1 h2
        go_wp2_with fail
        refine (figheight_is _ true H1.out _).mono ?_
        rintro e w' ⟨rfl, rfl⟩
        go_wp2_with fail
        refine (figheight_is _ true H2.out _).mono ?_
        rintro e w' ⟨rfl, rfl⟩
        go_wp2
        go_quiet (fail)
        go_wp2
        go_roundw
        case rel => exact ⟨k + 1, by omega, by go_num, below_drewN HBW.out _, HU.out⟩
        case measure => simp [intOf]; omega
    · obtain rfl : n = k := by omega
      have HEE := Lib.hid (encl_all HL.out HN.out HUP.out)
      clear hrd hb
      go_wp2
      go_ret
      exact ⟨ret_int (HEE.out.symm.trans HE.out), HBW.out⟩

end Go.Proofs.Ytmejiafmmmeloaa

end

section
/- Contracts of chapter 6: the reference's judgement, copies of enclosures, the check of a pair that refuses. -/
namespace Go.Proofs.Ytmejiafmmmeloaa
open Go Go.RowKit

theorem lranges_any (A : Option Addr) (n c N : Nat) (l : List (Int × Int)) (w : World) (hx : Reads w N 2 A n (cells2 l)) (hN : N ≤ w.heap.size) (hn : n ≤ 1000000) :
    Calls Try.prog 6 #[.slice A n c] w (CopyPost w 54 2 n (cells2 l)) := by
  obtain ⟨v', W2, hrun, ho, hb⟩ := copy_run (P := Try.prog) 22 22 54 _ 2 16 Try.underlying22 info_range rfl (by omega) w N A n c (cells2 l) hx hN (one_cells2 l) (by unfold maxLen; omega) (by omega)
  have HRUN := Lib.hid hrun
  have HO := Lib.hid ho
  have HB := Lib.hid hb
  clear hrun ho hb
  go_enter Try.func6, Try.ntmps6
  go_wp2_with (first | (at_builtin; refine wpList_app _ W2 v' rfl _ _ _ rfl _ _ rfl rfl HRUN.out ?_))
  go_ret
  exact CopyPost.of HO.out HB.out
/-- A copy of an enclosure, by what is read there. -/
theorem cranges_any (A : Option Addr) (n c : Nat) (l : List (Int × Int)) (w : World) (hx : Reads w w.heap.size 2 A n (cells2 l)) (hn : n ≤ 1000000) :
    Calls Try.prog 6 #[.slice A n c] w fun e w' => ∃ A' c', e = .returned (.slice A' n c') ∧ Below w.heap.size w w' ∧ Reads w' w'.heap.size 2 A' n (cells2 l) :=
  (lranges_any A n c _ l w hx (Nat.le_refl _) hn).mono fun e w' h => by
    obtain ⟨A', c', he, hb, hr, -⟩ := h
    exact ⟨A', c', he, hb, hr⟩

end Go.Proofs.Ytmejiafmmmeloaa

end

section
/- Lists of pairs as arguments; arrays of two fractions compared. -/
namespace Go.Proofs.Ytmejiafmmmeloaa
open Go Go.RowKit Go.ChangeShapes Go.WideShapes Go.ChangeAt Go.Joins Go.Deep

@[go_sem] theorem held_farr7 : Try.prog.stoodInHeld 26 = false := by kernel_rfl
@[go_sem] theorem guard_farr7 : Try.prog.eqGuardType Try.prog.depth 26 = false := by kernel_rfl
theorem eq_frac97 (a b c d : Int) (w : World) : (Op.equalIn 9999 25 (.agg #[.int .i64 a, .int .i64 b]) (.agg #[.int .i64 c, .int .i64 d])).run Try.prog w = .ok (decide ((a, b) = (c, d))) w := by
  simp [go_sem]
  by_cases h1 : a = c <;> by_cases h2 : b = d <;> simp [h1, h2]
theorem eq_farr7 (a b c d a' b' c' d' : Int) (w : World) : (Op.equalIn 10000 26 (.agg #[.int .i64 a, .int .i64 b, .int .i64 c, .int .i64 d]) (.agg #[.int .i64 a', .int .i64 b', .int .i64 c', .int .i64 d'])).run Try.prog w = .ok (decide ((a, b, c, d) = (a', b', c', d'))) w := by
  have h0 : (sizeOf 25).run Try.prog w = .ok 2 w := by kernel_rfl
  have p0 : ∀ u v x y : Value, (part 25 #[u, v, x, y] 0).run Try.prog w = .ok (.agg #[u, v]) w := fun _ _ _ _ => by kernel_rfl
  have p1 : ∀ u v x y : Value, (part 25 #[u, v, x, y] 2).run Try.prog w = .ok (.agg #[x, y]) w := fun _ _ _ _ => by kernel_rfl
  show (Op.equalIn (9999 + 1) _ _ _).run _ w = _
  rw [Op.equalIn.eq_def]
  simp only [Sem.run_bind, run_underlying Try.underlying26, Result.andThen_ok, h0]
  rw [Std.Legacy.Range.forIn_eq_forIn_range']
  simp [List.range', p0, p1, eq_frac97, Sem.run_bind]
  by_cases h1 : a = a' <;> by_cases h2 : b = b' <;> by_cases h3 : c = c' <;> by_cases h4 : d = d' <;> simp [h1, h2, h3, h4, p0, p1, eq_frac97]
@[go_sem ↓ high] theorem eql_farr7 (a b c d a' b' c' d' : Int) (w : World) : (binOp .eql 26 (.agg #[.int .i64 a, .int .i64 b, .int .i64 c, .int .i64 d]) (.agg #[.int .i64 a', .int .i64 b', .int .i64 c', .int .i64 d'])).run Try.prog w = .ok (.bool (decide ((a, b, c, d) = (a', b', c', d')))) w := by
  rw [run_eql_struct, eq_farr7]; rfl
@[go_sem ↓ high] theorem neq_farr77 (a b c d a' b' c' d' : Int) (w : World) : (binOp .neq 26 (.agg #[.int .i64 a, .int .i64 b, .int .i64 c, .int .i64 d]) (.agg #[.int .i64 a', .int .i64 b', .int .i64 c', .int .i64 d'])).run Try.prog w = .ok (.bool (!decide ((a, b, c, d) = (a', b', c', d')))) w := by
  rw [run_neq_struct, eq_farr7]; rfl

section
variable {H : Type} {enc : TypeId × Value → H} {P : Program} {w : World} {base b0 : Nat} {spare : Nat → Bool} {held : Bool} {r : Reach} {t e tI : TypeId} {v : Value} {d : DataW H} {p : List MemPlace}
end
end Go.Proofs.Ytmejiafmmmeloaa

end

section
/- Plain law of readings: arcs that a profile keeps never make a circle below 0: the search for one ends in time. -/
namespace Go.Proofs.Ytmejiafmmmeloaa

/-- An arc: from, to, length. -/
abbrev Arc := Nat × Nat × Int
/-- Heights keep all arcs. -/
def KeepsA (p : Nat → Int) (ars : List Arc) : Prop := ∀ a ∈ ars, p a.2.1 - p a.1 ≤ a.2.2
def relax (H : Nat → Int) (a : Arc) : Nat → Int := fun v => if v = a.2.1 then H a.1 + a.2.2 else H v

/-- What holds in round r (from 1), ahead of arc j: chains of zones without repetition bear each height; a zone that changed in round q has a chain of more than q zones. -/
structure BfAt (n : Nat) (p : Nat → Int) (ars : List Arc) (r j : Nat) (H : Nat → Int) (ch : Bool) (c : Nat → List (Nat × Int)) (lc : Nat → Nat) : Prop where
  head : ∀ v, v < n → ∃ t, c v = (v, H v) :: t
  nodup : ∀ v, v < n → ((c v).map (·.1)).Nodup
  dom : ∀ v, v < n → ∀ x ∈ c v, x.1 < n
  above : ∀ v, v < n → ∀ x ∈ c v, H x.1 ≤ x.2
  sum : ∀ v, v < n → ∀ x ∈ c v, x.2 + p v - p x.1 ≤ H v
  len : ∀ v, v < n → lc v + 1 ≤ (c v).length
  rnd : ∀ v, v < n → lc v ≤ r
  arcs : ∀ i a, ars[i]? = some a → H a.2.1 ≤ H a.1 + a.2.2 ∨ (if i < j then lc a.1 = r else r ≤ lc a.1 + 1)
  chg : ch = true → ∃ v, v < n ∧ lc v = r
def Bf (n : Nat) (p : Nat → Int) (ars : List Arc) (r j : Nat) (H : Nat → Int) (ch : Bool) : Prop := ∃ c lc, BfAt n p ars r j H ch c lc

section
variable {n : Nat} {p : Nat → Int} {ars : List Arc} {r j : Nat} {H : Nat → Int} {ch : Bool}
end
end Go.Proofs.Ytmejiafmmmeloaa

end
