import Derived.Test.YtnepjgnnppfibaaQ25
import Derived.Test.YtnepjgnnppfibaaQ9
import Derived.Test.YtnepjgnnppfibaaQ22
import Derived.Test.YtnepjgnnppfibaaQ5

section
/- The removals of a line; the line that is found; refusals of wrong maps. -/
namespace Go.Proofs.Ytnepjgnnppfibaa
open Go Go.RowKit

/-- The removals of the first zones. -/
def remL (m : Rm) (a b c d : Int) (k : Nat) : List (Int × Int) := (List.range k).map fun z => (redN (remN m a b c d z) (b * d), redD (remN m a b c d z) (b * d))
set_option maxRecDepth 100000 in
set_option maxHeartbeats 4000000 in
theorem least_bad (A1 : Option Addr) (n1 c1 : Nat) (hs : List Int) (A2 : Option Addr) (n2 c2 : Nat) (qs : List Int) (A3 : Option Addr) (n3 c3 : Nat) (us : List Int) (E : Int) (hE : mapErr hs qs us = E) (h0 : E ≠ 0) (w : World)
    (r1 : Reads w w.heap.size 1 A1 n1 (hs.map (.int .i64))) (r2 : Reads w w.heap.size 1 A2 n2 (qs.map (.int .i64))) (r3 : Reads w w.heap.size 1 A3 n3 (us.map (.int .i64))) (hc1 : n1 ≤ 1000) (hc2 : n2 ≤ 1000) (hc3 : n3 ≤ 1000) :
    Calls Try.prog 50 #[.agg #[.slice A1 n1 c1, .slice A2 n2 c2, .slice A3 n3 c3]] w fun e w' => e = .returned (.tuple #[.agg #[.int .i64 0, .int .i64 0], .int .i64 E]) ∧ Below w.heap.size w w' := by
  have HE := Lib.hid hE
  have R1 := Lib.hid r1
  have R2 := Lib.hid r2
  have R3 := Lib.hid r3
  have e1 : (E != 0) = true := by simpa using h0
  clear hE r1 r2 r3
  go_enter Try.func50, Try.ntmps50
  go_wp2_with fail
  generalize hwn : ((w.alloc (.cells #[.slice A1 n1 c1, .slice A2 n2 c2, .slice A3 n3 c3] 24)).alloc (.cells #[.int .i64 (0), .int .i64 (0)] 28)) = w1
  have hbn : Below w.heap.size w w1 := by rw [← hwn]; repeat' (first | exact Below.refl _ _ | refine below_drewN ?_ _ | refine Below.drew ?_ | refine Below.alloc ?_ (by first | omega | (simp; done) | (simp; omega) | (simp [World.setCell]; omega)) _ | refine Below.setCell ?_ (by first | omega | (simp; done) | (simp; omega)) _)
  have HB1 := Lib.hid (show Below w.heap.size w w1 from hbn)
  have K0_1 := Lib.hid (show Blk w1 (w.heap.size) 24 #[.slice A1 n1 c1, .slice A2 n2 c2, .slice A3 n3 c3] by rw [← hwn]; repeat' (first | exact Blk.at_ _ (by first | rfl | (simp; done) | (simp; omega)) _ _ | refine Blk.drewN ?_ _ | refine Blk.drew ?_ | refine Blk.alloc ?_ _ | refine Blk.far ?_ (by first | omega | (simp; done) | (simp; omega)) _ | assumption))
  have K1_1 := Lib.hid (show Blk w1 (w.heap.size + 1) 28 #[.int .i64 (0), .int .i64 (0)] by rw [← hwn]; repeat' (first | exact Blk.at_ _ (by first | rfl | (simp; done) | (simp; omega)) _ _ | refine Blk.drewN ?_ _ | refine Blk.drew ?_ | refine Blk.alloc ?_ _ | refine Blk.far ?_ (by first | omega | (simp; done) | (simp; omega)) _ | assumption))
  have HN1 := Lib.hid hbn
  have hz1 := hbn.size
  clear hwn hbn
  have l0_1 : w.heap.size < w1.heap.size := K0_1.out.lt
  have z0_0_1 : w1.cell? ⟨w.heap.size, 0, none⟩ = some (.slice A1 n1 c1) := K0_1.out.cell 0
  have z0_1_1 : w1.cell? ⟨w.heap.size, 1, none⟩ = some (.slice A2 n2 c2) := K0_1.out.cell 1
  have z0_2_1 : w1.cell? ⟨w.heap.size, 2, none⟩ = some (.slice A3 n3 c3) := K0_1.out.cell 2
  have l1_1 : w.heap.size + 1 < w1.heap.size := K1_1.out.lt
  have z1_0_1 : w1.cell? ⟨w.heap.size + 1, 0, none⟩ = some (.int .i64 (0)) := K1_1.out.cell 0
  have z1_1_1 : w1.cell? ⟨w.heap.size + 1, 1, none⟩ = some (.int .i64 (0)) := K1_1.out.cell 1
  refine (checkmap_is A1 n1 c1 hs A2 n2 c2 qs A3 n3 c3 us E HE.out _ ((R1.out.below HB1.out).more HB1.out.size) ((R2.out.below HB1.out).more HB1.out.size) ((R3.out.below HB1.out).more HB1.out.size) (by omega) (by omega) (by omega)).mono ?_
  rintro e w2 ⟨rfl, hb⟩
  have HB2 := Lib.hid (show Below w.heap.size w w2 from step_below hb (by repeat' (first | exact Below.refl _ _ | exact HB1.out | refine below_drewN ?_ _ | refine Below.drew ?_ | refine Below.alloc ?_ (by first | omega | (simp; done) | (simp; omega) | (simp [World.setCell]; omega)) _ | refine Below.setCell ?_ (by first | omega | (simp; done) | (simp; omega)) _ | assumption)))
  have K0_2 := Lib.hid (step_blk hb (show Blk _ (w.heap.size) 24 #[.slice A1 n1 c1, .slice A2 n2 c2, .slice A3 n3 c3] by repeat' (first | exact K0_1.out | exact K1_1.out | exact Blk.at_ _ (by first | rfl | (simp; done) | (simp; omega)) _ _ | refine Blk.drewN ?_ _ | refine Blk.drew ?_ | refine Blk.alloc ?_ _ | refine Blk.far ?_ (by first | omega | (simp; done) | (simp; omega)) _ | assumption)))
  have K1_2 := Lib.hid (step_blk hb (show Blk _ (w.heap.size + 1) 28 #[.int .i64 (0), .int .i64 (0)] by repeat' (first | exact K0_1.out | exact K1_1.out | exact Blk.at_ _ (by first | rfl | (simp; done) | (simp; omega)) _ _ | refine Blk.drewN ?_ _ | refine Blk.drew ?_ | refine Blk.alloc ?_ _ | refine Blk.far ?_ (by first | omega | (simp; done) | (simp; omega)) _ | assumption)))
  have hz2 := hb.size
  try simp only [World.size_alloc, World.drewN, World.drew] at hz2
  clear hb K0_1 K1_1 z0_0_1 z0_1_1 z0_2_1 l0_1 z1_0_1 z1_1_1 l1_1
  have l0_2 : w.heap.size < w2.heap.size := K0_2.out.lt
  have z0_0_2 : w2.cell? ⟨w.heap.size, 0, none⟩ = some (.slice A1 n1 c1) := K0_2.out.cell 0
  have z0_1_2 : w2.cell? ⟨w.heap.size, 1, none⟩ = some (.slice A2 n2 c2) := K0_2.out.cell 1
  have z0_2_2 : w2.cell? ⟨w.heap.size, 2, none⟩ = some (.slice A3 n3 c3) := K0_2.out.cell 2
  have l1_2 : w.heap.size + 1 < w2.heap.size := K1_2.out.lt
  have z1_0_2 : w2.cell? ⟨w.heap.size + 1, 0, none⟩ = some (.int .i64 (0)) := K1_2.out.cell 0
  have z1_1_2 : w2.cell? ⟨w.heap.size + 1, 1, none⟩ = some (.int .i64 (0)) := K1_2.out.cell 1
  have zf1_0 := K1_2.out.frozen 0
  have zf1_1 := K1_2.out.frozen 1
  go_wp2
  exact bodyPost_ret (v := .tuple #[.agg #[.int .i64 0, .int .i64 0], .int .i64 E]) (by simp [results, Try.results50, go_sem, z1_0_2, z1_1_2, l1_2]) rfl ⟨rfl, by repeat' (first | exact Below.refl _ _ | exact HB2.out | refine below_drewN ?_ _ | refine Below.drew ?_ | refine Below.alloc ?_ (by first | omega | (simp; done) | (simp; omega) | (simp [World.setCell]; omega)) _ | refine Below.setCell ?_ (by first | omega | (simp; done) | (simp; omega)) _ | assumption)⟩

set_option maxRecDepth 100000 in
set_option maxHeartbeats 4000000 in
theorem Reference_bad (A1 : Option Addr) (n1 c1 : Nat) (hs : List Int) (A2 : Option Addr) (n2 c2 : Nat) (qs : List Int) (A3 : Option Addr) (n3 c3 : Nat) (us : List Int) (E : Int) (hE : mapErr hs qs us = E) (h0 : E ≠ 0) (w : World)
    (r1 : Reads w w.heap.size 1 A1 n1 (hs.map (.int .i64))) (r2 : Reads w w.heap.size 1 A2 n2 (qs.map (.int .i64))) (r3 : Reads w w.heap.size 1 A3 n3 (us.map (.int .i64))) (hc1 : n1 ≤ 1000) (hc2 : n2 ≤ 1000) (hc3 : n3 ≤ 1000) :
    Calls Try.prog 55 #[.agg #[.slice A1 n1 c1, .slice A2 n2 c2, .slice A3 n3 c3]] w fun e w' => e = .returned (.tuple #[.agg #[.int .i64 0, .int .i64 0, .int .i64 0, .int .i64 0, .int .i64 0, .int .i64 0], .int .i64 E]) ∧ Below w.heap.size w w' := by
  have HE := Lib.hid hE
  have R1 := Lib.hid r1
  have R2 := Lib.hid r2
  have R3 := Lib.hid r3
  have e1 : (E != 0) = true := by simpa using h0
  clear hE r1 r2 r3
  go_enter Try.func55, Try.ntmps55
  go_wp2_with fail
  generalize hwn : ((w.alloc (.cells #[.slice A1 n1 c1, .slice A2 n2 c2, .slice A3 n3 c3] 24)).alloc (.cells #[.int .i64 (0), .int .i64 (0), .int .i64 (0), .int .i64 (0), .int .i64 (0), .int .i64 (0)] 75)) = w1
  have hbn : Below w.heap.size w w1 := by rw [← hwn]; repeat' (first | exact Below.refl _ _ | refine below_drewN ?_ _ | refine Below.drew ?_ | refine Below.alloc ?_ (by first | omega | (simp; done) | (simp; omega) | (simp [World.setCell]; omega)) _ | refine Below.setCell ?_ (by first | omega | (simp; done) | (simp; omega)) _)
  have HB1 := Lib.hid (show Below w.heap.size w w1 from hbn)
  have K0_1 := Lib.hid (show Blk w1 (w.heap.size) 24 #[.slice A1 n1 c1, .slice A2 n2 c2, .slice A3 n3 c3] by rw [← hwn]; repeat' (first | exact Blk.at_ _ (by first | rfl | (simp; done) | (simp; omega)) _ _ | refine Blk.drewN ?_ _ | refine Blk.drew ?_ | refine Blk.alloc ?_ _ | refine Blk.far ?_ (by first | omega | (simp; done) | (simp; omega)) _ | assumption))
  have K1_1 := Lib.hid (show Blk w1 (w.heap.size + 1) 75 #[.int .i64 (0), .int .i64 (0), .int .i64 (0), .int .i64 (0), .int .i64 (0), .int .i64 (0)] by rw [← hwn]; repeat' (first | exact Blk.at_ _ (by first | rfl | (simp; done) | (simp; omega)) _ _ | refine Blk.drewN ?_ _ | refine Blk.drew ?_ | refine Blk.alloc ?_ _ | refine Blk.far ?_ (by first | omega | (simp; done) | (simp; omega)) _ | assumption))
  have HN1 := Lib.hid hbn
  have hz1 := hbn.size
  clear hwn hbn
  have l0_1 : w.heap.size < w1.heap.size := K0_1.out.lt
  have z0_0_1 : w1.cell? ⟨w.heap.size, 0, none⟩ = some (.slice A1 n1 c1) := K0_1.out.cell 0
  have z0_1_1 : w1.cell? ⟨w.heap.size, 1, none⟩ = some (.slice A2 n2 c2) := K0_1.out.cell 1
  have z0_2_1 : w1.cell? ⟨w.heap.size, 2, none⟩ = some (.slice A3 n3 c3) := K0_1.out.cell 2
  have l1_1 : w.heap.size + 1 < w1.heap.size := K1_1.out.lt
  have z1_0_1 : w1.cell? ⟨w.heap.size + 1, 0, none⟩ = some (.int .i64 (0)) := K1_1.out.cell 0
  have z1_1_1 : w1.cell? ⟨w.heap.size + 1, 1, none⟩ = some (.int .i64 (0)) := K1_1.out.cell 1
  have z1_2_1 : w1.cell? ⟨w.heap.size + 1, 2, none⟩ = some (.int .i64 (0)) := K1_1.out.cell 2
  have z1_3_1 : w1.cell? ⟨w.heap.size + 1, 3, none⟩ = some (.int .i64 (0)) := K1_1.out.cell 3
  have z1_4_1 : w1.cell? ⟨w.heap.size + 1, 4, none⟩ = some (.int .i64 (0)) := K1_1.out.cell 4
  have z1_5_1 : w1.cell? ⟨w.heap.size + 1, 5, none⟩ = some (.int .i64 (0)) := K1_1.out.cell 5
  refine (checkmap_is A1 n1 c1 hs A2 n2 c2 qs A3 n3 c3 us E HE.out _ ((R1.out.below HB1.out).more HB1.out.size) ((R2.out.below HB1.out).more HB1.out.size) ((R3.out.below HB1.out).more HB1.out.size) (by omega) (by omega) (by omega)).mono ?_
  rintro e w2 ⟨rfl, hb⟩
  have HB2 := Lib.hid (show Below w.heap.size w w2 from step_below hb (by repeat' (first | exact Below.refl _ _ | exact HB1.out | refine below_drewN ?_ _ | refine Below.drew ?_ | refine Below.alloc ?_ (by first | omega | (simp; done) | (simp; omega) | (simp [World.setCell]; omega)) _ | refine Below.setCell ?_ (by first | omega | (simp; done) | (simp; omega)) _ | assumption)))
  have K0_2 := Lib.hid (step_blk hb (show Blk _ (w.heap.size) 24 #[.slice A1 n1 c1, .slice A2 n2 c2, .slice A3 n3 c3] by repeat' (first | exact K0_1.out | exact K1_1.out | exact Blk.at_ _ (by first | rfl | (simp; done) | (simp; omega)) _ _ | refine Blk.drewN ?_ _ | refine Blk.drew ?_ | refine Blk.alloc ?_ _ | refine Blk.far ?_ (by first | omega | (simp; done) | (simp; omega)) _ | assumption)))
  have K1_2 := Lib.hid (step_blk hb (show Blk _ (w.heap.size + 1) 75 #[.int .i64 (0), .int .i64 (0), .int .i64 (0), .int .i64 (0), .int .i64 (0), .int .i64 (0)] by repeat' (first | exact K0_1.out | exact K1_1.out | exact Blk.at_ _ (by first | rfl | (simp; done) | (simp; omega)) _ _ | refine Blk.drewN ?_ _ | refine Blk.drew ?_ | refine Blk.alloc ?_ _ | refine Blk.far ?_ (by first | omega | (simp; done) | (simp; omega)) _ | assumption)))
  have hz2 := hb.size
  try simp only [World.size_alloc, World.drewN, World.drew] at hz2
  clear hb K0_1 K1_1 z0_0_1 z0_1_1 z0_2_1 l0_1 z1_0_1 z1_1_1 z1_2_1 z1_3_1 z1_4_1 z1_5_1 l1_1
  have l0_2 : w.heap.size < w2.heap.size := K0_2.out.lt
  have z0_0_2 : w2.cell? ⟨w.heap.size, 0, none⟩ = some (.slice A1 n1 c1) := K0_2.out.cell 0
  have z0_1_2 : w2.cell? ⟨w.heap.size, 1, none⟩ = some (.slice A2 n2 c2) := K0_2.out.cell 1
  have z0_2_2 : w2.cell? ⟨w.heap.size, 2, none⟩ = some (.slice A3 n3 c3) := K0_2.out.cell 2
  have l1_2 : w.heap.size + 1 < w2.heap.size := K1_2.out.lt
  have z1_0_2 : w2.cell? ⟨w.heap.size + 1, 0, none⟩ = some (.int .i64 (0)) := K1_2.out.cell 0
  have z1_1_2 : w2.cell? ⟨w.heap.size + 1, 1, none⟩ = some (.int .i64 (0)) := K1_2.out.cell 1
  have z1_2_2 : w2.cell? ⟨w.heap.size + 1, 2, none⟩ = some (.int .i64 (0)) := K1_2.out.cell 2
  have z1_3_2 : w2.cell? ⟨w.heap.size + 1, 3, none⟩ = some (.int .i64 (0)) := K1_2.out.cell 3
  have z1_4_2 : w2.cell? ⟨w.heap.size + 1, 4, none⟩ = some (.int .i64 (0)) := K1_2.out.cell 4
  have z1_5_2 : w2.cell? ⟨w.heap.size + 1, 5, none⟩ = some (.int .i64 (0)) := K1_2.out.cell 5
  clear z1_0_2 z1_1_2 z1_2_2 z1_3_2 z1_4_2 z1_5_2
  have sc0 := (K1_2.out).cell 0
  have sf0 := (K1_2.out).frozen 0
  have sk0 : Blk (w2.setCell ⟨w.heap.size + 1, 0, none⟩ (.int .i64 0)) (w.heap.size + 1) 75 #[.int .i64 0, .int .i64 (0), .int .i64 (0), .int .i64 (0), .int .i64 (0), .int .i64 (0)] := by simpa using (K1_2.out).set_ 0 (.int .i64 0)
  have sc1 := (sk0).cell 1
  have sf1 := (sk0).frozen 1
  have sk1 : Blk ((w2.setCell ⟨w.heap.size + 1, 0, none⟩ (.int .i64 0)).setCell ⟨w.heap.size + 1, 1, none⟩ (.int .i64 0)) (w.heap.size + 1) 75 #[.int .i64 0, .int .i64 0, .int .i64 (0), .int .i64 (0), .int .i64 (0), .int .i64 (0)] := by simpa using (sk0).set_ 1 (.int .i64 0)
  have sc2 := (sk1).cell 2
  have sf2 := (sk1).frozen 2
  have sk2 : Blk (((w2.setCell ⟨w.heap.size + 1, 0, none⟩ (.int .i64 0)).setCell ⟨w.heap.size + 1, 1, none⟩ (.int .i64 0)).setCell ⟨w.heap.size + 1, 2, none⟩ (.int .i64 0)) (w.heap.size + 1) 75 #[.int .i64 0, .int .i64 0, .int .i64 0, .int .i64 (0), .int .i64 (0), .int .i64 (0)] := by simpa using (sk1).set_ 2 (.int .i64 0)
  have sc3 := (sk2).cell 3
  have sf3 := (sk2).frozen 3
  have sk3 : Blk ((((w2.setCell ⟨w.heap.size + 1, 0, none⟩ (.int .i64 0)).setCell ⟨w.heap.size + 1, 1, none⟩ (.int .i64 0)).setCell ⟨w.heap.size + 1, 2, none⟩ (.int .i64 0)).setCell ⟨w.heap.size + 1, 3, none⟩ (.int .i64 0)) (w.heap.size + 1) 75 #[.int .i64 0, .int .i64 0, .int .i64 0, .int .i64 0, .int .i64 (0), .int .i64 (0)] := by simpa using (sk2).set_ 3 (.int .i64 0)
  have sc4 := (sk3).cell 4
  have sf4 := (sk3).frozen 4
  have sk4 : Blk (((((w2.setCell ⟨w.heap.size + 1, 0, none⟩ (.int .i64 0)).setCell ⟨w.heap.size + 1, 1, none⟩ (.int .i64 0)).setCell ⟨w.heap.size + 1, 2, none⟩ (.int .i64 0)).setCell ⟨w.heap.size + 1, 3, none⟩ (.int .i64 0)).setCell ⟨w.heap.size + 1, 4, none⟩ (.int .i64 0)) (w.heap.size + 1) 75 #[.int .i64 0, .int .i64 0, .int .i64 0, .int .i64 0, .int .i64 0, .int .i64 (0)] := by simpa using (sk3).set_ 4 (.int .i64 0)
  have sc5 := (sk4).cell 5
  have sf5 := (sk4).frozen 5
  have sk5 : Blk ((((((w2.setCell ⟨w.heap.size + 1, 0, none⟩ (.int .i64 0)).setCell ⟨w.heap.size + 1, 1, none⟩ (.int .i64 0)).setCell ⟨w.heap.size + 1, 2, none⟩ (.int .i64 0)).setCell ⟨w.heap.size + 1, 3, none⟩ (.int .i64 0)).setCell ⟨w.heap.size + 1, 4, none⟩ (.int .i64 0)).setCell ⟨w.heap.size + 1, 5, none⟩ (.int .i64 0)) (w.heap.size + 1) 75 #[.int .i64 0, .int .i64 0, .int .i64 0, .int .i64 0, .int .i64 0, .int .i64 0] := by simpa using (sk4).set_ 5 (.int .i64 0)
  have sK := Lib.hid sk5
  have sd0 := sk5.cell 0
  have sd1 := sk5.cell 1
  have sd2 := sk5.cell 2
  have sd3 := sk5.cell 3
  have sd4 := sk5.cell 4
  have sd5 := sk5.cell 5
  clear sk0 sk1 sk2 sk3 sk4 sk5
  go_wp2_with fail
  exact bodyPost_ret (v := .tuple #[.agg #[.int .i64 0, .int .i64 0, .int .i64 0, .int .i64 0, .int .i64 0, .int .i64 0], .int .i64 E]) (by simp [results, Try.results55, go_sem, sd0, sd1, sd2, sd3, sd4, sd5, l1_2]) rfl ⟨rfl, ((((((HB2.out.setCell (p := ⟨w.heap.size + 1, 0, none⟩) (by show _ ≤ w.heap.size + 1; omega) (.int .i64 0)).setCell (p := ⟨w.heap.size + 1, 1, none⟩) (by show _ ≤ w.heap.size + 1; omega) (.int .i64 0)).setCell (p := ⟨w.heap.size + 1, 2, none⟩) (by show _ ≤ w.heap.size + 1; omega) (.int .i64 0)).setCell (p := ⟨w.heap.size + 1, 3, none⟩) (by show _ ≤ w.heap.size + 1; omega) (.int .i64 0)).setCell (p := ⟨w.heap.size + 1, 4, none⟩) (by show _ ≤ w.heap.size + 1; omega) (.int .i64 0)).setCell (p := ⟨w.heap.size + 1, 5, none⟩) (by show _ ≤ w.heap.size + 1; omega) (.int .i64 0))⟩

set_option maxRecDepth 100000 in
set_option maxHeartbeats 4000000 in
theorem Reference_ok (m : Rm) (hm : m.Ok) (hn19 : m.n < 20) (a b c d : Int) (x y : Nat) (hxv : refF m = (((a, b), (c, d)), (x, y))) (w : World) (hx : RmAt m w) (hck : CkOk m w) :
    Calls Try.prog 55 #[m.val] w fun e w' => e = .returned (.tuple #[.agg #[.int .i64 a, .int .i64 b, .int .i64 c, .int .i64 d, .int .i64 (x : Int), .int .i64 (y : Int)], .int .i64 0]) ∧ Below w.heap.size w w' := by
  have HX := Lib.hid hx
  have HM := Lib.hid hm
  have HCK := Lib.hid hck
  have HXV := Lib.hid hxv
  clear hx hm hck hxv
  unfold Rm.val
  go_enter Try.func55, Try.ntmps55
  go_wp2_with fail
  generalize hwn : ((w.alloc (.cells #[.slice (some ⟨m.b1, m.o1, none⟩) m.n m.c1, .slice (some ⟨m.b2, m.o2, none⟩) m.n m.c2, .slice (some ⟨m.b3, m.o3, none⟩) m.n m.c3] 24)).alloc (.cells #[.int .i64 (0), .int .i64 (0), .int .i64 (0), .int .i64 (0), .int .i64 (0), .int .i64 (0)] 75)) = w1
  have hbn : Below w.heap.size w w1 := by rw [← hwn]; repeat' (first | exact Below.refl _ _ | refine below_drewN ?_ _ | refine Below.drew ?_ | refine Below.alloc ?_ (by first | omega | (simp; done) | (simp; omega) | (simp [World.setCell]; omega)) _ | refine Below.setCell ?_ (by first | omega | (simp; done) | (simp; omega)) _)
  have HB1 := Lib.hid (show Below w.heap.size w w1 from hbn)
  have K0_1 := Lib.hid (show Blk w1 (w.heap.size) 24 #[.slice (some ⟨m.b1, m.o1, none⟩) m.n m.c1, .slice (some ⟨m.b2, m.o2, none⟩) m.n m.c2, .slice (some ⟨m.b3, m.o3, none⟩) m.n m.c3] by rw [← hwn]; repeat' (first | exact Blk.at_ _ (by first | rfl | (simp; done) | (simp; omega)) _ _ | refine Blk.drewN ?_ _ | refine Blk.drew ?_ | refine Blk.alloc ?_ _ | refine Blk.far ?_ (by first | omega | (simp; done) | (simp; omega)) _ | assumption))
  have K1_1 := Lib.hid (show Blk w1 (w.heap.size + 1) 75 #[.int .i64 (0), .int .i64 (0), .int .i64 (0), .int .i64 (0), .int .i64 (0), .int .i64 (0)] by rw [← hwn]; repeat' (first | exact Blk.at_ _ (by first | rfl | (simp; done) | (simp; omega)) _ _ | refine Blk.drewN ?_ _ | refine Blk.drew ?_ | refine Blk.alloc ?_ _ | refine Blk.far ?_ (by first | omega | (simp; done) | (simp; omega)) _ | assumption))
  have HN1 := Lib.hid hbn
  have hz1 := hbn.size
  clear hwn hbn
  have l0_1 : w.heap.size < w1.heap.size := K0_1.out.lt
  have z0_0_1 : w1.cell? ⟨w.heap.size, 0, none⟩ = some (.slice (some ⟨m.b1, m.o1, none⟩) m.n m.c1) := K0_1.out.cell 0
  have z0_1_1 : w1.cell? ⟨w.heap.size, 1, none⟩ = some (.slice (some ⟨m.b2, m.o2, none⟩) m.n m.c2) := K0_1.out.cell 1
  have z0_2_1 : w1.cell? ⟨w.heap.size, 2, none⟩ = some (.slice (some ⟨m.b3, m.o3, none⟩) m.n m.c3) := K0_1.out.cell 2
  have l1_1 : w.heap.size + 1 < w1.heap.size := K1_1.out.lt
  have z1_0_1 : w1.cell? ⟨w.heap.size + 1, 0, none⟩ = some (.int .i64 (0)) := K1_1.out.cell 0
  have z1_1_1 : w1.cell? ⟨w.heap.size + 1, 1, none⟩ = some (.int .i64 (0)) := K1_1.out.cell 1
  have z1_2_1 : w1.cell? ⟨w.heap.size + 1, 2, none⟩ = some (.int .i64 (0)) := K1_1.out.cell 2
  have z1_3_1 : w1.cell? ⟨w.heap.size + 1, 3, none⟩ = some (.int .i64 (0)) := K1_1.out.cell 3
  have z1_4_1 : w1.cell? ⟨w.heap.size + 1, 4, none⟩ = some (.int .i64 (0)) := K1_1.out.cell 4
  have z1_5_1 : w1.cell? ⟨w.heap.size + 1, 5, none⟩ = some (.int .i64 (0)) := K1_1.out.cell 5
  refine (HCK.out w1 HB1.out).mono ?_
  rintro e w2 ⟨rfl, hb⟩
  have HB2 := Lib.hid (show Below w.heap.size w w2 from step_below hb (by repeat' (first | exact Below.refl _ _ | exact HB1.out | refine below_drewN ?_ _ | refine Below.drew ?_ | refine Below.alloc ?_ (by first | omega | (simp; done) | (simp; omega) | (simp [World.setCell]; omega)) _ | refine Below.setCell ?_ (by first | omega | (simp; done) | (simp; omega)) _ | assumption)))
  have K0_2 := Lib.hid (step_blk hb (show Blk _ (w.heap.size) 24 #[.slice (some ⟨m.b1, m.o1, none⟩) m.n m.c1, .slice (some ⟨m.b2, m.o2, none⟩) m.n m.c2, .slice (some ⟨m.b3, m.o3, none⟩) m.n m.c3] by repeat' (first | exact K0_1.out | exact K1_1.out | exact Blk.at_ _ (by first | rfl | (simp; done) | (simp; omega)) _ _ | refine Blk.drewN ?_ _ | refine Blk.drew ?_ | refine Blk.alloc ?_ _ | refine Blk.far ?_ (by first | omega | (simp; done) | (simp; omega)) _ | assumption)))
  have K1_2 := Lib.hid (step_blk hb (show Blk _ (w.heap.size + 1) 75 #[.int .i64 (0), .int .i64 (0), .int .i64 (0), .int .i64 (0), .int .i64 (0), .int .i64 (0)] by repeat' (first | exact K0_1.out | exact K1_1.out | exact Blk.at_ _ (by first | rfl | (simp; done) | (simp; omega)) _ _ | refine Blk.drewN ?_ _ | refine Blk.drew ?_ | refine Blk.alloc ?_ _ | refine Blk.far ?_ (by first | omega | (simp; done) | (simp; omega)) _ | assumption)))
  have hz2 := hb.size
  try simp only [World.size_alloc, World.drewN, World.drew] at hz2
  clear hb K0_1 K1_1 z0_0_1 z0_1_1 z0_2_1 l0_1 z1_0_1 z1_1_1 z1_2_1 z1_3_1 z1_4_1 z1_5_1 l1_1
  have l0_2 : w.heap.size < w2.heap.size := K0_2.out.lt
  have z0_0_2 : w2.cell? ⟨w.heap.size, 0, none⟩ = some (.slice (some ⟨m.b1, m.o1, none⟩) m.n m.c1) := K0_2.out.cell 0
  have z0_1_2 : w2.cell? ⟨w.heap.size, 1, none⟩ = some (.slice (some ⟨m.b2, m.o2, none⟩) m.n m.c2) := K0_2.out.cell 1
  have z0_2_2 : w2.cell? ⟨w.heap.size, 2, none⟩ = some (.slice (some ⟨m.b3, m.o3, none⟩) m.n m.c3) := K0_2.out.cell 2
  have l1_2 : w.heap.size + 1 < w2.heap.size := K1_2.out.lt
  have z1_0_2 : w2.cell? ⟨w.heap.size + 1, 0, none⟩ = some (.int .i64 (0)) := K1_2.out.cell 0
  have z1_1_2 : w2.cell? ⟨w.heap.size + 1, 1, none⟩ = some (.int .i64 (0)) := K1_2.out.cell 1
  have z1_2_2 : w2.cell? ⟨w.heap.size + 1, 2, none⟩ = some (.int .i64 (0)) := K1_2.out.cell 2
  have z1_3_2 : w2.cell? ⟨w.heap.size + 1, 3, none⟩ = some (.int .i64 (0)) := K1_2.out.cell 3
  have z1_4_2 : w2.cell? ⟨w.heap.size + 1, 4, none⟩ = some (.int .i64 (0)) := K1_2.out.cell 4
  have z1_5_2 : w2.cell? ⟨w.heap.size + 1, 5, none⟩ = some (.int .i64 (0)) := K1_2.out.cell 5
  go_wp2_with fail
  refine (reference_any m HM.out hn19 _ HXV.out _ (HX.out.lay HB2.out)).mono ?_
  rintro e w3 ⟨rfl, hb⟩
  unfold lineV
  simp only
  have HB3 := Lib.hid (show Below w.heap.size w w3 from step_below hb (by repeat' (first | exact Below.refl _ _ | exact HB2.out | refine below_drewN ?_ _ | refine Below.drew ?_ | refine Below.alloc ?_ (by first | omega | (simp; done) | (simp; omega) | (simp [World.setCell]; omega)) _ | refine Below.setCell ?_ (by first | omega | (simp; done) | (simp; omega)) _ | assumption)))
  have K0_3 := Lib.hid (step_blk hb (show Blk _ (w.heap.size) 24 #[.slice (some ⟨m.b1, m.o1, none⟩) m.n m.c1, .slice (some ⟨m.b2, m.o2, none⟩) m.n m.c2, .slice (some ⟨m.b3, m.o3, none⟩) m.n m.c3] by repeat' (first | exact K0_2.out | exact K1_2.out | exact Blk.at_ _ (by first | rfl | (simp; done) | (simp; omega)) _ _ | refine Blk.drewN ?_ _ | refine Blk.drew ?_ | refine Blk.alloc ?_ _ | refine Blk.far ?_ (by first | omega | (simp; done) | (simp; omega)) _ | assumption)))
  have K1_3 := Lib.hid (step_blk hb (show Blk _ (w.heap.size + 1) 75 #[.int .i64 (0), .int .i64 (0), .int .i64 (0), .int .i64 (0), .int .i64 (0), .int .i64 (0)] by repeat' (first | exact K0_2.out | exact K1_2.out | exact Blk.at_ _ (by first | rfl | (simp; done) | (simp; omega)) _ _ | refine Blk.drewN ?_ _ | refine Blk.drew ?_ | refine Blk.alloc ?_ _ | refine Blk.far ?_ (by first | omega | (simp; done) | (simp; omega)) _ | assumption)))
  have hz3 := hb.size
  try simp only [World.size_alloc, World.drewN, World.drew] at hz3
  clear hb K0_2 K1_2 z0_0_2 z0_1_2 z0_2_2 l0_2 z1_0_2 z1_1_2 z1_2_2 z1_3_2 z1_4_2 z1_5_2 l1_2
  have l0_3 : w.heap.size < w3.heap.size := K0_3.out.lt
  have z0_0_3 : w3.cell? ⟨w.heap.size, 0, none⟩ = some (.slice (some ⟨m.b1, m.o1, none⟩) m.n m.c1) := K0_3.out.cell 0
  have z0_1_3 : w3.cell? ⟨w.heap.size, 1, none⟩ = some (.slice (some ⟨m.b2, m.o2, none⟩) m.n m.c2) := K0_3.out.cell 1
  have z0_2_3 : w3.cell? ⟨w.heap.size, 2, none⟩ = some (.slice (some ⟨m.b3, m.o3, none⟩) m.n m.c3) := K0_3.out.cell 2
  have l1_3 : w.heap.size + 1 < w3.heap.size := K1_3.out.lt
  have z1_0_3 : w3.cell? ⟨w.heap.size + 1, 0, none⟩ = some (.int .i64 (0)) := K1_3.out.cell 0
  have z1_1_3 : w3.cell? ⟨w.heap.size + 1, 1, none⟩ = some (.int .i64 (0)) := K1_3.out.cell 1
  have z1_2_3 : w3.cell? ⟨w.heap.size + 1, 2, none⟩ = some (.int .i64 (0)) := K1_3.out.cell 2
  have z1_3_3 : w3.cell? ⟨w.heap.size + 1, 3, none⟩ = some (.int .i64 (0)) := K1_3.out.cell 3
  have z1_4_3 : w3.cell? ⟨w.heap.size + 1, 4, none⟩ = some (.int .i64 (0)) := K1_3.out.cell 4
  have z1_5_3 : w3.cell? ⟨w.heap.size + 1, 5, none⟩ = some (.int .i64 (0)) := K1_3.out.cell 5
  clear z1_0_3 z1_1_3 z1_2_3 z1_3_3 z1_4_3 z1_5_3
  have sc0 := (K1_3.out).cell 0
  have sf0 := (K1_3.out).frozen 0
  have sk0 : Blk (w3.setCell ⟨w.heap.size + 1, 0, none⟩ (.int .i64 a)) (w.heap.size + 1) 75 #[.int .i64 a, .int .i64 (0), .int .i64 (0), .int .i64 (0), .int .i64 (0), .int .i64 (0)] := by simpa using (K1_3.out).set_ 0 (.int .i64 a)
  have sc1 := (sk0).cell 1
  have sf1 := (sk0).frozen 1
  have sk1 : Blk ((w3.setCell ⟨w.heap.size + 1, 0, none⟩ (.int .i64 a)).setCell ⟨w.heap.size + 1, 1, none⟩ (.int .i64 b)) (w.heap.size + 1) 75 #[.int .i64 a, .int .i64 b, .int .i64 (0), .int .i64 (0), .int .i64 (0), .int .i64 (0)] := by simpa using (sk0).set_ 1 (.int .i64 b)
  have sc2 := (sk1).cell 2
  have sf2 := (sk1).frozen 2
  have sk2 : Blk (((w3.setCell ⟨w.heap.size + 1, 0, none⟩ (.int .i64 a)).setCell ⟨w.heap.size + 1, 1, none⟩ (.int .i64 b)).setCell ⟨w.heap.size + 1, 2, none⟩ (.int .i64 c)) (w.heap.size + 1) 75 #[.int .i64 a, .int .i64 b, .int .i64 c, .int .i64 (0), .int .i64 (0), .int .i64 (0)] := by simpa using (sk1).set_ 2 (.int .i64 c)
  have sc3 := (sk2).cell 3
  have sf3 := (sk2).frozen 3
  have sk3 : Blk ((((w3.setCell ⟨w.heap.size + 1, 0, none⟩ (.int .i64 a)).setCell ⟨w.heap.size + 1, 1, none⟩ (.int .i64 b)).setCell ⟨w.heap.size + 1, 2, none⟩ (.int .i64 c)).setCell ⟨w.heap.size + 1, 3, none⟩ (.int .i64 d)) (w.heap.size + 1) 75 #[.int .i64 a, .int .i64 b, .int .i64 c, .int .i64 d, .int .i64 (0), .int .i64 (0)] := by simpa using (sk2).set_ 3 (.int .i64 d)
  have sc4 := (sk3).cell 4
  have sf4 := (sk3).frozen 4
  have sk4 : Blk (((((w3.setCell ⟨w.heap.size + 1, 0, none⟩ (.int .i64 a)).setCell ⟨w.heap.size + 1, 1, none⟩ (.int .i64 b)).setCell ⟨w.heap.size + 1, 2, none⟩ (.int .i64 c)).setCell ⟨w.heap.size + 1, 3, none⟩ (.int .i64 d)).setCell ⟨w.heap.size + 1, 4, none⟩ (.int .i64 (x : Int))) (w.heap.size + 1) 75 #[.int .i64 a, .int .i64 b, .int .i64 c, .int .i64 d, .int .i64 (x : Int), .int .i64 (0)] := by simpa using (sk3).set_ 4 (.int .i64 (x : Int))
  have sc5 := (sk4).cell 5
  have sf5 := (sk4).frozen 5
  have sk5 : Blk ((((((w3.setCell ⟨w.heap.size + 1, 0, none⟩ (.int .i64 a)).setCell ⟨w.heap.size + 1, 1, none⟩ (.int .i64 b)).setCell ⟨w.heap.size + 1, 2, none⟩ (.int .i64 c)).setCell ⟨w.heap.size + 1, 3, none⟩ (.int .i64 d)).setCell ⟨w.heap.size + 1, 4, none⟩ (.int .i64 (x : Int))).setCell ⟨w.heap.size + 1, 5, none⟩ (.int .i64 (y : Int))) (w.heap.size + 1) 75 #[.int .i64 a, .int .i64 b, .int .i64 c, .int .i64 d, .int .i64 (x : Int), .int .i64 (y : Int)] := by simpa using (sk4).set_ 5 (.int .i64 (y : Int))
  have sK := Lib.hid sk5
  have sd0 := sk5.cell 0
  have sd1 := sk5.cell 1
  have sd2 := sk5.cell 2
  have sd3 := sk5.cell 3
  have sd4 := sk5.cell 4
  have sd5 := sk5.cell 5
  clear sk0 sk1 sk2 sk3 sk4 sk5
  go_wp2_with fail
  exact bodyPost_ret (v := .tuple #[.agg #[.int .i64 a, .int .i64 b, .int .i64 c, .int .i64 d, .int .i64 (x : Int), .int .i64 (y : Int)], .int .i64 0]) (by simp [results, Try.results55, go_sem, sd0, sd1, sd2, sd3, sd4, sd5, l1_3]) rfl ⟨rfl, ((((((HB3.out.setCell (p := ⟨w.heap.size + 1, 0, none⟩) (by show _ ≤ w.heap.size + 1; omega) (.int .i64 a)).setCell (p := ⟨w.heap.size + 1, 1, none⟩) (by show _ ≤ w.heap.size + 1; omega) (.int .i64 b)).setCell (p := ⟨w.heap.size + 1, 2, none⟩) (by show _ ≤ w.heap.size + 1; omega) (.int .i64 c)).setCell (p := ⟨w.heap.size + 1, 3, none⟩) (by show _ ≤ w.heap.size + 1; omega) (.int .i64 d)).setCell (p := ⟨w.heap.size + 1, 4, none⟩) (by show _ ≤ w.heap.size + 1; omega) (.int .i64 (x : Int))).setCell (p := ⟨w.heap.size + 1, 5, none⟩) (by show _ ≤ w.heap.size + 1; omega) (.int .i64 (y : Int)))⟩
end Go.Proofs.Ytnepjgnnppfibaa

end

section
/- The walk of the statement on lines of least removal. -/
namespace Go.Proofs.Ytnepjgnnppfibaa
open Go Go.RowKit

theorem LikeM.rem {m x : Rm} (h : LikeM m x) (a b c d : Int) (z : Nat) : remN x a b c d z = remN m a b c d z := by unfold remN; rw [h.h, h.q]
theorem LikeM.cref {m x : Rm} (h : LikeM m x) (a b c d u v : Int) : crefF x a b c d u v = crefF m a b c d u v := by
  unfold crefF
  simp only [h.rem a b c d, h.n, (h.sums m.n).1, (h.sums m.n).2.1, h.q]
theorem LikeM.remL {m x : Rm} (h : LikeM m x) (a b c d : Int) (k : Nat) : remL x a b c d k = Go.Proofs.Ytnepjgnnppfibaa.remL m a b c d k := by
  unfold Go.Proofs.Ytnepjgnnppfibaa.remL
  simp only [h.rem a b c d]
/-- What is known of copies of a map. -/
def PfM3 (n1 n2 n3 : Nat) (l1 l2 l3 : List Int) (i : Nat) (x : Pick3) (w : World) : Prop := i = 1 → Reads w w.heap.size 1 x.1.1 n1 (l1.map (.int .i64)) ∧ Reads w w.heap.size 1 x.2.1.1 n2 (l2.map (.int .i64)) ∧ Reads w w.heap.size 1 x.2.2.1 n3 (l3.map (.int .i64))
theorem PfM3.stb {n1 n2 n3 : Nat} {l1 l2 l3 : List Int} : StbT (PfM3 n1 n2 n3 l1 l2 l3) := fun _ _ _ _ hb h e => ⟨((h e).1.below hb).more hb.size, ((h e).2.1.below hb).more hb.size, ((h e).2.2.below hb).more hb.size⟩
/-- What is known of a copy of a right map, and of removals. -/
def PfMR (m : Rm) (n : Nat) (L : List (Int × Int)) (i : Nat) (x : Rm × Pick) (w : World) : Prop := (i = 1 → CopyM m x.1 w) ∧ (i = 3 → Reads w w.heap.size 2 x.2.1 n (cells2 L))
theorem PfMR.stb {m : Rm} {n : Nat} {L : List (Int × Int)} : StbT (PfMR m n L) := fun _ _ _ _ hb h => ⟨fun e => (h.1 e).lay hb, fun e => ((h.2 e).below hb).more hb.size⟩

end Go.Proofs.Ytnepjgnnppfibaa

end

section
/- Plain law of the least sum: whole parts first. -/
namespace Go.Proofs.Ytnepjgnnppfibaa
open Go.RowKit

/-- The numerator times what is missing of the denominator. -/
theorem red_back {r v : Int} (hv : 1 ≤ v) : redN r v * v.tdiv (redD r v) = r ∧ 1 ≤ redD r v ∧ redD r v ≤ v ∧ 1 ≤ v.tdiv (redD r v) ∧ v.tdiv (redD r v) ≤ v := by
  have hg0 : 0 < Int.gcd r v := Int.gcd_pos_of_ne_zero_right r (by omega)
  have hg : 0 < (Int.gcd r v : Int) := by exact_mod_cast hg0
  obtain ⟨p, hp⟩ := Int.gcd_dvd_left r v
  obtain ⟨q, hq⟩ := Int.gcd_dvd_right r v
  have e1 : redN r v = p := by unfold redN; exact Int.ediv_eq_of_eq_mul_right (by omega) hp
  have e2 : redD r v = q := by unfold redD; exact Int.ediv_eq_of_eq_mul_right (by omega) hq
  rw [e1, e2]
  generalize (Int.gcd r v : Int) = g at *
  have hq0 : 0 < q := by
    rw [hq, Int.mul_comm] at hv
    exact Int.pos_of_mul_pos_left (by omega) hg
  have h3 : v.tdiv q = g := by rw [hq]; exact Int.mul_tdiv_cancel _ (by omega)
  rw [h3]
  have h4 : q * 1 ≤ q * g := Int.mul_le_mul_of_nonneg_left (by omega) (by omega)
  have h5 : g * 1 ≤ g * q := Int.mul_le_mul_of_nonneg_left (by omega) (by omega)
  refine ⟨by rw [hp, Int.mul_comm], by omega, by rw [hq, Int.mul_comm g q]; omega, by omega, by rw [hq]; omega⟩
end Go.Proofs.Ytnepjgnnppfibaa

end

section
/- The walk of the statement that no line removes less. -/
namespace Go.Proofs.Ytnepjgnnppfibaa
open Go Go.RowKit

theorem floor6_is (a b q : Int) (hq : a / b = q) (w : World) (h1 : -4000000000000000000 ≤ a) (h2 : a ≤ 4000000000000000000) (h3 : 1 ≤ b) (h4 : b ≤ 9223372036854775807) :
    Calls Try.prog 52 #[.int .i64 a, .int .i64 b] w fun e w' => e = .returned (.int .i64 q) ∧ w = w' := by
  subst hq; exact floorref_any a b w h1 h2 h3 h4
theorem LikeM.ref {m x : Rm} (h : LikeM m x) : refF x = refF m := by
  obtain ⟨h1, h2, h3, h4⟩ := h
  cases m; cases x
  simp only at h1 h2 h3 h4
  subst h1 h2 h3 h4
  rfl
theorem LikeM.lsum {m x : Rm} (h : LikeM m x) : lsumF x x.n = lsumF m m.n := by
  unfold lsumF
  rw [h.ref, h.n, h.u]
  exact sumN_congr fun i _ => by rw [h.rem]
theorem LikeM.lwhole {m x : Rm} (h : LikeM m x) : Go.Proofs.Ytnepjgnnppfibaa.lwhole x = Go.Proofs.Ytnepjgnnppfibaa.lwhole m := by
  unfold Go.Proofs.Ytnepjgnnppfibaa.lwhole
  rw [h.ref]

end Go.Proofs.Ytnepjgnnppfibaa

end
