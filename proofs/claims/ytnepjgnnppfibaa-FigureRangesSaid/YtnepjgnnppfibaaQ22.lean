import Derived.Test.YtnepjgnnppfibaaQ21

section
/- The walk of the statement on the differences of zones and of neighbours. -/
namespace Go.Proofs.Ytnepjgnnppfibaa
open Go Go.RowKit

theorem Peak_any (A : Option Addr) (n c : Nat) (l : List (Int × Int)) (E u v : Int) (hE : enclErr l = E) (h : (E ≠ 0 ∧ u = 0 ∧ v = 0) ∨ (E = 0 ∧ pkF l (pairsL n) = (u, v))) (w : World) (hx : Reads w w.heap.size 2 A n (cells2 l)) :
    Calls Try.prog 39 #[.slice A n c] w fun e w' => e = .returned (.tuple #[.agg #[.int .i64 u, .int .i64 v], .int .i64 E]) ∧ Below w.heap.size w w' := by
  rcases h with ⟨h0, rfl, rfl⟩ | ⟨rfl, hv⟩
  · exact peak_bad A n c l E hE h0 w hx
  · exact peak_ok A n c l hE u v hv w hx
theorem Slope_any (A : Option Addr) (n c : Nat) (l : List (Int × Int)) (E u v : Int) (hE : enclErr l = E) (h : (E ≠ 0 ∧ u = 0 ∧ v = 0) ∨ (E = 0 ∧ slF l (pairsL n) = (u, v))) (w : World) (hx : Reads w w.heap.size 2 A n (cells2 l)) :
    Calls Try.prog 40 #[.slice A n c] w fun e w' => e = .returned (.tuple #[.agg #[.int .i64 u, .int .i64 v], .int .i64 E]) ∧ Below w.heap.size w w' := by
  rcases h with ⟨h0, rfl, rfl⟩ | ⟨rfl, hv⟩
  · exact slope_bad A n c l E hE h0 w hx
  · exact slope_ok A n c l hE u v hv w hx
theorem two_vals (E : Int) (x : Int × Int) : ∃ u v, (E ≠ 0 ∧ u = 0 ∧ v = 0) ∨ (E = 0 ∧ x = (u, v)) := by
  by_cases h : E = 0
  · exact ⟨x.1, x.2, .inr ⟨h, rfl⟩⟩
  · exact ⟨0, 0, .inl ⟨h, rfl, rfl⟩⟩

set_option maxRecDepth 100000 in
set_option maxHeartbeats 4000000 in
theorem lawFV_any (A : Option Addr) (n c : Nat) (l : List (Int × Int)) (B : Option Addr) (m d : Nat) (h : List Int) (w : World) (hnc : n ≤ c ∧ c ≤ 9223372036854775807) (hl : l.length = n) (_ : ∀ q ∈ l, I64 q.1 ∧ I64 q.2) (hx : Reads w w.heap.size 2 A n (cells2 l))
    (hmd : m ≤ d ∧ d ≤ 9223372036854775807) (hhl : h.length = m) (hh : ∀ z ∈ h, I64 z) (hy : Reads w w.heap.size 1 B m (h.map (.int .i64))) :
    Calls Try.prog 7 #[.slice A n c, .slice B m d] w fun e w' => e = .returned (.bool true) ∧ Below w.heap.size w w' := by
  have HX := Lib.hid hx
  have HY := Lib.hid hy
  have HL := Lib.hid hl
  have HHL := Lib.hid hhl
  have HH := Lib.hid hh
  clear hx hy hl hhl hh
  by_cases hn45 : n ≤ 45
  rotate_left
  · have hd2 : decide ((45 : Int) < (n : Int)) = true := by simp; omega
    go_enter Try.func7, Try.ntmps7
    go_wp2_with fail
    refine (awake6_any _).mono ?_
    rintro e w1 ⟨rfl, hb⟩
    have HB1 := Lib.hid (show Below w.heap.size w w1 from step_below hb (by repeat' (first | exact Below.refl _ _ | exact HB0.out | refine below_drewN ?_ _ | refine Below.drew ?_ | refine Below.alloc ?_ (by first | omega | (simp; done) | (simp; omega) | (simp [World.setCell]; omega)) _ | refine Below.setCell ?_ (by first | omega | (simp; done) | (simp; omega)) _ | assumption)))
    have hz1 := hb.size
    try simp only [World.size_alloc, World.drewN, World.drew] at hz1
    clear hb
    go_wp2
    go_ret
    exact ⟨rfl, by repeat' (first | exact Below.refl _ _ | exact HB1.out | refine below_drewN ?_ _ | refine Below.drew ?_ | refine Below.alloc ?_ (by first | omega | (simp; done) | (simp; omega) | (simp [World.setCell]; omega)) _ | refine Below.setCell ?_ (by first | omega | (simp; done) | (simp; omega)) _ | assumption)⟩
  have hd2 : decide ((45 : Int) < (n : Int)) = false := by simp; omega
  by_cases hm45 : m ≤ 45
  rotate_left
  · have hd4 : decide ((45 : Int) < (m : Int)) = true := by simp; omega
    go_enter Try.func7, Try.ntmps7
    go_wp2_with fail
    refine (awake6_any _).mono ?_
    rintro e w1 ⟨rfl, hb⟩
    have HB1 := Lib.hid (show Below w.heap.size w w1 from step_below hb (by repeat' (first | exact Below.refl _ _ | exact HB0.out | refine below_drewN ?_ _ | refine Below.drew ?_ | refine Below.alloc ?_ (by first | omega | (simp; done) | (simp; omega) | (simp [World.setCell]; omega)) _ | refine Below.setCell ?_ (by first | omega | (simp; done) | (simp; omega)) _ | assumption)))
    have hz1 := hb.size
    try simp only [World.size_alloc, World.drewN, World.drew] at hz1
    clear hb
    go_wp2
    go_ret
    exact ⟨rfl, by repeat' (first | exact Below.refl _ _ | exact HB1.out | refine below_drewN ?_ _ | refine Below.drew ?_ | refine Below.alloc ?_ (by first | omega | (simp; done) | (simp; omega) | (simp [World.setCell]; omega)) _ | refine Below.setCell ?_ (by first | omega | (simp; done) | (simp; omega)) _ | assumption)⟩
  have hd4 : decide ((45 : Int) < (m : Int)) = false := by simp; omega
  obtain ⟨E, hE⟩ : ∃ E, enclErr l = E := ⟨_, rfl⟩
  obtain ⟨u, v, huv⟩ := two_vals E (pkF l (pairsL n))
  obtain ⟨s, t, hst⟩ := two_vals E (slF l (pairsL n))
  have HE := Lib.hid hE
  have HUV := Lib.hid huv
  have HST := Lib.hid hst
  clear hE huv hst
  go_enter Try.func7, Try.ntmps7
  go_wp2_with fail
  refine (awake6_any _).mono ?_
  rintro e w1 ⟨rfl, hb⟩
  have HB1 := Lib.hid (show Below w.heap.size w w1 from step_below hb (by repeat' (first | exact Below.refl _ _ | exact HB0.out | refine below_drewN ?_ _ | refine Below.drew ?_ | refine Below.alloc ?_ (by first | omega | (simp; done) | (simp; omega) | (simp [World.setCell]; omega)) _ | refine Below.setCell ?_ (by first | omega | (simp; done) | (simp; omega)) _ | assumption)))
  have hz1 := hb.size
  try simp only [World.size_alloc, World.drewN, World.drew] at hz1
  clear hb
  have hx := (HX.out.below HB1.out).more HB1.out.size
  have hy := (HY.out.below HB1.out).more HB1.out.size
  have R0_1 := Lib.hid hx
  clear hx
  have R1_1 := Lib.hid hy
  clear hy
  go_wp2_with fail
  refine (cranges_any A n c l _ R0_1.out (by omega)).mono ?_
  rintro e w2 ⟨A2, c2, rfl, hb, hr2⟩
  have HB2 := Lib.hid (show Below w.heap.size w w2 from step_below hb (by repeat' (first | exact Below.refl _ _ | exact HB1.out | refine below_drewN ?_ _ | refine Below.drew ?_ | refine Below.alloc ?_ (by first | omega | (simp; done) | (simp; omega) | (simp [World.setCell]; omega)) _ | refine Below.setCell ?_ (by first | omega | (simp; done) | (simp; omega)) _ | assumption)))
  have hL2 := Lib.hid (show Below w1.heap.size w1 _ from reads_mid hb (by repeat' (first | exact Below.refl _ _ | refine below_drewN ?_ _ | refine Below.drew ?_ | refine Below.alloc ?_ (by first | omega | (simp; done) | (simp; omega) | (simp [World.setCell]; omega)) _ | refine Below.setCell ?_ (by first | omega | (simp; done) | (simp; omega)) _)))
  have R0_2 := Lib.hid (reads_lay hb hL2.out R0_1.out)
  have R1_2 := Lib.hid (reads_lay hb hL2.out R1_1.out)
  clear hL2 R0_1 R1_1
  have hz2 := hb.size
  try simp only [World.size_alloc, World.drewN, World.drew] at hz2
  clear hb
  have R2_2 := Lib.hid hr2
  clear hr2
  go_wp2_with fail
  refine (Peak_any A2 n c2 l E u v HE.out HUV.out _ R2_2.out).mono ?_
  rintro e w3 ⟨rfl, hb⟩
  have HB3 := Lib.hid (show Below w.heap.size w w3 from step_below hb (by repeat' (first | exact Below.refl _ _ | exact HB2.out | refine below_drewN ?_ _ | refine Below.drew ?_ | refine Below.alloc ?_ (by first | omega | (simp; done) | (simp; omega) | (simp [World.setCell]; omega)) _ | refine Below.setCell ?_ (by first | omega | (simp; done) | (simp; omega)) _ | assumption)))
  have hL3 := Lib.hid (show Below w2.heap.size w2 _ from reads_mid hb (by repeat' (first | exact Below.refl _ _ | refine below_drewN ?_ _ | refine Below.drew ?_ | refine Below.alloc ?_ (by first | omega | (simp; done) | (simp; omega) | (simp [World.setCell]; omega)) _ | refine Below.setCell ?_ (by first | omega | (simp; done) | (simp; omega)) _)))
  have R0_3 := Lib.hid (reads_lay hb hL3.out R0_2.out)
  have R1_3 := Lib.hid (reads_lay hb hL3.out R1_2.out)
  have R2_3 := Lib.hid (reads_lay hb hL3.out R2_2.out)
  clear hL3 R0_2 R1_2 R2_2
  have hz3 := hb.size
  try simp only [World.size_alloc, World.drewN, World.drew] at hz3
  clear hb
  clear R2_3
  go_wp2_with fail
  generalize hwn : (w3.alloc (.cells #[.int .i64 (u), .int .i64 (v)] 50)) = w4
  have hbn : Below w3.heap.size w3 w4 := by rw [← hwn]; repeat' (first | exact Below.refl _ _ | refine below_drewN ?_ _ | refine Below.drew ?_ | refine Below.alloc ?_ (by first | omega | (simp; done) | (simp; omega) | (simp [World.setCell]; omega)) _ | refine Below.setCell ?_ (by first | omega | (simp; done) | (simp; omega)) _)
  have HB4 := Lib.hid (show Below w.heap.size w w4 from HB3.out.trans (hbn.mono HB3.out.size))
  have K0_4 := Lib.hid (show Blk w4 (w3.heap.size) 50 #[.int .i64 (u), .int .i64 (v)] by rw [← hwn]; repeat' (first | exact Blk.at_ _ (by first | rfl | (simp; done) | (simp; omega)) _ _ | refine Blk.drewN ?_ _ | refine Blk.drew ?_ | refine Blk.alloc ?_ _ | refine Blk.far ?_ (by first | omega | (simp; done) | (simp; omega)) _ | assumption))
  have R0_4 := Lib.hid ((R0_3.out.below hbn).more hbn.size)
  have R1_4 := Lib.hid ((R1_3.out.below hbn).more hbn.size)
  have HN4 := Lib.hid hbn
  have hz4 := hbn.size
  clear hwn hbn R0_3 R1_3
  have l0_4 : w3.heap.size < w4.heap.size := K0_4.out.lt
  have z0_0_4 : w4.cell? ⟨w3.heap.size, 0, none⟩ = some (.int .i64 (u)) := K0_4.out.cell 0
  have z0_1_4 : w4.cell? ⟨w3.heap.size, 1, none⟩ = some (.int .i64 (v)) := K0_4.out.cell 1
  refine (cranges_any A n c l _ R0_4.out (by omega)).mono ?_
  rintro e w5 ⟨A5, c5, rfl, hb, hr5⟩
  have HB5 := Lib.hid (show Below w.heap.size w w5 from step_below hb (by repeat' (first | exact Below.refl _ _ | exact HB4.out | refine below_drewN ?_ _ | refine Below.drew ?_ | refine Below.alloc ?_ (by first | omega | (simp; done) | (simp; omega) | (simp [World.setCell]; omega)) _ | refine Below.setCell ?_ (by first | omega | (simp; done) | (simp; omega)) _ | assumption)))
  have K0_5 := Lib.hid (step_blk hb (show Blk _ (w3.heap.size) 50 #[.int .i64 (u), .int .i64 (v)] by repeat' (first | exact K0_4.out | exact Blk.at_ _ (by first | rfl | (simp; done) | (simp; omega)) _ _ | refine Blk.drewN ?_ _ | refine Blk.drew ?_ | refine Blk.alloc ?_ _ | refine Blk.far ?_ (by first | omega | (simp; done) | (simp; omega)) _ | assumption)))
  have hL5 := Lib.hid (show Below w4.heap.size w4 _ from reads_mid hb (by repeat' (first | exact Below.refl _ _ | refine below_drewN ?_ _ | refine Below.drew ?_ | refine Below.alloc ?_ (by first | omega | (simp; done) | (simp; omega) | (simp [World.setCell]; omega)) _ | refine Below.setCell ?_ (by first | omega | (simp; done) | (simp; omega)) _)))
  have R0_5 := Lib.hid (reads_lay hb hL5.out R0_4.out)
  have R1_5 := Lib.hid (reads_lay hb hL5.out R1_4.out)
  clear hL5 R0_4 R1_4
  have hz5 := hb.size
  try simp only [World.size_alloc, World.drewN, World.drew] at hz5
  clear hb K0_4 z0_0_4 z0_1_4 l0_4
  have l0_5 : w3.heap.size < w5.heap.size := K0_5.out.lt
  have z0_0_5 : w5.cell? ⟨w3.heap.size, 0, none⟩ = some (.int .i64 (u)) := K0_5.out.cell 0
  have z0_1_5 : w5.cell? ⟨w3.heap.size, 1, none⟩ = some (.int .i64 (v)) := K0_5.out.cell 1
  have R3_5 := Lib.hid hr5
  clear hr5
  go_wp2_with fail
  refine (Slope_any A5 n c5 l E s t HE.out HST.out _ R3_5.out).mono ?_
  rintro e w6 ⟨rfl, hb⟩
  have HB6 := Lib.hid (show Below w.heap.size w w6 from step_below hb (by repeat' (first | exact Below.refl _ _ | exact HB5.out | refine below_drewN ?_ _ | refine Below.drew ?_ | refine Below.alloc ?_ (by first | omega | (simp; done) | (simp; omega) | (simp [World.setCell]; omega)) _ | refine Below.setCell ?_ (by first | omega | (simp; done) | (simp; omega)) _ | assumption)))
  have K0_6 := Lib.hid (step_blk hb (show Blk _ (w3.heap.size) 50 #[.int .i64 (u), .int .i64 (v)] by repeat' (first | exact K0_5.out | exact Blk.at_ _ (by first | rfl | (simp; done) | (simp; omega)) _ _ | refine Blk.drewN ?_ _ | refine Blk.drew ?_ | refine Blk.alloc ?_ _ | refine Blk.far ?_ (by first | omega | (simp; done) | (simp; omega)) _ | assumption)))
  have hL6 := Lib.hid (show Below w5.heap.size w5 _ from reads_mid hb (by repeat' (first | exact Below.refl _ _ | refine below_drewN ?_ _ | refine Below.drew ?_ | refine Below.alloc ?_ (by first | omega | (simp; done) | (simp; omega) | (simp [World.setCell]; omega)) _ | refine Below.setCell ?_ (by first | omega | (simp; done) | (simp; omega)) _)))
  have R0_6 := Lib.hid (reads_lay hb hL6.out R0_5.out)
  have R1_6 := Lib.hid (reads_lay hb hL6.out R1_5.out)
  have R3_6 := Lib.hid (reads_lay hb hL6.out R3_5.out)
  clear hL6 R0_5 R1_5 R3_5
  have hz6 := hb.size
  try simp only [World.size_alloc, World.drewN, World.drew] at hz6
  clear hb K0_5 z0_0_5 z0_1_5 l0_5
  have l0_6 : w3.heap.size < w6.heap.size := K0_6.out.lt
  have z0_0_6 : w6.cell? ⟨w3.heap.size, 0, none⟩ = some (.int .i64 (u)) := K0_6.out.cell 0
  have z0_1_6 : w6.cell? ⟨w3.heap.size, 1, none⟩ = some (.int .i64 (v)) := K0_6.out.cell 1
  clear R3_6
  go_wp2_with fail
  generalize hwn : (w6.alloc (.cells #[.int .i64 (s), .int .i64 (t)] 50)) = w7
  have hbn : Below w6.heap.size w6 w7 := by rw [← hwn]; repeat' (first | exact Below.refl _ _ | refine below_drewN ?_ _ | refine Below.drew ?_ | refine Below.alloc ?_ (by first | omega | (simp; done) | (simp; omega) | (simp [World.setCell]; omega)) _ | refine Below.setCell ?_ (by first | omega | (simp; done) | (simp; omega)) _)
  have HB7 := Lib.hid (show Below w.heap.size w w7 from HB6.out.trans (hbn.mono HB6.out.size))
  have K0_7 := Lib.hid (step_blk hbn K0_6.out)
  have K1_7 := Lib.hid (show Blk w7 (w6.heap.size) 50 #[.int .i64 (s), .int .i64 (t)] by rw [← hwn]; repeat' (first | exact Blk.at_ _ (by first | rfl | (simp; done) | (simp; omega)) _ _ | refine Blk.drewN ?_ _ | refine Blk.drew ?_ | refine Blk.alloc ?_ _ | refine Blk.far ?_ (by first | omega | (simp; done) | (simp; omega)) _ | assumption))
  have R0_7 := Lib.hid ((R0_6.out.below hbn).more hbn.size)
  have R1_7 := Lib.hid ((R1_6.out.below hbn).more hbn.size)
  have HN7 := Lib.hid hbn
  have hz7 := hbn.size
  clear hwn hbn K0_6 l0_6 z0_0_6 z0_1_6 R0_6 R1_6
  have l0_7 : w3.heap.size < w7.heap.size := K0_7.out.lt
  have z0_0_7 : w7.cell? ⟨w3.heap.size, 0, none⟩ = some (.int .i64 (u)) := K0_7.out.cell 0
  have z0_1_7 : w7.cell? ⟨w3.heap.size, 1, none⟩ = some (.int .i64 (v)) := K0_7.out.cell 1
  have l1_7 : w6.heap.size < w7.heap.size := K1_7.out.lt
  have z1_0_7 : w7.cell? ⟨w6.heap.size, 0, none⟩ = some (.int .i64 (s)) := K1_7.out.cell 0
  have z1_1_7 : w7.cell? ⟨w6.heap.size, 1, none⟩ = some (.int .i64 (t)) := K1_7.out.cell 1
  refine (rencl_is A n c l E HE.out _ R0_7.out).mono ?_
  rintro e w8 ⟨rfl, hb⟩
  have HB8 := Lib.hid (show Below w.heap.size w w8 from step_below hb (by repeat' (first | exact Below.refl _ _ | exact HB7.out | refine below_drewN ?_ _ | refine Below.drew ?_ | refine Below.alloc ?_ (by first | omega | (simp; done) | (simp; omega) | (simp [World.setCell]; omega)) _ | refine Below.setCell ?_ (by first | omega | (simp; done) | (simp; omega)) _ | assumption)))
  have K0_8 := Lib.hid (step_blk hb (show Blk _ (w3.heap.size) 50 #[.int .i64 (u), .int .i64 (v)] by repeat' (first | exact K0_7.out | exact K1_7.out | exact Blk.at_ _ (by first | rfl | (simp; done) | (simp; omega)) _ _ | refine Blk.drewN ?_ _ | refine Blk.drew ?_ | refine Blk.alloc ?_ _ | refine Blk.far ?_ (by first | omega | (simp; done) | (simp; omega)) _ | assumption)))
  have K1_8 := Lib.hid (step_blk hb (show Blk _ (w6.heap.size) 50 #[.int .i64 (s), .int .i64 (t)] by repeat' (first | exact K0_7.out | exact K1_7.out | exact Blk.at_ _ (by first | rfl | (simp; done) | (simp; omega)) _ _ | refine Blk.drewN ?_ _ | refine Blk.drew ?_ | refine Blk.alloc ?_ _ | refine Blk.far ?_ (by first | omega | (simp; done) | (simp; omega)) _ | assumption)))
  have hL8 := Lib.hid (show Below w7.heap.size w7 _ from reads_mid hb (by repeat' (first | exact Below.refl _ _ | refine below_drewN ?_ _ | refine Below.drew ?_ | refine Below.alloc ?_ (by first | omega | (simp; done) | (simp; omega) | (simp [World.setCell]; omega)) _ | refine Below.setCell ?_ (by first | omega | (simp; done) | (simp; omega)) _)))
  have R0_8 := Lib.hid (reads_lay hb hL8.out R0_7.out)
  have R1_8 := Lib.hid (reads_lay hb hL8.out R1_7.out)
  clear hL8 R0_7 R1_7
  have hz8 := hb.size
  try simp only [World.size_alloc, World.drewN, World.drew] at hz8
  clear hb K0_7 K1_7 z0_0_7 z0_1_7 l0_7 z1_0_7 z1_1_7 l1_7
  have l0_8 : w3.heap.size < w8.heap.size := K0_8.out.lt
  have z0_0_8 : w8.cell? ⟨w3.heap.size, 0, none⟩ = some (.int .i64 (u)) := K0_8.out.cell 0
  have z0_1_8 : w8.cell? ⟨w3.heap.size, 1, none⟩ = some (.int .i64 (v)) := K0_8.out.cell 1
  have l1_8 : w6.heap.size < w8.heap.size := K1_8.out.lt
  have z1_0_8 : w8.cell? ⟨w6.heap.size, 0, none⟩ = some (.int .i64 (s)) := K1_8.out.cell 0
  have z1_1_8 : w8.cell? ⟨w6.heap.size, 1, none⟩ = some (.int .i64 (t)) := K1_8.out.cell 1
  go_wp2_with fail
  refine (cranges_any A n c l _ R0_8.out (by omega)).mono ?_
  rintro e w9 ⟨A9, c9, rfl, hb, hr9⟩
  have HB9 := Lib.hid (show Below w.heap.size w w9 from step_below hb (by repeat' (first | exact Below.refl _ _ | exact HB8.out | refine below_drewN ?_ _ | refine Below.drew ?_ | refine Below.alloc ?_ (by first | omega | (simp; done) | (simp; omega) | (simp [World.setCell]; omega)) _ | refine Below.setCell ?_ (by first | omega | (simp; done) | (simp; omega)) _ | assumption)))
  have K0_9 := Lib.hid (step_blk hb (show Blk _ (w3.heap.size) 50 #[.int .i64 (u), .int .i64 (v)] by repeat' (first | exact K0_8.out | exact K1_8.out | exact Blk.at_ _ (by first | rfl | (simp; done) | (simp; omega)) _ _ | refine Blk.drewN ?_ _ | refine Blk.drew ?_ | refine Blk.alloc ?_ _ | refine Blk.far ?_ (by first | omega | (simp; done) | (simp; omega)) _ | assumption)))
  have K1_9 := Lib.hid (step_blk hb (show Blk _ (w6.heap.size) 50 #[.int .i64 (s), .int .i64 (t)] by repeat' (first | exact K0_8.out | exact K1_8.out | exact Blk.at_ _ (by first | rfl | (simp; done) | (simp; omega)) _ _ | refine Blk.drewN ?_ _ | refine Blk.drew ?_ | refine Blk.alloc ?_ _ | refine Blk.far ?_ (by first | omega | (simp; done) | (simp; omega)) _ | assumption)))
  have hL9 := Lib.hid (show Below w8.heap.size w8 _ from reads_mid hb (by repeat' (first | exact Below.refl _ _ | refine below_drewN ?_ _ | refine Below.drew ?_ | refine Below.alloc ?_ (by first | omega | (simp; done) | (simp; omega) | (simp [World.setCell]; omega)) _ | refine Below.setCell ?_ (by first | omega | (simp; done) | (simp; omega)) _)))
  have R0_9 := Lib.hid (reads_lay hb hL9.out R0_8.out)
  have R1_9 := Lib.hid (reads_lay hb hL9.out R1_8.out)
  clear hL9 R0_8 R1_8
  have hz9 := hb.size
  try simp only [World.size_alloc, World.drewN, World.drew] at hz9
  clear hb K0_8 K1_8 z0_0_8 z0_1_8 l0_8 z1_0_8 z1_1_8 l1_8
  have l0_9 : w3.heap.size < w9.heap.size := K0_9.out.lt
  have z0_0_9 : w9.cell? ⟨w3.heap.size, 0, none⟩ = some (.int .i64 (u)) := K0_9.out.cell 0
  have z0_1_9 : w9.cell? ⟨w3.heap.size, 1, none⟩ = some (.int .i64 (v)) := K0_9.out.cell 1
  have l1_9 : w6.heap.size < w9.heap.size := K1_9.out.lt
  have z1_0_9 : w9.cell? ⟨w6.heap.size, 0, none⟩ = some (.int .i64 (s)) := K1_9.out.cell 0
  have z1_1_9 : w9.cell? ⟨w6.heap.size, 1, none⟩ = some (.int .i64 (t)) := K1_9.out.cell 1
  have R4_9 := Lib.hid hr9
  clear hr9
  go_wp2_with fail
  refine (encl_is A9 n c9 l E HE.out _ R4_9.out).mono ?_
  rintro e w10 ⟨rfl, hb⟩
  have HB10 := Lib.hid (show Below w.heap.size w w10 from step_below hb (by repeat' (first | exact Below.refl _ _ | exact HB9.out | refine below_drewN ?_ _ | refine Below.drew ?_ | refine Below.alloc ?_ (by first | omega | (simp; done) | (simp; omega) | (simp [World.setCell]; omega)) _ | refine Below.setCell ?_ (by first | omega | (simp; done) | (simp; omega)) _ | assumption)))
  have K0_10 := Lib.hid (step_blk hb (show Blk _ (w3.heap.size) 50 #[.int .i64 (u), .int .i64 (v)] by repeat' (first | exact K0_9.out | exact K1_9.out | exact Blk.at_ _ (by first | rfl | (simp; done) | (simp; omega)) _ _ | refine Blk.drewN ?_ _ | refine Blk.drew ?_ | refine Blk.alloc ?_ _ | refine Blk.far ?_ (by first | omega | (simp; done) | (simp; omega)) _ | assumption)))
  have K1_10 := Lib.hid (step_blk hb (show Blk _ (w6.heap.size) 50 #[.int .i64 (s), .int .i64 (t)] by repeat' (first | exact K0_9.out | exact K1_9.out | exact Blk.at_ _ (by first | rfl | (simp; done) | (simp; omega)) _ _ | refine Blk.drewN ?_ _ | refine Blk.drew ?_ | refine Blk.alloc ?_ _ | refine Blk.far ?_ (by first | omega | (simp; done) | (simp; omega)) _ | assumption)))
  have hL10 := Lib.hid (show Below w9.heap.size w9 _ from reads_mid hb (by repeat' (first | exact Below.refl _ _ | refine below_drewN ?_ _ | refine Below.drew ?_ | refine Below.alloc ?_ (by first | omega | (simp; done) | (simp; omega) | (simp [World.setCell]; omega)) _ | refine Below.setCell ?_ (by first | omega | (simp; done) | (simp; omega)) _)))
  have R0_10 := Lib.hid (reads_lay hb hL10.out R0_9.out)
  have R1_10 := Lib.hid (reads_lay hb hL10.out R1_9.out)
  have R4_10 := Lib.hid (reads_lay hb hL10.out R4_9.out)
  clear hL10 R0_9 R1_9 R4_9
  have hz10 := hb.size
  try simp only [World.size_alloc, World.drewN, World.drew] at hz10
  clear hb K0_9 K1_9 z0_0_9 z0_1_9 l0_9 z1_0_9 z1_1_9 l1_9
  have l0_10 : w3.heap.size < w10.heap.size := K0_10.out.lt
  have z0_0_10 : w10.cell? ⟨w3.heap.size, 0, none⟩ = some (.int .i64 (u)) := K0_10.out.cell 0
  have z0_1_10 : w10.cell? ⟨w3.heap.size, 1, none⟩ = some (.int .i64 (v)) := K0_10.out.cell 1
  have l1_10 : w6.heap.size < w10.heap.size := K1_10.out.lt
  have z1_0_10 : w10.cell? ⟨w6.heap.size, 0, none⟩ = some (.int .i64 (s)) := K1_10.out.cell 0
  have z1_1_10 : w10.cell? ⟨w6.heap.size, 1, none⟩ = some (.int .i64 (t)) := K1_10.out.cell 1
  clear R4_10
  have e0 : (E != E) = false := by simp
  by_cases h0 : E = 0
  rotate_left
  · have hz : u = 0 ∧ v = 0 ∧ s = 0 ∧ t = 0 := by
      rcases HUV.out with h | h
      · rcases HST.out with h' | h'
        · exact ⟨h.2.1, h.2.2, h'.2.1, h'.2.2⟩
        · exact absurd h'.1 h0
      · exact absurd h.1 h0
    obtain ⟨rfl, rfl, rfl, rfl⟩ := hz
    have e1 : (E != 0) = true := by simpa using h0
    have e2 : (E == E) = true := by simp
    clear h0
    go_wp2
    go_ret
    exact ⟨rfl, by repeat' (first | exact Below.refl _ _ | exact HB10.out | refine below_drewN ?_ _ | refine Below.drew ?_ | refine Below.alloc ?_ (by first | omega | (simp; done) | (simp; omega) | (simp [World.setCell]; omega)) _ | refine Below.setCell ?_ (by first | omega | (simp; done) | (simp; omega)) _ | assumption)⟩
  subst h0
  have hpk : pkF l (pairsL n) = (u, v) := by
    rcases HUV.out with h | h
    · exact absurd rfl h.1
    · exact h.2
  have hsl : slF l (pairsL n) = (s, t) := by
    rcases HST.out with h | h
    · exact absurd rfl h.1
    · exact h.2
  have HPK := Lib.hid hpk
  have HSL := Lib.hid hsl
  clear hpk hsl
  have e1 : ((0 : Int) != 0) = false := by simp
  have e2 : (u != u) = false := by simp
  have e3 : (v != v) = false := by simp
  have e4 : (s != s) = false := by simp
  have e5 : (t != t) = false := by simp
  go_wp2_with fail
  refine Fx.regionW (fun W f w' => Below W.heap.size W w') (by kernel_rfl) (by kernel_rfl) ?_ ?_
  · intro f hf0
    exact below_drewN (Below.refl _ _) 1
  repeat (first
    | (refine Fx.skip_ (by rfl) (fun f w h => h) ?_; simp only [Act.put, List.setIfInBounds_toArray, List.set_cons_zero, List.set_cons_succ])
    | (refine Fx.val_ ?_ (by rfl) ?_ (fun f w h => h) ?_
       rotate_left
       · intro f w' hD hk
         have hb := hD
         have kb0 := step_blk hb (show Blk _ (w3.heap.size) 50 #[.int .i64 (u), .int .i64 (v)] by repeat' (first | exact K0_10.out | exact K1_10.out | exact Blk.at_ _ (by first | rfl | (simp; done) | (simp; omega)) _ _ | refine Blk.drewN ?_ _ | refine Blk.drew ?_ | refine Blk.alloc ?_ _ | refine Blk.far ?_ (by first | omega | (simp; done) | (simp; omega)) _ | assumption))
         have y0_0 : w'.cell? ⟨w3.heap.size, 0, none⟩ = some (.int .i64 (u)) := kb0.cell 0
         have y0_1 : w'.cell? ⟨w3.heap.size, 1, none⟩ = some (.int .i64 (v)) := kb0.cell 1
         have kb1 := step_blk hb (show Blk _ (w6.heap.size) 50 #[.int .i64 (s), .int .i64 (t)] by repeat' (first | exact K0_10.out | exact K1_10.out | exact Blk.at_ _ (by first | rfl | (simp; done) | (simp; omega)) _ _ | refine Blk.drewN ?_ _ | refine Blk.drew ?_ | refine Blk.alloc ?_ _ | refine Blk.far ?_ (by first | omega | (simp; done) | (simp; omega)) _ | assumption))
         have y1_0 : w'.cell? ⟨w6.heap.size, 0, none⟩ = some (.int .i64 (s)) := kb1.cell 0
         have y1_1 : w'.cell? ⟨w6.heap.size, 1, none⟩ = some (.int .i64 (t)) := kb1.cell 1
         clear kb0 kb1
         clear hk hD hb
         go_simp
         try rfl
       simp only [Act.put, List.setIfInBounds_toArray, List.set_cons_zero, List.set_cons_succ]))
  refine Fx.call_ (.agg #[.int .i64 u, .int .i64 v]) ?_ ?_ (by rfl) ?_ ?_ ?_
  rotate_left 2
  · intro w'
    go_simp
    refine ⟨?_, ?_⟩ <;> rfl
  · intro f w' hD hk
    exact (rpeak_is A n c l HE.out u v HPK.out w' ((R0_10.out.below hD).more hD.size)).mono fun e w'' ⟨he, hw⟩ => ⟨he, step_below hw hD⟩
  simp only [Act.put, List.setIfInBounds_toArray, List.set_cons_zero, List.set_cons_succ]
  repeat (first
    | (refine Fx.skip_ (by rfl) (fun f w h => h) ?_; simp only [Act.put, List.setIfInBounds_toArray, List.set_cons_zero, List.set_cons_succ])
    | (refine Fx.val_ ?_ (by rfl) ?_ (fun f w h => h) ?_
       rotate_left
       · intro f w' hD hk
         have hb := hD
         have kb0 := step_blk hb (show Blk _ (w3.heap.size) 50 #[.int .i64 (u), .int .i64 (v)] by repeat' (first | exact K0_10.out | exact K1_10.out | exact Blk.at_ _ (by first | rfl | (simp; done) | (simp; omega)) _ _ | refine Blk.drewN ?_ _ | refine Blk.drew ?_ | refine Blk.alloc ?_ _ | refine Blk.far ?_ (by first | omega | (simp; done) | (simp; omega)) _ | assumption))
         have y0_0 : w'.cell? ⟨w3.heap.size, 0, none⟩ = some (.int .i64 (u)) := kb0.cell 0
         have y0_1 : w'.cell? ⟨w3.heap.size, 1, none⟩ = some (.int .i64 (v)) := kb0.cell 1
         have kb1 := step_blk hb (show Blk _ (w6.heap.size) 50 #[.int .i64 (s), .int .i64 (t)] by repeat' (first | exact K0_10.out | exact K1_10.out | exact Blk.at_ _ (by first | rfl | (simp; done) | (simp; omega)) _ _ | refine Blk.drewN ?_ _ | refine Blk.drew ?_ | refine Blk.alloc ?_ _ | refine Blk.far ?_ (by first | omega | (simp; done) | (simp; omega)) _ | assumption))
         have y1_0 : w'.cell? ⟨w6.heap.size, 0, none⟩ = some (.int .i64 (s)) := kb1.cell 0
         have y1_1 : w'.cell? ⟨w6.heap.size, 1, none⟩ = some (.int .i64 (t)) := kb1.cell 1
         clear kb0 kb1
         clear hk hD hb
         go_simp
         try rfl
       simp only [Act.put, List.setIfInBounds_toArray, List.set_cons_zero, List.set_cons_succ]))
  refine Fx.call_ (.agg #[.int .i64 s, .int .i64 t]) ?_ ?_ (by rfl) ?_ ?_ ?_
  rotate_left 2
  · intro w'
    go_simp
    refine ⟨?_, ?_⟩ <;> rfl
  · intro f w' hD hk
    exact (rslope_is A n c l HE.out s t HSL.out w' ((R0_10.out.below hD).more hD.size)).mono fun e w'' ⟨he, hw⟩ => ⟨he, step_below hw hD⟩
  simp only [Act.put, List.setIfInBounds_toArray, List.set_cons_zero, List.set_cons_succ]
  repeat (first
    | (refine Fx.skip_ (by rfl) (fun f w h => h) ?_; simp only [Act.put, List.setIfInBounds_toArray, List.set_cons_zero, List.set_cons_succ])
    | (refine Fx.val_ ?_ (by rfl) ?_ (fun f w h => h) ?_
       rotate_left
       · intro f w' hD hk
         have hb := hD
         have kb0 := step_blk hb (show Blk _ (w3.heap.size) 50 #[.int .i64 (u), .int .i64 (v)] by repeat' (first | exact K0_10.out | exact K1_10.out | exact Blk.at_ _ (by first | rfl | (simp; done) | (simp; omega)) _ _ | refine Blk.drewN ?_ _ | refine Blk.drew ?_ | refine Blk.alloc ?_ _ | refine Blk.far ?_ (by first | omega | (simp; done) | (simp; omega)) _ | assumption))
         have y0_0 : w'.cell? ⟨w3.heap.size, 0, none⟩ = some (.int .i64 (u)) := kb0.cell 0
         have y0_1 : w'.cell? ⟨w3.heap.size, 1, none⟩ = some (.int .i64 (v)) := kb0.cell 1
         have kb1 := step_blk hb (show Blk _ (w6.heap.size) 50 #[.int .i64 (s), .int .i64 (t)] by repeat' (first | exact K0_10.out | exact K1_10.out | exact Blk.at_ _ (by first | rfl | (simp; done) | (simp; omega)) _ _ | refine Blk.drewN ?_ _ | refine Blk.drew ?_ | refine Blk.alloc ?_ _ | refine Blk.far ?_ (by first | omega | (simp; done) | (simp; omega)) _ | assumption))
         have y1_0 : w'.cell? ⟨w6.heap.size, 0, none⟩ = some (.int .i64 (s)) := kb1.cell 0
         have y1_1 : w'.cell? ⟨w6.heap.size, 1, none⟩ = some (.int .i64 (t)) := kb1.cell 1
         clear kb0 kb1
         clear hk hD hb
         go_simp
         try rfl
       simp only [Act.put, List.setIfInBounds_toArray, List.set_cons_zero, List.set_cons_succ]))
  refine Fx.nil_ ?_
  intro f w11 hall hb
  try clear hall
  have HB1011 := Lib.hid hb
  have HB11 := Lib.hid (show Below w.heap.size w w11 from step_below hb (by repeat' (first | exact Below.refl _ _ | exact HB10.out | refine below_drewN ?_ _ | refine Below.drew ?_ | refine Below.alloc ?_ (by first | omega | (simp; done) | (simp; omega) | (simp [World.setCell]; omega)) _ | refine Below.setCell ?_ (by first | omega | (simp; done) | (simp; omega)) _ | assumption)))
  have K0_11 := Lib.hid (step_blk hb (show Blk _ (w3.heap.size) 50 #[.int .i64 (u), .int .i64 (v)] by repeat' (first | exact K0_10.out | exact K1_10.out | exact Blk.at_ _ (by first | rfl | (simp; done) | (simp; omega)) _ _ | refine Blk.drewN ?_ _ | refine Blk.drew ?_ | refine Blk.alloc ?_ _ | refine Blk.far ?_ (by first | omega | (simp; done) | (simp; omega)) _ | assumption)))
  have K1_11 := Lib.hid (step_blk hb (show Blk _ (w6.heap.size) 50 #[.int .i64 (s), .int .i64 (t)] by repeat' (first | exact K0_10.out | exact K1_10.out | exact Blk.at_ _ (by first | rfl | (simp; done) | (simp; omega)) _ _ | refine Blk.drewN ?_ _ | refine Blk.drew ?_ | refine Blk.alloc ?_ _ | refine Blk.far ?_ (by first | omega | (simp; done) | (simp; omega)) _ | assumption)))
  have hL11 := Lib.hid (show Below w10.heap.size w10 _ from reads_mid hb (by repeat' (first | exact Below.refl _ _ | refine below_drewN ?_ _ | refine Below.drew ?_ | refine Below.alloc ?_ (by first | omega | (simp; done) | (simp; omega) | (simp [World.setCell]; omega)) _ | refine Below.setCell ?_ (by first | omega | (simp; done) | (simp; omega)) _)))
  have R0_11 := Lib.hid (reads_lay hb hL11.out R0_10.out)
  have R1_11 := Lib.hid (reads_lay hb hL11.out R1_10.out)
  clear hL11 R0_10 R1_10
  have hz11 := hb.size
  try simp only [World.size_alloc, World.drewN, World.drew] at hz11
  clear hb K0_10 K1_10 z0_0_10 z0_1_10 l0_10 z1_0_10 z1_1_10 l1_10
  have l0_11 : w3.heap.size < w11.heap.size := K0_11.out.lt
  have z0_0_11 : w11.cell? ⟨w3.heap.size, 0, none⟩ = some (.int .i64 (u)) := K0_11.out.cell 0
  have z0_1_11 : w11.cell? ⟨w3.heap.size, 1, none⟩ = some (.int .i64 (v)) := K0_11.out.cell 1
  have l1_11 : w6.heap.size < w11.heap.size := K1_11.out.lt
  have z1_0_11 : w11.cell? ⟨w6.heap.size, 0, none⟩ = some (.int .i64 (s)) := K1_11.out.cell 0
  have z1_1_11 : w11.cell? ⟨w6.heap.size, 1, none⟩ = some (.int .i64 (t)) := K1_11.out.cell 1
  by_cases hnm : n = m
  rotate_left
  · have f1 : ((m : Int) != (n : Int)) = true := by simp; omega
    go_wp2
    go_ret
    exact ⟨rfl, by repeat' (first | exact Below.refl _ _ | exact HB11.out | refine below_drewN ?_ _ | refine Below.drew ?_ | refine Below.alloc ?_ (by first | omega | (simp; done) | (simp; omega) | (simp [World.setCell]; omega)) _ | refine Below.setCell ?_ (by first | omega | (simp; done) | (simp; omega)) _ | assumption)⟩
  obtain rfl : n = m := hnm
  have f1 : ((n : Int) != (n : Int)) = false := by simp
  go_wp2
  have RL := R0_11
  have RI := R1_11
  have KP := K0_11
  have KS := K1_11
  clear R0_11 R1_11
  go_loopw [10, 11, 12] (fun a b x wr => ∃ i : Nat, i ≤ n ∧ x = .int .i64 i ∧ a = .int .i64 (difA h i).1 ∧ b = .int .i64 (difA h i).2 ∧ (∀ q, q < i → (l.getD q (0, 0)).1 ≤ h.getD q 0 ∧ h.getD q 0 ≤ (l.getD q (0, 0)).2) ∧ Below w11.heap.size w11 wr) (fun _ _ x _ => n - (intOf x).toNat)
  case atStart => exact ⟨0, by omega, rfl, rfl, rfl, fun q hq => absurd hq (by omega), Below.refl _ _⟩
  case round =>
    obtain ⟨i, hi, rfl, rfl, rfl, hin, hbk⟩ := hrel
    obtain ⟨w12, hnm⟩ : ∃ z : World, z = wr := ⟨_, rfl⟩
    subst hnm
    have HBK := Lib.hid hbk
    have HIN := Lib.hid hin
    have hb' := HB11.out.trans (hbk.mono HB11.out.size)
    have hrl := (RL.out.below hbk).more hbk.size
    have hri := (RI.out.below hbk).more hbk.size
    have kp := Blk.below KP.out hbk KP.out.lt
    have ks := Blk.below KS.out hbk KS.out.lt
    obtain ⟨⟨p1, p2⟩, hp⟩ : ∃ P, difA h i = P := ⟨_, rfl⟩
    rw [hp]
    have HP := Lib.hid hp
    clear hbk hin hp
    by_cases hlt : i < n
    rotate_left
    · obtain rfl : n = i := by omega
      have HB12 := Lib.hid hb'
      have K0_12 := Lib.hid (show Blk w12 (w3.heap.size) 50 #[.int .i64 (u), .int .i64 (v)] from kp)
      have K1_12 := Lib.hid (show Blk w12 (w6.heap.size) 50 #[.int .i64 (s), .int .i64 (t)] from ks)
      clear hb' kp ks
      have l0_12 : w3.heap.size < w12.heap.size := K0_12.out.lt
      have z0_0_12 : w12.cell? ⟨w3.heap.size, 0, none⟩ = some (.int .i64 (u)) := K0_12.out.cell 0
      have z0_1_12 : w12.cell? ⟨w3.heap.size, 1, none⟩ = some (.int .i64 (v)) := K0_12.out.cell 1
      have l1_12 : w6.heap.size < w12.heap.size := K1_12.out.lt
      have z1_0_12 : w12.cell? ⟨w6.heap.size, 0, none⟩ = some (.int .i64 (s)) := K1_12.out.cell 0
      have z1_1_12 : w12.cell? ⟨w6.heap.size, 1, none⟩ = some (.int .i64 (t)) := K1_12.out.cell 1
      have hh := ranges_hold HIN.out
      rw [HPK.out, HSL.out, HP.out] at hh
      obtain ⟨⟨x1, x2⟩, ⟨x3, x4⟩⟩ := hh
      simp only at x1 x2 x3 x4
      have HW1 := Lib.hid (within_mk x1 x2)
      have HW2 := Lib.hid (within_mk x3 x4)
      clear x1 x2 x3 x4 hrl hri
      go_wp2_with fail
      refine (withinref_is _ _ _ true HW1.out _).mono ?_
      rintro e w' ⟨rfl, rfl⟩
      go_wp2_with fail
      refine (withinref_is _ _ _ true HW2.out _).mono ?_
      rintro e w' ⟨rfl, rfl⟩
      go_wp2
      go_ret
      exact ⟨rfl, by repeat' (first | exact Below.refl _ _ | exact HB12.out | refine below_drewN ?_ _ | refine Below.drew ?_ | refine Below.alloc ?_ (by first | omega | (simp; done) | (simp; omega) | (simp [World.setCell]; omega)) _ | refine Below.setCell ?_ (by first | omega | (simp; done) | (simp; omega)) _ | assumption)⟩
    have hii : (i : Int) < (n : Int) := by omega
    obtain ⟨xb, xo, ⟨lo, hi2⟩, hA, hxb, hpi, ci0, ci1⟩ := hrl.pair hlt
    obtain ⟨yb, yo, y, hB, hyb, hyi, cy⟩ := hri.int_ hlt
    subst hA
    subst hB
    simp only at ci0 ci1
    have hgl : l.getD i (0, 0) = (lo, hi2) := getD_of hpi
    have hgy : h.getD i 0 = y := getD_of hyi
    have hyI := HH.out y (List.mem_of_getElem? hyi)
    obtain ⟨tw, htw⟩ : ∃ tw, withinB y lo hi2 = tw := ⟨_, rfl⟩
    have HTW := Lib.hid htw
    have HGL := Lib.hid hgl
    have HGY := Lib.hid hgy
    clear hpi hyi htw hgl hgy
    have HB12 := Lib.hid hb'
    have K0_12 := Lib.hid (show Blk w12 (w3.heap.size) 50 #[.int .i64 (u), .int .i64 (v)] from kp)
    have K1_12 := Lib.hid (show Blk w12 (w6.heap.size) 50 #[.int .i64 (s), .int .i64 (t)] from ks)
    clear hb' kp ks
    have l0_12 : w3.heap.size < w12.heap.size := K0_12.out.lt
    have z0_0_12 : w12.cell? ⟨w3.heap.size, 0, none⟩ = some (.int .i64 (u)) := K0_12.out.cell 0
    have z0_1_12 : w12.cell? ⟨w3.heap.size, 1, none⟩ = some (.int .i64 (v)) := K0_12.out.cell 1
    have l1_12 : w6.heap.size < w12.heap.size := K1_12.out.lt
    have z1_0_12 : w12.cell? ⟨w6.heap.size, 0, none⟩ = some (.int .i64 (s)) := K1_12.out.cell 0
    have z1_1_12 : w12.cell? ⟨w6.heap.size, 1, none⟩ = some (.int .i64 (t)) := K1_12.out.cell 1
    go_wp2_with fail
    refine Fx.regionW (fun W f w' => Below W.heap.size W w') (by kernel_rfl) (by kernel_rfl) ?_ ?_
    · intro f hf0
      exact below_drewN (Below.refl _ _) 1
    repeat (first
      | (refine Fx.skip_ (by rfl) (fun f w h => h) ?_; simp only [Act.put, List.setIfInBounds_toArray, List.set_cons_zero, List.set_cons_succ])
      | (refine Fx.val_ ?_ (by rfl) ?_ (fun f w h => h) ?_
         rotate_left
         · intro f w' hD hk
           have hb := hD
           have kb0 := step_blk hb (show Blk _ (w3.heap.size) 50 #[.int .i64 (u), .int .i64 (v)] by repeat' (first | exact K0_12.out | exact K1_12.out | exact Blk.at_ _ (by first | rfl | (simp; done) | (simp; omega)) _ _ | refine Blk.drewN ?_ _ | refine Blk.drew ?_ | refine Blk.alloc ?_ _ | refine Blk.far ?_ (by first | omega | (simp; done) | (simp; omega)) _ | assumption))
           have y0_0 : w'.cell? ⟨w3.heap.size, 0, none⟩ = some (.int .i64 (u)) := kb0.cell 0
           have y0_1 : w'.cell? ⟨w3.heap.size, 1, none⟩ = some (.int .i64 (v)) := kb0.cell 1
           have kb1 := step_blk hb (show Blk _ (w6.heap.size) 50 #[.int .i64 (s), .int .i64 (t)] by repeat' (first | exact K0_12.out | exact K1_12.out | exact Blk.at_ _ (by first | rfl | (simp; done) | (simp; omega)) _ _ | refine Blk.drewN ?_ _ | refine Blk.drew ?_ | refine Blk.alloc ?_ _ | refine Blk.far ?_ (by first | omega | (simp; done) | (simp; omega)) _ | assumption))
           have y1_0 : w'.cell? ⟨w6.heap.size, 0, none⟩ = some (.int .i64 (s)) := kb1.cell 0
           have y1_1 : w'.cell? ⟨w6.heap.size, 1, none⟩ = some (.int .i64 (t)) := kb1.cell 1
           have q0 := (hb.cell (p := ⟨xb, _, none⟩) hxb).trans ci0
           have q1 := (hb.cell (p := ⟨xb, _, none⟩) hxb).trans ci1
           have q2 := (hb.cell (p := ⟨yb, _, none⟩) hyb).trans cy
           clear kb0 kb1
           clear hk hD hb
           go_simp
           try rfl
         simp only [Act.put, List.setIfInBounds_toArray, List.set_cons_zero, List.set_cons_succ]))
    refine Fx.call_ (.bool tw) ?_ ?_ (by rfl) ?_ ?_ ?_
    rotate_left 2
    · intro w'
      go_simp
      refine ⟨?_, ?_⟩ <;> rfl
    · intro f w' hD hk
      exact (withinref_is _ _ _ tw HTW.out w').mono fun e w'' ⟨he, hw⟩ => ⟨he, hw ▸ hD⟩
    simp only [Act.put, List.setIfInBounds_toArray, List.set_cons_zero, List.set_cons_succ]
    repeat (first
      | (refine Fx.skip_ (by rfl) (fun f w h => h) ?_; simp only [Act.put, List.setIfInBounds_toArray, List.set_cons_zero, List.set_cons_succ])
      | (refine Fx.val_ ?_ (by rfl) ?_ (fun f w h => h) ?_
         rotate_left
         · intro f w' hD hk
           have hb := hD
           have kb0 := step_blk hb (show Blk _ (w3.heap.size) 50 #[.int .i64 (u), .int .i64 (v)] by repeat' (first | exact K0_12.out | exact K1_12.out | exact Blk.at_ _ (by first | rfl | (simp; done) | (simp; omega)) _ _ | refine Blk.drewN ?_ _ | refine Blk.drew ?_ | refine Blk.alloc ?_ _ | refine Blk.far ?_ (by first | omega | (simp; done) | (simp; omega)) _ | assumption))
           have y0_0 : w'.cell? ⟨w3.heap.size, 0, none⟩ = some (.int .i64 (u)) := kb0.cell 0
           have y0_1 : w'.cell? ⟨w3.heap.size, 1, none⟩ = some (.int .i64 (v)) := kb0.cell 1
           have kb1 := step_blk hb (show Blk _ (w6.heap.size) 50 #[.int .i64 (s), .int .i64 (t)] by repeat' (first | exact K0_12.out | exact K1_12.out | exact Blk.at_ _ (by first | rfl | (simp; done) | (simp; omega)) _ _ | refine Blk.drewN ?_ _ | refine Blk.drew ?_ | refine Blk.alloc ?_ _ | refine Blk.far ?_ (by first | omega | (simp; done) | (simp; omega)) _ | assumption))
           have y1_0 : w'.cell? ⟨w6.heap.size, 0, none⟩ = some (.int .i64 (s)) := kb1.cell 0
           have y1_1 : w'.cell? ⟨w6.heap.size, 1, none⟩ = some (.int .i64 (t)) := kb1.cell 1
           have q0 := (hb.cell (p := ⟨xb, _, none⟩) hxb).trans ci0
           have q1 := (hb.cell (p := ⟨xb, _, none⟩) hxb).trans ci1
           have q2 := (hb.cell (p := ⟨yb, _, none⟩) hyb).trans cy
           clear kb0 kb1
           clear hk hD hb
           go_simp
           try rfl
         simp only [Act.put, List.setIfInBounds_toArray, List.set_cons_zero, List.set_cons_succ]))
    refine Fx.nil_ ?_
    intro f w13 hall hb
    try clear hall
    have HB1213 := Lib.hid hb
    have HB13 := Lib.hid (show Below w.heap.size w w13 from step_below hb (by repeat' (first | exact Below.refl _ _ | exact HB12.out | refine below_drewN ?_ _ | refine Below.drew ?_ | refine Below.alloc ?_ (by first | omega | (simp; done) | (simp; omega) | (simp [World.setCell]; omega)) _ | refine Below.setCell ?_ (by first | omega | (simp; done) | (simp; omega)) _ | assumption)))
    have K0_13 := Lib.hid (step_blk hb (show Blk _ (w3.heap.size) 50 #[.int .i64 (u), .int .i64 (v)] by repeat' (first | exact K0_12.out | exact K1_12.out | exact Blk.at_ _ (by first | rfl | (simp; done) | (simp; omega)) _ _ | refine Blk.drewN ?_ _ | refine Blk.drew ?_ | refine Blk.alloc ?_ _ | refine Blk.far ?_ (by first | omega | (simp; done) | (simp; omega)) _ | assumption)))
    have K1_13 := Lib.hid (step_blk hb (show Blk _ (w6.heap.size) 50 #[.int .i64 (s), .int .i64 (t)] by repeat' (first | exact K0_12.out | exact K1_12.out | exact Blk.at_ _ (by first | rfl | (simp; done) | (simp; omega)) _ _ | refine Blk.drewN ?_ _ | refine Blk.drew ?_ | refine Blk.alloc ?_ _ | refine Blk.far ?_ (by first | omega | (simp; done) | (simp; omega)) _ | assumption)))
    have hz13 := hb.size
    try simp only [World.size_alloc, World.drewN, World.drew] at hz13
    clear hb K0_12 K1_12 z0_0_12 z0_1_12 l0_12 z1_0_12 z1_1_12 l1_12
    have l0_13 : w3.heap.size < w13.heap.size := K0_13.out.lt
    have z0_0_13 : w13.cell? ⟨w3.heap.size, 0, none⟩ = some (.int .i64 (u)) := K0_13.out.cell 0
    have z0_1_13 : w13.cell? ⟨w3.heap.size, 1, none⟩ = some (.int .i64 (v)) := K0_13.out.cell 1
    have l1_13 : w6.heap.size < w13.heap.size := K1_13.out.lt
    have z1_0_13 : w13.cell? ⟨w6.heap.size, 0, none⟩ = some (.int .i64 (s)) := K1_13.out.cell 0
    have z1_1_13 : w13.cell? ⟨w6.heap.size, 1, none⟩ = some (.int .i64 (t)) := K1_13.out.cell 1
    cases tw
    · go_wp2
      go_ret
      exact ⟨rfl, by repeat' (first | exact Below.refl _ _ | exact HB13.out | refine below_drewN ?_ _ | refine Below.drew ?_ | refine Below.alloc ?_ (by first | omega | (simp; done) | (simp; omega) | (simp [World.setCell]; omega)) _ | refine Below.setCell ?_ (by first | omega | (simp; done) | (simp; omega)) _ | assumption)⟩
    have hz := within_yes HTW.out
    obtain ⟨-, -, hrg⟩ := encl_ok HE.out
    have hzi : -100000 ≤ y ∧ y ≤ 100000 := by
      have := hrg _ (List.mem_of_getElem? (show l[i]? = some (lo, hi2) by
        have h1 := HGL.out
        rw [List.getElem?_eq_getElem (by rw [HL.out]; exact hlt)]
        rw [List.getD_eq_getElem?_getD, List.getElem?_eq_getElem (by rw [HL.out]; exact hlt)] at h1
        exact congrArg some h1))
      simp only at this
      omega
    have hin2 : ∀ q, q < i → -100000 ≤ h.getD q 0 ∧ h.getD q 0 ≤ 100000 := fun q hq => by
      have h1 := HIN.out q hq
      have h2 := hrg _ (List.mem_of_getElem? (List.getElem?_eq_getElem (show q < l.length by rw [HL.out]; omega)))
      rw [getDat (d := (0, 0)) (List.getElem?_eq_getElem (show q < l.length by rw [HL.out]; omega))] at h1
      omega
    have HRG := Lib.hid hrg
    have HIN2 := Lib.hid hin2
    have hby : Below w12.heap.size w12 w13 := HB1213.out
    have hyb13 : yb < w13.heap.size := by have := hby.size; omega
    have cy13 := (hby.cell (p := ⟨yb, yo + i, none⟩) hyb).trans cy
    have hri := (RI.out.below (HBK.out.trans (hby.mono HBK.out.size))).more (Nat.le_trans HBK.out.size hby.size)
    have RI13 := Lib.hid hri
    have HZ := Lib.hid hz
    have KP3 := K0_13
    have KS3 := K1_13
    clear hrg hin2 hri hby ci0 ci1 cy hz
    go_wp2
    go_loopw [10, 11, 13] (fun a b x wr => ∃ k : Nat, k ≤ i ∧ x = .int .i64 k ∧ a = .int .i64 (difR h (p1, p2) i k).1 ∧ b = .int .i64 (difR h (p1, p2) i k).2 ∧ Below w13.heap.size w13 wr) (fun _ _ x _ => i - (intOf x).toNat)
    case atStart => exact ⟨0, by omega, rfl, rfl, rfl, Below.refl _ _⟩
    case round =>
      obtain ⟨k, hk, rfl, rfl, rfl, hbk⟩ := hrel
      obtain ⟨w14, hnm⟩ : ∃ z : World, z = wr := ⟨_, rfl⟩
      subst hnm
      have HBQ := Lib.hid hbk
      obtain ⟨⟨r1, r2⟩, hr⟩ : ∃ R, difR h (p1, p2) i k = R := ⟨_, rfl⟩
      rw [hr]
      have HR := Lib.hid hr
      clear hr
      by_cases hkt : k < i
      rotate_left
      · obtain rfl : i = k := by omega
        have HOB := Lib.hid (HBK.out.trans ((HB1213.out.trans (hbk.mono HB1213.out.size)).mono HBK.out.size))
        clear hbk
        go_wp2
        go_roundw
        case rel =>
          have hdA : difA h (i + 1) = (r1, r2) := by
            show difR h (difA h i) i i = _
            rw [HP.out, HR.out]
          refine ⟨i + 1, by omega, by go_num, by rw [hdA], by rw [hdA], fun q hq => ?_, HOB.out⟩
          by_cases e : q = i
          · rw [e, HGL.out, HGY.out]; exact HZ.out
          · exact HIN.out q (by omega)
        case measure => simp [intOf]; omega
      have hb' := HB13.out.trans (hbk.mono HB13.out.size)
      have kp := Blk.below KP3.out hbk KP3.out.lt
      have ks := Blk.below KS3.out hbk KS3.out.lt
      have hri := (RI13.out.below hbk).more hbk.size
      obtain ⟨zb, zo, z, hC, hzb, hzi2, cz⟩ := hri.int_ (show k < n by omega)
      obtain ⟨rfl, rfl⟩ : yb = zb ∧ yo = zo := by simpa using hC
      have cy14 := (hbk.cell (p := ⟨yb, yo + i, none⟩) hyb13).trans cy13
      have hgz : h.getD k 0 = z := getD_of hzi2
      have hzz := HIN2.out k hkt
      rw [hgz] at hzz
      have e9 := IntWalk.i64_in (y - z) ⟨by omega, by omega⟩
      obtain ⟨g, hg⟩ : ∃ g : Int, ((y - z).natAbs : Int) = g := ⟨_, rfl⟩
      have hdf : dif h i k = g := by unfold dif; rw [HGY.out, hgz, hg]
      have habs : ∀ w', Calls Try.prog 45 #[.int .i64 (y - z)] w' fun e w'' => e = .returned (.int .i64 g) ∧ w' = w'' := fun w' => by
        have := abs_in (y - z) w' (by omega) (by omega)
        rw [hg] at this
        exact this
      have HABS := Lib.hid habs
      have HDF := Lib.hid hdf
      have hkk : (k : Int) < (i : Int) := by omega
      have e10 := IntWalk.i64_in ((i : Int) - 1) ⟨by omega, by omega⟩
      have hk1 : (k : Int) < (n : Int) := by omega
      clear hbk hri hC hzi2 hgz habs hdf hg
      have HB14 := Lib.hid hb'
      have K0_14 := Lib.hid (show Blk w14 (w3.heap.size) 50 #[.int .i64 (u), .int .i64 (v)] from kp)
      have K1_14 := Lib.hid (show Blk w14 (w6.heap.size) 50 #[.int .i64 (s), .int .i64 (t)] from ks)
      clear hb' kp ks
      have l0_14 : w3.heap.size < w14.heap.size := K0_14.out.lt
      have z0_0_14 : w14.cell? ⟨w3.heap.size, 0, none⟩ = some (.int .i64 (u)) := K0_14.out.cell 0
      have z0_1_14 : w14.cell? ⟨w3.heap.size, 1, none⟩ = some (.int .i64 (v)) := K0_14.out.cell 1
      have l1_14 : w6.heap.size < w14.heap.size := K1_14.out.lt
      have z1_0_14 : w14.cell? ⟨w6.heap.size, 0, none⟩ = some (.int .i64 (s)) := K1_14.out.cell 0
      have z1_1_14 : w14.cell? ⟨w6.heap.size, 1, none⟩ = some (.int .i64 (t)) := K1_14.out.cell 1
      go_wp2_with fail
      refine Fx.regionW (fun W f w' => Below W.heap.size W w') (by kernel_rfl) (by kernel_rfl) ?_ ?_
      · intro f hf0
        exact below_drewN (Below.refl _ _) 1
      repeat (first
        | (refine Fx.skip_ (by rfl) (fun f w h => h) ?_; simp only [Act.put, List.setIfInBounds_toArray, List.set_cons_zero, List.set_cons_succ])
        | (refine Fx.val_ ?_ (by rfl) ?_ (fun f w h => h) ?_
           rotate_left
           · intro f w' hD hk
             have hb := hD
             have kb0 := step_blk hb (show Blk _ (w3.heap.size) 50 #[.int .i64 (u), .int .i64 (v)] by repeat' (first | exact K0_14.out | exact K1_14.out | exact Blk.at_ _ (by first | rfl | (simp; done) | (simp; omega)) _ _ | refine Blk.drewN ?_ _ | refine Blk.drew ?_ | refine Blk.alloc ?_ _ | refine Blk.far ?_ (by first | omega | (simp; done) | (simp; omega)) _ | assumption))
             have y0_0 : w'.cell? ⟨w3.heap.size, 0, none⟩ = some (.int .i64 (u)) := kb0.cell 0
             have y0_1 : w'.cell? ⟨w3.heap.size, 1, none⟩ = some (.int .i64 (v)) := kb0.cell 1
             have kb1 := step_blk hb (show Blk _ (w6.heap.size) 50 #[.int .i64 (s), .int .i64 (t)] by repeat' (first | exact K0_14.out | exact K1_14.out | exact Blk.at_ _ (by first | rfl | (simp; done) | (simp; omega)) _ _ | refine Blk.drewN ?_ _ | refine Blk.drew ?_ | refine Blk.alloc ?_ _ | refine Blk.far ?_ (by first | omega | (simp; done) | (simp; omega)) _ | assumption))
             have y1_0 : w'.cell? ⟨w6.heap.size, 0, none⟩ = some (.int .i64 (s)) := kb1.cell 0
             have y1_1 : w'.cell? ⟨w6.heap.size, 1, none⟩ = some (.int .i64 (t)) := kb1.cell 1
             have q0 := (hb.cell (p := ⟨yb, _, none⟩) hzb).trans cy14
             have q1 := (hb.cell (p := ⟨yb, _, none⟩) hzb).trans cz
             clear kb0 kb1
             clear hk hD hb
             go_simp
             try rfl
           simp only [Act.put, List.setIfInBounds_toArray, List.set_cons_zero, List.set_cons_succ]))
      refine Fx.call_ (.int .i64 (g)) ?_ ?_ (by rfl) ?_ ?_ ?_
      rotate_left 2
      · intro w'
        go_simp
        refine ⟨?_, ?_⟩ <;> rfl
      · intro f w' hD hk
        exact (HABS.out w').mono fun e w'' ⟨he, hw⟩ => ⟨he, hw ▸ hD⟩
      simp only [Act.put, List.setIfInBounds_toArray, List.set_cons_zero, List.set_cons_succ]
      repeat (first
        | (refine Fx.skip_ (by rfl) (fun f w h => h) ?_; simp only [Act.put, List.setIfInBounds_toArray, List.set_cons_zero, List.set_cons_succ])
        | (refine Fx.val_ ?_ (by rfl) ?_ (fun f w h => h) ?_
           rotate_left
           · intro f w' hD hk
             have hb := hD
             have kb0 := step_blk hb (show Blk _ (w3.heap.size) 50 #[.int .i64 (u), .int .i64 (v)] by repeat' (first | exact K0_14.out | exact K1_14.out | exact Blk.at_ _ (by first | rfl | (simp; done) | (simp; omega)) _ _ | refine Blk.drewN ?_ _ | refine Blk.drew ?_ | refine Blk.alloc ?_ _ | refine Blk.far ?_ (by first | omega | (simp; done) | (simp; omega)) _ | assumption))
             have y0_0 : w'.cell? ⟨w3.heap.size, 0, none⟩ = some (.int .i64 (u)) := kb0.cell 0
             have y0_1 : w'.cell? ⟨w3.heap.size, 1, none⟩ = some (.int .i64 (v)) := kb0.cell 1
             have kb1 := step_blk hb (show Blk _ (w6.heap.size) 50 #[.int .i64 (s), .int .i64 (t)] by repeat' (first | exact K0_14.out | exact K1_14.out | exact Blk.at_ _ (by first | rfl | (simp; done) | (simp; omega)) _ _ | refine Blk.drewN ?_ _ | refine Blk.drew ?_ | refine Blk.alloc ?_ _ | refine Blk.far ?_ (by first | omega | (simp; done) | (simp; omega)) _ | assumption))
             have y1_0 : w'.cell? ⟨w6.heap.size, 0, none⟩ = some (.int .i64 (s)) := kb1.cell 0
             have y1_1 : w'.cell? ⟨w6.heap.size, 1, none⟩ = some (.int .i64 (t)) := kb1.cell 1
             have q0 := (hb.cell (p := ⟨yb, _, none⟩) hzb).trans cy14
             have q1 := (hb.cell (p := ⟨yb, _, none⟩) hzb).trans cz
             clear kb0 kb1
             clear hk hD hb
             go_simp
             try rfl
           simp only [Act.put, List.setIfInBounds_toArray, List.set_cons_zero, List.set_cons_succ]))
      refine Fx.nil_ ?_
      intro f w15 hall hb
      try clear hall
      have HB1415 := Lib.hid hb
      have HB15 := Lib.hid (show Below w.heap.size w w15 from step_below hb (by repeat' (first | exact Below.refl _ _ | exact HB14.out | refine below_drewN ?_ _ | refine Below.drew ?_ | refine Below.alloc ?_ (by first | omega | (simp; done) | (simp; omega) | (simp [World.setCell]; omega)) _ | refine Below.setCell ?_ (by first | omega | (simp; done) | (simp; omega)) _ | assumption)))
      have K0_15 := Lib.hid (step_blk hb (show Blk _ (w3.heap.size) 50 #[.int .i64 (u), .int .i64 (v)] by repeat' (first | exact K0_14.out | exact K1_14.out | exact Blk.at_ _ (by first | rfl | (simp; done) | (simp; omega)) _ _ | refine Blk.drewN ?_ _ | refine Blk.drew ?_ | refine Blk.alloc ?_ _ | refine Blk.far ?_ (by first | omega | (simp; done) | (simp; omega)) _ | assumption)))
      have K1_15 := Lib.hid (step_blk hb (show Blk _ (w6.heap.size) 50 #[.int .i64 (s), .int .i64 (t)] by repeat' (first | exact K0_14.out | exact K1_14.out | exact Blk.at_ _ (by first | rfl | (simp; done) | (simp; omega)) _ _ | refine Blk.drewN ?_ _ | refine Blk.drew ?_ | refine Blk.alloc ?_ _ | refine Blk.far ?_ (by first | omega | (simp; done) | (simp; omega)) _ | assumption)))
      have hz15 := hb.size
      try simp only [World.size_alloc, World.drewN, World.drew] at hz15
      clear hb K0_14 K1_14 z0_0_14 z0_1_14 l0_14 z1_0_14 z1_1_14 l1_14
      have l0_15 : w3.heap.size < w15.heap.size := K0_15.out.lt
      have z0_0_15 : w15.cell? ⟨w3.heap.size, 0, none⟩ = some (.int .i64 (u)) := K0_15.out.cell 0
      have z0_1_15 : w15.cell? ⟨w3.heap.size, 1, none⟩ = some (.int .i64 (v)) := K0_15.out.cell 1
      have l1_15 : w6.heap.size < w15.heap.size := K1_15.out.lt
      have z1_0_15 : w15.cell? ⟨w6.heap.size, 0, none⟩ = some (.int .i64 (s)) := K1_15.out.cell 0
      have z1_1_15 : w15.cell? ⟨w6.heap.size, 1, none⟩ = some (.int .i64 (t)) := K1_15.out.cell 1
      have HOB := Lib.hid (HBQ.out.trans (HB1415.out.mono HBQ.out.size))
      have hmx1 : mx r1 g = r1 ∧ ¬ r1 < g ∨ mx r1 g = g ∧ r1 < g := by unfold mx; split <;> omega
      have hmx2 : mx r2 g = r2 ∧ ¬ r2 < g ∨ mx r2 g = g ∧ r2 < g := by unfold mx; split <;> omega
      have hnx : difR h (p1, p2) i (k + 1) = (mx r1 g, if k + 1 = i then mx r2 g else r2) := by
        show (mx (difR h (p1, p2) i k).1 (dif h i k), if k + 1 = i then mx (difR h (p1, p2) i k).2 (dif h i k) else (difR h (p1, p2) i k).2) = _
        rw [HR.out, HDF.out]
      by_cases hki : k + 1 = i
      · have ek : ((k : Int) == (i : Int) - 1) = true := by simp; omega
        rw [if_pos hki] at hnx
        rcases hmx1 with ⟨m1, c1⟩ | ⟨m1, c1⟩
        all_goals rcases hmx2 with ⟨m2, c2⟩ | ⟨m2, c2⟩
        all_goals
          rw [m1, m2] at hnx
          have HNX := Lib.hid hnx
          clear hnx m1 m2
          go_wp2
          go_roundw
          case rel => exact ⟨k + 1, by omega, by go_num, by rw [HNX.out], by rw [HNX.out], HOB.out⟩
          case measure => simp [intOf]; omega
      · have ek : ((k : Int) == (i : Int) - 1) = false := by simp; omega
        rw [if_neg hki] at hnx
        clear hmx2
        rcases hmx1 with ⟨m1, c1⟩ | ⟨m1, c1⟩
        all_goals
          rw [m1] at hnx
          have HNX := Lib.hid hnx
          clear hnx m1
          go_wp2
          go_roundw
          case rel => exact ⟨k + 1, by omega, by go_num, by rw [HNX.out], by rw [HNX.out], HOB.out⟩
          case measure => simp [intOf]; omega
end Go.Proofs.Ytnepjgnnppfibaa

end
