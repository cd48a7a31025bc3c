import Derived.Test.YtkfecbkcghmmhaaQ22
import Derived.Test.YtkfecbkcghmmhaaQ18
import Derived.Test.YtkfecbkcghmmhaaQ26

section
/- The walk of the statement on the reference of least removal from readings. -/
namespace Go.Proofs.Ytkfecbkcghmmhaa
open Go Go.RowKit

/-- The upper ends of an enclosure. -/
def hiL (T : Nat → Nat → Int) (k : Nat) : List Int := (List.range k).map (T 0)
theorem hiL_succ (T : Nat → Nat → Int) (k : Nat) : hiL T (k + 1) = hiL T k ++ [T 0 k] := by unfold hiL; rw [List.range_succ, List.map_append]; rfl
theorem hiL_len (T : Nat → Nat → Int) (k : Nat) : (hiL T k).length = k := by unfold hiL; simp
theorem raise_succ (T : Nat → Nat → Int) (k : Nat) : raiseL (hiL T (k + 1)) = raiseL (hiL T k) ++ [T 0 k + 77] := by rw [hiL_succ]; unfold raiseL; rw [List.map_append]; rfl
theorem reads_low {w : World} {B size n : Nat} {A : Option Addr} {xs : List Value} (h : Reads w B size A n xs) (hn : 0 < n) : ∀ b o, A = some ⟨b, o, none⟩ → b < B := fun b o e => by
  obtain ⟨b', o', e', hb, -⟩ := h.2 hn
  rw [e'] at e
  obtain ⟨rfl, rfl⟩ : b' = b ∧ o' = o := by simpa using e
  exact hb
theorem reads_tch {X : Nat → Prop} {w w' : World} {size n : Nat} {A : Option Addr} {xs : List Value} (h : Reads w w.heap.size size A n xs) (ht : Tch X w w') (hX : ∀ b o, A = some ⟨b, o, none⟩ → ¬ X b) : Reads w' w.heap.size size A n xs :=
  ⟨h.1, fun hn => by
    obtain ⟨b, o, e, hb, hc⟩ := h.2 hn
    exact ⟨b, o, e, hb, fun j u hu => (ht.cell (p := ⟨b, o + j, none⟩) hb (hX b o e)).trans (hc j u hu)⟩⟩
theorem own_low7 {w : World} {B size n : Nat} {e : TypeId} {v : Value} {xs : List Value} (h : w.ownsRow B e size v n xs) {p : Addr} (hp : p.block < B) (u : Value) : (w.setCell p u).ownsRow B e size v n xs :=
  own_set h (fun e' => by have := (own_lt h e').1; omega) u
theorem own_at {w : World} {B size n c : Nat} {e : TypeId} {A : Option Addr} {xs : List Value} (h : w.ownsRow B e size (.slice A n c) n xs) : ∀ b o, A = some ⟨b, o, none⟩ → B ≤ b ∧ b < w.heap.size := fun b o ea => own_lt h (by rw [ea]; rfl)
set_option maxRecDepth 100000 in
set_option maxHeartbeats 8000000 in
theorem lawTV_any (A1 : Option Addr) (n1 c1 : Nat) (hs : List Int) (A2 : Option Addr) (n2 c2 : Nat) (ps : List (Int × Int)) (A3 : Option Addr) (n3 c3 : Nat) (es : List (Int × Int)) (Aq : Option Addr) (nq cq : Nat) (qs : List Int) (Aw : Option Addr) (nw cw : Nat) (us : List Int) (w : World)
    (hx1 : Reads w w.heap.size 1 A1 n1 (hs.map (.int .i64))) (hx2 : Reads w w.heap.size 2 A2 n2 (cells2 ps)) (hx3 : Reads w w.heap.size 2 A3 n3 (cells2 es)) (hxq : Reads w w.heap.size 1 Aq nq (qs.map (.int .i64))) (hxw : Reads w w.heap.size 1 Aw nw (us.map (.int .i64))) :
    Calls Try.prog 3 #[.agg #[.slice A1 n1 c1, .slice A2 n2 c2, .slice A3 n3 c3], .slice Aq nq cq, .slice Aw nw cw] w fun e w' => e = .returned (.bool true) ∧ Below w.heap.size w w' := by
  have h1 := hx1.ilen
  have HX1 := Lib.hid hx1
  have HX2 := Lib.hid hx2
  have HX3 := Lib.hid hx3
  have HXQ := Lib.hid hxq
  have HXW := Lib.hid hxw
  clear hx1 hx2 hx3 hxq hxw
  go_enter Try.func3, Try.ntmps3
  go_wp2_with fail
  generalize hwn : (w.alloc (.cells #[.slice A1 n1 c1, .slice A2 n2 c2, .slice A3 n3 c3] 25)) = w1
  have hbn : Below w.heap.size w w1 := by rw [← hwn]; repeat' (first | exact Below.refl _ _ | refine below_drewN ?_ _ | refine Below.drew ?_ | refine Below.alloc ?_ (by first | omega | (simp; done) | (simp; omega) | (simp [World.setCell]; omega)) _ | refine Below.setCell ?_ (by first | omega | (simp; done) | (simp; omega)) _)
  have HB1 := Lib.hid (show Below w.heap.size w w1 from hbn)
  have K0_1 := Lib.hid (show Blk w1 (w.heap.size) 25 #[.slice A1 n1 c1, .slice A2 n2 c2, .slice A3 n3 c3] by rw [← hwn]; repeat' (first | exact Blk.at_ _ (by first | rfl | (simp; done) | (simp; omega)) _ _ | refine Blk.drewN ?_ _ | refine Blk.drew ?_ | refine Blk.alloc ?_ _ | refine Blk.far ?_ (by first | omega | (simp; done) | (simp; omega)) _ | assumption))
  have HN1 := Lib.hid hbn
  have hz1 := hbn.size
  clear hwn hbn
  have l0_1 : w.heap.size < w1.heap.size := K0_1.out.lt
  have z0_0_1 : w1.cell? ⟨w.heap.size, 0, none⟩ = some (.slice A1 n1 c1) := K0_1.out.cell 0
  have z0_1_1 : w1.cell? ⟨w.heap.size, 1, none⟩ = some (.slice A2 n2 c2) := K0_1.out.cell 1
  have z0_2_1 : w1.cell? ⟨w.heap.size, 2, none⟩ = some (.slice A3 n3 c3) := K0_1.out.cell 2
  refine (judges_is _).mono ?_
  rintro e w2 ⟨rfl, hb⟩
  have HB2 := Lib.hid (show Below w.heap.size w w2 from step_below hb (by repeat' (first | exact Below.refl _ _ | exact HB1.out | refine below_drewN ?_ _ | refine Below.drew ?_ | refine Below.alloc ?_ (by first | omega | (simp; done) | (simp; omega) | (simp [World.setCell]; omega)) _ | refine Below.setCell ?_ (by first | omega | (simp; done) | (simp; omega)) _ | assumption)))
  have K0_2 := Lib.hid (step_blk hb (show Blk _ (w.heap.size) 25 #[.slice A1 n1 c1, .slice A2 n2 c2, .slice A3 n3 c3] by repeat' (first | exact K0_1.out | exact Blk.at_ _ (by first | rfl | (simp; done) | (simp; omega)) _ _ | refine Blk.drewN ?_ _ | refine Blk.drew ?_ | refine Blk.alloc ?_ _ | refine Blk.far ?_ (by first | omega | (simp; done) | (simp; omega)) _ | assumption)))
  have hz2 := hb.size
  try simp only [World.size_alloc, World.drewN, World.drew] at hz2
  clear hb K0_1 z0_0_1 z0_1_1 z0_2_1 l0_1
  have l0_2 : w.heap.size < w2.heap.size := K0_2.out.lt
  have z0_0_2 : w2.cell? ⟨w.heap.size, 0, none⟩ = some (.slice A1 n1 c1) := K0_2.out.cell 0
  have z0_1_2 : w2.cell? ⟨w.heap.size, 1, none⟩ = some (.slice A2 n2 c2) := K0_2.out.cell 1
  have z0_2_2 : w2.cell? ⟨w.heap.size, 2, none⟩ = some (.slice A3 n3 c3) := K0_2.out.cell 2
  have g1 := (HX1.out.below HB2.out).more HB2.out.size
  have g2 := (HX2.out.below HB2.out).more HB2.out.size
  have g3 := (HX3.out.below HB2.out).more HB2.out.size
  have g4 := (HXQ.out.below HB2.out).more HB2.out.size
  have g5 := (HXW.out.below HB2.out).more HB2.out.size
  clear HX1 HX2 HX3 HXQ HXW
  have R0_2 := Lib.hid g1
  clear g1
  have R1_2 := Lib.hid g2
  clear g2
  have R2_2 := Lib.hid g3
  clear g3
  have R3_2 := Lib.hid g4
  clear g4
  have R4_2 := Lib.hid g5
  clear g5
  go_wp2_with fail
  refine (readingsof_is A1 n1 c1 hs A2 n2 c2 ps A3 n3 c3 es 1 (.inl rfl) _ R0_2.out R1_2.out R2_2.out).mono ?_
  rintro e w3 ⟨hb, A4, k4, c4, b4, rfl, hm4⟩
  have HB3 := Lib.hid (show Below w.heap.size w w3 from step_below hb (by repeat' (first | exact Below.refl _ _ | exact HB2.out | refine below_drewN ?_ _ | refine Below.drew ?_ | refine Below.alloc ?_ (by first | omega | (simp; done) | (simp; omega) | (simp [World.setCell]; omega)) _ | refine Below.setCell ?_ (by first | omega | (simp; done) | (simp; omega)) _ | assumption)))
  have K0_3 := Lib.hid (step_blk hb (show Blk _ (w.heap.size) 25 #[.slice A1 n1 c1, .slice A2 n2 c2, .slice A3 n3 c3] by repeat' (first | exact K0_2.out | exact Blk.at_ _ (by first | rfl | (simp; done) | (simp; omega)) _ _ | refine Blk.drewN ?_ _ | refine Blk.drew ?_ | refine Blk.alloc ?_ _ | refine Blk.far ?_ (by first | omega | (simp; done) | (simp; omega)) _ | assumption)))
  have hL3 := Lib.hid (show Below w2.heap.size w2 _ from reads_mid hb (by repeat' (first | exact Below.refl _ _ | refine below_drewN ?_ _ | refine Below.drew ?_ | refine Below.alloc ?_ (by first | omega | (simp; done) | (simp; omega) | (simp [World.setCell]; omega)) _ | refine Below.setCell ?_ (by first | omega | (simp; done) | (simp; omega)) _)))
  have R0_3 := Lib.hid (reads_lay hb hL3.out R0_2.out)
  have R1_3 := Lib.hid (reads_lay hb hL3.out R1_2.out)
  have R2_3 := Lib.hid (reads_lay hb hL3.out R2_2.out)
  have R3_3 := Lib.hid (reads_lay hb hL3.out R3_2.out)
  have R4_3 := Lib.hid (reads_lay hb hL3.out R4_2.out)
  clear hL3 R0_2 R1_2 R2_2 R3_2 R4_2
  have hz3 := hb.size
  try simp only [World.size_alloc, World.drewN, World.drew] at hz3
  clear hb K0_2 z0_0_2 z0_1_2 z0_2_2 l0_2
  have l0_3 : w.heap.size < w3.heap.size := K0_3.out.lt
  have z0_0_3 : w3.cell? ⟨w.heap.size, 0, none⟩ = some (.slice A1 n1 c1) := K0_3.out.cell 0
  have z0_1_3 : w3.cell? ⟨w.heap.size, 1, none⟩ = some (.slice A2 n2 c2) := K0_3.out.cell 1
  have z0_2_3 : w3.cell? ⟨w.heap.size, 2, none⟩ = some (.slice A3 n3 c3) := K0_3.out.cell 2
  have HM4 := Lib.hid hm4
  clear hm4
  clear R0_3 R1_3 R2_3
  cases b4 with
  | false =>
    clear HM4
    go_wp2
    go_ret
    exact ⟨rfl, by repeat' (first | exact Below.refl _ _ | exact HB3.out | refine below_drewN ?_ _ | refine Below.drew ?_ | refine Below.alloc ?_ (by first | omega | (simp; done) | (simp; omega) | (simp [World.setCell]; omega)) _ | refine Below.setCell ?_ (by first | omega | (simp; done) | (simp; omega)) _ | assumption)⟩
  | true =>
  obtain ⟨hk4, hok, hr4⟩ := HM4.out rfl
  subst hk4
  clear HM4
  by_cases hnq : nq = n1
  rotate_left
  · have d1 : ((nq : Int) != (n1 : Int)) = true := by simp; omega
    clear hnq hok hr4
    go_wp2
    go_ret
    exact ⟨rfl, by repeat' (first | exact Below.refl _ _ | exact HB3.out | refine below_drewN ?_ _ | refine Below.drew ?_ | refine Below.alloc ?_ (by first | omega | (simp; done) | (simp; omega) | (simp [World.setCell]; omega)) _ | refine Below.setCell ?_ (by first | omega | (simp; done) | (simp; omega)) _ | assumption)⟩
  obtain rfl : n1 = nq := hnq.symm
  have d1 : ((n1 : Int) != (n1 : Int)) = false := by simp
  by_cases hnw : nw = n1
  rotate_left
  · have d2 : ((nw : Int) != (n1 : Int)) = true := by simp; omega
    clear hnw hok hr4
    go_wp2
    go_ret
    exact ⟨rfl, by repeat' (first | exact Below.refl _ _ | exact HB3.out | refine below_drewN ?_ _ | refine Below.drew ?_ | refine Below.alloc ?_ (by first | omega | (simp; done) | (simp; omega) | (simp [World.setCell]; omega)) _ | refine Below.setCell ?_ (by first | omega | (simp; done) | (simp; omega)) _ | assumption)⟩
  obtain rfl : n1 = nw := hnw.symm
  clear hnq hnw
  have R5_3 := Lib.hid hr4
  clear hr4
  have hn := hok.n
  have hkk := hok.k
  rw [h1] at hn
  obtain ⟨T, hT⟩ : ∃ T, tabT n1 (arsOf (measL hs 1 ps es)) = T := ⟨_, rfl⟩
  obtain ⟨t, ht⟩ : ∃ t, wholeT n1 T = t := ⟨_, rfl⟩
  have hd1 := meas_rd hok (part := 1) (.inl rfl)
  rw [h1] at hd1
  have HT1 := Lib.hid hT
  have HW1 := Lib.hid ht
  have HD1 := Lib.hid hd1
  have HKP1 := Lib.hid (meas_keep hok (part := 1) (.inl rfl))
  have HP := Lib.hid (show ∀ v, v < n1 → -1000000000 ≤ hgtF hs v ∧ hgtF hs v ≤ 1000000000 from fun v _ => by have := hgt_in hok.hgt v; omega)
  clear hT ht hd1 hok
  have e0 : ((25 : Int) != 0) = true := by simp
  cases t with
  | false =>
    go_wp2_with fail
    refine (enclosure_is A4 ps.length c4 n1 _ (hgtF hs) T false HT1.out HW1.out (by omega) (by omega) (by omega) HD1.out HP.out HKP1.out _ R5_3.out).mono ?_
    rintro e w4 ⟨hb, rfl⟩
    have HB4 := Lib.hid (show Below w.heap.size w w4 from step_below hb (by repeat' (first | exact Below.refl _ _ | exact HB3.out | refine below_drewN ?_ _ | refine Below.drew ?_ | refine Below.alloc ?_ (by first | omega | (simp; done) | (simp; omega) | (simp [World.setCell]; omega)) _ | refine Below.setCell ?_ (by first | omega | (simp; done) | (simp; omega)) _ | assumption)))
    have K0_4 := Lib.hid (step_blk hb (show Blk _ (w.heap.size) 25 #[.slice A1 n1 c1, .slice A2 n2 c2, .slice A3 n3 c3] by repeat' (first | exact K0_3.out | exact Blk.at_ _ (by first | rfl | (simp; done) | (simp; omega)) _ _ | refine Blk.drewN ?_ _ | refine Blk.drew ?_ | refine Blk.alloc ?_ _ | refine Blk.far ?_ (by first | omega | (simp; done) | (simp; omega)) _ | assumption)))
    have hL4 := Lib.hid (show Below w3.heap.size w3 _ from reads_mid hb (by repeat' (first | exact Below.refl _ _ | refine below_drewN ?_ _ | refine Below.drew ?_ | refine Below.alloc ?_ (by first | omega | (simp; done) | (simp; omega) | (simp [World.setCell]; omega)) _ | refine Below.setCell ?_ (by first | omega | (simp; done) | (simp; omega)) _)))
    have R3_4 := Lib.hid (reads_lay hb hL4.out R3_3.out)
    have R4_4 := Lib.hid (reads_lay hb hL4.out R4_3.out)
    have R5_4 := Lib.hid (reads_lay hb hL4.out R5_3.out)
    clear hL4 R3_3 R4_3 R5_3
    have hz4 := hb.size
    try simp only [World.size_alloc, World.drewN, World.drew] at hz4
    clear hb K0_3 z0_0_3 z0_1_3 z0_2_3 l0_3
    have l0_4 : w.heap.size < w4.heap.size := K0_4.out.lt
    have z0_0_4 : w4.cell? ⟨w.heap.size, 0, none⟩ = some (.slice A1 n1 c1) := K0_4.out.cell 0
    have z0_1_4 : w4.cell? ⟨w.heap.size, 1, none⟩ = some (.slice A2 n2 c2) := K0_4.out.cell 1
    have z0_2_4 : w4.cell? ⟨w.heap.size, 2, none⟩ = some (.slice A3 n3 c3) := K0_4.out.cell 2
    go_wp2
    go_ret
    exact ⟨rfl, by repeat' (first | exact Below.refl _ _ | exact HB4.out | refine below_drewN ?_ _ | refine Below.drew ?_ | refine Below.alloc ?_ (by first | omega | (simp; done) | (simp; omega) | (simp [World.setCell]; omega)) _ | refine Below.setCell ?_ (by first | omega | (simp; done) | (simp; omega)) _ | assumption)⟩
  | true =>
  go_wp2_with fail
  refine (enclosure_is A4 ps.length c4 n1 _ (hgtF hs) T true HT1.out HW1.out (by omega) (by omega) (by omega) HD1.out HP.out HKP1.out _ R5_3.out).mono ?_
  rintro e w4 ⟨hb, A6, c6, rfl, hr6⟩
  have HB4 := Lib.hid (show Below w.heap.size w w4 from step_below hb (by repeat' (first | exact Below.refl _ _ | exact HB3.out | refine below_drewN ?_ _ | refine Below.drew ?_ | refine Below.alloc ?_ (by first | omega | (simp; done) | (simp; omega) | (simp [World.setCell]; omega)) _ | refine Below.setCell ?_ (by first | omega | (simp; done) | (simp; omega)) _ | assumption)))
  have K0_4 := Lib.hid (step_blk hb (show Blk _ (w.heap.size) 25 #[.slice A1 n1 c1, .slice A2 n2 c2, .slice A3 n3 c3] by repeat' (first | exact K0_3.out | exact Blk.at_ _ (by first | rfl | (simp; done) | (simp; omega)) _ _ | refine Blk.drewN ?_ _ | refine Blk.drew ?_ | refine Blk.alloc ?_ _ | refine Blk.far ?_ (by first | omega | (simp; done) | (simp; omega)) _ | assumption)))
  have hL4 := Lib.hid (show Below w3.heap.size w3 _ from reads_mid hb (by repeat' (first | exact Below.refl _ _ | refine below_drewN ?_ _ | refine Below.drew ?_ | refine Below.alloc ?_ (by first | omega | (simp; done) | (simp; omega) | (simp [World.setCell]; omega)) _ | refine Below.setCell ?_ (by first | omega | (simp; done) | (simp; omega)) _)))
  have R3_4 := Lib.hid (reads_lay hb hL4.out R3_3.out)
  have R4_4 := Lib.hid (reads_lay hb hL4.out R4_3.out)
  have R5_4 := Lib.hid (reads_lay hb hL4.out R5_3.out)
  clear hL4 R3_3 R4_3 R5_3
  have hz4 := hb.size
  try simp only [World.size_alloc, World.drewN, World.drew] at hz4
  clear hb K0_3 z0_0_3 z0_1_3 z0_2_3 l0_3
  have l0_4 : w.heap.size < w4.heap.size := K0_4.out.lt
  have z0_0_4 : w4.cell? ⟨w.heap.size, 0, none⟩ = some (.slice A1 n1 c1) := K0_4.out.cell 0
  have z0_1_4 : w4.cell? ⟨w.heap.size, 1, none⟩ = some (.slice A2 n2 c2) := K0_4.out.cell 1
  have z0_2_4 : w4.cell? ⟨w.heap.size, 2, none⟩ = some (.slice A3 n3 c3) := K0_4.out.cell 2
  clear R5_4
  have R6_4 := Lib.hid hr6
  clear hr6
  clear HT1 HW1 HD1 HKP1 HP
  go_wp2_with fail
  refine (copyints_any Aq n1 cq _ qs _ R3_4.out (Nat.le_refl _) (by omega)).mono ?_
  rintro e w5 ⟨B1, d1', rfl, hb, hrb1, -⟩
  have HB5 := Lib.hid (show Below w.heap.size w w5 from step_below hb (by repeat' (first | exact Below.refl _ _ | exact HB4.out | refine below_drewN ?_ _ | refine Below.drew ?_ | refine Below.alloc ?_ (by first | omega | (simp; done) | (simp; omega) | (simp [World.setCell]; omega)) _ | refine Below.setCell ?_ (by first | omega | (simp; done) | (simp; omega)) _ | assumption)))
  have K0_5 := Lib.hid (step_blk hb (show Blk _ (w.heap.size) 25 #[.slice A1 n1 c1, .slice A2 n2 c2, .slice A3 n3 c3] by repeat' (first | exact K0_4.out | exact Blk.at_ _ (by first | rfl | (simp; done) | (simp; omega)) _ _ | refine Blk.drewN ?_ _ | refine Blk.drew ?_ | refine Blk.alloc ?_ _ | refine Blk.far ?_ (by first | omega | (simp; done) | (simp; omega)) _ | assumption)))
  have hL5 := Lib.hid (show Below w4.heap.size w4 _ from reads_mid hb (by repeat' (first | exact Below.refl _ _ | refine below_drewN ?_ _ | refine Below.drew ?_ | refine Below.alloc ?_ (by first | omega | (simp; done) | (simp; omega) | (simp [World.setCell]; omega)) _ | refine Below.setCell ?_ (by first | omega | (simp; done) | (simp; omega)) _)))
  have R3_5 := Lib.hid (reads_lay hb hL5.out R3_4.out)
  have R4_5 := Lib.hid (reads_lay hb hL5.out R4_4.out)
  have R6_5 := Lib.hid (reads_lay hb hL5.out R6_4.out)
  clear hL5 R3_4 R4_4 R6_4
  have hz5 := hb.size
  try simp only [World.size_alloc, World.drewN, World.drew] at hz5
  clear hb K0_4 z0_0_4 z0_1_4 z0_2_4 l0_4
  have l0_5 : w.heap.size < w5.heap.size := K0_5.out.lt
  have z0_0_5 : w5.cell? ⟨w.heap.size, 0, none⟩ = some (.slice A1 n1 c1) := K0_5.out.cell 0
  have z0_1_5 : w5.cell? ⟨w.heap.size, 1, none⟩ = some (.slice A2 n2 c2) := K0_5.out.cell 1
  have z0_2_5 : w5.cell? ⟨w.heap.size, 2, none⟩ = some (.slice A3 n3 c3) := K0_5.out.cell 2
  have R7_5 := Lib.hid hrb1
  clear hrb1
  go_wp2_with fail
  refine (copyints_any Aw n1 cw _ us _ R4_5.out (Nat.le_refl _) (by omega)).mono ?_
  rintro e w6 ⟨B2, d2', rfl, hb, hrb2, -⟩
  have HB6 := Lib.hid (show Below w.heap.size w w6 from step_below hb (by repeat' (first | exact Below.refl _ _ | exact HB5.out | refine below_drewN ?_ _ | refine Below.drew ?_ | refine Below.alloc ?_ (by first | omega | (simp; done) | (simp; omega) | (simp [World.setCell]; omega)) _ | refine Below.setCell ?_ (by first | omega | (simp; done) | (simp; omega)) _ | assumption)))
  have K0_6 := Lib.hid (step_blk hb (show Blk _ (w.heap.size) 25 #[.slice A1 n1 c1, .slice A2 n2 c2, .slice A3 n3 c3] by repeat' (first | exact K0_5.out | exact Blk.at_ _ (by first | rfl | (simp; done) | (simp; omega)) _ _ | refine Blk.drewN ?_ _ | refine Blk.drew ?_ | refine Blk.alloc ?_ _ | refine Blk.far ?_ (by first | omega | (simp; done) | (simp; omega)) _ | assumption)))
  have hL6 := Lib.hid (show Below w5.heap.size w5 _ from reads_mid hb (by repeat' (first | exact Below.refl _ _ | refine below_drewN ?_ _ | refine Below.drew ?_ | refine Below.alloc ?_ (by first | omega | (simp; done) | (simp; omega) | (simp [World.setCell]; omega)) _ | refine Below.setCell ?_ (by first | omega | (simp; done) | (simp; omega)) _)))
  have R3_6 := Lib.hid (reads_lay hb hL6.out R3_5.out)
  have R4_6 := Lib.hid (reads_lay hb hL6.out R4_5.out)
  have R6_6 := Lib.hid (reads_lay hb hL6.out R6_5.out)
  have R7_6 := Lib.hid (reads_lay hb hL6.out R7_5.out)
  clear hL6 R3_5 R4_5 R6_5 R7_5
  have hz6 := hb.size
  try simp only [World.size_alloc, World.drewN, World.drew] at hz6
  clear hb K0_5 z0_0_5 z0_1_5 z0_2_5 l0_5
  have l0_6 : w.heap.size < w6.heap.size := K0_6.out.lt
  have z0_0_6 : w6.cell? ⟨w.heap.size, 0, none⟩ = some (.slice A1 n1 c1) := K0_6.out.cell 0
  have z0_1_6 : w6.cell? ⟨w.heap.size, 1, none⟩ = some (.slice A2 n2 c2) := K0_6.out.cell 1
  have z0_2_6 : w6.cell? ⟨w.heap.size, 2, none⟩ = some (.slice A3 n3 c3) := K0_6.out.cell 2
  have R8_6 := Lib.hid hrb2
  clear hrb2
  have HXA := Lib.hid (reads_low R6_6.out (by omega))
  have HXB1 := Lib.hid (reads_low R7_6.out (by omega))
  have HXB2 := Lib.hid (reads_low R8_6.out (by omega))
  go_wp2_with fail
  generalize hwn : (w6.alloc (.cells #[.slice none 0 0, .slice B1 n1 d1', .slice B2 n1 d2'] 36)) = w7
  have hbn : Below w6.heap.size w6 w7 := by rw [← hwn]; repeat' (first | exact Below.refl _ _ | refine below_drewN ?_ _ | refine Below.drew ?_ | refine Below.alloc ?_ (by first | omega | (simp; done) | (simp; omega) | (simp [World.setCell]; omega)) _ | refine Below.setCell ?_ (by first | omega | (simp; done) | (simp; omega)) _)
  have HB7 := Lib.hid (show Below w.heap.size w w7 from HB6.out.trans (hbn.mono HB6.out.size))
  have K0_7 := Lib.hid (step_blk hbn K0_6.out)
  have K1_7 := Lib.hid (show Blk w7 (w6.heap.size) 36 #[.slice none 0 0, .slice B1 n1 d1', .slice B2 n1 d2'] by rw [← hwn]; repeat' (first | exact Blk.at_ _ (by first | rfl | (simp; done) | (simp; omega)) _ _ | refine Blk.drewN ?_ _ | refine Blk.drew ?_ | refine Blk.alloc ?_ _ | refine Blk.far ?_ (by first | omega | (simp; done) | (simp; omega)) _ | assumption))
  have R3_7 := Lib.hid ((R3_6.out.below hbn).more hbn.size)
  have R4_7 := Lib.hid ((R4_6.out.below hbn).more hbn.size)
  have R6_7 := Lib.hid ((R6_6.out.below hbn).more hbn.size)
  have R7_7 := Lib.hid ((R7_6.out.below hbn).more hbn.size)
  have R8_7 := Lib.hid ((R8_6.out.below hbn).more hbn.size)
  have HN7 := Lib.hid hbn
  have hz7 := hbn.size
  clear hwn hbn K0_6 l0_6 z0_0_6 z0_1_6 z0_2_6 R3_6 R4_6 R6_6 R7_6 R8_6
  have l0_7 : w.heap.size < w7.heap.size := K0_7.out.lt
  have z0_0_7 : w7.cell? ⟨w.heap.size, 0, none⟩ = some (.slice A1 n1 c1) := K0_7.out.cell 0
  have z0_1_7 : w7.cell? ⟨w.heap.size, 1, none⟩ = some (.slice A2 n2 c2) := K0_7.out.cell 1
  have z0_2_7 : w7.cell? ⟨w.heap.size, 2, none⟩ = some (.slice A3 n3 c3) := K0_7.out.cell 2
  have l1_7 : w6.heap.size < w7.heap.size := K1_7.out.lt
  have z1_0_7 : w7.cell? ⟨w6.heap.size, 0, none⟩ = some (.slice none 0 0) := K1_7.out.cell 0
  have z1_1_7 : w7.cell? ⟨w6.heap.size, 1, none⟩ = some (.slice B1 n1 d1') := K1_7.out.cell 1
  have z1_2_7 : w7.cell? ⟨w6.heap.size, 2, none⟩ = some (.slice B2 n1 d2') := K1_7.out.cell 2
  have hq7 := l1_7
  refine (copyints_any Aq n1 cq _ qs _ R3_7.out (Nat.le_refl _) (by omega)).mono ?_
  rintro e w8 ⟨B3, d3', rfl, hb, hrb3, hob3⟩
  have HB8 := Lib.hid (show Below w.heap.size w w8 from step_below hb (by repeat' (first | exact Below.refl _ _ | exact HB7.out | refine below_drewN ?_ _ | refine Below.drew ?_ | refine Below.alloc ?_ (by first | omega | (simp; done) | (simp; omega) | (simp [World.setCell]; omega)) _ | refine Below.setCell ?_ (by first | omega | (simp; done) | (simp; omega)) _ | assumption)))
  have K0_8 := Lib.hid (step_blk hb (show Blk _ (w.heap.size) 25 #[.slice A1 n1 c1, .slice A2 n2 c2, .slice A3 n3 c3] by repeat' (first | exact K0_7.out | exact K1_7.out | exact Blk.at_ _ (by first | rfl | (simp; done) | (simp; omega)) _ _ | refine Blk.drewN ?_ _ | refine Blk.drew ?_ | refine Blk.alloc ?_ _ | refine Blk.far ?_ (by first | omega | (simp; done) | (simp; omega)) _ | assumption)))
  have K1_8 := Lib.hid (step_blk hb (show Blk _ (w6.heap.size) 36 #[.slice none 0 0, .slice B1 n1 d1', .slice B2 n1 d2'] by repeat' (first | exact K0_7.out | exact K1_7.out | exact Blk.at_ _ (by first | rfl | (simp; done) | (simp; omega)) _ _ | refine Blk.drewN ?_ _ | refine Blk.drew ?_ | refine Blk.alloc ?_ _ | refine Blk.far ?_ (by first | omega | (simp; done) | (simp; omega)) _ | assumption)))
  have hL8 := Lib.hid (show Below w7.heap.size w7 _ from reads_mid hb (by repeat' (first | exact Below.refl _ _ | refine below_drewN ?_ _ | refine Below.drew ?_ | refine Below.alloc ?_ (by first | omega | (simp; done) | (simp; omega) | (simp [World.setCell]; omega)) _ | refine Below.setCell ?_ (by first | omega | (simp; done) | (simp; omega)) _)))
  have R3_8 := Lib.hid (reads_lay hb hL8.out R3_7.out)
  have R4_8 := Lib.hid (reads_lay hb hL8.out R4_7.out)
  have R6_8 := Lib.hid (reads_lay hb hL8.out R6_7.out)
  have R7_8 := Lib.hid (reads_lay hb hL8.out R7_7.out)
  have R8_8 := Lib.hid (reads_lay hb hL8.out R8_7.out)
  clear hL8 R3_7 R4_7 R6_7 R7_7 R8_7
  have hz8 := hb.size
  try simp only [World.size_alloc, World.drewN, World.drew] at hz8
  clear hb K0_7 K1_7 z0_0_7 z0_1_7 z0_2_7 l0_7 z1_0_7 z1_1_7 z1_2_7 l1_7
  have l0_8 : w.heap.size < w8.heap.size := K0_8.out.lt
  have z0_0_8 : w8.cell? ⟨w.heap.size, 0, none⟩ = some (.slice A1 n1 c1) := K0_8.out.cell 0
  have z0_1_8 : w8.cell? ⟨w.heap.size, 1, none⟩ = some (.slice A2 n2 c2) := K0_8.out.cell 1
  have z0_2_8 : w8.cell? ⟨w.heap.size, 2, none⟩ = some (.slice A3 n3 c3) := K0_8.out.cell 2
  have l1_8 : w6.heap.size < w8.heap.size := K1_8.out.lt
  have z1_0_8 : w8.cell? ⟨w6.heap.size, 0, none⟩ = some (.slice none 0 0) := K1_8.out.cell 0
  have z1_1_8 : w8.cell? ⟨w6.heap.size, 1, none⟩ = some (.slice B1 n1 d1') := K1_8.out.cell 1
  have z1_2_8 : w8.cell? ⟨w6.heap.size, 2, none⟩ = some (.slice B2 n1 d2') := K1_8.out.cell 2
  have HXB3 := Lib.hid (own_at hob3)
  clear hob3
  have R9_8 := Lib.hid hrb3
  clear hrb3
  go_wp2_with fail
  refine (copyints_any Aw n1 cw _ us _ R4_8.out (Nat.le_refl _) (by omega)).mono ?_
  rintro e w9 ⟨B4, d4', rfl, hb, hrb4, hob4⟩
  have HB9 := Lib.hid (show Below w.heap.size w w9 from step_below hb (by repeat' (first | exact Below.refl _ _ | exact HB8.out | refine below_drewN ?_ _ | refine Below.drew ?_ | refine Below.alloc ?_ (by first | omega | (simp; done) | (simp; omega) | (simp [World.setCell]; omega)) _ | refine Below.setCell ?_ (by first | omega | (simp; done) | (simp; omega)) _ | assumption)))
  have K0_9 := Lib.hid (step_blk hb (show Blk _ (w.heap.size) 25 #[.slice A1 n1 c1, .slice A2 n2 c2, .slice A3 n3 c3] by repeat' (first | exact K0_8.out | exact K1_8.out | exact Blk.at_ _ (by first | rfl | (simp; done) | (simp; omega)) _ _ | refine Blk.drewN ?_ _ | refine Blk.drew ?_ | refine Blk.alloc ?_ _ | refine Blk.far ?_ (by first | omega | (simp; done) | (simp; omega)) _ | assumption)))
  have K1_9 := Lib.hid (step_blk hb (show Blk _ (w6.heap.size) 36 #[.slice none 0 0, .slice B1 n1 d1', .slice B2 n1 d2'] by repeat' (first | exact K0_8.out | exact K1_8.out | exact Blk.at_ _ (by first | rfl | (simp; done) | (simp; omega)) _ _ | refine Blk.drewN ?_ _ | refine Blk.drew ?_ | refine Blk.alloc ?_ _ | refine Blk.far ?_ (by first | omega | (simp; done) | (simp; omega)) _ | assumption)))
  have hL9 := Lib.hid (show Below w8.heap.size w8 _ from reads_mid hb (by repeat' (first | exact Below.refl _ _ | refine below_drewN ?_ _ | refine Below.drew ?_ | refine Below.alloc ?_ (by first | omega | (simp; done) | (simp; omega) | (simp [World.setCell]; omega)) _ | refine Below.setCell ?_ (by first | omega | (simp; done) | (simp; omega)) _)))
  have R3_9 := Lib.hid (reads_lay hb hL9.out R3_8.out)
  have R4_9 := Lib.hid (reads_lay hb hL9.out R4_8.out)
  have R6_9 := Lib.hid (reads_lay hb hL9.out R6_8.out)
  have R7_9 := Lib.hid (reads_lay hb hL9.out R7_8.out)
  have R8_9 := Lib.hid (reads_lay hb hL9.out R8_8.out)
  have R9_9 := Lib.hid (reads_lay hb hL9.out R9_8.out)
  clear hL9 R3_8 R4_8 R6_8 R7_8 R8_8 R9_8
  have hz9 := hb.size
  try simp only [World.size_alloc, World.drewN, World.drew] at hz9
  clear hb K0_8 K1_8 z0_0_8 z0_1_8 z0_2_8 l0_8 z1_0_8 z1_1_8 z1_2_8 l1_8
  have l0_9 : w.heap.size < w9.heap.size := K0_9.out.lt
  have z0_0_9 : w9.cell? ⟨w.heap.size, 0, none⟩ = some (.slice A1 n1 c1) := K0_9.out.cell 0
  have z0_1_9 : w9.cell? ⟨w.heap.size, 1, none⟩ = some (.slice A2 n2 c2) := K0_9.out.cell 1
  have z0_2_9 : w9.cell? ⟨w.heap.size, 2, none⟩ = some (.slice A3 n3 c3) := K0_9.out.cell 2
  have l1_9 : w6.heap.size < w9.heap.size := K1_9.out.lt
  have z1_0_9 : w9.cell? ⟨w6.heap.size, 0, none⟩ = some (.slice none 0 0) := K1_9.out.cell 0
  have z1_1_9 : w9.cell? ⟨w6.heap.size, 1, none⟩ = some (.slice B1 n1 d1') := K1_9.out.cell 1
  have z1_2_9 : w9.cell? ⟨w6.heap.size, 2, none⟩ = some (.slice B2 n1 d2') := K1_9.out.cell 2
  have HXB4 := Lib.hid (own_at hob4)
  clear hob4
  have R10_9 := Lib.hid hrb4
  clear hrb4
  go_wp2_with fail
  clear R3_9 R4_9
  generalize hwn : (w9.alloc (.cells #[.slice none 0 0, .slice B3 n1 d3', .slice B4 n1 d4'] 36)) = w10
  have hbn : Below w9.heap.size w9 w10 := by rw [← hwn]; repeat' (first | exact Below.refl _ _ | refine below_drewN ?_ _ | refine Below.drew ?_ | refine Below.alloc ?_ (by first | omega | (simp; done) | (simp; omega) | (simp [World.setCell]; omega)) _ | refine Below.setCell ?_ (by first | omega | (simp; done) | (simp; omega)) _)
  have HB10 := Lib.hid (show Below w.heap.size w w10 from HB9.out.trans (hbn.mono HB9.out.size))
  have K0_10 := Lib.hid (step_blk hbn K0_9.out)
  have K1_10 := Lib.hid (step_blk hbn K1_9.out)
  have K2_10 := Lib.hid (show Blk w10 (w9.heap.size) 36 #[.slice none 0 0, .slice B3 n1 d3', .slice B4 n1 d4'] by rw [← hwn]; repeat' (first | exact Blk.at_ _ (by first | rfl | (simp; done) | (simp; omega)) _ _ | refine Blk.drewN ?_ _ | refine Blk.drew ?_ | refine Blk.alloc ?_ _ | refine Blk.far ?_ (by first | omega | (simp; done) | (simp; omega)) _ | assumption))
  have R6_10 := Lib.hid ((R6_9.out.below hbn).more hbn.size)
  have R7_10 := Lib.hid ((R7_9.out.below hbn).more hbn.size)
  have R8_10 := Lib.hid ((R8_9.out.below hbn).more hbn.size)
  have R9_10 := Lib.hid ((R9_9.out.below hbn).more hbn.size)
  have R10_10 := Lib.hid ((R10_9.out.below hbn).more hbn.size)
  have HN10 := Lib.hid hbn
  have hz10 := hbn.size
  clear hwn hbn K0_9 l0_9 z0_0_9 z0_1_9 z0_2_9 K1_9 l1_9 z1_0_9 z1_1_9 z1_2_9 R6_9 R7_9 R8_9 R9_9 R10_9
  have l0_10 : w.heap.size < w10.heap.size := K0_10.out.lt
  have z0_0_10 : w10.cell? ⟨w.heap.size, 0, none⟩ = some (.slice A1 n1 c1) := K0_10.out.cell 0
  have z0_1_10 : w10.cell? ⟨w.heap.size, 1, none⟩ = some (.slice A2 n2 c2) := K0_10.out.cell 1
  have z0_2_10 : w10.cell? ⟨w.heap.size, 2, none⟩ = some (.slice A3 n3 c3) := K0_10.out.cell 2
  have l1_10 : w6.heap.size < w10.heap.size := K1_10.out.lt
  have z1_0_10 : w10.cell? ⟨w6.heap.size, 0, none⟩ = some (.slice none 0 0) := K1_10.out.cell 0
  have z1_1_10 : w10.cell? ⟨w6.heap.size, 1, none⟩ = some (.slice B1 n1 d1') := K1_10.out.cell 1
  have z1_2_10 : w10.cell? ⟨w6.heap.size, 2, none⟩ = some (.slice B2 n1 d2') := K1_10.out.cell 2
  have l2_10 : w9.heap.size < w10.heap.size := K2_10.out.lt
  have z2_0_10 : w10.cell? ⟨w9.heap.size, 0, none⟩ = some (.slice none 0 0) := K2_10.out.cell 0
  have z2_1_10 : w10.cell? ⟨w9.heap.size, 1, none⟩ = some (.slice B3 n1 d3') := K2_10.out.cell 1
  have z2_2_10 : w10.cell? ⟨w9.heap.size, 2, none⟩ = some (.slice B4 n1 d4') := K2_10.out.cell 2
  have hsz1 := l1_10
  have hsz2 := l2_10
  have hne : w6.heap.size < w9.heap.size := by omega
  have HBX := HB10
  have RBOX := R6_10
  have RQ := R7_10
  have RW := R8_10
  have RQ2 := R9_10
  have RW2 := R10_10
  have KM := K1_10
  have KU := K2_10
  clear R6_10 R7_10 R8_10 R9_10 R10_10
  go_loopw [15] (fun x wr => ∃ (va vb : Value) (k0 : Nat), k0 ≤ n1 ∧ x = .int .i64 k0 ∧ Tch (fun q => q = w6.heap.size ∨ q = w9.heap.size) w10 wr ∧ Blk wr w6.heap.size 36 #[va, .slice B1 n1 d1', .slice B2 n1 d2'] ∧ Blk wr w9.heap.size 36 #[vb, .slice B3 n1 d3', .slice B4 n1 d4'] ∧ wr.ownsRow w10.heap.size 3 1 va k0 ((hiL T k0).map (.int .i64)) ∧ wr.ownsRow w10.heap.size 3 1 vb k0 ((raiseL (hiL T k0)).map (.int .i64)) ∧ (∀ q, va.ownBlock = some q → vb.ownBlock ≠ some q) ∧ (∀ z ∈ hiL T k0, -90000 ≤ z ∧ z ≤ 90000)) (fun x _ => n1 - (intOf x).toNat)
  case atStart => exact ⟨.slice none 0 0, .slice none 0 0, 0, by omega, rfl, Tch.refl _ _, KM.out, KU.out, World.ownsRow_nil _ _ _ _, World.ownsRow_nil _ _ _ _, (show ∀ q, (Value.slice none 0 0).ownBlock = some q → (Value.slice none 0 0).ownBlock ≠ some q from fun q hq => by cases hq), (show ∀ z ∈ hiL T 0, -90000 ≤ z ∧ z ≤ 90000 from fun z hz => by simp [hiL] at hz)⟩
  case round =>
    obtain ⟨va, vb, k0, hi, rfl, htc, hkm, hku, hoa, hob, hsp, hin⟩ := hrel
    obtain ⟨w11, hnm⟩ : ∃ z : World, z = wr := ⟨_, rfl⟩
    subst hnm
    have hw11 := htc.size
    have hrbox := (reads_tch RBOX.out htc (fun b o e => by have := HXA.out b o e; omega))
    have HTC := Lib.hid htc
    have HKM := Lib.hid hkm
    have HKU := Lib.hid hku
    have HOA := Lib.hid hoa
    have HOB := Lib.hid hob
    have HSP := Lib.hid hsp
    have HIN := Lib.hid hin
    clear htc hkm hku hoa hob hsp hin
    obtain ⟨Av, cv, rfl, -⟩ := own_reads HOA.out
    obtain ⟨Bv, dv, rfl, -⟩ := own_reads HOB.out
    by_cases hlt : k0 < n1
    rotate_left
    · obtain rfl : n1 = k0 := by omega
      have hbw : Below w.heap.size w w11 := HBX.out.trans (HTC.out.below (B := w.heap.size) (fun q hq => by rcases hq with h | h <;> (have := HBX.out.size; omega)) (by have := HBX.out.size; omega))
      have r1 := own_reads2 HOA.out
      have r4 := own_reads2 HOB.out
      have r2 := (reads_tch RQ.out HTC.out (fun b o e => by have := HXB1.out b o e; omega)).more hw11
      have r3 := (reads_tch RW.out HTC.out (fun b o e => by have := HXB2.out b o e; omega)).more hw11
      have r5 := (reads_tch RQ2.out HTC.out (fun b o e => by have := HXB3.out b o e; omega)).more hw11
      have r6 := (reads_tch RW2.out HTC.out (fun b o e => by have := HXB4.out b o e; omega)).more hw11
      have km := HKM.out
      have ku := HKU.out
      have hin := HIN.out
      clear HKM HKU HIN HTC HXA HXB1 HXB2 HXB3 HXB4 RQ RW RQ2 RW2 RBOX KM KU HOA HOB HSP hrbox
      obtain ⟨E, hE⟩ : ∃ E, mapErr (hiL T n1) qs us = E := ⟨_, rfl⟩
      have HE := Lib.hid hE
      by_cases hE0 : E = 0
      rotate_left
      · skip
        have d9 : (E != 0) = true := by simpa using hE0
        clear hE hE0 r4 r5 r6 hin
        have HB11 := Lib.hid hbw
        have K0_11 := Lib.hid (show Blk w11 (w6.heap.size) 36 #[.slice Av n1 cv, .slice B1 n1 d1', .slice B2 n1 d2'] from km)
        have K1_11 := Lib.hid (show Blk w11 (w9.heap.size) 36 #[.slice Bv n1 dv, .slice B3 n1 d3', .slice B4 n1 d4'] from ku)
        clear hbw km ku
        have l0_11 : w6.heap.size < w11.heap.size := K0_11.out.lt
        have z0_0_11 : w11.cell? ⟨w6.heap.size, 0, none⟩ = some (.slice Av n1 cv) := K0_11.out.cell 0
        have z0_1_11 : w11.cell? ⟨w6.heap.size, 1, none⟩ = some (.slice B1 n1 d1') := K0_11.out.cell 1
        have z0_2_11 : w11.cell? ⟨w6.heap.size, 2, none⟩ = some (.slice B2 n1 d2') := K0_11.out.cell 2
        have l1_11 : w9.heap.size < w11.heap.size := K1_11.out.lt
        have z1_0_11 : w11.cell? ⟨w9.heap.size, 0, none⟩ = some (.slice Bv n1 dv) := K1_11.out.cell 0
        have z1_1_11 : w11.cell? ⟨w9.heap.size, 1, none⟩ = some (.slice B3 n1 d3') := K1_11.out.cell 1
        have z1_2_11 : w11.cell? ⟨w9.heap.size, 2, none⟩ = some (.slice B4 n1 d4') := K1_11.out.cell 2
        have R0_11 := Lib.hid r1
        clear r1
        have R1_11 := Lib.hid r2
        clear r2
        have R2_11 := Lib.hid r3
        clear r3
        go_wp2_with fail
        refine (rcheckmap_is Av n1 cv _ B1 n1 d1' qs B2 n1 d2' us E HE.out _ R0_11.out R1_11.out R2_11.out (by omega) (by omega) (by omega)).mono ?_
        rintro e w12 ⟨rfl, hb⟩
        have HB12 := Lib.hid (show Below w.heap.size w w12 from step_below hb (by repeat' (first | exact Below.refl _ _ | exact HB11.out | refine below_drewN ?_ _ | refine Below.drew ?_ | refine Below.alloc ?_ (by first | omega | (simp; done) | (simp; omega) | (simp [World.setCell]; omega)) _ | refine Below.setCell ?_ (by first | omega | (simp; done) | (simp; omega)) _ | assumption)))
        have K0_12 := Lib.hid (step_blk hb (show Blk _ (w6.heap.size) 36 #[.slice Av n1 cv, .slice B1 n1 d1', .slice B2 n1 d2'] by repeat' (first | exact K0_11.out | exact K1_11.out | exact Blk.at_ _ (by first | rfl | (simp; done) | (simp; omega)) _ _ | refine Blk.drewN ?_ _ | refine Blk.drew ?_ | refine Blk.alloc ?_ _ | refine Blk.far ?_ (by first | omega | (simp; done) | (simp; omega)) _ | assumption)))
        have K1_12 := Lib.hid (step_blk hb (show Blk _ (w9.heap.size) 36 #[.slice Bv n1 dv, .slice B3 n1 d3', .slice B4 n1 d4'] by repeat' (first | exact K0_11.out | exact K1_11.out | exact Blk.at_ _ (by first | rfl | (simp; done) | (simp; omega)) _ _ | refine Blk.drewN ?_ _ | refine Blk.drew ?_ | refine Blk.alloc ?_ _ | refine Blk.far ?_ (by first | omega | (simp; done) | (simp; omega)) _ | assumption)))
        have hL12 := Lib.hid (show Below w11.heap.size w11 _ from reads_mid hb (by repeat' (first | exact Below.refl _ _ | refine below_drewN ?_ _ | refine Below.drew ?_ | refine Below.alloc ?_ (by first | omega | (simp; done) | (simp; omega) | (simp [World.setCell]; omega)) _ | refine Below.setCell ?_ (by first | omega | (simp; done) | (simp; omega)) _)))
        have R0_12 := Lib.hid (reads_lay hb hL12.out R0_11.out)
        have R1_12 := Lib.hid (reads_lay hb hL12.out R1_11.out)
        have R2_12 := Lib.hid (reads_lay hb hL12.out R2_11.out)
        clear hL12 R0_11 R1_11 R2_11
        have hz12 := hb.size
        try simp only [World.size_alloc, World.drewN, World.drew] at hz12
        clear hb K0_11 K1_11 z0_0_11 z0_1_11 z0_2_11 l0_11 z1_0_11 z1_1_11 z1_2_11 l1_11
        have l0_12 : w6.heap.size < w12.heap.size := K0_12.out.lt
        have z0_0_12 : w12.cell? ⟨w6.heap.size, 0, none⟩ = some (.slice Av n1 cv) := K0_12.out.cell 0
        have z0_1_12 : w12.cell? ⟨w6.heap.size, 1, none⟩ = some (.slice B1 n1 d1') := K0_12.out.cell 1
        have z0_2_12 : w12.cell? ⟨w6.heap.size, 2, none⟩ = some (.slice B2 n1 d2') := K0_12.out.cell 2
        have l1_12 : w9.heap.size < w12.heap.size := K1_12.out.lt
        have z1_0_12 : w12.cell? ⟨w9.heap.size, 0, none⟩ = some (.slice Bv n1 dv) := K1_12.out.cell 0
        have z1_1_12 : w12.cell? ⟨w9.heap.size, 1, none⟩ = some (.slice B3 n1 d3') := K1_12.out.cell 1
        have z1_2_12 : w12.cell? ⟨w9.heap.size, 2, none⟩ = some (.slice B4 n1 d4') := K1_12.out.cell 2
        go_wp2
        go_ret
        exact ⟨rfl, by repeat' (first | exact Below.refl _ _ | exact HB12.out | refine below_drewN ?_ _ | refine Below.drew ?_ | refine Below.alloc ?_ (by first | omega | (simp; done) | (simp; omega) | (simp [World.setCell]; omega)) _ | refine Below.setCell ?_ (by first | omega | (simp; done) | (simp; omega)) _ | assumption)⟩
      subst hE0
      have hE2 := raise_ok hE hin
      obtain ⟨-, -, b1, o1, b2, o2, b3, o3, ea, eb, ec, hat, hok, hw1⟩ := rm_of hE cv d1' d2' r1 r2 r3
      obtain ⟨-, -, b4, o4, b5, o5, b6, o6, ed, ee, ef, hat2, hok2, -⟩ := rm_of hE2 dv d3' d4' r4 r5 r6
      subst ea eb ec ed ee ef
      have hck := ck_of hE (c1 := cv) (c2 := d1') (c3 := d2') r1 r2 r3 (by omega)
      have hck2 := ck_of hE2 (c1 := dv) (c2 := d3') (c3 := d4') r4 r5 r6 (by omega)
      obtain ⟨x9, hv9, hn9, hup, hok9, hat9, hck9⟩ := raise_up (b1 := b1) (o1 := o1) (c1 := cv) (b2 := b2) (o2 := o2) (c2 := d1') (b3 := b3) (o3 := o3) (c3 := d2') (hiL_len T n1) hat2 hok2 hck2
      obtain ⟨m, hm⟩ : ∃ m, rmL n1 b1 o1 cv b2 o2 d1' b3 o3 d2' (hiL T n1) qs us = m := ⟨_, rfl⟩
      have hmv : m.val = .agg #[.slice (some ⟨b1, o1, none⟩) n1 cv, .slice (some ⟨b2, o2, none⟩) n1 d1', .slice (some ⟨b3, o3, none⟩) n1 d2'] := by rw [← hm]; rfl
      have hmn : m.n = n1 := by rw [← hm]; rfl
      rw [hm] at hat hok hck hup
      have hw1' : 1 ≤ m.sw m.n := by rw [hm] at hw1; rw [hmn]; exact hw1
      obtain ⟨a, b, c, d, x, y, sn, sv, hli⟩ := line_is hok hw1'
      have hn19 : m.n < 20 := by omega
      have hn19' : x9.n < 20 := by omega
      have k1 := fun w' (hb : Below w11.heap.size w11 w') => Reference_ok m hok hn19 a b c d x y hli.ref w' (hat.lay hb) (hck.lay hb)
      have k2 := fun w' (hb : Below w11.heap.size w11 w') => cref_is m hok a b c d (x : Int) (y : Int) hli.err hli.ia hli.ib hli.ic hli.jd hli.ix hli.iy (0, 0) hli.acc w' (hat.lay hb) (hck.lay hb)
      have k3 := fun w' (hb : Below w11.heap.size w11 w') => least_ok m hok hn19 w' (hat.lay hb) (hck.lay hb) sn sv hli.num hli.den
      have k4 := fun w' (hb : Below w11.heap.size w11 w') => least_ok x9 hok9 hn19' w' (hat9.lay hb) (hck9.lay hb) sn sv (by rw [hup.n, hup.lsum hok, hup.lwhole hok]; exact hli.num) (by rw [hup.n, hup.lsum hok, hup.lwhole hok]; exact hli.den)
      have hv9' : x9.val = .agg #[.slice (some ⟨b4, o4, none⟩) n1 dv, .slice (some ⟨b5, o5, none⟩) n1 d3', .slice (some ⟨b6, o6, none⟩) n1 d4'] := by rw [hv9]; rfl
      rw [hmv] at k1 k2 k3
      rw [hv9'] at k4
      have K1 := Lib.hid k1
      have K2 := Lib.hid k2
      have K3 := Lib.hid k3
      have K4 := Lib.hid k4
      have d3 : decide (0 ≤ sn) = true := by simpa using hli.pos
      clear hE hE2 hat hok hw1 hw1' hat2 hok2 hck hck2 hv9 hn9 hup hok9 hat9 hck9 hm hmv hmn hli hn19 hn19' k1 k2 k3 k4 hv9' r4 r5 r6 hin
      have HB11 := Lib.hid hbw
      have K0_11 := Lib.hid (show Blk w11 (w6.heap.size) 36 #[.slice (some ⟨b1, o1, none⟩) n1 cv, .slice (some ⟨b2, o2, none⟩) n1 d1', .slice (some ⟨b3, o3, none⟩) n1 d2'] from km)
      have K1_11 := Lib.hid (show Blk w11 (w9.heap.size) 36 #[.slice (some ⟨b4, o4, none⟩) n1 dv, .slice (some ⟨b5, o5, none⟩) n1 d3', .slice (some ⟨b6, o6, none⟩) n1 d4'] from ku)
      clear hbw km ku
      have l0_11 : w6.heap.size < w11.heap.size := K0_11.out.lt
      have z0_0_11 : w11.cell? ⟨w6.heap.size, 0, none⟩ = some (.slice (some ⟨b1, o1, none⟩) n1 cv) := K0_11.out.cell 0
      have z0_1_11 : w11.cell? ⟨w6.heap.size, 1, none⟩ = some (.slice (some ⟨b2, o2, none⟩) n1 d1') := K0_11.out.cell 1
      have z0_2_11 : w11.cell? ⟨w6.heap.size, 2, none⟩ = some (.slice (some ⟨b3, o3, none⟩) n1 d2') := K0_11.out.cell 2
      have l1_11 : w9.heap.size < w11.heap.size := K1_11.out.lt
      have z1_0_11 : w11.cell? ⟨w9.heap.size, 0, none⟩ = some (.slice (some ⟨b4, o4, none⟩) n1 dv) := K1_11.out.cell 0
      have z1_1_11 : w11.cell? ⟨w9.heap.size, 1, none⟩ = some (.slice (some ⟨b5, o5, none⟩) n1 d3') := K1_11.out.cell 1
      have z1_2_11 : w11.cell? ⟨w9.heap.size, 2, none⟩ = some (.slice (some ⟨b6, o6, none⟩) n1 d4') := K1_11.out.cell 2
      have HA11 := Lib.hid (show Below w11.heap.size w11 w11 from Below.refl _ _)
      have R0_11 := Lib.hid r1
      clear r1
      have R1_11 := Lib.hid r2
      clear r2
      have R2_11 := Lib.hid r3
      clear r3
      go_wp2_with fail
      refine (rcheckmap_is _ n1 cv _ _ n1 d1' qs _ n1 d2' us 0 HE.out _ R0_11.out R1_11.out R2_11.out (by omega) (by omega) (by omega)).mono ?_
      rintro e w12 ⟨rfl, hb⟩
      have HB12 := Lib.hid (show Below w.heap.size w w12 from step_below hb (by repeat' (first | exact Below.refl _ _ | exact HB11.out | refine below_drewN ?_ _ | refine Below.drew ?_ | refine Below.alloc ?_ (by first | omega | (simp; done) | (simp; omega) | (simp [World.setCell]; omega)) _ | refine Below.setCell ?_ (by first | omega | (simp; done) | (simp; omega)) _ | assumption)))
      have K0_12 := Lib.hid (step_blk hb (show Blk _ (w6.heap.size) 36 #[.slice (some ⟨b1, o1, none⟩) n1 cv, .slice (some ⟨b2, o2, none⟩) n1 d1', .slice (some ⟨b3, o3, none⟩) n1 d2'] by repeat' (first | exact K0_11.out | exact K1_11.out | exact Blk.at_ _ (by first | rfl | (simp; done) | (simp; omega)) _ _ | refine Blk.drewN ?_ _ | refine Blk.drew ?_ | refine Blk.alloc ?_ _ | refine Blk.far ?_ (by first | omega | (simp; done) | (simp; omega)) _ | assumption)))
      have K1_12 := Lib.hid (step_blk hb (show Blk _ (w9.heap.size) 36 #[.slice (some ⟨b4, o4, none⟩) n1 dv, .slice (some ⟨b5, o5, none⟩) n1 d3', .slice (some ⟨b6, o6, none⟩) n1 d4'] by repeat' (first | exact K0_11.out | exact K1_11.out | exact Blk.at_ _ (by first | rfl | (simp; done) | (simp; omega)) _ _ | refine Blk.drewN ?_ _ | refine Blk.drew ?_ | refine Blk.alloc ?_ _ | refine Blk.far ?_ (by first | omega | (simp; done) | (simp; omega)) _ | assumption)))
      have hL12 := Lib.hid (show Below w11.heap.size w11 _ from reads_mid hb (by repeat' (first | exact Below.refl _ _ | refine below_drewN ?_ _ | refine Below.drew ?_ | refine Below.alloc ?_ (by first | omega | (simp; done) | (simp; omega) | (simp [World.setCell]; omega)) _ | refine Below.setCell ?_ (by first | omega | (simp; done) | (simp; omega)) _)))
      have R0_12 := Lib.hid (reads_lay hb hL12.out R0_11.out)
      have R1_12 := Lib.hid (reads_lay hb hL12.out R1_11.out)
      have R2_12 := Lib.hid (reads_lay hb hL12.out R2_11.out)
      clear hL12 R0_11 R1_11 R2_11
      have HA12 := Lib.hid (step_below hb HA11.out)
      clear HA11
      have hz12 := hb.size
      try simp only [World.size_alloc, World.drewN, World.drew] at hz12
      clear hb K0_11 K1_11 z0_0_11 z0_1_11 z0_2_11 l0_11 z1_0_11 z1_1_11 z1_2_11 l1_11
      have l0_12 : w6.heap.size < w12.heap.size := K0_12.out.lt
      have z0_0_12 : w12.cell? ⟨w6.heap.size, 0, none⟩ = some (.slice (some ⟨b1, o1, none⟩) n1 cv) := K0_12.out.cell 0
      have z0_1_12 : w12.cell? ⟨w6.heap.size, 1, none⟩ = some (.slice (some ⟨b2, o2, none⟩) n1 d1') := K0_12.out.cell 1
      have z0_2_12 : w12.cell? ⟨w6.heap.size, 2, none⟩ = some (.slice (some ⟨b3, o3, none⟩) n1 d2') := K0_12.out.cell 2
      have l1_12 : w9.heap.size < w12.heap.size := K1_12.out.lt
      have z1_0_12 : w12.cell? ⟨w9.heap.size, 0, none⟩ = some (.slice (some ⟨b4, o4, none⟩) n1 dv) := K1_12.out.cell 0
      have z1_1_12 : w12.cell? ⟨w9.heap.size, 1, none⟩ = some (.slice (some ⟨b5, o5, none⟩) n1 d3') := K1_12.out.cell 1
      have z1_2_12 : w12.cell? ⟨w9.heap.size, 2, none⟩ = some (.slice (some ⟨b6, o6, none⟩) n1 d4') := K1_12.out.cell 2
      clear R0_12 R1_12 R2_12
      go_wp2_with fail
      refine (K1.out _ HA12.out).mono ?_
      rintro e w13 ⟨rfl, hb⟩
      have HB13 := Lib.hid (show Below w.heap.size w w13 from step_below hb (by repeat' (first | exact Below.refl _ _ | exact HB12.out | refine below_drewN ?_ _ | refine Below.drew ?_ | refine Below.alloc ?_ (by first | omega | (simp; done) | (simp; omega) | (simp [World.setCell]; omega)) _ | refine Below.setCell ?_ (by first | omega | (simp; done) | (simp; omega)) _ | assumption)))
      have K0_13 := Lib.hid (step_blk hb (show Blk _ (w6.heap.size) 36 #[.slice (some ⟨b1, o1, none⟩) n1 cv, .slice (some ⟨b2, o2, none⟩) n1 d1', .slice (some ⟨b3, o3, none⟩) n1 d2'] by repeat' (first | exact K0_12.out | exact K1_12.out | exact Blk.at_ _ (by first | rfl | (simp; done) | (simp; omega)) _ _ | refine Blk.drewN ?_ _ | refine Blk.drew ?_ | refine Blk.alloc ?_ _ | refine Blk.far ?_ (by first | omega | (simp; done) | (simp; omega)) _ | assumption)))
      have K1_13 := Lib.hid (step_blk hb (show Blk _ (w9.heap.size) 36 #[.slice (some ⟨b4, o4, none⟩) n1 dv, .slice (some ⟨b5, o5, none⟩) n1 d3', .slice (some ⟨b6, o6, none⟩) n1 d4'] by repeat' (first | exact K0_12.out | exact K1_12.out | exact Blk.at_ _ (by first | rfl | (simp; done) | (simp; omega)) _ _ | refine Blk.drewN ?_ _ | refine Blk.drew ?_ | refine Blk.alloc ?_ _ | refine Blk.far ?_ (by first | omega | (simp; done) | (simp; omega)) _ | assumption)))
      have hL13 := Lib.hid (show Below w12.heap.size w12 _ from reads_mid hb (by repeat' (first | exact Below.refl _ _ | refine below_drewN ?_ _ | refine Below.drew ?_ | refine Below.alloc ?_ (by first | omega | (simp; done) | (simp; omega) | (simp [World.setCell]; omega)) _ | refine Below.setCell ?_ (by first | omega | (simp; done) | (simp; omega)) _)))
      clear hL13 
      have HA13 := Lib.hid (step_below hb HA12.out)
      clear HA12
      have hz13 := hb.size
      try simp only [World.size_alloc, World.drewN, World.drew] at hz13
      clear hb K0_12 K1_12 z0_0_12 z0_1_12 z0_2_12 l0_12 z1_0_12 z1_1_12 z1_2_12 l1_12
      have l0_13 : w6.heap.size < w13.heap.size := K0_13.out.lt
      have z0_0_13 : w13.cell? ⟨w6.heap.size, 0, none⟩ = some (.slice (some ⟨b1, o1, none⟩) n1 cv) := K0_13.out.cell 0
      have z0_1_13 : w13.cell? ⟨w6.heap.size, 1, none⟩ = some (.slice (some ⟨b2, o2, none⟩) n1 d1') := K0_13.out.cell 1
      have z0_2_13 : w13.cell? ⟨w6.heap.size, 2, none⟩ = some (.slice (some ⟨b3, o3, none⟩) n1 d2') := K0_13.out.cell 2
      have l1_13 : w9.heap.size < w13.heap.size := K1_13.out.lt
      have z1_0_13 : w13.cell? ⟨w9.heap.size, 0, none⟩ = some (.slice (some ⟨b4, o4, none⟩) n1 dv) := K1_13.out.cell 0
      have z1_1_13 : w13.cell? ⟨w9.heap.size, 1, none⟩ = some (.slice (some ⟨b5, o5, none⟩) n1 d3') := K1_13.out.cell 1
      have z1_2_13 : w13.cell? ⟨w9.heap.size, 2, none⟩ = some (.slice (some ⟨b6, o6, none⟩) n1 d4') := K1_13.out.cell 2
      go_wp2_with fail
      generalize hwn : (w13.alloc (.cells #[.int .i64 (a), .int .i64 (b), .int .i64 (c), .int .i64 (d), .int .i64 ((x : Int)), .int .i64 ((y : Int))] 45)) = w14
      have hbn : Below w13.heap.size w13 w14 := by rw [← hwn]; repeat' (first | exact Below.refl _ _ | refine below_drewN ?_ _ | refine Below.drew ?_ | refine Below.alloc ?_ (by first | omega | (simp; done) | (simp; omega) | (simp [World.setCell]; omega)) _ | refine Below.setCell ?_ (by first | omega | (simp; done) | (simp; omega)) _)
      have HB14 := Lib.hid (show Below w.heap.size w w14 from HB13.out.trans (hbn.mono HB13.out.size))
      have K0_14 := Lib.hid (step_blk hbn K0_13.out)
      have K1_14 := Lib.hid (step_blk hbn K1_13.out)
      have K2_14 := Lib.hid (show Blk w14 (w13.heap.size) 45 #[.int .i64 (a), .int .i64 (b), .int .i64 (c), .int .i64 (d), .int .i64 ((x : Int)), .int .i64 ((y : Int))] by rw [← hwn]; repeat' (first | exact Blk.at_ _ (by first | rfl | (simp; done) | (simp; omega)) _ _ | refine Blk.drewN ?_ _ | refine Blk.drew ?_ | refine Blk.alloc ?_ _ | refine Blk.far ?_ (by first | omega | (simp; done) | (simp; omega)) _ | assumption))
      have HA14 := Lib.hid (step_below hbn HA13.out)
      clear HA13
      have HN14 := Lib.hid hbn
      have hz14 := hbn.size
      clear hwn hbn K0_13 l0_13 z0_0_13 z0_1_13 z0_2_13 K1_13 l1_13 z1_0_13 z1_1_13 z1_2_13
      have l0_14 : w6.heap.size < w14.heap.size := K0_14.out.lt
      have z0_0_14 : w14.cell? ⟨w6.heap.size, 0, none⟩ = some (.slice (some ⟨b1, o1, none⟩) n1 cv) := K0_14.out.cell 0
      have z0_1_14 : w14.cell? ⟨w6.heap.size, 1, none⟩ = some (.slice (some ⟨b2, o2, none⟩) n1 d1') := K0_14.out.cell 1
      have z0_2_14 : w14.cell? ⟨w6.heap.size, 2, none⟩ = some (.slice (some ⟨b3, o3, none⟩) n1 d2') := K0_14.out.cell 2
      have l1_14 : w9.heap.size < w14.heap.size := K1_14.out.lt
      have z1_0_14 : w14.cell? ⟨w9.heap.size, 0, none⟩ = some (.slice (some ⟨b4, o4, none⟩) n1 dv) := K1_14.out.cell 0
      have z1_1_14 : w14.cell? ⟨w9.heap.size, 1, none⟩ = some (.slice (some ⟨b5, o5, none⟩) n1 d3') := K1_14.out.cell 1
      have z1_2_14 : w14.cell? ⟨w9.heap.size, 2, none⟩ = some (.slice (some ⟨b6, o6, none⟩) n1 d4') := K1_14.out.cell 2
      have l2_14 : w13.heap.size < w14.heap.size := K2_14.out.lt
      have z2_0_14 : w14.cell? ⟨w13.heap.size, 0, none⟩ = some (.int .i64 (a)) := K2_14.out.cell 0
      have z2_1_14 : w14.cell? ⟨w13.heap.size, 1, none⟩ = some (.int .i64 (b)) := K2_14.out.cell 1
      have z2_2_14 : w14.cell? ⟨w13.heap.size, 2, none⟩ = some (.int .i64 (c)) := K2_14.out.cell 2
      have z2_3_14 : w14.cell? ⟨w13.heap.size, 3, none⟩ = some (.int .i64 (d)) := K2_14.out.cell 3
      have z2_4_14 : w14.cell? ⟨w13.heap.size, 4, none⟩ = some (.int .i64 ((x : Int))) := K2_14.out.cell 4
      have z2_5_14 : w14.cell? ⟨w13.heap.size, 5, none⟩ = some (.int .i64 ((y : Int))) := K2_14.out.cell 5
      refine (K2.out _ HA14.out).mono ?_
      rintro e w15 ⟨rfl, hb⟩
      have HB15 := Lib.hid (show Below w.heap.size w w15 from step_below hb (by repeat' (first | exact Below.refl _ _ | exact HB14.out | refine below_drewN ?_ _ | refine Below.drew ?_ | refine Below.alloc ?_ (by first | omega | (simp; done) | (simp; omega) | (simp [World.setCell]; omega)) _ | refine Below.setCell ?_ (by first | omega | (simp; done) | (simp; omega)) _ | assumption)))
      have K0_15 := Lib.hid (step_blk hb (show Blk _ (w6.heap.size) 36 #[.slice (some ⟨b1, o1, none⟩) n1 cv, .slice (some ⟨b2, o2, none⟩) n1 d1', .slice (some ⟨b3, o3, none⟩) n1 d2'] by repeat' (first | exact K0_14.out | exact K1_14.out | exact K2_14.out | exact Blk.at_ _ (by first | rfl | (simp; done) | (simp; omega)) _ _ | refine Blk.drewN ?_ _ | refine Blk.drew ?_ | refine Blk.alloc ?_ _ | refine Blk.far ?_ (by first | omega | (simp; done) | (simp; omega)) _ | assumption)))
      have K1_15 := Lib.hid (step_blk hb (show Blk _ (w9.heap.size) 36 #[.slice (some ⟨b4, o4, none⟩) n1 dv, .slice (some ⟨b5, o5, none⟩) n1 d3', .slice (some ⟨b6, o6, none⟩) n1 d4'] by repeat' (first | exact K0_14.out | exact K1_14.out | exact K2_14.out | exact Blk.at_ _ (by first | rfl | (simp; done) | (simp; omega)) _ _ | refine Blk.drewN ?_ _ | refine Blk.drew ?_ | refine Blk.alloc ?_ _ | refine Blk.far ?_ (by first | omega | (simp; done) | (simp; omega)) _ | assumption)))
      have K2_15 := Lib.hid (step_blk hb (show Blk _ (w13.heap.size) 45 #[.int .i64 (a), .int .i64 (b), .int .i64 (c), .int .i64 (d), .int .i64 ((x : Int)), .int .i64 ((y : Int))] by repeat' (first | exact K0_14.out | exact K1_14.out | exact K2_14.out | exact Blk.at_ _ (by first | rfl | (simp; done) | (simp; omega)) _ _ | refine Blk.drewN ?_ _ | refine Blk.drew ?_ | refine Blk.alloc ?_ _ | refine Blk.far ?_ (by first | omega | (simp; done) | (simp; omega)) _ | assumption)))
      have hL15 := Lib.hid (show Below w14.heap.size w14 _ from reads_mid hb (by repeat' (first | exact Below.refl _ _ | refine below_drewN ?_ _ | refine Below.drew ?_ | refine Below.alloc ?_ (by first | omega | (simp; done) | (simp; omega) | (simp [World.setCell]; omega)) _ | refine Below.setCell ?_ (by first | omega | (simp; done) | (simp; omega)) _)))
      clear hL15 
      have HA15 := Lib.hid (step_below hb HA14.out)
      clear HA14
      have hz15 := hb.size
      try simp only [World.size_alloc, World.drewN, World.drew] at hz15
      clear hb K0_14 K1_14 K2_14 z0_0_14 z0_1_14 z0_2_14 l0_14 z1_0_14 z1_1_14 z1_2_14 l1_14 z2_0_14 z2_1_14 z2_2_14 z2_3_14 z2_4_14 z2_5_14 l2_14
      have l0_15 : w6.heap.size < w15.heap.size := K0_15.out.lt
      have z0_0_15 : w15.cell? ⟨w6.heap.size, 0, none⟩ = some (.slice (some ⟨b1, o1, none⟩) n1 cv) := K0_15.out.cell 0
      have z0_1_15 : w15.cell? ⟨w6.heap.size, 1, none⟩ = some (.slice (some ⟨b2, o2, none⟩) n1 d1') := K0_15.out.cell 1
      have z0_2_15 : w15.cell? ⟨w6.heap.size, 2, none⟩ = some (.slice (some ⟨b3, o3, none⟩) n1 d2') := K0_15.out.cell 2
      have l1_15 : w9.heap.size < w15.heap.size := K1_15.out.lt
      have z1_0_15 : w15.cell? ⟨w9.heap.size, 0, none⟩ = some (.slice (some ⟨b4, o4, none⟩) n1 dv) := K1_15.out.cell 0
      have z1_1_15 : w15.cell? ⟨w9.heap.size, 1, none⟩ = some (.slice (some ⟨b5, o5, none⟩) n1 d3') := K1_15.out.cell 1
      have z1_2_15 : w15.cell? ⟨w9.heap.size, 2, none⟩ = some (.slice (some ⟨b6, o6, none⟩) n1 d4') := K1_15.out.cell 2
      have l2_15 : w13.heap.size < w15.heap.size := K2_15.out.lt
      have z2_0_15 : w15.cell? ⟨w13.heap.size, 0, none⟩ = some (.int .i64 (a)) := K2_15.out.cell 0
      have z2_1_15 : w15.cell? ⟨w13.heap.size, 1, none⟩ = some (.int .i64 (b)) := K2_15.out.cell 1
      have z2_2_15 : w15.cell? ⟨w13.heap.size, 2, none⟩ = some (.int .i64 (c)) := K2_15.out.cell 2
      have z2_3_15 : w15.cell? ⟨w13.heap.size, 3, none⟩ = some (.int .i64 (d)) := K2_15.out.cell 3
      have z2_4_15 : w15.cell? ⟨w13.heap.size, 4, none⟩ = some (.int .i64 ((x : Int))) := K2_15.out.cell 4
      have z2_5_15 : w15.cell? ⟨w13.heap.size, 5, none⟩ = some (.int .i64 ((y : Int))) := K2_15.out.cell 5
      go_wp2_with fail
      refine (K3.out _ HA15.out).mono ?_
      rintro e w16 ⟨rfl, hb⟩
      have HB16 := Lib.hid (show Below w.heap.size w w16 from step_below hb (by repeat' (first | exact Below.refl _ _ | exact HB15.out | refine below_drewN ?_ _ | refine Below.drew ?_ | refine Below.alloc ?_ (by first | omega | (simp; done) | (simp; omega) | (simp [World.setCell]; omega)) _ | refine Below.setCell ?_ (by first | omega | (simp; done) | (simp; omega)) _ | assumption)))
      have K0_16 := Lib.hid (step_blk hb (show Blk _ (w6.heap.size) 36 #[.slice (some ⟨b1, o1, none⟩) n1 cv, .slice (some ⟨b2, o2, none⟩) n1 d1', .slice (some ⟨b3, o3, none⟩) n1 d2'] by repeat' (first | exact K0_15.out | exact K1_15.out | exact K2_15.out | exact Blk.at_ _ (by first | rfl | (simp; done) | (simp; omega)) _ _ | refine Blk.drewN ?_ _ | refine Blk.drew ?_ | refine Blk.alloc ?_ _ | refine Blk.far ?_ (by first | omega | (simp; done) | (simp; omega)) _ | assumption)))
      have K1_16 := Lib.hid (step_blk hb (show Blk _ (w9.heap.size) 36 #[.slice (some ⟨b4, o4, none⟩) n1 dv, .slice (some ⟨b5, o5, none⟩) n1 d3', .slice (some ⟨b6, o6, none⟩) n1 d4'] by repeat' (first | exact K0_15.out | exact K1_15.out | exact K2_15.out | exact Blk.at_ _ (by first | rfl | (simp; done) | (simp; omega)) _ _ | refine Blk.drewN ?_ _ | refine Blk.drew ?_ | refine Blk.alloc ?_ _ | refine Blk.far ?_ (by first | omega | (simp; done) | (simp; omega)) _ | assumption)))
      have K2_16 := Lib.hid (step_blk hb (show Blk _ (w13.heap.size) 45 #[.int .i64 (a), .int .i64 (b), .int .i64 (c), .int .i64 (d), .int .i64 ((x : Int)), .int .i64 ((y : Int))] by repeat' (first | exact K0_15.out | exact K1_15.out | exact K2_15.out | exact Blk.at_ _ (by first | rfl | (simp; done) | (simp; omega)) _ _ | refine Blk.drewN ?_ _ | refine Blk.drew ?_ | refine Blk.alloc ?_ _ | refine Blk.far ?_ (by first | omega | (simp; done) | (simp; omega)) _ | assumption)))
      have hL16 := Lib.hid (show Below w15.heap.size w15 _ from reads_mid hb (by repeat' (first | exact Below.refl _ _ | refine below_drewN ?_ _ | refine Below.drew ?_ | refine Below.alloc ?_ (by first | omega | (simp; done) | (simp; omega) | (simp [World.setCell]; omega)) _ | refine Below.setCell ?_ (by first | omega | (simp; done) | (simp; omega)) _)))
      clear hL16 
      have HA16 := Lib.hid (step_below hb HA15.out)
      clear HA15
      have hz16 := hb.size
      try simp only [World.size_alloc, World.drewN, World.drew] at hz16
      clear hb K0_15 K1_15 K2_15 z0_0_15 z0_1_15 z0_2_15 l0_15 z1_0_15 z1_1_15 z1_2_15 l1_15 z2_0_15 z2_1_15 z2_2_15 z2_3_15 z2_4_15 z2_5_15 l2_15
      have l0_16 : w6.heap.size < w16.heap.size := K0_16.out.lt
      have z0_0_16 : w16.cell? ⟨w6.heap.size, 0, none⟩ = some (.slice (some ⟨b1, o1, none⟩) n1 cv) := K0_16.out.cell 0
      have z0_1_16 : w16.cell? ⟨w6.heap.size, 1, none⟩ = some (.slice (some ⟨b2, o2, none⟩) n1 d1') := K0_16.out.cell 1
      have z0_2_16 : w16.cell? ⟨w6.heap.size, 2, none⟩ = some (.slice (some ⟨b3, o3, none⟩) n1 d2') := K0_16.out.cell 2
      have l1_16 : w9.heap.size < w16.heap.size := K1_16.out.lt
      have z1_0_16 : w16.cell? ⟨w9.heap.size, 0, none⟩ = some (.slice (some ⟨b4, o4, none⟩) n1 dv) := K1_16.out.cell 0
      have z1_1_16 : w16.cell? ⟨w9.heap.size, 1, none⟩ = some (.slice (some ⟨b5, o5, none⟩) n1 d3') := K1_16.out.cell 1
      have z1_2_16 : w16.cell? ⟨w9.heap.size, 2, none⟩ = some (.slice (some ⟨b6, o6, none⟩) n1 d4') := K1_16.out.cell 2
      have l2_16 : w13.heap.size < w16.heap.size := K2_16.out.lt
      have z2_0_16 : w16.cell? ⟨w13.heap.size, 0, none⟩ = some (.int .i64 (a)) := K2_16.out.cell 0
      have z2_1_16 : w16.cell? ⟨w13.heap.size, 1, none⟩ = some (.int .i64 (b)) := K2_16.out.cell 1
      have z2_2_16 : w16.cell? ⟨w13.heap.size, 2, none⟩ = some (.int .i64 (c)) := K2_16.out.cell 2
      have z2_3_16 : w16.cell? ⟨w13.heap.size, 3, none⟩ = some (.int .i64 (d)) := K2_16.out.cell 3
      have z2_4_16 : w16.cell? ⟨w13.heap.size, 4, none⟩ = some (.int .i64 ((x : Int))) := K2_16.out.cell 4
      have z2_5_16 : w16.cell? ⟨w13.heap.size, 5, none⟩ = some (.int .i64 ((y : Int))) := K2_16.out.cell 5
      go_wp2_with fail
      generalize hwn : (w16.alloc (.cells #[.int .i64 (sn), .int .i64 (sv)] 42)) = w17
      have hbn : Below w16.heap.size w16 w17 := by rw [← hwn]; repeat' (first | exact Below.refl _ _ | refine below_drewN ?_ _ | refine Below.drew ?_ | refine Below.alloc ?_ (by first | omega | (simp; done) | (simp; omega) | (simp [World.setCell]; omega)) _ | refine Below.setCell ?_ (by first | omega | (simp; done) | (simp; omega)) _)
      have HB17 := Lib.hid (show Below w.heap.size w w17 from HB16.out.trans (hbn.mono HB16.out.size))
      have K0_17 := Lib.hid (step_blk hbn K0_16.out)
      have K1_17 := Lib.hid (step_blk hbn K1_16.out)
      have K2_17 := Lib.hid (step_blk hbn K2_16.out)
      have K3_17 := Lib.hid (show Blk w17 (w16.heap.size) 42 #[.int .i64 (sn), .int .i64 (sv)] by rw [← hwn]; repeat' (first | exact Blk.at_ _ (by first | rfl | (simp; done) | (simp; omega)) _ _ | refine Blk.drewN ?_ _ | refine Blk.drew ?_ | refine Blk.alloc ?_ _ | refine Blk.far ?_ (by first | omega | (simp; done) | (simp; omega)) _ | assumption))
      have HA17 := Lib.hid (step_below hbn HA16.out)
      clear HA16
      have HN17 := Lib.hid hbn
      have hz17 := hbn.size
      clear hwn hbn K0_16 l0_16 z0_0_16 z0_1_16 z0_2_16 K1_16 l1_16 z1_0_16 z1_1_16 z1_2_16 K2_16 l2_16 z2_0_16 z2_1_16 z2_2_16 z2_3_16 z2_4_16 z2_5_16
      have l0_17 : w6.heap.size < w17.heap.size := K0_17.out.lt
      have z0_0_17 : w17.cell? ⟨w6.heap.size, 0, none⟩ = some (.slice (some ⟨b1, o1, none⟩) n1 cv) := K0_17.out.cell 0
      have z0_1_17 : w17.cell? ⟨w6.heap.size, 1, none⟩ = some (.slice (some ⟨b2, o2, none⟩) n1 d1') := K0_17.out.cell 1
      have z0_2_17 : w17.cell? ⟨w6.heap.size, 2, none⟩ = some (.slice (some ⟨b3, o3, none⟩) n1 d2') := K0_17.out.cell 2
      have l1_17 : w9.heap.size < w17.heap.size := K1_17.out.lt
      have z1_0_17 : w17.cell? ⟨w9.heap.size, 0, none⟩ = some (.slice (some ⟨b4, o4, none⟩) n1 dv) := K1_17.out.cell 0
      have z1_1_17 : w17.cell? ⟨w9.heap.size, 1, none⟩ = some (.slice (some ⟨b5, o5, none⟩) n1 d3') := K1_17.out.cell 1
      have z1_2_17 : w17.cell? ⟨w9.heap.size, 2, none⟩ = some (.slice (some ⟨b6, o6, none⟩) n1 d4') := K1_17.out.cell 2
      have l2_17 : w13.heap.size < w17.heap.size := K2_17.out.lt
      have z2_0_17 : w17.cell? ⟨w13.heap.size, 0, none⟩ = some (.int .i64 (a)) := K2_17.out.cell 0
      have z2_1_17 : w17.cell? ⟨w13.heap.size, 1, none⟩ = some (.int .i64 (b)) := K2_17.out.cell 1
      have z2_2_17 : w17.cell? ⟨w13.heap.size, 2, none⟩ = some (.int .i64 (c)) := K2_17.out.cell 2
      have z2_3_17 : w17.cell? ⟨w13.heap.size, 3, none⟩ = some (.int .i64 (d)) := K2_17.out.cell 3
      have z2_4_17 : w17.cell? ⟨w13.heap.size, 4, none⟩ = some (.int .i64 ((x : Int))) := K2_17.out.cell 4
      have z2_5_17 : w17.cell? ⟨w13.heap.size, 5, none⟩ = some (.int .i64 ((y : Int))) := K2_17.out.cell 5
      have l3_17 : w16.heap.size < w17.heap.size := K3_17.out.lt
      have z3_0_17 : w17.cell? ⟨w16.heap.size, 0, none⟩ = some (.int .i64 (sn)) := K3_17.out.cell 0
      have z3_1_17 : w17.cell? ⟨w16.heap.size, 1, none⟩ = some (.int .i64 (sv)) := K3_17.out.cell 1
      refine (K4.out _ HA17.out).mono ?_
      rintro e w18 ⟨rfl, hb⟩
      have HB18 := Lib.hid (show Below w.heap.size w w18 from step_below hb (by repeat' (first | exact Below.refl _ _ | exact HB17.out | refine below_drewN ?_ _ | refine Below.drew ?_ | refine Below.alloc ?_ (by first | omega | (simp; done) | (simp; omega) | (simp [World.setCell]; omega)) _ | refine Below.setCell ?_ (by first | omega | (simp; done) | (simp; omega)) _ | assumption)))
      have K0_18 := Lib.hid (step_blk hb (show Blk _ (w6.heap.size) 36 #[.slice (some ⟨b1, o1, none⟩) n1 cv, .slice (some ⟨b2, o2, none⟩) n1 d1', .slice (some ⟨b3, o3, none⟩) n1 d2'] by repeat' (first | exact K0_17.out | exact K1_17.out | exact K2_17.out | exact K3_17.out | exact Blk.at_ _ (by first | rfl | (simp; done) | (simp; omega)) _ _ | refine Blk.drewN ?_ _ | refine Blk.drew ?_ | refine Blk.alloc ?_ _ | refine Blk.far ?_ (by first | omega | (simp; done) | (simp; omega)) _ | assumption)))
      have K1_18 := Lib.hid (step_blk hb (show Blk _ (w9.heap.size) 36 #[.slice (some ⟨b4, o4, none⟩) n1 dv, .slice (some ⟨b5, o5, none⟩) n1 d3', .slice (some ⟨b6, o6, none⟩) n1 d4'] by repeat' (first | exact K0_17.out | exact K1_17.out | exact K2_17.out | exact K3_17.out | exact Blk.at_ _ (by first | rfl | (simp; done) | (simp; omega)) _ _ | refine Blk.drewN ?_ _ | refine Blk.drew ?_ | refine Blk.alloc ?_ _ | refine Blk.far ?_ (by first | omega | (simp; done) | (simp; omega)) _ | assumption)))
      have K2_18 := Lib.hid (step_blk hb (show Blk _ (w13.heap.size) 45 #[.int .i64 (a), .int .i64 (b), .int .i64 (c), .int .i64 (d), .int .i64 ((x : Int)), .int .i64 ((y : Int))] by repeat' (first | exact K0_17.out | exact K1_17.out | exact K2_17.out | exact K3_17.out | exact Blk.at_ _ (by first | rfl | (simp; done) | (simp; omega)) _ _ | refine Blk.drewN ?_ _ | refine Blk.drew ?_ | refine Blk.alloc ?_ _ | refine Blk.far ?_ (by first | omega | (simp; done) | (simp; omega)) _ | assumption)))
      have K3_18 := Lib.hid (step_blk hb (show Blk _ (w16.heap.size) 42 #[.int .i64 (sn), .int .i64 (sv)] by repeat' (first | exact K0_17.out | exact K1_17.out | exact K2_17.out | exact K3_17.out | exact Blk.at_ _ (by first | rfl | (simp; done) | (simp; omega)) _ _ | refine Blk.drewN ?_ _ | refine Blk.drew ?_ | refine Blk.alloc ?_ _ | refine Blk.far ?_ (by first | omega | (simp; done) | (simp; omega)) _ | assumption)))
      have hL18 := Lib.hid (show Below w17.heap.size w17 _ from reads_mid hb (by repeat' (first | exact Below.refl _ _ | refine below_drewN ?_ _ | refine Below.drew ?_ | refine Below.alloc ?_ (by first | omega | (simp; done) | (simp; omega) | (simp [World.setCell]; omega)) _ | refine Below.setCell ?_ (by first | omega | (simp; done) | (simp; omega)) _)))
      clear hL18 
      have HA18 := Lib.hid (step_below hb HA17.out)
      clear HA17
      have hz18 := hb.size
      try simp only [World.size_alloc, World.drewN, World.drew] at hz18
      clear hb K0_17 K1_17 K2_17 K3_17 z0_0_17 z0_1_17 z0_2_17 l0_17 z1_0_17 z1_1_17 z1_2_17 l1_17 z2_0_17 z2_1_17 z2_2_17 z2_3_17 z2_4_17 z2_5_17 l2_17 z3_0_17 z3_1_17 l3_17
      have l0_18 : w6.heap.size < w18.heap.size := K0_18.out.lt
      have z0_0_18 : w18.cell? ⟨w6.heap.size, 0, none⟩ = some (.slice (some ⟨b1, o1, none⟩) n1 cv) := K0_18.out.cell 0
      have z0_1_18 : w18.cell? ⟨w6.heap.size, 1, none⟩ = some (.slice (some ⟨b2, o2, none⟩) n1 d1') := K0_18.out.cell 1
      have z0_2_18 : w18.cell? ⟨w6.heap.size, 2, none⟩ = some (.slice (some ⟨b3, o3, none⟩) n1 d2') := K0_18.out.cell 2
      have l1_18 : w9.heap.size < w18.heap.size := K1_18.out.lt
      have z1_0_18 : w18.cell? ⟨w9.heap.size, 0, none⟩ = some (.slice (some ⟨b4, o4, none⟩) n1 dv) := K1_18.out.cell 0
      have z1_1_18 : w18.cell? ⟨w9.heap.size, 1, none⟩ = some (.slice (some ⟨b5, o5, none⟩) n1 d3') := K1_18.out.cell 1
      have z1_2_18 : w18.cell? ⟨w9.heap.size, 2, none⟩ = some (.slice (some ⟨b6, o6, none⟩) n1 d4') := K1_18.out.cell 2
      have l2_18 : w13.heap.size < w18.heap.size := K2_18.out.lt
      have z2_0_18 : w18.cell? ⟨w13.heap.size, 0, none⟩ = some (.int .i64 (a)) := K2_18.out.cell 0
      have z2_1_18 : w18.cell? ⟨w13.heap.size, 1, none⟩ = some (.int .i64 (b)) := K2_18.out.cell 1
      have z2_2_18 : w18.cell? ⟨w13.heap.size, 2, none⟩ = some (.int .i64 (c)) := K2_18.out.cell 2
      have z2_3_18 : w18.cell? ⟨w13.heap.size, 3, none⟩ = some (.int .i64 (d)) := K2_18.out.cell 3
      have z2_4_18 : w18.cell? ⟨w13.heap.size, 4, none⟩ = some (.int .i64 ((x : Int))) := K2_18.out.cell 4
      have z2_5_18 : w18.cell? ⟨w13.heap.size, 5, none⟩ = some (.int .i64 ((y : Int))) := K2_18.out.cell 5
      have l3_18 : w16.heap.size < w18.heap.size := K3_18.out.lt
      have z3_0_18 : w18.cell? ⟨w16.heap.size, 0, none⟩ = some (.int .i64 (sn)) := K3_18.out.cell 0
      have z3_1_18 : w18.cell? ⟨w16.heap.size, 1, none⟩ = some (.int .i64 (sv)) := K3_18.out.cell 1
      go_wp2
      generalize hwn : (w18.alloc (.cells #[.int .i64 (sn), .int .i64 (sv)] 42)) = w19
      have hbn : Below w18.heap.size w18 w19 := by rw [← hwn]; repeat' (first | exact Below.refl _ _ | refine below_drewN ?_ _ | refine Below.drew ?_ | refine Below.alloc ?_ (by first | omega | (simp; done) | (simp; omega) | (simp [World.setCell]; omega)) _ | refine Below.setCell ?_ (by first | omega | (simp; done) | (simp; omega)) _)
      have HB19 := Lib.hid (show Below w.heap.size w w19 from HB18.out.trans (hbn.mono HB18.out.size))
      have K0_19 := Lib.hid (step_blk hbn K0_18.out)
      have K1_19 := Lib.hid (step_blk hbn K1_18.out)
      have K2_19 := Lib.hid (step_blk hbn K2_18.out)
      have K3_19 := Lib.hid (step_blk hbn K3_18.out)
      have K4_19 := Lib.hid (show Blk w19 (w18.heap.size) 42 #[.int .i64 (sn), .int .i64 (sv)] by rw [← hwn]; repeat' (first | exact Blk.at_ _ (by first | rfl | (simp; done) | (simp; omega)) _ _ | refine Blk.drewN ?_ _ | refine Blk.drew ?_ | refine Blk.alloc ?_ _ | refine Blk.far ?_ (by first | omega | (simp; done) | (simp; omega)) _ | assumption))
      have HA19 := Lib.hid (step_below hbn HA18.out)
      clear HA18
      have HN19 := Lib.hid hbn
      have hz19 := hbn.size
      clear hwn hbn K0_18 l0_18 z0_0_18 z0_1_18 z0_2_18 K1_18 l1_18 z1_0_18 z1_1_18 z1_2_18 K2_18 l2_18 z2_0_18 z2_1_18 z2_2_18 z2_3_18 z2_4_18 z2_5_18 K3_18 l3_18 z3_0_18 z3_1_18
      have l0_19 : w6.heap.size < w19.heap.size := K0_19.out.lt
      have z0_0_19 : w19.cell? ⟨w6.heap.size, 0, none⟩ = some (.slice (some ⟨b1, o1, none⟩) n1 cv) := K0_19.out.cell 0
      have z0_1_19 : w19.cell? ⟨w6.heap.size, 1, none⟩ = some (.slice (some ⟨b2, o2, none⟩) n1 d1') := K0_19.out.cell 1
      have z0_2_19 : w19.cell? ⟨w6.heap.size, 2, none⟩ = some (.slice (some ⟨b3, o3, none⟩) n1 d2') := K0_19.out.cell 2
      have l1_19 : w9.heap.size < w19.heap.size := K1_19.out.lt
      have z1_0_19 : w19.cell? ⟨w9.heap.size, 0, none⟩ = some (.slice (some ⟨b4, o4, none⟩) n1 dv) := K1_19.out.cell 0
      have z1_1_19 : w19.cell? ⟨w9.heap.size, 1, none⟩ = some (.slice (some ⟨b5, o5, none⟩) n1 d3') := K1_19.out.cell 1
      have z1_2_19 : w19.cell? ⟨w9.heap.size, 2, none⟩ = some (.slice (some ⟨b6, o6, none⟩) n1 d4') := K1_19.out.cell 2
      have l2_19 : w13.heap.size < w19.heap.size := K2_19.out.lt
      have z2_0_19 : w19.cell? ⟨w13.heap.size, 0, none⟩ = some (.int .i64 (a)) := K2_19.out.cell 0
      have z2_1_19 : w19.cell? ⟨w13.heap.size, 1, none⟩ = some (.int .i64 (b)) := K2_19.out.cell 1
      have z2_2_19 : w19.cell? ⟨w13.heap.size, 2, none⟩ = some (.int .i64 (c)) := K2_19.out.cell 2
      have z2_3_19 : w19.cell? ⟨w13.heap.size, 3, none⟩ = some (.int .i64 (d)) := K2_19.out.cell 3
      have z2_4_19 : w19.cell? ⟨w13.heap.size, 4, none⟩ = some (.int .i64 ((x : Int))) := K2_19.out.cell 4
      have z2_5_19 : w19.cell? ⟨w13.heap.size, 5, none⟩ = some (.int .i64 ((y : Int))) := K2_19.out.cell 5
      have l3_19 : w16.heap.size < w19.heap.size := K3_19.out.lt
      have z3_0_19 : w19.cell? ⟨w16.heap.size, 0, none⟩ = some (.int .i64 (sn)) := K3_19.out.cell 0
      have z3_1_19 : w19.cell? ⟨w16.heap.size, 1, none⟩ = some (.int .i64 (sv)) := K3_19.out.cell 1
      have l4_19 : w18.heap.size < w19.heap.size := K4_19.out.lt
      have z4_0_19 : w19.cell? ⟨w18.heap.size, 0, none⟩ = some (.int .i64 (sn)) := K4_19.out.cell 0
      have z4_1_19 : w19.cell? ⟨w18.heap.size, 1, none⟩ = some (.int .i64 (sv)) := K4_19.out.cell 1
      go_ret
      exact ⟨rfl, by repeat' (first | exact Below.refl _ _ | exact HB19.out | refine below_drewN ?_ _ | refine Below.drew ?_ | refine Below.alloc ?_ (by first | omega | (simp; done) | (simp; omega) | (simp [World.setCell]; omega)) _ | refine Below.setCell ?_ (by first | omega | (simp; done) | (simp; omega)) _ | assumption)⟩
    have hii : (k0 : Int) < (n1 : Int) := by omega
    have ei := IntWalk.i64_in ((k0 : Int) + 1) ⟨by omega, by omega⟩
    obtain ⟨bb, bo, ⟨lo, hi2⟩, hAe, hbb, hgi, cb0, cb1⟩ := hrbox.pair hlt
    have hbl := HXA.out bb bo hAe
    subst hAe
    simp only at cb0 cb1
    rw [encR_get _ hlt] at hgi
    obtain rfl : T 0 k0 = hi2 := by
      have := Option.some.inj hgi
      exact (Prod.mk.inj this).2
    obtain ⟨z, hz⟩ : ∃ z, T 0 k0 = z := ⟨_, rfl⟩
    rw [hz] at cb1
    have HZ := Lib.hid hz
    obtain ⟨t, ht⟩ : ∃ t, withinB z (-90000) 90000 = t := ⟨_, rfl⟩
    have HT := Lib.hid ht
    clear hgi hz ht hrbox
    go_wp2_with fail
    refine (withinref_is _ _ _ t HT.out _).mono ?_
    rintro e w' ⟨rfl, rfl⟩
    cases t with
    | false =>
      have HBF := Lib.hid (HBX.out.trans (HTC.out.below (B := w.heap.size) (fun q hq => by rcases hq with h | h <;> (have := HBX.out.size; omega)) (by have := HBX.out.size; omega)))
      go_wp2
      go_ret
      exact ⟨rfl, HBF.out⟩
    | true =>
    have hzz := within_bounds HT.out
    obtain ⟨z7, hz7⟩ : ∃ z7, z + 77 = z7 := ⟨_, rfl⟩
    have e7 : IntKind.i64.wrap (z + 77) = z7 := by rw [hz7]; exact IntWalk.i64_in z7 ⟨by omega, by omega⟩
    have HS1 := Lib.hid (show hiL T (k0 + 1) = hiL T k0 ++ [z] by rw [hiL_succ, HZ.out])
    have HS2 := Lib.hid (show raiseL (hiL T (k0 + 1)) = raiseL (hiL T k0) ++ [z7] by rw [raise_succ, HZ.out, hz7])
    have nc1 : (Value.slice Av k0 cv).ownBlock ≠ some bb := fun e => by have := (own_lt HOA.out e).1; omega
    have nc2 : (Value.slice Bv k0 dv).ownBlock ≠ some bb := fun e => by have := (own_lt HOB.out e).1; omega
    have hbb11 : bb < w11.heap.size := by omega
    clear hz7
    go_wp2_with fail
    obtain ⟨hownA, hownB, hsepAB⟩ := (⟨HOA.out, HOB.out, HSP.out⟩ : _ ∧ _ ∧ _)
    have hblk1 : Blk _ (w6.heap.size) 36 #[.slice Av k0 cv, .slice B1 n1 d1', .slice B2 n1 d2'] := HKM.out
    have hblk2 : Blk _ (w9.heap.size) 36 #[.slice Bv k0 dv, .slice B3 n1 d3', .slice B4 n1 d4'] := HKU.out
    have hnA1 := own_blk_ne hownA hblk1 (by decide)
    have hnA2 := own_blk_ne hownA hblk2 (by decide)
    have hnB1 := own_blk_ne hownB hblk1 (by decide)
    have hnB2 := own_blk_ne hownB hblk2 (by decide)
    apply share5 (Fact := fun (x1 y x2 z' : Pick) (wz : World) => ∃ g w1_, g 8 = some y ∧ g 18 = some z' ∧ Ap (w10.heap.size) 3 3 (.slice Av k0 cv) (.slice Bv k0 dv) (k0) (k0) ((hiL T k0).map (.int .i64)) ((raiseL (hiL T k0)).map (.int .i64)) (.int .i64 (z)) (.int .i64 (z7)) 7 8 17 18 _ g w1_ ∧ wz = (w1_.setCell ⟨w6.heap.size, 0, none⟩ (.slice y.1 (k0 + 1) y.2)).setCell ⟨w9.heap.size, 0, none⟩ (.slice z'.1 (k0 + 1) z'.2))
    · skip
      intro key
      refine Fx.regionM (fun W g f w' => ApS (fun g w1 => Ap (w10.heap.size) 3 3 (.slice Av k0 cv) (.slice Bv k0 dv) (k0) (k0) ((hiL T k0).map (.int .i64)) ((raiseL (hiL T k0)).map (.int .i64)) (.int .i64 (z)) (.int .i64 (z7)) 7 8 17 18 W g w1) 20 22 ⟨w6.heap.size, 0, none⟩ ⟨w9.heap.size, 0, none⟩ (fun g : Nat → Option Pick => rowV (g 8) (.slice Av k0 cv) (k0)) (fun g : Nat → Option Pick => rowV (g 18) (.slice Bv k0 dv) (k0)) g f w') (fun i (x : Pick) => if i = 7 ∨ i = 17 then .slice x.1 1 1 else if i = 8 then .slice x.1 (k0 + 1) x.2 else .slice x.1 (k0 + 1) x.2) (by kernel_rfl) ?_ ?_
      · intro f hf0
        exact ApS.start (Ap.start hownA hownB hsepAB 1) (hf0 20) (hf0 22)
      first
      | (refine Fx.WM.skip 0 (by rfl) (by kernel_rfl) (by kernel_rfl) (by kernel_rfl) (by rfl) (fun g f w h => ApS.same h (by decide) (by decide)) ?_; simp only [Act.put, List.setIfInBounds_toArray, List.set_cons_zero, List.set_cons_succ])
      | (refine Fx.WM.val_ 0 ?_ (by rfl) (by kernel_rfl) (by kernel_rfl) (by kernel_rfl) (by rfl) ?_ (fun g f w h => ApS.same h (by decide) (by decide)) ?_
         rotate_left
         · intro g f w' hx hD hk
           obtain hap := id hD
           clear hx hk hD hap
           go_simp
           try rfl
         simp only [Act.put, List.setIfInBounds_toArray, List.set_cons_zero, List.set_cons_succ])
      first
      | (refine Fx.WM.skip 1 (by rfl) (by kernel_rfl) (by kernel_rfl) (by kernel_rfl) (by rfl) (fun g f w h => ApS.same h (by decide) (by decide)) ?_; simp only [Act.put, List.setIfInBounds_toArray, List.set_cons_zero, List.set_cons_succ])
      | (refine Fx.WM.val_ 1 ?_ (by rfl) (by kernel_rfl) (by kernel_rfl) (by kernel_rfl) (by rfl) ?_ (fun g f w h => ApS.same h (by decide) (by decide)) ?_
         rotate_left
         · intro g f w' hx hD hk
           obtain hap := id hD
           have e1_ : f 20 = false := (hk.2.1 20 (by kernel_rfl))
           have e2_ : f 22 = false := hk.2.1 22 (by kernel_rfl)
           have hA := ApS.early hap e1_ e2_
           have q1 := (hA.blk hblk1 hnA1 hnB1).cell 0
           clear hx hk hD hap hA e1_ e2_
           go_simp
           try rfl
         simp only [Act.put, List.setIfInBounds_toArray, List.set_cons_zero, List.set_cons_succ])
      first
      | (refine Fx.WM.skip 2 (by rfl) (by kernel_rfl) (by kernel_rfl) (by kernel_rfl) (by rfl) (fun g f w h => ApS.same h (by decide) (by decide)) ?_; simp only [Act.put, List.setIfInBounds_toArray, List.set_cons_zero, List.set_cons_succ])
      | (refine Fx.WM.val_ 2 ?_ (by rfl) (by kernel_rfl) (by kernel_rfl) (by kernel_rfl) (by rfl) ?_ (fun g f w h => ApS.same h (by decide) (by decide)) ?_
         rotate_left
         · intro g f w' hx hD hk
           obtain hap := id hD
           clear hx hk hD hap
           go_simp
           try rfl
         simp only [Act.put, List.setIfInBounds_toArray, List.set_cons_zero, List.set_cons_succ])
      first
      | (refine Fx.WM.skip 3 (by rfl) (by kernel_rfl) (by kernel_rfl) (by kernel_rfl) (by rfl) (fun g f w h => ApS.same h (by decide) (by decide)) ?_; simp only [Act.put, List.setIfInBounds_toArray, List.set_cons_zero, List.set_cons_succ])
      | (refine Fx.WM.val_ 3 ?_ (by rfl) (by kernel_rfl) (by kernel_rfl) (by kernel_rfl) (by rfl) ?_ (fun g f w h => ApS.same h (by decide) (by decide)) ?_
         rotate_left
         · intro g f w' hx hD hk
           obtain hap := id hD
           clear hx hk hD hap
           go_simp
           try rfl
         simp only [Act.put, List.setIfInBounds_toArray, List.set_cons_zero, List.set_cons_succ])
      first
      | (refine Fx.WM.skip 4 (by rfl) (by kernel_rfl) (by kernel_rfl) (by kernel_rfl) (by rfl) (fun g f w h => ApS.same h (by decide) (by decide)) ?_; simp only [Act.put, List.setIfInBounds_toArray, List.set_cons_zero, List.set_cons_succ])
      | (refine Fx.WM.val_ 4 ?_ (by rfl) (by kernel_rfl) (by kernel_rfl) (by kernel_rfl) (by rfl) ?_ (fun g f w h => ApS.same h (by decide) (by decide)) ?_
         rotate_left
         · intro g f w' hx hD hk
           obtain hap := id hD
           clear hx hk hD hap
           go_simp
           try rfl
         simp only [Act.put, List.setIfInBounds_toArray, List.set_cons_zero, List.set_cons_succ])
      first
      | (refine Fx.WM.skip 5 (by rfl) (by kernel_rfl) (by kernel_rfl) (by kernel_rfl) (by rfl) (fun g f w h => ApS.same h (by decide) (by decide)) ?_; simp only [Act.put, List.setIfInBounds_toArray, List.set_cons_zero, List.set_cons_succ])
      | (refine Fx.WM.val_ 5 ?_ (by rfl) (by kernel_rfl) (by kernel_rfl) (by kernel_rfl) (by rfl) ?_ (fun g f w h => ApS.same h (by decide) (by decide)) ?_
         rotate_left
         · intro g f w' hx hD hk
           obtain hap := id hD
           clear hx hk hD hap
           go_simp
           try rfl
         simp only [Act.put, List.setIfInBounds_toArray, List.set_cons_zero, List.set_cons_succ])
      first
      | (refine Fx.WM.skip 6 (by rfl) (by kernel_rfl) (by kernel_rfl) (by kernel_rfl) (by rfl) (fun g f w h => ApS.same h (by decide) (by decide)) ?_; simp only [Act.put, List.setIfInBounds_toArray, List.set_cons_zero, List.set_cons_succ])
      | (refine Fx.WM.val_ 6 ?_ (by rfl) (by kernel_rfl) (by kernel_rfl) (by kernel_rfl) (by rfl) ?_ (fun g f w h => ApS.same h (by decide) (by decide)) ?_
         rotate_left
         · intro g f w' hx hD hk
           obtain hap := id hD
           have e1_ : f 20 = false := (hk.2.1 20 (by kernel_rfl))
           have e2_ : f 22 = false := hk.2.1 22 (by kernel_rfl)
           have hA := ApS.early hap e1_ e2_
           have q1 : w'.cell? ⟨bb, bo + k0 * 2 + 1, none⟩ = some (.int .i64 z) := (World.cell?_of_block (hA.keep _ hbb11 nc1 nc2)).trans cb1
           clear hx hk hD hap hA e1_ e2_
           go_simp
           try rfl
         simp only [Act.put, List.setIfInBounds_toArray, List.set_cons_zero, List.set_cons_succ])
      first
      | (refine Fx.WM.skip 9 (by rfl) (by kernel_rfl) (by kernel_rfl) (by kernel_rfl) (by rfl) (fun g f w h => ApS.same h (by decide) (by decide)) ?_; simp only [Act.put, List.setIfInBounds_toArray, List.set_cons_zero, List.set_cons_succ])
      | (refine Fx.WM.val_ 9 ?_ (by rfl) (by kernel_rfl) (by kernel_rfl) (by kernel_rfl) (by rfl) ?_ (fun g f w h => ApS.same h (by decide) (by decide)) ?_
         rotate_left
         · intro g f w' hx hD hk
           obtain hap := id hD
           clear hx hk hD hap
           go_simp
           try rfl
         simp only [Act.put, List.setIfInBounds_toArray, List.set_cons_zero, List.set_cons_succ])
      first
      | (refine Fx.WM.skip 10 (by rfl) (by kernel_rfl) (by kernel_rfl) (by kernel_rfl) (by rfl) (fun g f w h => ApS.same h (by decide) (by decide)) ?_; simp only [Act.put, List.setIfInBounds_toArray, List.set_cons_zero, List.set_cons_succ])
      | (refine Fx.WM.val_ 10 ?_ (by rfl) (by kernel_rfl) (by kernel_rfl) (by kernel_rfl) (by rfl) ?_ (fun g f w h => ApS.same h (by decide) (by decide)) ?_
         rotate_left
         · intro g f w' hx hD hk
           obtain hap := id hD
           have e1_ : f 20 = false := (hk.un 20 18 (by kernel_rfl) (hk.2.1 18 (by kernel_rfl)))
           have e2_ : f 22 = false := hk.2.1 22 (by kernel_rfl)
           have hA := ApS.early hap e1_ e2_
           have q1 := (hA.blk hblk2 hnA2 hnB2).cell 0
           clear hx hk hD hap hA e1_ e2_
           go_simp
           try rfl
         simp only [Act.put, List.setIfInBounds_toArray, List.set_cons_zero, List.set_cons_succ])
      first
      | (refine Fx.WM.skip 11 (by rfl) (by kernel_rfl) (by kernel_rfl) (by kernel_rfl) (by rfl) (fun g f w h => ApS.same h (by decide) (by decide)) ?_; simp only [Act.put, List.setIfInBounds_toArray, List.set_cons_zero, List.set_cons_succ])
      | (refine Fx.WM.val_ 11 ?_ (by rfl) (by kernel_rfl) (by kernel_rfl) (by kernel_rfl) (by rfl) ?_ (fun g f w h => ApS.same h (by decide) (by decide)) ?_
         rotate_left
         · intro g f w' hx hD hk
           obtain hap := id hD
           clear hx hk hD hap
           go_simp
           try rfl
         simp only [Act.put, List.setIfInBounds_toArray, List.set_cons_zero, List.set_cons_succ])
      first
      | (refine Fx.WM.skip 12 (by rfl) (by kernel_rfl) (by kernel_rfl) (by kernel_rfl) (by rfl) (fun g f w h => ApS.same h (by decide) (by decide)) ?_; simp only [Act.put, List.setIfInBounds_toArray, List.set_cons_zero, List.set_cons_succ])
      | (refine Fx.WM.val_ 12 ?_ (by rfl) (by kernel_rfl) (by kernel_rfl) (by kernel_rfl) (by rfl) ?_ (fun g f w h => ApS.same h (by decide) (by decide)) ?_
         rotate_left
         · intro g f w' hx hD hk
           obtain hap := id hD
           clear hx hk hD hap
           go_simp
           try rfl
         simp only [Act.put, List.setIfInBounds_toArray, List.set_cons_zero, List.set_cons_succ])
      first
      | (refine Fx.WM.skip 13 (by rfl) (by kernel_rfl) (by kernel_rfl) (by kernel_rfl) (by rfl) (fun g f w h => ApS.same h (by decide) (by decide)) ?_; simp only [Act.put, List.setIfInBounds_toArray, List.set_cons_zero, List.set_cons_succ])
      | (refine Fx.WM.val_ 13 ?_ (by rfl) (by kernel_rfl) (by kernel_rfl) (by kernel_rfl) (by rfl) ?_ (fun g f w h => ApS.same h (by decide) (by decide)) ?_
         rotate_left
         · intro g f w' hx hD hk
           obtain hap := id hD
           clear hx hk hD hap
           go_simp
           try rfl
         simp only [Act.put, List.setIfInBounds_toArray, List.set_cons_zero, List.set_cons_succ])
      first
      | (refine Fx.WM.skip 14 (by rfl) (by kernel_rfl) (by kernel_rfl) (by kernel_rfl) (by rfl) (fun g f w h => ApS.same h (by decide) (by decide)) ?_; simp only [Act.put, List.setIfInBounds_toArray, List.set_cons_zero, List.set_cons_succ])
      | (refine Fx.WM.val_ 14 ?_ (by rfl) (by kernel_rfl) (by kernel_rfl) (by kernel_rfl) (by rfl) ?_ (fun g f w h => ApS.same h (by decide) (by decide)) ?_
         rotate_left
         · intro g f w' hx hD hk
           obtain hap := id hD
           clear hx hk hD hap
           go_simp
           try rfl
         simp only [Act.put, List.setIfInBounds_toArray, List.set_cons_zero, List.set_cons_succ])
      first
      | (refine Fx.WM.skip 15 (by rfl) (by kernel_rfl) (by kernel_rfl) (by kernel_rfl) (by rfl) (fun g f w h => ApS.same h (by decide) (by decide)) ?_; simp only [Act.put, List.setIfInBounds_toArray, List.set_cons_zero, List.set_cons_succ])
      | (refine Fx.WM.val_ 15 ?_ (by rfl) (by kernel_rfl) (by kernel_rfl) (by kernel_rfl) (by rfl) ?_ (fun g f w h => ApS.same h (by decide) (by decide)) ?_
         rotate_left
         · intro g f w' hx hD hk
           obtain hap := id hD
           have e1_ : f 20 = false := (hk.un 20 18 (by kernel_rfl) (hk.un 18 17 (by kernel_rfl) (hk.un 17 16 (by kernel_rfl) (hk.2.1 16 (by kernel_rfl)))))
           have e2_ : f 22 = false := hk.2.1 22 (by kernel_rfl)
           have hA := ApS.early hap e1_ e2_
           have q1 : w'.cell? ⟨bb, bo + k0 * 2 + 1, none⟩ = some (.int .i64 z) := (World.cell?_of_block (hA.keep _ hbb11 nc1 nc2)).trans cb1
           clear hx hk hD hap hA e1_ e2_
           go_simp
           try rfl
         simp only [Act.put, List.setIfInBounds_toArray, List.set_cons_zero, List.set_cons_succ])
      first
      | (refine Fx.WM.skip 16 (by rfl) (by kernel_rfl) (by kernel_rfl) (by kernel_rfl) (by rfl) (fun g f w h => ApS.same h (by decide) (by decide)) ?_; simp only [Act.put, List.setIfInBounds_toArray, List.set_cons_zero, List.set_cons_succ])
      | (refine Fx.WM.val_ 16 ?_ (by rfl) (by kernel_rfl) (by kernel_rfl) (by kernel_rfl) (by rfl) ?_ (fun g f w h => ApS.same h (by decide) (by decide)) ?_
         rotate_left
         · intro g f w' hx hD hk
           obtain hap := id hD
           clear hx hk hD hap
           go_simp
           try rfl
         simp only [Act.put, List.setIfInBounds_toArray, List.set_cons_zero, List.set_cons_succ])
      refine Fx.WM.choose2 7 17 (by rfl) (by rfl) (by kernel_rfl) (by rfl) (by rfl) ?_ ?_ ?_ ?_
      · skip
        refine Fx.Chooses.make (by rfl) ?_
        intro f w' hD hk
        have e1_ : f 20 = false := (hk.2.1 20 (by kernel_rfl))
        have e2_ : f 22 = false := hk.2.1 22 (by kernel_rfl)
        refine ⟨(some ⟨w'.heap.size, 0, none⟩, 0), w'.alloc (.cells #[.int .i64 (z)] 3), ?_, ?_⟩
        · clear hk hD
          go_simp
          try rfl
        · exact ApS.lift ((ApS.early hD e1_ e2_).lit (by decide) (by decide) (by decide)) e1_ e2_ (by decide) (by decide)
      · skip
        refine Fx.Chooses.make (by rfl) ?_
        intro f w' hD hk
        have e1_ : f 20 = false := (hk.un 20 18 (by kernel_rfl) (hk.2.1 18 (by kernel_rfl)))
        have e2_ : f 22 = false := hk.2.1 22 (by kernel_rfl)
        refine ⟨(some ⟨w'.heap.size, 0, none⟩, 0), w'.alloc (.cells #[.int .i64 (z7)] 3), ?_, ?_⟩
        · clear hk hD
          go_simp
          try rfl
        · exact ApS.lift (((ApS.early hD e1_ e2_).symm.lit (by decide) (by decide) (by decide)).symm) e1_ e2_ (by decide) (by decide)
      · skip
        intro x1
        simp only [Act.put, List.setIfInBounds_toArray, List.set_cons_zero, List.set_cons_succ]
        refine Fx.WM.choose2 8 17 (by rfl) (by rfl) (by kernel_rfl) (by rfl) (by rfl) ?_ ?_ ?_ ?_
        · skip
          refine Fx.Chooses.make (by rfl) ?_
          intro f w' hD hk
          have e1_ : f 20 = false := (hk.2.1 20 (by kernel_rfl))
          have e2_ : f 22 = false := hk.2.1 22 (by kernel_rfl)
          obtain ⟨y', w2', hrun, hD2⟩ := (ApS.early hD e1_ e2_).app (P := Try.prog) (c := 1) Try.underlying22 info_int rfl rfl (by first | omega | assumption) (by unfold maxLen; omega) (by omega) (x := x1) (by rfl) (by rfl) (by decide) (by decide) (by decide)
          exact ⟨y', w2', exec_append _ _ _ rfl hrun, ApS.lift (hD2) e1_ e2_ (by decide) (by decide)⟩
        · skip
          refine Fx.Chooses.make (by rfl) ?_
          intro f w' hD hk
          have e1_ : f 20 = false := (hk.un 20 18 (by kernel_rfl) (hk.2.1 18 (by kernel_rfl)))
          have e2_ : f 22 = false := hk.2.1 22 (by kernel_rfl)
          refine ⟨(some ⟨w'.heap.size, 0, none⟩, 0), w'.alloc (.cells #[.int .i64 (z7)] 3), ?_, ?_⟩
          · clear hk hD
            go_simp
            try rfl
          · exact ApS.lift (((ApS.early hD e1_ e2_).symm.lit (by decide) (by decide) (by decide)).symm) e1_ e2_ (by decide) (by decide)
        · skip
          intro y
          simp only [Act.put, List.setIfInBounds_toArray, List.set_cons_zero, List.set_cons_succ]
          first
          | (refine Fx.WM.skip 19 (by rfl) (by kernel_rfl) (by kernel_rfl) (by kernel_rfl) (by rfl) (fun g f w h => ApS.same h (by decide) (by decide)) ?_; simp only [Act.put, List.setIfInBounds_toArray, List.set_cons_zero, List.set_cons_succ])
          | (refine Fx.WM.val_ 19 ?_ (by rfl) (by kernel_rfl) (by kernel_rfl) (by kernel_rfl) (by rfl) ?_ (fun g f w h => ApS.same h (by decide) (by decide)) ?_
             rotate_left
             · intro g f w' hx hD hk
               obtain hap := id hD
               clear hx hk hD hap
               go_simp
               try rfl
             simp only [Act.put, List.setIfInBounds_toArray, List.set_cons_zero, List.set_cons_succ])
          refine Fx.WM.choose 17 (by rfl) (by kernel_rfl) (by rfl) ?_ ?_
          · skip
            refine Fx.Chooses.make (by rfl) ?_
            intro f w' hD hk
            have e1_ : f 20 = false := (hk.un 20 18 (by kernel_rfl) (hk.2.1 18 (by kernel_rfl)))
            have e2_ : f 22 = false := hk.2.1 22 (by kernel_rfl)
            refine ⟨(some ⟨w'.heap.size, 0, none⟩, 0), w'.alloc (.cells #[.int .i64 (z7)] 3), ?_, ?_⟩
            · clear hk hD
              go_simp
              try rfl
            · exact ApS.lift (((ApS.early hD e1_ e2_).symm.lit (by decide) (by decide) (by decide)).symm) e1_ e2_ (by decide) (by decide)
          intro x2
          simp only [Act.put, List.setIfInBounds_toArray, List.set_cons_zero, List.set_cons_succ]
          refine Fx.WM.choose 18 (by rfl) (by kernel_rfl) (by rfl) ?_ ?_
          · skip
            refine Fx.Chooses.make (by rfl) ?_
            intro f w' hD hk
            have e1_ : f 20 = false := (hk.2.1 20 (by kernel_rfl))
            have e2_ : f 22 = false := hk.2.1 22 (by kernel_rfl)
            obtain ⟨y', w2', hrun, hD2⟩ := (ApS.early hD e1_ e2_).symm.app (P := Try.prog) (c := 1) Try.underlying22 info_int rfl rfl (by first | omega | assumption) (by unfold maxLen; omega) (by omega) (x := x2) (by rfl) (by rfl) (by decide) (by decide) (by decide)
            exact ⟨y', w2', exec_append _ _ _ rfl hrun, ApS.lift (hD2.symm) e1_ e2_ (by decide) (by decide)⟩
          intro z'
          simp only [Act.put, List.setIfInBounds_toArray, List.set_cons_zero, List.set_cons_succ]
          refine Fx.WM.eff 20 undef (by rfl) (by kernel_rfl) (by kernel_rfl) (by kernel_rfl) (by rfl) ?_ ?_
          · intro g f w' hx hD hk
            have e1_ : f 20 = false := hk.1
            have e2_ : f 22 = false := hk.2.1 22 (by kernel_rfl)
            have hA := ApS.early hD e1_ e2_
            have q1 := (hA.blk hblk1 hnA1 hnB1).cell 0
            have p1 := (hA.blk hblk1 hnA1 hnB1).frozen 0
            have hv : rowV (g 8) (.slice Av k0 cv) (k0) = .slice y.1 (k0 + 1) y.2 := by rw [hx 8 _ (by rfl)]; rfl
            refine Fx.gives_skip (w' := (w'.setCell ⟨w6.heap.size, 0, none⟩ (.slice y.1 (k0 + 1) y.2))) ?_ ?_
            · clear hx hk hD hA hv
              go_simp
              try rfl
            · exact (by have h := ApS.store1 hD e1_ e2_ (by decide); simp only [hv] at h; exact h)
          simp only [Act.put, List.setIfInBounds_toArray, List.set_cons_zero, List.set_cons_succ]
          first
          | (refine Fx.WM.skip 21 (by rfl) (by kernel_rfl) (by kernel_rfl) (by kernel_rfl) (by rfl) (fun g f w h => ApS.same h (by decide) (by decide)) ?_; simp only [Act.put, List.setIfInBounds_toArray, List.set_cons_zero, List.set_cons_succ])
          | (refine Fx.WM.val_ 21 ?_ (by rfl) (by kernel_rfl) (by kernel_rfl) (by kernel_rfl) (by rfl) ?_ (fun g f w h => ApS.same h (by decide) (by decide)) ?_
             rotate_left
             · intro g f w' hx hD hk
               obtain hap := id hD
               clear hx hk hD hap
               go_simp
               try rfl
             simp only [Act.put, List.setIfInBounds_toArray, List.set_cons_zero, List.set_cons_succ])
          refine Fx.WM.eff 22 undef (by rfl) (by kernel_rfl) (by kernel_rfl) (by kernel_rfl) (by rfl) ?_ ?_
          · intro g f w' hx hD hk
            have e1_ : f 20 = true := hk.2.2.1 20 (by kernel_rfl)
            have e2_ : f 22 = false := hk.1
            obtain ⟨w1m, hA, hw1m⟩ := ApS.mid hD e1_ e2_
            have hb2 : Blk w' (w9.heap.size) 36 #[.slice Bv k0 dv, .slice B3 n1 d3', .slice B4 n1 d4'] := by rw [hw1m]; exact (hA.blk hblk2 hnA2 hnB2).far (p := ⟨w6.heap.size, 0, none⟩) (fun e => absurd e (Nat.ne_of_gt hne)) _
            have q1 := hb2.cell 0
            have p1 := hb2.frozen 0
            clear hb2
            have hv : rowV (g 18) (.slice Bv k0 dv) (k0) = .slice z'.1 (k0 + 1) z'.2 := by rw [hx 18 _ (by rfl)]; rfl
            refine Fx.gives_skip (w' := (w'.setCell ⟨w9.heap.size, 0, none⟩ (.slice z'.1 (k0 + 1) z'.2))) ?_ ?_
            · clear hx hk hD hA hv hw1m
              go_simp
              try rfl
            · exact (by have h := ApS.store2 hD e1_ e2_; simp only [hv] at h; exact h)
          simp only [Act.put, List.setIfInBounds_toArray, List.set_cons_zero, List.set_cons_succ]
          refine Fx.WM.nil (by kernel_rfl) ?_
          intro wz hD
          obtain ⟨w1_, hA, hwz⟩ := ApS.done hD (by rfl)
          exact key x1 y x2 z' wz ⟨_, w1_, rfl, rfl, hA, hwz⟩
        · skip
          intro x2
          simp only [Act.put, List.setIfInBounds_toArray, List.set_cons_zero, List.set_cons_succ]
          refine Fx.WM.choose 8 (by rfl) (by kernel_rfl) (by rfl) ?_ ?_
          · skip
            refine Fx.Chooses.make (by rfl) ?_
            intro f w' hD hk
            have e1_ : f 20 = false := (hk.2.1 20 (by kernel_rfl))
            have e2_ : f 22 = false := hk.2.1 22 (by kernel_rfl)
            obtain ⟨y', w2', hrun, hD2⟩ := (ApS.early hD e1_ e2_).app (P := Try.prog) (c := 1) Try.underlying22 info_int rfl rfl (by first | omega | assumption) (by unfold maxLen; omega) (by omega) (x := x1) (by rfl) (by rfl) (by decide) (by decide) (by decide)
            exact ⟨y', w2', exec_append _ _ _ rfl hrun, ApS.lift (hD2) e1_ e2_ (by decide) (by decide)⟩
          intro y
          simp only [Act.put, List.setIfInBounds_toArray, List.set_cons_zero, List.set_cons_succ]
          first
          | (refine Fx.WM.skip 19 (by rfl) (by kernel_rfl) (by kernel_rfl) (by kernel_rfl) (by rfl) (fun g f w h => ApS.same h (by decide) (by decide)) ?_; simp only [Act.put, List.setIfInBounds_toArray, List.set_cons_zero, List.set_cons_succ])
          | (refine Fx.WM.val_ 19 ?_ (by rfl) (by kernel_rfl) (by kernel_rfl) (by kernel_rfl) (by rfl) ?_ (fun g f w h => ApS.same h (by decide) (by decide)) ?_
             rotate_left
             · intro g f w' hx hD hk
               obtain hap := id hD
               clear hx hk hD hap
               go_simp
               try rfl
             simp only [Act.put, List.setIfInBounds_toArray, List.set_cons_zero, List.set_cons_succ])
          refine Fx.WM.choose 18 (by rfl) (by kernel_rfl) (by rfl) ?_ ?_
          · skip
            refine Fx.Chooses.make (by rfl) ?_
            intro f w' hD hk
            have e1_ : f 20 = false := (hk.2.1 20 (by kernel_rfl))
            have e2_ : f 22 = false := hk.2.1 22 (by kernel_rfl)
            obtain ⟨y', w2', hrun, hD2⟩ := (ApS.early hD e1_ e2_).symm.app (P := Try.prog) (c := 1) Try.underlying22 info_int rfl rfl (by first | omega | assumption) (by unfold maxLen; omega) (by omega) (x := x2) (by rfl) (by rfl) (by decide) (by decide) (by decide)
            exact ⟨y', w2', exec_append _ _ _ rfl hrun, ApS.lift (hD2.symm) e1_ e2_ (by decide) (by decide)⟩
          intro z'
          simp only [Act.put, List.setIfInBounds_toArray, List.set_cons_zero, List.set_cons_succ]
          refine Fx.WM.eff 20 undef (by rfl) (by kernel_rfl) (by kernel_rfl) (by kernel_rfl) (by rfl) ?_ ?_
          · intro g f w' hx hD hk
            have e1_ : f 20 = false := hk.1
            have e2_ : f 22 = false := hk.2.1 22 (by kernel_rfl)
            have hA := ApS.early hD e1_ e2_
            have q1 := (hA.blk hblk1 hnA1 hnB1).cell 0
            have p1 := (hA.blk hblk1 hnA1 hnB1).frozen 0
            have hv : rowV (g 8) (.slice Av k0 cv) (k0) = .slice y.1 (k0 + 1) y.2 := by rw [hx 8 _ (by rfl)]; rfl
            refine Fx.gives_skip (w' := (w'.setCell ⟨w6.heap.size, 0, none⟩ (.slice y.1 (k0 + 1) y.2))) ?_ ?_
            · clear hx hk hD hA hv
              go_simp
              try rfl
            · exact (by have h := ApS.store1 hD e1_ e2_ (by decide); simp only [hv] at h; exact h)
          simp only [Act.put, List.setIfInBounds_toArray, List.set_cons_zero, List.set_cons_succ]
          first
          | (refine Fx.WM.skip 21 (by rfl) (by kernel_rfl) (by kernel_rfl) (by kernel_rfl) (by rfl) (fun g f w h => ApS.same h (by decide) (by decide)) ?_; simp only [Act.put, List.setIfInBounds_toArray, List.set_cons_zero, List.set_cons_succ])
          | (refine Fx.WM.val_ 21 ?_ (by rfl) (by kernel_rfl) (by kernel_rfl) (by kernel_rfl) (by rfl) ?_ (fun g f w h => ApS.same h (by decide) (by decide)) ?_
             rotate_left
             · intro g f w' hx hD hk
               obtain hap := id hD
               clear hx hk hD hap
               go_simp
               try rfl
             simp only [Act.put, List.setIfInBounds_toArray, List.set_cons_zero, List.set_cons_succ])
          refine Fx.WM.eff 22 undef (by rfl) (by kernel_rfl) (by kernel_rfl) (by kernel_rfl) (by rfl) ?_ ?_
          · intro g f w' hx hD hk
            have e1_ : f 20 = true := hk.2.2.1 20 (by kernel_rfl)
            have e2_ : f 22 = false := hk.1
            obtain ⟨w1m, hA, hw1m⟩ := ApS.mid hD e1_ e2_
            have hb2 : Blk w' (w9.heap.size) 36 #[.slice Bv k0 dv, .slice B3 n1 d3', .slice B4 n1 d4'] := by rw [hw1m]; exact (hA.blk hblk2 hnA2 hnB2).far (p := ⟨w6.heap.size, 0, none⟩) (fun e => absurd e (Nat.ne_of_gt hne)) _
            have q1 := hb2.cell 0
            have p1 := hb2.frozen 0
            clear hb2
            have hv : rowV (g 18) (.slice Bv k0 dv) (k0) = .slice z'.1 (k0 + 1) z'.2 := by rw [hx 18 _ (by rfl)]; rfl
            refine Fx.gives_skip (w' := (w'.setCell ⟨w9.heap.size, 0, none⟩ (.slice z'.1 (k0 + 1) z'.2))) ?_ ?_
            · clear hx hk hD hA hv hw1m
              go_simp
              try rfl
            · exact (by have h := ApS.store2 hD e1_ e2_; simp only [hv] at h; exact h)
          simp only [Act.put, List.setIfInBounds_toArray, List.set_cons_zero, List.set_cons_succ]
          refine Fx.WM.nil (by kernel_rfl) ?_
          intro wz hD
          obtain ⟨w1_, hA, hwz⟩ := ApS.done hD (by rfl)
          exact key x1 y x2 z' wz ⟨_, w1_, rfl, rfl, hA, hwz⟩
      · skip
        intro x2
        simp only [Act.put, List.setIfInBounds_toArray, List.set_cons_zero, List.set_cons_succ]
        refine Fx.WM.choose 7 (by rfl) (by kernel_rfl) (by rfl) ?_ ?_
        · skip
          refine Fx.Chooses.make (by rfl) ?_
          intro f w' hD hk
          have e1_ : f 20 = false := (hk.2.1 20 (by kernel_rfl))
          have e2_ : f 22 = false := hk.2.1 22 (by kernel_rfl)
          refine ⟨(some ⟨w'.heap.size, 0, none⟩, 0), w'.alloc (.cells #[.int .i64 (z)] 3), ?_, ?_⟩
          · clear hk hD
            go_simp
            try rfl
          · exact ApS.lift ((ApS.early hD e1_ e2_).lit (by decide) (by decide) (by decide)) e1_ e2_ (by decide) (by decide)
        intro x1
        simp only [Act.put, List.setIfInBounds_toArray, List.set_cons_zero, List.set_cons_succ]
        refine Fx.WM.choose 8 (by rfl) (by kernel_rfl) (by rfl) ?_ ?_
        · skip
          refine Fx.Chooses.make (by rfl) ?_
          intro f w' hD hk
          have e1_ : f 20 = false := (hk.2.1 20 (by kernel_rfl))
          have e2_ : f 22 = false := hk.2.1 22 (by kernel_rfl)
          obtain ⟨y', w2', hrun, hD2⟩ := (ApS.early hD e1_ e2_).app (P := Try.prog) (c := 1) Try.underlying22 info_int rfl rfl (by first | omega | assumption) (by unfold maxLen; omega) (by omega) (x := x1) (by rfl) (by rfl) (by decide) (by decide) (by decide)
          exact ⟨y', w2', exec_append _ _ _ rfl hrun, ApS.lift (hD2) e1_ e2_ (by decide) (by decide)⟩
        intro y
        simp only [Act.put, List.setIfInBounds_toArray, List.set_cons_zero, List.set_cons_succ]
        first
        | (refine Fx.WM.skip 19 (by rfl) (by kernel_rfl) (by kernel_rfl) (by kernel_rfl) (by rfl) (fun g f w h => ApS.same h (by decide) (by decide)) ?_; simp only [Act.put, List.setIfInBounds_toArray, List.set_cons_zero, List.set_cons_succ])
        | (refine Fx.WM.val_ 19 ?_ (by rfl) (by kernel_rfl) (by kernel_rfl) (by kernel_rfl) (by rfl) ?_ (fun g f w h => ApS.same h (by decide) (by decide)) ?_
           rotate_left
           · intro g f w' hx hD hk
             obtain hap := id hD
             clear hx hk hD hap
             go_simp
             try rfl
           simp only [Act.put, List.setIfInBounds_toArray, List.set_cons_zero, List.set_cons_succ])
        refine Fx.WM.choose 18 (by rfl) (by kernel_rfl) (by rfl) ?_ ?_
        · skip
          refine Fx.Chooses.make (by rfl) ?_
          intro f w' hD hk
          have e1_ : f 20 = false := (hk.2.1 20 (by kernel_rfl))
          have e2_ : f 22 = false := hk.2.1 22 (by kernel_rfl)
          obtain ⟨y', w2', hrun, hD2⟩ := (ApS.early hD e1_ e2_).symm.app (P := Try.prog) (c := 1) Try.underlying22 info_int rfl rfl (by first | omega | assumption) (by unfold maxLen; omega) (by omega) (x := x2) (by rfl) (by rfl) (by decide) (by decide) (by decide)
          exact ⟨y', w2', exec_append _ _ _ rfl hrun, ApS.lift (hD2.symm) e1_ e2_ (by decide) (by decide)⟩
        intro z'
        simp only [Act.put, List.setIfInBounds_toArray, List.set_cons_zero, List.set_cons_succ]
        refine Fx.WM.eff 20 undef (by rfl) (by kernel_rfl) (by kernel_rfl) (by kernel_rfl) (by rfl) ?_ ?_
        · intro g f w' hx hD hk
          have e1_ : f 20 = false := hk.1
          have e2_ : f 22 = false := hk.2.1 22 (by kernel_rfl)
          have hA := ApS.early hD e1_ e2_
          have q1 := (hA.blk hblk1 hnA1 hnB1).cell 0
          have p1 := (hA.blk hblk1 hnA1 hnB1).frozen 0
          have hv : rowV (g 8) (.slice Av k0 cv) (k0) = .slice y.1 (k0 + 1) y.2 := by rw [hx 8 _ (by rfl)]; rfl
          refine Fx.gives_skip (w' := (w'.setCell ⟨w6.heap.size, 0, none⟩ (.slice y.1 (k0 + 1) y.2))) ?_ ?_
          · clear hx hk hD hA hv
            go_simp
            try rfl
          · exact (by have h := ApS.store1 hD e1_ e2_ (by decide); simp only [hv] at h; exact h)
        simp only [Act.put, List.setIfInBounds_toArray, List.set_cons_zero, List.set_cons_succ]
        first
        | (refine Fx.WM.skip 21 (by rfl) (by kernel_rfl) (by kernel_rfl) (by kernel_rfl) (by rfl) (fun g f w h => ApS.same h (by decide) (by decide)) ?_; simp only [Act.put, List.setIfInBounds_toArray, List.set_cons_zero, List.set_cons_succ])
        | (refine Fx.WM.val_ 21 ?_ (by rfl) (by kernel_rfl) (by kernel_rfl) (by kernel_rfl) (by rfl) ?_ (fun g f w h => ApS.same h (by decide) (by decide)) ?_
           rotate_left
           · intro g f w' hx hD hk
             obtain hap := id hD
             clear hx hk hD hap
             go_simp
             try rfl
           simp only [Act.put, List.setIfInBounds_toArray, List.set_cons_zero, List.set_cons_succ])
        refine Fx.WM.eff 22 undef (by rfl) (by kernel_rfl) (by kernel_rfl) (by kernel_rfl) (by rfl) ?_ ?_
        · intro g f w' hx hD hk
          have e1_ : f 20 = true := hk.2.2.1 20 (by kernel_rfl)
          have e2_ : f 22 = false := hk.1
          obtain ⟨w1m, hA, hw1m⟩ := ApS.mid hD e1_ e2_
          have hb2 : Blk w' (w9.heap.size) 36 #[.slice Bv k0 dv, .slice B3 n1 d3', .slice B4 n1 d4'] := by rw [hw1m]; exact (hA.blk hblk2 hnA2 hnB2).far (p := ⟨w6.heap.size, 0, none⟩) (fun e => absurd e (Nat.ne_of_gt hne)) _
          have q1 := hb2.cell 0
          have p1 := hb2.frozen 0
          clear hb2
          have hv : rowV (g 18) (.slice Bv k0 dv) (k0) = .slice z'.1 (k0 + 1) z'.2 := by rw [hx 18 _ (by rfl)]; rfl
          refine Fx.gives_skip (w' := (w'.setCell ⟨w9.heap.size, 0, none⟩ (.slice z'.1 (k0 + 1) z'.2))) ?_ ?_
          · clear hx hk hD hA hv hw1m
            go_simp
            try rfl
          · exact (by have h := ApS.store2 hD e1_ e2_; simp only [hv] at h; exact h)
        simp only [Act.put, List.setIfInBounds_toArray, List.set_cons_zero, List.set_cons_succ]
        refine Fx.WM.nil (by kernel_rfl) ?_
        intro wz hD
        obtain ⟨w1_, hA, hwz⟩ := ApS.done hD (by rfl)
        exact key x1 y x2 z' wz ⟨_, w1_, rfl, rfl, hA, hwz⟩
    rintro x1 y x2 z' w12 ⟨g, w1_, hgy, hgz, hap, hw2⟩
    obtain ⟨hoA, hoB, hoS⟩ := hap.ends hgy hgz
    have hk1 := hap.blk HKM.out hnA1 hnB1
    have hk2 := hap.blk HKU.out hnA2 hnB2
    have hkm12 : Blk w12 w6.heap.size 36 #[.slice y.1 (k0 + 1) y.2, .slice B1 n1 d1', .slice B2 n1 d2'] := by rw [hw2]; exact Blk.far (by simpa using hk1.set_ 0 (.slice y.1 (k0 + 1) y.2)) (show w6.heap.size ≠ w9.heap.size by omega) _
    have hku12 : Blk w12 w9.heap.size 36 #[.slice z'.1 (k0 + 1) z'.2, .slice B3 n1 d3', .slice B4 n1 d4'] := by rw [hw2]; simpa using (Blk.far hk2 (show w9.heap.size ≠ w6.heap.size by omega) _).set_ 0 (.slice z'.1 (k0 + 1) z'.2)
    have hoa12 : w12.ownsRow w10.heap.size 3 1 (.slice y.1 (k0 + 1) y.2) (k0 + 1) ((hiL T (k0 + 1)).map (.int .i64)) := by rw [hw2, HS1.out, List.map_append]; exact own_low7 (own_low7 hoA (by show w6.heap.size < _; omega) _) (by show w9.heap.size < _; omega) _
    have hob12 : w12.ownsRow w10.heap.size 3 1 (.slice z'.1 (k0 + 1) z'.2) (k0 + 1) ((raiseL (hiL T (k0 + 1))).map (.int .i64)) := by rw [hw2, HS2.out, List.map_append]; exact own_low7 (own_low7 hoB (by show w6.heap.size < _; omega) _) (by show w9.heap.size < _; omega) _
    have ht12 : Tch (fun q => q = w6.heap.size ∨ q = w9.heap.size) w10 w12 := by
      rw [hw2]
      refine Tch.setCell (Tch.setCell ?_ (.inl (.inl rfl)) _) (.inl (.inr rfl)) _
      refine HTC.out.then_ (Y := fun q => (Value.slice Av k0 cv).ownBlock = some q ∨ (Value.slice Bv k0 dv).ownBlock = some q) ⟨hap.os, hap.tape, hap.output, hap.size, fun i hi hx => hap.keep i hi (fun e => hx (.inl e)) (fun e => hx (.inr e))⟩ fun i hi hx => ?_
      rcases hx with h | h
      · have := (own_lt HOA.out h).1; omega
      · have := (own_lt HOB.out h).1; omega
    have HKM12 := Lib.hid hkm12
    have HKU12 := Lib.hid hku12
    have HOA12 := Lib.hid hoa12
    have HOB12 := Lib.hid hob12
    have HT12 := Lib.hid ht12
    have HOS := Lib.hid hoS
    clear hap hgy hgz hw2 hoA hoB hoS hk1 hk2 hkm12 hku12 hoa12 hob12 ht12 hownA hownB hsepAB hblk1 hblk2 hnA1 hnA2 hnB1 hnB2 cb0 cb1
    go_wp2
    go_roundw
    case rel => exact ⟨_, _, k0 + 1, by omega, by go_num, HT12.out, HKM12.out, HKU12.out, HOA12.out, HOB12.out, HOS.out, fun q hq => by
        rw [HS1.out] at hq
        rcases List.mem_append.1 hq with h | h
        · exact HIN.out q h
        · obtain rfl : q = z := by simpa using h
          exact hzz⟩
    case measure => simp [intOf]; omega
end Go.Proofs.Ytkfecbkcghmmhaa

end
