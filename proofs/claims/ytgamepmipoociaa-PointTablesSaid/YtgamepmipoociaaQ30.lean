import Derived.Test.YtgamepmipoociaaQ25
import Derived.Test.YtgamepmipoociaaQ26
import Derived.Test.YtgamepmipoociaaQ13
import Derived.Test.YtgamepmipoociaaQ15

section
/- The walk of the statement on tables of pointing. -/
namespace Go.Proofs.Ytgamepmipoociaa
open Go Go.RowKit

/-- The least and the greatest value of the rows up to k, as the statement finds them. -/
def loTo (l : List (Int × Int)) (k : Nat) : Int := (l.take k).foldl (fun a p => if p.2 < a then p.2 else a) ((l.headD (0, 0)).2)
def hiTo (l : List (Int × Int)) (k : Nat) : Int := (l.take k).foldl (fun a p => if a < p.2 then p.2 else a) ((l.headD (0, 0)).2)
theorem loTo_succ {l : List (Int × Int)} {k : Nat} {p : Int × Int} (h : l[k]? = some p) : loTo l (k + 1) = if p.2 < loTo l k then p.2 else loTo l k := by
  unfold loTo; rw [List.take_add_one, h]; simp
theorem hiTo_succ {l : List (Int × Int)} {k : Nat} {p : Int × Int} (h : l[k]? = some p) : hiTo l (k + 1) = if hiTo l k < p.2 then p.2 else hiTo l k := by
  unfold hiTo; rw [List.take_add_one, h]; simp
theorem loTo_le {l : List (Int × Int)} : ∀ (k : Nat), ∀ p ∈ l.take k, loTo l k ≤ p.2
  | 0, p, h => by simp at h
  | k + 1, p, h => by
    cases hk : l[k]? with
    | none =>
      have hle : l.length ≤ k := List.getElem?_eq_none_iff.1 hk
      have e1 : l.take (k + 1) = l.take k := by rw [List.take_of_length_le hle, List.take_of_length_le (by omega)]
      rw [e1] at h
      have := loTo_le k p h
      unfold loTo at *
      rwa [e1]
    | some q =>
      rw [List.take_add_one, hk] at h
      rw [loTo_succ hk]
      rcases List.mem_append.1 h with h | h
      · have := loTo_le k p h; split <;> omega
      · obtain rfl : p = q := by simpa using h
        split <;> omega
theorem hiTo_le {l : List (Int × Int)} : ∀ (k : Nat), ∀ p ∈ l.take k, p.2 ≤ hiTo l k
  | 0, p, h => by simp at h
  | k + 1, p, h => by
    cases hk : l[k]? with
    | none =>
      have hle : l.length ≤ k := List.getElem?_eq_none_iff.1 hk
      have e1 : l.take (k + 1) = l.take k := by rw [List.take_of_length_le hle, List.take_of_length_le (by omega)]
      rw [e1] at h
      have := hiTo_le k p h
      unfold hiTo at *
      rwa [e1]
    | some q =>
      rw [List.take_add_one, hk] at h
      rw [hiTo_succ hk]
      rcases List.mem_append.1 h with h | h
      · have := hiTo_le k p h; split <;> omega
      · obtain rfl : p = q := by simpa using h
        split <;> omega
theorem loTo_one {l : List (Int × Int)} {p : Int × Int} (h : l[0]? = some p) : loTo l 1 = p.2 ∧ hiTo l 1 = p.2 := by
  cases l with
  | nil => simp at h
  | cons q r => obtain rfl : q = p := by simpa using h
                exact ⟨by simp [loTo], by simp [hiTo]⟩
theorem tab_midv {l : List (Int × Int)} (h : tabErr l = 0) (x : Int) : loTo l l.length ≤ tabAt l x ∧ tabAt l x ≤ hiTo l l.length := by
  obtain ⟨h1, h2, h3, h4⟩ := tab_right h
  refine tab_between (by intro e; rw [e] at h1; simp at h1) h3 fun q hq => ⟨loTo_le _ q ?_, hiTo_le _ q ?_⟩ <;> rwa [List.take_length]

set_option maxRecDepth 100000 in
set_option maxHeartbeats 4000000 in
theorem lawPT_any (A : Option Addr) (n c : Nat) (l : List (Int × Int)) (x : Int) (w : World) (hnc : n ≤ c ∧ c ≤ 9223372036854775807) (hl : l.length = n) (_ : ∀ p ∈ l, I64 p.1 ∧ I64 p.2) (hx : Reads w w.heap.size 2 A n (cells2 l)) (_ : -9223372036854775808 ≤ x) (_ : x ≤ 9223372036854775807) :
    Calls Try.prog 4 #[.slice A n c, .int .i64 x] w fun e w' => e = .returned (.bool true) ∧ Below w.heap.size w w' := by
  obtain ⟨hnc, hcm⟩ := hnc
  cases hr : rowsB n
  · have HR := Lib.hid hr
    clear hr hx hl
    go_enter Try.func4, Try.ntmps4
    go_wp2_with fail
    refine (awakept_any _).mono ?_
    rintro e w1 ⟨rfl, hb⟩
    have HB1 := Lib.hid (show Below w.heap.size w w1 from step_below hb (by repeat' (first | exact Below.refl _ _ | exact HB0.out | refine below_drewN ?_ _ | refine Below.drew ?_ | refine Below.alloc ?_ (by first | omega | (simp; done) | (simp; omega) | (simp [World.setCell]; omega)) _ | refine Below.setCell ?_ (by first | omega | (simp; done) | (simp; omega)) _ | assumption)))
    have hz1 := hb.size
    try simp only [World.size_alloc, World.drewN, World.drew] at hz1
    clear hb
    go_wp2_with fail
    refine (rows_is A n c false HR.out _).mono ?_
    rintro e w' ⟨rfl, rfl⟩
    go_wp2
    go_ret
    exact ⟨rfl, by repeat' (first | exact Below.refl _ _ | exact HB1.out | refine below_drewN ?_ _ | refine Below.drew ?_ | refine Below.alloc ?_ (by first | omega | (simp; done) | (simp; omega) | (simp [World.setCell]; omega)) _ | refine Below.setCell ?_ (by first | omega | (simp; done) | (simp; omega)) _ | assumption)⟩
  have hn := rowsB_le hr
  have HR := Lib.hid hr
  have HL := Lib.hid hl
  clear hr hl
  obtain ⟨E, hE⟩ : ∃ E, tabErr l = E := ⟨_, rfl⟩
  by_cases h0 : E = 0
  rotate_left
  · have HE := Lib.hid hE
    have HE0 := Lib.hid h0
    have q1 : (E != 0) = true := by simpa using h0
    have q2 : (E == 0) = false := by simpa using h0
    have q3 : (E != E) = false := by simp
    have q4 : (E == E) = true := by simp
    clear hE h0
    go_enter Try.func4, Try.ntmps4
    have R0_0 := Lib.hid hx
    clear hx
    go_wp2_with fail
    refine (awakept_any _).mono ?_
    rintro e w1 ⟨rfl, hb⟩
    have HB1 := Lib.hid (show Below w.heap.size w w1 from step_below hb (by repeat' (first | exact Below.refl _ _ | exact HB0.out | refine below_drewN ?_ _ | refine Below.drew ?_ | refine Below.alloc ?_ (by first | omega | (simp; done) | (simp; omega) | (simp [World.setCell]; omega)) _ | refine Below.setCell ?_ (by first | omega | (simp; done) | (simp; omega)) _ | assumption)))
    have hL1 := Lib.hid (show Below w.heap.size w _ from reads_mid hb (by repeat' (first | exact Below.refl _ _ | refine below_drewN ?_ _ | refine Below.drew ?_ | refine Below.alloc ?_ (by first | omega | (simp; done) | (simp; omega) | (simp [World.setCell]; omega)) _ | refine Below.setCell ?_ (by first | omega | (simp; done) | (simp; omega)) _)))
    have R0_1 := Lib.hid (reads_lay hb hL1.out R0_0.out)
    clear hL1 R0_0
    have hz1 := hb.size
    try simp only [World.size_alloc, World.drewN, World.drew] at hz1
    clear hb
    go_wp2_with fail
    refine (rows_is A n c true HR.out _).mono ?_
    rintro e w' ⟨rfl, rfl⟩
    go_wp2_with fail
    refine (ctable_any A n c _ l _ R0_1.out (Nat.le_refl _) (by omega)).mono ?_
    rintro e w2 ⟨A2, c2, rfl, hb, hr, -⟩
    have HB2 := Lib.hid (show Below w.heap.size w w2 from step_below hb (by repeat' (first | exact Below.refl _ _ | exact HB1.out | refine below_drewN ?_ _ | refine Below.drew ?_ | refine Below.alloc ?_ (by first | omega | (simp; done) | (simp; omega) | (simp [World.setCell]; omega)) _ | refine Below.setCell ?_ (by first | omega | (simp; done) | (simp; omega)) _ | assumption)))
    have hL2 := Lib.hid (show Below w1.heap.size w1 _ from reads_mid hb (by repeat' (first | exact Below.refl _ _ | refine below_drewN ?_ _ | refine Below.drew ?_ | refine Below.alloc ?_ (by first | omega | (simp; done) | (simp; omega) | (simp [World.setCell]; omega)) _ | refine Below.setCell ?_ (by first | omega | (simp; done) | (simp; omega)) _)))
    have R0_2 := Lib.hid (reads_lay hb hL2.out R0_1.out)
    clear hL2 R0_1
    have hz2 := hb.size
    try simp only [World.size_alloc, World.drewN, World.drew] at hz2
    clear hb
    have R1_2 := Lib.hid hr
    clear hr
    go_wp2_with fail
    refine (pTable_bad A2 n c2 l x E HE.out HE0.out _ R1_2.out (by omega)).mono ?_
    rintro e w3 ⟨rfl, hb⟩
    have HB3 := Lib.hid (show Below w.heap.size w w3 from step_below hb (by repeat' (first | exact Below.refl _ _ | exact HB2.out | refine below_drewN ?_ _ | refine Below.drew ?_ | refine Below.alloc ?_ (by first | omega | (simp; done) | (simp; omega) | (simp [World.setCell]; omega)) _ | refine Below.setCell ?_ (by first | omega | (simp; done) | (simp; omega)) _ | assumption)))
    have hL3 := Lib.hid (show Below w2.heap.size w2 _ from reads_mid hb (by repeat' (first | exact Below.refl _ _ | refine below_drewN ?_ _ | refine Below.drew ?_ | refine Below.alloc ?_ (by first | omega | (simp; done) | (simp; omega) | (simp [World.setCell]; omega)) _ | refine Below.setCell ?_ (by first | omega | (simp; done) | (simp; omega)) _)))
    have R0_3 := Lib.hid (reads_lay hb hL3.out R0_2.out)
    have R1_3 := Lib.hid (reads_lay hb hL3.out R1_2.out)
    clear hL3 R0_2 R1_2
    have hz3 := hb.size
    try simp only [World.size_alloc, World.drewN, World.drew] at hz3
    clear hb
    go_wp2_with fail
    refine (low (rchecktab9_is A n c _ l E HE.out _ R0_3.out (by omega))).mono ?_
    rintro e w4 ⟨rfl, hb⟩
    have HB4 := Lib.hid (show Below w.heap.size w w4 from step_below hb (by repeat' (first | exact Below.refl _ _ | exact HB3.out | refine below_drewN ?_ _ | refine Below.drew ?_ | refine Below.alloc ?_ (by first | omega | (simp; done) | (simp; omega) | (simp [World.setCell]; omega)) _ | refine Below.setCell ?_ (by first | omega | (simp; done) | (simp; omega)) _ | assumption)))
    have hL4 := Lib.hid (show Below w3.heap.size w3 _ from reads_mid hb (by repeat' (first | exact Below.refl _ _ | refine below_drewN ?_ _ | refine Below.drew ?_ | refine Below.alloc ?_ (by first | omega | (simp; done) | (simp; omega) | (simp [World.setCell]; omega)) _ | refine Below.setCell ?_ (by first | omega | (simp; done) | (simp; omega)) _)))
    have R0_4 := Lib.hid (reads_lay hb hL4.out R0_3.out)
    have R1_4 := Lib.hid (reads_lay hb hL4.out R1_3.out)
    clear hL4 R0_3 R1_3
    have hz4 := hb.size
    try simp only [World.size_alloc, World.drewN, World.drew] at hz4
    clear hb
    go_wp2_with fail
    refine (ctable_any A n c _ l _ R0_4.out (Nat.le_refl _) (by omega)).mono ?_
    rintro e w5 ⟨A3, c3, rfl, hb, hr, -⟩
    have HB5 := Lib.hid (show Below w.heap.size w w5 from step_below hb (by repeat' (first | exact Below.refl _ _ | exact HB4.out | refine below_drewN ?_ _ | refine Below.drew ?_ | refine Below.alloc ?_ (by first | omega | (simp; done) | (simp; omega) | (simp [World.setCell]; omega)) _ | refine Below.setCell ?_ (by first | omega | (simp; done) | (simp; omega)) _ | assumption)))
    have hL5 := Lib.hid (show Below w4.heap.size w4 _ from reads_mid hb (by repeat' (first | exact Below.refl _ _ | refine below_drewN ?_ _ | refine Below.drew ?_ | refine Below.alloc ?_ (by first | omega | (simp; done) | (simp; omega) | (simp [World.setCell]; omega)) _ | refine Below.setCell ?_ (by first | omega | (simp; done) | (simp; omega)) _)))
    have R0_5 := Lib.hid (reads_lay hb hL5.out R0_4.out)
    have R1_5 := Lib.hid (reads_lay hb hL5.out R1_4.out)
    clear hL5 R0_4 R1_4
    have hz5 := hb.size
    try simp only [World.size_alloc, World.drewN, World.drew] at hz5
    clear hb
    have R2_5 := Lib.hid hr
    clear hr
    go_wp2_with fail
    refine (pchecktab_is A3 n c3 _ l E HE.out _ R2_5.out (Nat.le_refl _) (by omega)).mono ?_
    rintro e w6 ⟨rfl, hb⟩
    have HB6 := Lib.hid (show Below w.heap.size w w6 from step_below hb (by repeat' (first | exact Below.refl _ _ | exact HB5.out | refine below_drewN ?_ _ | refine Below.drew ?_ | refine Below.alloc ?_ (by first | omega | (simp; done) | (simp; omega) | (simp [World.setCell]; omega)) _ | refine Below.setCell ?_ (by first | omega | (simp; done) | (simp; omega)) _ | assumption)))
    have hL6 := Lib.hid (show Below w5.heap.size w5 _ from reads_mid hb (by repeat' (first | exact Below.refl _ _ | refine below_drewN ?_ _ | refine Below.drew ?_ | refine Below.alloc ?_ (by first | omega | (simp; done) | (simp; omega) | (simp [World.setCell]; omega)) _ | refine Below.setCell ?_ (by first | omega | (simp; done) | (simp; omega)) _)))
    have R0_6 := Lib.hid (reads_lay hb hL6.out R0_5.out)
    have R1_6 := Lib.hid (reads_lay hb hL6.out R1_5.out)
    have R2_6 := Lib.hid (reads_lay hb hL6.out R2_5.out)
    clear hL6 R0_5 R1_5 R2_5
    have hz6 := hb.size
    try simp only [World.size_alloc, World.drewN, World.drew] at hz6
    clear hb
    go_wp2
    go_ret
    exact ⟨rfl, by repeat' (first | exact Below.refl _ _ | exact HB6.out | refine below_drewN ?_ _ | refine Below.drew ?_ | refine Below.alloc ?_ (by first | omega | (simp; done) | (simp; omega) | (simp [World.setCell]; omega)) _ | refine Below.setCell ?_ (by first | omega | (simp; done) | (simp; omega)) _ | assumption)⟩
  subst h0
  cases hm : mil x
  · have HE := Lib.hid hE
    have HM := Lib.hid hm
    have HS := Lib.hid (show smallL 1000000 [x] = false by rw [small_one]; exact hm)
    clear hE hm
    go_enter Try.func4, Try.ntmps4
    have R0_0 := Lib.hid hx
    clear hx
    go_wp2_with fail
    refine (awakept_any _).mono ?_
    rintro e w1 ⟨rfl, hb⟩
    have HB1 := Lib.hid (show Below w.heap.size w w1 from step_below hb (by repeat' (first | exact Below.refl _ _ | exact HB0.out | refine below_drewN ?_ _ | refine Below.drew ?_ | refine Below.alloc ?_ (by first | omega | (simp; done) | (simp; omega) | (simp [World.setCell]; omega)) _ | refine Below.setCell ?_ (by first | omega | (simp; done) | (simp; omega)) _ | assumption)))
    have hL1 := Lib.hid (show Below w.heap.size w _ from reads_mid hb (by repeat' (first | exact Below.refl _ _ | refine below_drewN ?_ _ | refine Below.drew ?_ | refine Below.alloc ?_ (by first | omega | (simp; done) | (simp; omega) | (simp [World.setCell]; omega)) _ | refine Below.setCell ?_ (by first | omega | (simp; done) | (simp; omega)) _)))
    have R0_1 := Lib.hid (reads_lay hb hL1.out R0_0.out)
    clear hL1 R0_0
    have hz1 := hb.size
    try simp only [World.size_alloc, World.drewN, World.drew] at hz1
    clear hb
    go_wp2_with fail
    refine (rows_is A n c true HR.out _).mono ?_
    rintro e w' ⟨rfl, rfl⟩
    go_wp2_with fail
    refine (ctable_any A n c _ l _ R0_1.out (Nat.le_refl _) (by omega)).mono ?_
    rintro e w2 ⟨A2, c2, rfl, hb, hr, -⟩
    have HB2 := Lib.hid (show Below w.heap.size w w2 from step_below hb (by repeat' (first | exact Below.refl _ _ | exact HB1.out | refine below_drewN ?_ _ | refine Below.drew ?_ | refine Below.alloc ?_ (by first | omega | (simp; done) | (simp; omega) | (simp [World.setCell]; omega)) _ | refine Below.setCell ?_ (by first | omega | (simp; done) | (simp; omega)) _ | assumption)))
    have hL2 := Lib.hid (show Below w1.heap.size w1 _ from reads_mid hb (by repeat' (first | exact Below.refl _ _ | refine below_drewN ?_ _ | refine Below.drew ?_ | refine Below.alloc ?_ (by first | omega | (simp; done) | (simp; omega) | (simp [World.setCell]; omega)) _ | refine Below.setCell ?_ (by first | omega | (simp; done) | (simp; omega)) _)))
    have R0_2 := Lib.hid (reads_lay hb hL2.out R0_1.out)
    clear hL2 R0_1
    have hz2 := hb.size
    try simp only [World.size_alloc, World.drewN, World.drew] at hz2
    clear hb
    have R1_2 := Lib.hid hr
    clear hr
    go_wp2_with fail
    refine (pTable_rng A2 n c2 l x HE.out HS.out _ R1_2.out (by omega)).mono ?_
    rintro e w3 ⟨rfl, hb⟩
    have HB3 := Lib.hid (show Below w.heap.size w w3 from step_below hb (by repeat' (first | exact Below.refl _ _ | exact HB2.out | refine below_drewN ?_ _ | refine Below.drew ?_ | refine Below.alloc ?_ (by first | omega | (simp; done) | (simp; omega) | (simp [World.setCell]; omega)) _ | refine Below.setCell ?_ (by first | omega | (simp; done) | (simp; omega)) _ | assumption)))
    have hL3 := Lib.hid (show Below w2.heap.size w2 _ from reads_mid hb (by repeat' (first | exact Below.refl _ _ | refine below_drewN ?_ _ | refine Below.drew ?_ | refine Below.alloc ?_ (by first | omega | (simp; done) | (simp; omega) | (simp [World.setCell]; omega)) _ | refine Below.setCell ?_ (by first | omega | (simp; done) | (simp; omega)) _)))
    have R0_3 := Lib.hid (reads_lay hb hL3.out R0_2.out)
    have R1_3 := Lib.hid (reads_lay hb hL3.out R1_2.out)
    clear hL3 R0_2 R1_2
    have hz3 := hb.size
    try simp only [World.size_alloc, World.drewN, World.drew] at hz3
    clear hb
    go_wp2_with fail
    refine (low (rchecktab9_is A n c _ l 0 HE.out _ R0_3.out (by omega))).mono ?_
    rintro e w4 ⟨rfl, hb⟩
    have HB4 := Lib.hid (show Below w.heap.size w w4 from step_below hb (by repeat' (first | exact Below.refl _ _ | exact HB3.out | refine below_drewN ?_ _ | refine Below.drew ?_ | refine Below.alloc ?_ (by first | omega | (simp; done) | (simp; omega) | (simp [World.setCell]; omega)) _ | refine Below.setCell ?_ (by first | omega | (simp; done) | (simp; omega)) _ | assumption)))
    have hL4 := Lib.hid (show Below w3.heap.size w3 _ from reads_mid hb (by repeat' (first | exact Below.refl _ _ | refine below_drewN ?_ _ | refine Below.drew ?_ | refine Below.alloc ?_ (by first | omega | (simp; done) | (simp; omega) | (simp [World.setCell]; omega)) _ | refine Below.setCell ?_ (by first | omega | (simp; done) | (simp; omega)) _)))
    have R0_4 := Lib.hid (reads_lay hb hL4.out R0_3.out)
    have R1_4 := Lib.hid (reads_lay hb hL4.out R1_3.out)
    clear hL4 R0_3 R1_3
    have hz4 := hb.size
    try simp only [World.size_alloc, World.drewN, World.drew] at hz4
    clear hb
    go_wp2_with fail
    refine (ctable_any A n c _ l _ R0_4.out (Nat.le_refl _) (by omega)).mono ?_
    rintro e w5 ⟨A3, c3, rfl, hb, hr, -⟩
    have HB5 := Lib.hid (show Below w.heap.size w w5 from step_below hb (by repeat' (first | exact Below.refl _ _ | exact HB4.out | refine below_drewN ?_ _ | refine Below.drew ?_ | refine Below.alloc ?_ (by first | omega | (simp; done) | (simp; omega) | (simp [World.setCell]; omega)) _ | refine Below.setCell ?_ (by first | omega | (simp; done) | (simp; omega)) _ | assumption)))
    have hL5 := Lib.hid (show Below w4.heap.size w4 _ from reads_mid hb (by repeat' (first | exact Below.refl _ _ | refine below_drewN ?_ _ | refine Below.drew ?_ | refine Below.alloc ?_ (by first | omega | (simp; done) | (simp; omega) | (simp [World.setCell]; omega)) _ | refine Below.setCell ?_ (by first | omega | (simp; done) | (simp; omega)) _)))
    have R0_5 := Lib.hid (reads_lay hb hL5.out R0_4.out)
    have R1_5 := Lib.hid (reads_lay hb hL5.out R1_4.out)
    clear hL5 R0_4 R1_4
    have hz5 := hb.size
    try simp only [World.size_alloc, World.drewN, World.drew] at hz5
    clear hb
    have R2_5 := Lib.hid hr
    clear hr
    go_wp2_with fail
    refine (pchecktab_is A3 n c3 _ l 0 HE.out _ R2_5.out (Nat.le_refl _) (by omega)).mono ?_
    rintro e w6 ⟨rfl, hb⟩
    have HB6 := Lib.hid (show Below w.heap.size w w6 from step_below hb (by repeat' (first | exact Below.refl _ _ | exact HB5.out | refine below_drewN ?_ _ | refine Below.drew ?_ | refine Below.alloc ?_ (by first | omega | (simp; done) | (simp; omega) | (simp [World.setCell]; omega)) _ | refine Below.setCell ?_ (by first | omega | (simp; done) | (simp; omega)) _ | assumption)))
    have hL6 := Lib.hid (show Below w5.heap.size w5 _ from reads_mid hb (by repeat' (first | exact Below.refl _ _ | refine below_drewN ?_ _ | refine Below.drew ?_ | refine Below.alloc ?_ (by first | omega | (simp; done) | (simp; omega) | (simp [World.setCell]; omega)) _ | refine Below.setCell ?_ (by first | omega | (simp; done) | (simp; omega)) _)))
    have R0_6 := Lib.hid (reads_lay hb hL6.out R0_5.out)
    have R1_6 := Lib.hid (reads_lay hb hL6.out R1_5.out)
    have R2_6 := Lib.hid (reads_lay hb hL6.out R2_5.out)
    clear hL6 R0_5 R1_5 R2_5
    have hz6 := hb.size
    try simp only [World.size_alloc, World.drewN, World.drew] at hz6
    clear hb
    go_wp2_with fail
    refine (isplace_is x false HM.out _).mono ?_
    rintro e w' ⟨rfl, rfl⟩
    go_wp2
    go_ret
    exact ⟨rfl, by repeat' (first | exact Below.refl _ _ | exact HB6.out | refine below_drewN ?_ _ | refine Below.drew ?_ | refine Below.alloc ?_ (by first | omega | (simp; done) | (simp; omega) | (simp [World.setCell]; omega)) _ | refine Below.setCell ?_ (by first | omega | (simp; done) | (simp; omega)) _ | assumption)⟩
  obtain ⟨T, hT⟩ : ∃ T, tabAt l x = T := ⟨_, rfl⟩
  have hmid := tab_midv hE x
  rw [hT, HL.out] at hmid
  have hlen := (tab_right hE).1
  have hxr : -1000000 ≤ x ∧ x ≤ 1000000 := (withinB_iff _ _ _).1 hm
  rw [HL.out] at hlen
  have hn0 : 0 < n := by omega
  obtain ⟨xb, xo, p, rfl, hxb, hp, z0, z1⟩ := hx.pair hn0
  simp only [Nat.zero_mul, Nat.add_zero] at z0 z1
  obtain ⟨e1, e2⟩ := loTo_one hp
  have HE := Lib.hid hE
  have HM := Lib.hid hm
  have HT := Lib.hid hT
  have HMID := Lib.hid hmid
  have HONE := Lib.hid (And.intro e1 e2)
  have HS := Lib.hid (show smallL 1000000 [x] = true by rw [small_one]; exact hm)
  have HX := Lib.hid hx
  clear hE hm hT hmid hp e1 e2 z0
  go_enter Try.func4, Try.ntmps4
  have C0_0 := Lib.hid z1
  have R0_0 := Lib.hid hx
  clear hx
  go_wp2_with fail
  refine (awakept_any _).mono ?_
  rintro e w1 ⟨rfl, hb⟩
  have HB1 := Lib.hid (show Below w.heap.size w w1 from step_below hb (by repeat' (first | exact Below.refl _ _ | exact HB0.out | refine below_drewN ?_ _ | refine Below.drew ?_ | refine Below.alloc ?_ (by first | omega | (simp; done) | (simp; omega) | (simp [World.setCell]; omega)) _ | refine Below.setCell ?_ (by first | omega | (simp; done) | (simp; omega)) _ | assumption)))
  have C0_1 := Lib.hid (step_cell hb (show World.cell? _ ⟨xb, xo + 1, none⟩ = some (.int .i64 (p.2)) by first | exact C0_0.out | go_simp) (by have := hxb; first | omega | (simp; omega)))
  have hL1 := Lib.hid (show Below w.heap.size w _ from reads_mid hb (by repeat' (first | exact Below.refl _ _ | refine below_drewN ?_ _ | refine Below.drew ?_ | refine Below.alloc ?_ (by first | omega | (simp; done) | (simp; omega) | (simp [World.setCell]; omega)) _ | refine Below.setCell ?_ (by first | omega | (simp; done) | (simp; omega)) _)))
  have R0_1 := Lib.hid (reads_lay hb hL1.out R0_0.out)
  clear hL1 R0_0
  have hz1 := hb.size
  try simp only [World.size_alloc, World.drewN, World.drew] at hz1
  clear hb
  go_wp2_with fail
  refine (rows_is (some ⟨xb, xo, none⟩) n c true HR.out _).mono ?_
  rintro e w' ⟨rfl, rfl⟩
  go_wp2_with fail
  refine (ctable_any (some ⟨xb, xo, none⟩) n c _ l _ R0_1.out (Nat.le_refl _) (by omega)).mono ?_
  rintro e w2 ⟨A2, c2, rfl, hb, hr, -⟩
  have HB2 := Lib.hid (show Below w.heap.size w w2 from step_below hb (by repeat' (first | exact Below.refl _ _ | exact HB1.out | refine below_drewN ?_ _ | refine Below.drew ?_ | refine Below.alloc ?_ (by first | omega | (simp; done) | (simp; omega) | (simp [World.setCell]; omega)) _ | refine Below.setCell ?_ (by first | omega | (simp; done) | (simp; omega)) _ | assumption)))
  have C0_2 := Lib.hid (step_cell hb (show World.cell? _ ⟨xb, xo + 1, none⟩ = some (.int .i64 (p.2)) by first | exact C0_1.out | go_simp) (by have := hxb; first | omega | (simp; omega)))
  have hL2 := Lib.hid (show Below w1.heap.size w1 _ from reads_mid hb (by repeat' (first | exact Below.refl _ _ | refine below_drewN ?_ _ | refine Below.drew ?_ | refine Below.alloc ?_ (by first | omega | (simp; done) | (simp; omega) | (simp [World.setCell]; omega)) _ | refine Below.setCell ?_ (by first | omega | (simp; done) | (simp; omega)) _)))
  have R0_2 := Lib.hid (reads_lay hb hL2.out R0_1.out)
  clear hL2 R0_1
  have hz2 := hb.size
  try simp only [World.size_alloc, World.drewN, World.drew] at hz2
  clear hb
  have R1_2 := Lib.hid hr
  clear hr
  go_wp2_with fail
  refine (pTable_ok A2 n c2 l x T HE.out HS.out HT.out _ R1_2.out (by omega)).mono ?_
  rintro e w3 ⟨rfl, hb⟩
  have HB3 := Lib.hid (show Below w.heap.size w w3 from step_below hb (by repeat' (first | exact Below.refl _ _ | exact HB2.out | refine below_drewN ?_ _ | refine Below.drew ?_ | refine Below.alloc ?_ (by first | omega | (simp; done) | (simp; omega) | (simp [World.setCell]; omega)) _ | refine Below.setCell ?_ (by first | omega | (simp; done) | (simp; omega)) _ | assumption)))
  have C0_3 := Lib.hid (step_cell hb (show World.cell? _ ⟨xb, xo + 1, none⟩ = some (.int .i64 (p.2)) by first | exact C0_2.out | go_simp) (by have := hxb; first | omega | (simp; omega)))
  have hL3 := Lib.hid (show Below w2.heap.size w2 _ from reads_mid hb (by repeat' (first | exact Below.refl _ _ | refine below_drewN ?_ _ | refine Below.drew ?_ | refine Below.alloc ?_ (by first | omega | (simp; done) | (simp; omega) | (simp [World.setCell]; omega)) _ | refine Below.setCell ?_ (by first | omega | (simp; done) | (simp; omega)) _)))
  have R0_3 := Lib.hid (reads_lay hb hL3.out R0_2.out)
  have R1_3 := Lib.hid (reads_lay hb hL3.out R1_2.out)
  clear hL3 R0_2 R1_2
  have hz3 := hb.size
  try simp only [World.size_alloc, World.drewN, World.drew] at hz3
  clear hb
  go_wp2_with fail
  refine (low (rchecktab9_is (some ⟨xb, xo, none⟩) n c _ l 0 HE.out _ R0_3.out (by omega))).mono ?_
  rintro e w4 ⟨rfl, hb⟩
  have HB4 := Lib.hid (show Below w.heap.size w w4 from step_below hb (by repeat' (first | exact Below.refl _ _ | exact HB3.out | refine below_drewN ?_ _ | refine Below.drew ?_ | refine Below.alloc ?_ (by first | omega | (simp; done) | (simp; omega) | (simp [World.setCell]; omega)) _ | refine Below.setCell ?_ (by first | omega | (simp; done) | (simp; omega)) _ | assumption)))
  have C0_4 := Lib.hid (step_cell hb (show World.cell? _ ⟨xb, xo + 1, none⟩ = some (.int .i64 (p.2)) by first | exact C0_3.out | go_simp) (by have := hxb; first | omega | (simp; omega)))
  have hL4 := Lib.hid (show Below w3.heap.size w3 _ from reads_mid hb (by repeat' (first | exact Below.refl _ _ | refine below_drewN ?_ _ | refine Below.drew ?_ | refine Below.alloc ?_ (by first | omega | (simp; done) | (simp; omega) | (simp [World.setCell]; omega)) _ | refine Below.setCell ?_ (by first | omega | (simp; done) | (simp; omega)) _)))
  have R0_4 := Lib.hid (reads_lay hb hL4.out R0_3.out)
  have R1_4 := Lib.hid (reads_lay hb hL4.out R1_3.out)
  clear hL4 R0_3 R1_3
  have hz4 := hb.size
  try simp only [World.size_alloc, World.drewN, World.drew] at hz4
  clear hb
  go_wp2_with fail
  refine (ctable_any (some ⟨xb, xo, none⟩) n c _ l _ R0_4.out (Nat.le_refl _) (by omega)).mono ?_
  rintro e w5 ⟨A3, c3, rfl, hb, hr, -⟩
  have HB5 := Lib.hid (show Below w.heap.size w w5 from step_below hb (by repeat' (first | exact Below.refl _ _ | exact HB4.out | refine below_drewN ?_ _ | refine Below.drew ?_ | refine Below.alloc ?_ (by first | omega | (simp; done) | (simp; omega) | (simp [World.setCell]; omega)) _ | refine Below.setCell ?_ (by first | omega | (simp; done) | (simp; omega)) _ | assumption)))
  have C0_5 := Lib.hid (step_cell hb (show World.cell? _ ⟨xb, xo + 1, none⟩ = some (.int .i64 (p.2)) by first | exact C0_4.out | go_simp) (by have := hxb; first | omega | (simp; omega)))
  have hL5 := Lib.hid (show Below w4.heap.size w4 _ from reads_mid hb (by repeat' (first | exact Below.refl _ _ | refine below_drewN ?_ _ | refine Below.drew ?_ | refine Below.alloc ?_ (by first | omega | (simp; done) | (simp; omega) | (simp [World.setCell]; omega)) _ | refine Below.setCell ?_ (by first | omega | (simp; done) | (simp; omega)) _)))
  have R0_5 := Lib.hid (reads_lay hb hL5.out R0_4.out)
  have R1_5 := Lib.hid (reads_lay hb hL5.out R1_4.out)
  clear hL5 R0_4 R1_4
  have hz5 := hb.size
  try simp only [World.size_alloc, World.drewN, World.drew] at hz5
  clear hb
  have R2_5 := Lib.hid hr
  clear hr
  go_wp2_with fail
  refine (pchecktab_is A3 n c3 _ l 0 HE.out _ R2_5.out (Nat.le_refl _) (by omega)).mono ?_
  rintro e w6 ⟨rfl, hb⟩
  have HB6 := Lib.hid (show Below w.heap.size w w6 from step_below hb (by repeat' (first | exact Below.refl _ _ | exact HB5.out | refine below_drewN ?_ _ | refine Below.drew ?_ | refine Below.alloc ?_ (by first | omega | (simp; done) | (simp; omega) | (simp [World.setCell]; omega)) _ | refine Below.setCell ?_ (by first | omega | (simp; done) | (simp; omega)) _ | assumption)))
  have C0_6 := Lib.hid (step_cell hb (show World.cell? _ ⟨xb, xo + 1, none⟩ = some (.int .i64 (p.2)) by first | exact C0_5.out | go_simp) (by have := hxb; first | omega | (simp; omega)))
  have hL6 := Lib.hid (show Below w5.heap.size w5 _ from reads_mid hb (by repeat' (first | exact Below.refl _ _ | refine below_drewN ?_ _ | refine Below.drew ?_ | refine Below.alloc ?_ (by first | omega | (simp; done) | (simp; omega) | (simp [World.setCell]; omega)) _ | refine Below.setCell ?_ (by first | omega | (simp; done) | (simp; omega)) _)))
  have R0_6 := Lib.hid (reads_lay hb hL6.out R0_5.out)
  have R1_6 := Lib.hid (reads_lay hb hL6.out R1_5.out)
  have R2_6 := Lib.hid (reads_lay hb hL6.out R2_5.out)
  clear hL6 R0_5 R1_5 R2_5
  have hz6 := hb.size
  try simp only [World.size_alloc, World.drewN, World.drew] at hz6
  clear hb
  go_wp2_with fail
  refine (isplace_is x true HM.out _).mono ?_
  rintro e w' ⟨rfl, rfl⟩
  have y1 := C0_6.out
  clear z1
  go_wp2
  go_quiet (fail)
  go_wp2
  go_loopw [8, 9, 10] (fun lo hi i wr => ∃ k : Nat, 1 ≤ k ∧ k ≤ n ∧ lo = .int .i64 (loTo l k) ∧ hi = .int .i64 (hiTo l k) ∧ i = .int .i64 k ∧ Below w6.heap.size w6 wr) (fun _ _ i _ => n - (intOf i).toNat)
  case atStart => exact ⟨1, Nat.le_refl 1, hlen, by rw [HONE.out.1], by rw [HONE.out.2], rfl, by repeat' (first | exact Below.refl _ _ | refine below_drewN ?_ _ | refine Below.drew ?_ | refine Below.alloc ?_ (by first | omega | (simp; done) | (simp; omega) | (simp [World.setCell]; omega)) _ | refine Below.setCell ?_ (by first | omega | (simp; done) | (simp; omega)) _)⟩
  case round =>
    obtain ⟨k, hk1, hkn, rfl, rfl, rfl, hb⟩ := hrel
    have hr0 := (R0_6.out.below hb).more hb.size
    have HBR := Lib.hid (HB6.out.trans (hb.mono HB6.out.size))
    have HR0 := Lib.hid hr0
    have HBL := Lib.hid hb
    clear hb hr0
    by_cases hlt : k < n
    · obtain ⟨yb, yo, u, hA, _, hu, d0, d1⟩ := HR0.out.pair hlt
      obtain ⟨rfl, rfl⟩ : xb = yb ∧ xo = yo := by simpa using hA
      have HU := Lib.hid hu
      clear hu hA d0
      have hkk : (k : Int) < (n : Int) := by omega
      go_wp2
      go_quiet (fail)
      go_wp2
      go_roundw
      case rel =>
        refine ⟨k + 1, by omega, by omega, ?_, ?_, by go_num, below_drewN HBL.out _⟩
        · rw [loTo_succ HU.out]
        · rw [hiTo_succ HU.out]
      case measure => simp [intOf]; omega
    · obtain rfl : n = k := by omega
      go_wp2_with fail
      refine (rtableat9_is _ n c l x T HT.out _ HR0.out HE.out hxr.1 hxr.2).mono ?_
      rintro e w7 ⟨rfl, hb⟩
      have HB7 := Lib.hid (HBR.out.trans (hb.mono HBR.out.size))
      have q1 : (T == T) = true := by simp
      have q2 := HMID.out.1
      have q3 := HMID.out.2
      clear hb
      go_wp2
      go_ret
      exact ⟨rfl, HB7.out⟩
end Go.Proofs.Ytgamepmipoociaa

end

section
/- For every table and every number the call of PointTables returns true and leaves its arguments as they were; no condition. -/
namespace Go.Proofs.Ytgamepmipoociaa.lawPT
open Go Go.RowKit Go.ChangeShapes Go.WideShapes Go.ChangeAt Go.Joins

set_option maxRecDepth 100000 in
theorem contract (H : Type) (enc : TypeId × Value → H) (W : World) (base : Nat) (args : Array Value) (ds gs : List (DataW H)) (before : List MemPlace)
    (hval : ∀ (j : Nat) t v, Try.f4.params[j]? = some t → args[j]? = some v → Value.okWide Try.prog W .any base t v)
    (hW : DataW.Whole enc Try.prog Try.f4.params.toList Rows.pointTablesSpec.vars false W args.toList ds gs before) :
    Calls Try.prog 4 args W fun e W' => ∃ v, e = .returned v ∧ Rows.pointTablesSpec.post enc Try.prog Try.f4 false true false false W args v W' := by
  have hW' := hW
  obtain ⟨p, q, hA, hV, rfl, hfz, hnd⟩ := hW'
  rw [Try.params4] at hA hval
  obtain ⟨v0, vs0, d0, ds0, p0, q0, hargs, rfl, rfl, h0, r0⟩ := trodAll_cons hA
  obtain ⟨v1, vs1, d1, ds1, p1, q1, rfl, rfl, rfl, h1, r1⟩ := trodAll_cons r0
  obtain ⟨rfl, rfl, rfl⟩ := trodAll_nil r1
  obtain rfl : args = #[v0, v1] := by cases args; simp_all
  obtain ⟨A0, n0, c0, l0, rfl, hn0, hl0, hi0, hr0⟩ := arg_pairs Try.underlying30 Try.underlying38 (by kernel_rfl) (by kernel_rfl) Try.underlying3 (by kernel_rfl) (by kernel_rfl) (hval 0 30 v0 rfl rfl) h0
  obtain ⟨a1, rfl, ha1⟩ := arg_int Try.underlying3 (hval 1 3 v1 rfl rfl) h1
  refine (lawPT_any A0 n0 c0 l0 a1 W hn0 hl0 hi0 hr0 ha1.1 ha1.2).mono fun e W' ⟨he, hg⟩ => ?_
  subst he
  obtain ⟨rfl, rfl⟩ := trodVars_none hV
  exact ⟨_, rfl, post_law hW rfl (by kernel_rfl) Try.underlying4 (by kernel_rfl) rfl rfl rfl hg⟩

set_option maxRecDepth 100000 in
theorem lifted (os : Os) (started : os.Started) (H : Type) (enc : TypeId × Value → H) :
    ReturnsInHanded {} Try.checked os 4 .any (Rows.pointTablesSpec.pre6 enc Try.prog Try.f4 Rows.pointTablesRow.domain false) (Rows.pointTablesSpec.post enc Try.prog Try.f4 false true false false) := by
  refine returnsInHanded_of_change (C := Try.checked) (s := Rows.pointTablesSpec) own_knob started (by kernel_rfl) Try.func4
    (ChangeSpec.witness6 (enc := enc) (C := Try.checked) (s := Rows.pointTablesSpec) false ⟨#[], #[.slice none 0 0, .int .i64 0], []⟩ 8 (by kernel_rfl) (by kernel_rfl) (by kernel_rfl) (by kernel_rfl)) ?_
  intro W base args ds gs before hval hW _ _
  exact contract H enc W base args ds gs before hval hW

theorem over : Rows.PointTablesSaid :=
  OpenClaim.holds_of_wide 4 Try.f4 rfl rfl rfl rfl rfl rfl rfl ⟨rfl, rfl, rfl, rfl, rfl⟩ rfl rfl rfl rfl rfl (by kernel_rfl) Try.func4 (by kernel_rfl)
    (of_decide_eq_true (by kernel_rfl)) (by unfold Func.isWrapper; first | (rw [if_pos (by decide +kernel)]; kernel_rfl) | (rw [if_neg (by decide +kernel)]; exact ⟨rfl, rfl⟩))
    (fun os started H enc _ => lifted os started H enc)
end Go.Proofs.Ytgamepmipoociaa.lawPT

end
