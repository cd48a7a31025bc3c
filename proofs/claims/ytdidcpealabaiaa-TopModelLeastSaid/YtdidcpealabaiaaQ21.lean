import Derived.Test.YtdidcpealabaiaaQ16
import Derived.Test.YtdidcpealabaiaaQ20
import Derived.Test.YtdidcpealabaiaaQ9
import Derived.Deep.Cut

section
/- The walk of the statement on the least squares. -/
namespace Go.Proofs.Ytdidcpealabaiaa
open Go Go.RowKit

/-- The stars and the coefficients are small. -/
def tinyS (N : Nat) (s : Star) : Prop := s.xs.length = N ∧ (-10 ≤ s.er ∧ s.er ≤ 10) ∧ ∀ z ∈ s.xs, -10 ≤ z ∧ z ≤ 10

set_option maxRecDepth 100000 in
set_option maxHeartbeats 4000000 in
theorem lawTM_no (A : Option Addr) (n c : Nat) (l : List Star) (Bt : Option Addr) (nb cb : Nat) (bs : List Int) (w : World) (hnc : n ≤ c ∧ c ≤ 9223372036854775807) (hx : StarsAt l A n w) (hbc : nb ≤ cb ∧ cb ≤ 9223372036854775807) (hrb : Reads w w.heap.size 1 Bt nb (bs.map (.int .i64)))
    (N0 E0 : Int) (hS : starsF l = (N0, E0)) (h0 : E0 ≠ 0 ∨ 6 < n ∨ (nb : Int) ≠ N0 ∨ fewStars l = false) :
    Calls Try.prog 11 #[.slice A n c, .slice Bt nb cb] w fun e w' => e = .returned (.bool true) ∧ Below w.heap.size w w' := by
  obtain ⟨hnc, hcm⟩ := hnc
  obtain ⟨hbc, hbm⟩ := hbc
  have HS := Lib.hid hS
  by_cases c1 : E0 = 0
  rotate_left
  · have q1 : (E0 != 0) = true := by simpa using c1
    clear c1 h0 hS
    go_enter Try.func11, Try.ntmps11
    have R0_0 := Lib.hid hx
    clear hx
    go_wp2_with fail
    refine (aimed_any _).mono ?_
    rintro e w1 ⟨rfl, hb⟩
    have HB1 := Lib.hid (show Below w.heap.size w w1 from step_below hb (by repeat' (first | exact Below.refl _ _ | exact HB0.out | refine below_drewN ?_ _ | refine Below.drew ?_ | refine Below.alloc ?_ (by first | omega | (simp; done) | (simp; omega) | (simp [World.setCell]; omega)) _ | refine Below.setCell ?_ (by first | omega | (simp; done) | (simp; omega)) _ | assumption)))
    have hL1 := Lib.hid (show Below w.heap.size w _ from reads_mid hb (by repeat' (first | exact Below.refl _ _ | refine below_drewN ?_ _ | refine Below.drew ?_ | refine Below.alloc ?_ (by first | omega | (simp; done) | (simp; omega) | (simp [World.setCell]; omega)) _ | refine Below.setCell ?_ (by first | omega | (simp; done) | (simp; omega)) _)))
    have R0_1 := Lib.hid (stars_lay hb hL1.out R0_0.out)
    clear hL1 R0_0
    have hz1 := hb.size
    try simp only [World.size_alloc, World.drewN, World.drew] at hz1
    clear hb
    go_wp2_with fail
    refine (pstars_is l A n c N0 E0 HS.out _ R0_1.out (by omega)).mono ?_
    rintro e w2 ⟨rfl, hb⟩
    have HB2 := Lib.hid (show Below w.heap.size w w2 from step_below hb (by repeat' (first | exact Below.refl _ _ | exact HB1.out | refine below_drewN ?_ _ | refine Below.drew ?_ | refine Below.alloc ?_ (by first | omega | (simp; done) | (simp; omega) | (simp [World.setCell]; omega)) _ | refine Below.setCell ?_ (by first | omega | (simp; done) | (simp; omega)) _ | assumption)))
    have hL2 := Lib.hid (show Below w1.heap.size w1 _ from reads_mid hb (by repeat' (first | exact Below.refl _ _ | refine below_drewN ?_ _ | refine Below.drew ?_ | refine Below.alloc ?_ (by first | omega | (simp; done) | (simp; omega) | (simp [World.setCell]; omega)) _ | refine Below.setCell ?_ (by first | omega | (simp; done) | (simp; omega)) _)))
    have R0_2 := Lib.hid (stars_lay hb hL2.out R0_1.out)
    clear hL2 R0_1
    have hz2 := hb.size
    try simp only [World.size_alloc, World.drewN, World.drew] at hz2
    clear hb
    go_wp2
    go_ret
    exact ⟨rfl, by repeat' (first | exact Below.refl _ _ | exact HB2.out | refine below_drewN ?_ _ | refine Below.drew ?_ | refine Below.alloc ?_ (by first | omega | (simp; done) | (simp; omega) | (simp [World.setCell]; omega)) _ | refine Below.setCell ?_ (by first | omega | (simp; done) | (simp; omega)) _ | assumption)⟩
  have q1 : (E0 != 0) = false := by simpa using c1
  by_cases c2 : (6 : Int) < (n : Int)
  · clear c1 h0 hS
    go_enter Try.func11, Try.ntmps11
    have R0_0 := Lib.hid hx
    clear hx
    go_wp2_with fail
    refine (aimed_any _).mono ?_
    rintro e w1 ⟨rfl, hb⟩
    have HB1 := Lib.hid (show Below w.heap.size w w1 from step_below hb (by repeat' (first | exact Below.refl _ _ | exact HB0.out | refine below_drewN ?_ _ | refine Below.drew ?_ | refine Below.alloc ?_ (by first | omega | (simp; done) | (simp; omega) | (simp [World.setCell]; omega)) _ | refine Below.setCell ?_ (by first | omega | (simp; done) | (simp; omega)) _ | assumption)))
    have hL1 := Lib.hid (show Below w.heap.size w _ from reads_mid hb (by repeat' (first | exact Below.refl _ _ | refine below_drewN ?_ _ | refine Below.drew ?_ | refine Below.alloc ?_ (by first | omega | (simp; done) | (simp; omega) | (simp [World.setCell]; omega)) _ | refine Below.setCell ?_ (by first | omega | (simp; done) | (simp; omega)) _)))
    have R0_1 := Lib.hid (stars_lay hb hL1.out R0_0.out)
    clear hL1 R0_0
    have hz1 := hb.size
    try simp only [World.size_alloc, World.drewN, World.drew] at hz1
    clear hb
    go_wp2_with fail
    refine (pstars_is l A n c N0 E0 HS.out _ R0_1.out (by omega)).mono ?_
    rintro e w2 ⟨rfl, hb⟩
    have HB2 := Lib.hid (show Below w.heap.size w w2 from step_below hb (by repeat' (first | exact Below.refl _ _ | exact HB1.out | refine below_drewN ?_ _ | refine Below.drew ?_ | refine Below.alloc ?_ (by first | omega | (simp; done) | (simp; omega) | (simp [World.setCell]; omega)) _ | refine Below.setCell ?_ (by first | omega | (simp; done) | (simp; omega)) _ | assumption)))
    have hL2 := Lib.hid (show Below w1.heap.size w1 _ from reads_mid hb (by repeat' (first | exact Below.refl _ _ | refine below_drewN ?_ _ | refine Below.drew ?_ | refine Below.alloc ?_ (by first | omega | (simp; done) | (simp; omega) | (simp [World.setCell]; omega)) _ | refine Below.setCell ?_ (by first | omega | (simp; done) | (simp; omega)) _)))
    have R0_2 := Lib.hid (stars_lay hb hL2.out R0_1.out)
    clear hL2 R0_1
    have hz2 := hb.size
    try simp only [World.size_alloc, World.drewN, World.drew] at hz2
    clear hb
    go_wp2
    go_ret
    exact ⟨rfl, by repeat' (first | exact Below.refl _ _ | exact HB2.out | refine below_drewN ?_ _ | refine Below.drew ?_ | refine Below.alloc ?_ (by first | omega | (simp; done) | (simp; omega) | (simp [World.setCell]; omega)) _ | refine Below.setCell ?_ (by first | omega | (simp; done) | (simp; omega)) _ | assumption)⟩
  by_cases c3 : (nb : Int) = N0
  rotate_left
  · have q2 : ((nb : Int) != N0) = true := by simpa using c3
    clear c1 h0 hS c3
    go_enter Try.func11, Try.ntmps11
    have R0_0 := Lib.hid hx
    clear hx
    go_wp2_with fail
    refine (aimed_any _).mono ?_
    rintro e w1 ⟨rfl, hb⟩
    have HB1 := Lib.hid (show Below w.heap.size w w1 from step_below hb (by repeat' (first | exact Below.refl _ _ | exact HB0.out | refine below_drewN ?_ _ | refine Below.drew ?_ | refine Below.alloc ?_ (by first | omega | (simp; done) | (simp; omega) | (simp [World.setCell]; omega)) _ | refine Below.setCell ?_ (by first | omega | (simp; done) | (simp; omega)) _ | assumption)))
    have hL1 := Lib.hid (show Below w.heap.size w _ from reads_mid hb (by repeat' (first | exact Below.refl _ _ | refine below_drewN ?_ _ | refine Below.drew ?_ | refine Below.alloc ?_ (by first | omega | (simp; done) | (simp; omega) | (simp [World.setCell]; omega)) _ | refine Below.setCell ?_ (by first | omega | (simp; done) | (simp; omega)) _)))
    have R0_1 := Lib.hid (stars_lay hb hL1.out R0_0.out)
    clear hL1 R0_0
    have hz1 := hb.size
    try simp only [World.size_alloc, World.drewN, World.drew] at hz1
    clear hb
    go_wp2_with fail
    refine (pstars_is l A n c N0 E0 HS.out _ R0_1.out (by omega)).mono ?_
    rintro e w2 ⟨rfl, hb⟩
    have HB2 := Lib.hid (show Below w.heap.size w w2 from step_below hb (by repeat' (first | exact Below.refl _ _ | exact HB1.out | refine below_drewN ?_ _ | refine Below.drew ?_ | refine Below.alloc ?_ (by first | omega | (simp; done) | (simp; omega) | (simp [World.setCell]; omega)) _ | refine Below.setCell ?_ (by first | omega | (simp; done) | (simp; omega)) _ | assumption)))
    have hL2 := Lib.hid (show Below w1.heap.size w1 _ from reads_mid hb (by repeat' (first | exact Below.refl _ _ | refine below_drewN ?_ _ | refine Below.drew ?_ | refine Below.alloc ?_ (by first | omega | (simp; done) | (simp; omega) | (simp [World.setCell]; omega)) _ | refine Below.setCell ?_ (by first | omega | (simp; done) | (simp; omega)) _)))
    have R0_2 := Lib.hid (stars_lay hb hL2.out R0_1.out)
    clear hL2 R0_1
    have hz2 := hb.size
    try simp only [World.size_alloc, World.drewN, World.drew] at hz2
    clear hb
    go_wp2
    go_ret
    exact ⟨rfl, by repeat' (first | exact Below.refl _ _ | exact HB2.out | refine below_drewN ?_ _ | refine Below.drew ?_ | refine Below.alloc ?_ (by first | omega | (simp; done) | (simp; omega) | (simp [World.setCell]; omega)) _ | refine Below.setCell ?_ (by first | omega | (simp; done) | (simp; omega)) _ | assumption)⟩
  have hf : fewStars l = false := by
    rcases h0 with h | h | h | h
    · exact absurd c1 h
    · exact absurd (by omega) c2
    · exact absurd c3 h
    · exact h
  have HFW := Lib.hid hf
  have q2 : ((nb : Int) != N0) = false := by simpa using c3
  clear c1 h0 hS c3 hf
  go_enter Try.func11, Try.ntmps11
  have R0_0 := Lib.hid hx
  clear hx
  go_wp2_with fail
  refine (aimed_any _).mono ?_
  rintro e w1 ⟨rfl, hb⟩
  have HB1 := Lib.hid (show Below w.heap.size w w1 from step_below hb (by repeat' (first | exact Below.refl _ _ | exact HB0.out | refine below_drewN ?_ _ | refine Below.drew ?_ | refine Below.alloc ?_ (by first | omega | (simp; done) | (simp; omega) | (simp [World.setCell]; omega)) _ | refine Below.setCell ?_ (by first | omega | (simp; done) | (simp; omega)) _ | assumption)))
  have hL1 := Lib.hid (show Below w.heap.size w _ from reads_mid hb (by repeat' (first | exact Below.refl _ _ | refine below_drewN ?_ _ | refine Below.drew ?_ | refine Below.alloc ?_ (by first | omega | (simp; done) | (simp; omega) | (simp [World.setCell]; omega)) _ | refine Below.setCell ?_ (by first | omega | (simp; done) | (simp; omega)) _)))
  have R0_1 := Lib.hid (stars_lay hb hL1.out R0_0.out)
  clear hL1 R0_0
  have hz1 := hb.size
  try simp only [World.size_alloc, World.drewN, World.drew] at hz1
  clear hb
  go_wp2_with fail
  refine (pstars_is l A n c N0 E0 HS.out _ R0_1.out (by omega)).mono ?_
  rintro e w2 ⟨rfl, hb⟩
  have HB2 := Lib.hid (show Below w.heap.size w w2 from step_below hb (by repeat' (first | exact Below.refl _ _ | exact HB1.out | refine below_drewN ?_ _ | refine Below.drew ?_ | refine Below.alloc ?_ (by first | omega | (simp; done) | (simp; omega) | (simp [World.setCell]; omega)) _ | refine Below.setCell ?_ (by first | omega | (simp; done) | (simp; omega)) _ | assumption)))
  have hL2 := Lib.hid (show Below w1.heap.size w1 _ from reads_mid hb (by repeat' (first | exact Below.refl _ _ | refine below_drewN ?_ _ | refine Below.drew ?_ | refine Below.alloc ?_ (by first | omega | (simp; done) | (simp; omega) | (simp [World.setCell]; omega)) _ | refine Below.setCell ?_ (by first | omega | (simp; done) | (simp; omega)) _)))
  have R0_2 := Lib.hid (stars_lay hb hL2.out R0_1.out)
  clear hL2 R0_1
  have hz2 := hb.size
  try simp only [World.size_alloc, World.drewN, World.drew] at hz2
  clear hb
  go_wp2_with fail
  refine (fewstars_is l A n c false HFW.out _ R0_2.out (by omega)).mono ?_
  rintro e w' ⟨rfl, rfl⟩
  go_wp2
  go_ret
  exact ⟨rfl, by repeat' (first | exact Below.refl _ _ | exact HB2.out | refine below_drewN ?_ _ | refine Below.drew ?_ | refine Below.alloc ?_ (by first | omega | (simp; done) | (simp; omega) | (simp [World.setCell]; omega)) _ | refine Below.setCell ?_ (by first | omega | (simp; done) | (simp; omega)) _ | assumption)⟩

set_option maxRecDepth 100000 in
set_option maxHeartbeats 8000000 in
theorem lawTM_yes (A : Option Addr) (n c : Nat) (l : List Star) (Bt : Option Addr) (nb cb : Nat) (bs : List Int) (w : World) (hnc : n ≤ c ∧ c ≤ 9223372036854775807) (hx : StarsAt l A n w) (hbc : nb ≤ cb ∧ cb ≤ 9223372036854775807) (hrb : Reads w w.heap.size 1 Bt nb (bs.map (.int .i64)))
    (hS : starsF l = ((nb : Int), 0)) (h6 : n ≤ 6) (hf : fewStars l = true) :
    Calls Try.prog 11 #[.slice A n c, .slice Bt nb cb] w fun e w' => e = .returned (.bool true) ∧ Below w.heap.size w w' := by
  obtain ⟨hnc, hcm⟩ := hnc
  obtain ⟨hbc, hbm⟩ := hbc
  obtain ⟨s1, s2, s3, s4⟩ := stars_right hS rfl
  have hln : l.length = n := hx.len
  have hN : termsN l = nb := by omega
  have hbl : bs.length = nb := hrb.ilen
  rw [hN] at s4
  obtain ⟨sz, hsz⟩ := List.exists_mem_of_length_pos (show 0 < l.length by omega)
  obtain ⟨-, n1, n3, -⟩ := star_right (s4 sz hsz)
  have HS := Lib.hid hS
  have HFW := Lib.hid hf
  have HLN := Lib.hid hln
  have HNN := Lib.hid hN
  have HBL := Lib.hid hbl
  have HSR := Lib.hid s4
  have d6 : ¬ (6 : Int) < (n : Int) := by omega
  have q2 : ((nb : Int) != (nb : Int)) = false := by simp
  have hn0 : 0 < n := by omega
  clear hS hf hln hN hbl s4 s3 hsz
  go_enter Try.func11, Try.ntmps11
  have R0_0 := Lib.hid hx
  clear hx
  have R1_0 := Lib.hid hrb
  clear hrb
  go_wp2_with fail
  refine (aimed_any _).mono ?_
  rintro e w1 ⟨rfl, hb⟩
  have HB1 := Lib.hid (show Below w.heap.size w w1 from step_below hb (by repeat' (first | exact Below.refl _ _ | exact HB0.out | refine below_drewN ?_ _ | refine Below.drew ?_ | refine Below.alloc ?_ (by first | omega | (simp; done) | (simp; omega) | (simp [World.setCell]; omega)) _ | refine Below.setCell ?_ (by first | omega | (simp; done) | (simp; omega)) _ | assumption)))
  have hL1 := Lib.hid (show Below w.heap.size w _ from reads_mid hb (by repeat' (first | exact Below.refl _ _ | refine below_drewN ?_ _ | refine Below.drew ?_ | refine Below.alloc ?_ (by first | omega | (simp; done) | (simp; omega) | (simp [World.setCell]; omega)) _ | refine Below.setCell ?_ (by first | omega | (simp; done) | (simp; omega)) _)))
  have R0_1 := Lib.hid (stars_lay hb hL1.out R0_0.out)
  have R1_1 := Lib.hid (reads_lay hb hL1.out R1_0.out)
  clear hL1 R0_0 R1_0
  have hz1 := hb.size
  try simp only [World.size_alloc, World.drewN, World.drew] at hz1
  clear hb
  go_wp2_with fail
  refine (pstars_is l A n c nb 0 HS.out _ R0_1.out (by omega)).mono ?_
  rintro e w2 ⟨rfl, hb⟩
  have HB2 := Lib.hid (show Below w.heap.size w w2 from step_below hb (by repeat' (first | exact Below.refl _ _ | exact HB1.out | refine below_drewN ?_ _ | refine Below.drew ?_ | refine Below.alloc ?_ (by first | omega | (simp; done) | (simp; omega) | (simp [World.setCell]; omega)) _ | refine Below.setCell ?_ (by first | omega | (simp; done) | (simp; omega)) _ | assumption)))
  have hL2 := Lib.hid (show Below w1.heap.size w1 _ from reads_mid hb (by repeat' (first | exact Below.refl _ _ | refine below_drewN ?_ _ | refine Below.drew ?_ | refine Below.alloc ?_ (by first | omega | (simp; done) | (simp; omega) | (simp [World.setCell]; omega)) _ | refine Below.setCell ?_ (by first | omega | (simp; done) | (simp; omega)) _)))
  have R0_2 := Lib.hid (stars_lay hb hL2.out R0_1.out)
  have R1_2 := Lib.hid (reads_lay hb hL2.out R1_1.out)
  clear hL2 R0_1 R1_1
  have hz2 := hb.size
  try simp only [World.size_alloc, World.drewN, World.drew] at hz2
  clear hb
  go_wp2_with fail
  refine (fewstars_is l A n c true HFW.out _ R0_2.out (by omega)).mono ?_
  rintro e w' ⟨rfl, rfl⟩
  go_wp2
  go_loopw [7, 8] (fun i k' wr => ∃ i' : Nat, i' ≤ n ∧ i = .int .i64 i' ∧ wr = w2 ∧ (∀ j s, j < i' → l[j]? = some s → tinyS nb s) ∧ (0 < i' → ∀ z ∈ bs, -100 ≤ z ∧ z ≤ 100)) (fun i _ _ => n - (intOf i).toNat)
  case atStart => exact ⟨0, by omega, rfl, by trivial, fun j s h => absurd h (by omega), fun h => absurd h (by omega)⟩
  case round =>
    obtain ⟨i, hi, rfl, rfl, hpre, hpb⟩ := hrel
    obtain ⟨w2, hnm⟩ : ∃ z : World, z = wr := ⟨_, rfl⟩
    subst hnm
    have HPRE := Lib.hid hpre
    have HPB := Lib.hid hpb
    clear hpre hpb
    by_cases hlt : i < n
    · obtain ⟨xb, xo, s, hAx, hxb, hs, c0, c1, hcs, hsl, hsr⟩ := R0_2.out.at_ hlt
      have hsn : s.n = nb := by rw [← hsl]; exact (star_right (HSR.out s (List.mem_of_getElem? hs))).1
      obtain ⟨sA, sn, sc, sx, se⟩ := s
      simp only at c0 c1 hcs hsl hsr hsn
      subst hsn
      have hii : (i : Int) < (n : Int) := by omega
      obtain ⟨t1, ht1⟩ : ∃ t, withinB se (-10) 10 = t := ⟨_, rfl⟩
      have HT1 := Lib.hid ht1
      have HSI := Lib.hid hs
      have HSX := Lib.hid hsr
      have HSL := Lib.hid hsl
      clear ht1 hs hsr hsl
      go_wp2_with fail
      refine (withinref_is _ _ _ _ HT1.out _).mono ?_
      rintro e w' ⟨rfl, rfl⟩
      cases t1
      · go_wp2
        go_ret
        exact ⟨rfl, by repeat' (first | exact Below.refl _ _ | exact HB2.out | refine below_drewN ?_ _ | refine Below.drew ?_ | refine Below.alloc ?_ (by first | omega | (simp; done) | (simp; omega) | (simp [World.setCell]; omega)) _ | refine Below.setCell ?_ (by first | omega | (simp; done) | (simp; omega)) _ | assumption)⟩
      go_wp2
      go_loopw [8] (fun i wr => ∃ k : Nat, k ≤ sn ∧ i = .int .i64 k ∧ wr = w2 ∧ (∀ q z, q < k → sx[q]? = some z → -10 ≤ z ∧ z ≤ 10) ∧ ∀ q z, q < k → bs[q]? = some z → -100 ≤ z ∧ z ≤ 100) (fun i _ => sn - (intOf i).toNat)
      case atStart => exact ⟨0, by omega, rfl, by trivial, fun j s h => absurd h (by omega), fun j s h => absurd h (by omega)⟩
      case round =>
        obtain ⟨k, hk, rfl, rfl, hp1, hp2⟩ := hrel
        obtain ⟨w2, hnm⟩ : ∃ z : World, z = wr := ⟨_, rfl⟩
        subst hnm
        have HP1 := Lib.hid hp1
        have HP2 := Lib.hid hp2
        clear hp1 hp2
        by_cases hlt2 : k < sn
        · obtain ⟨yb, yo, z, hAs, hyb, hz, f0⟩ := HSX.out.int_ hlt2
          obtain ⟨ub, uo, b, hBt, hub, hb, f1⟩ := R1_2.out.int_ hlt2
          have hkk : (k : Int) < (sn : Int) := by omega
          obtain ⟨t2, ht2⟩ : ∃ t, withinB z (-10) 10 = t := ⟨_, rfl⟩
          obtain ⟨t3, ht3⟩ : ∃ t, withinB b (-100) 100 = t := ⟨_, rfl⟩
          have HT2 := Lib.hid ht2
          have HT3 := Lib.hid ht3
          have HZ := Lib.hid hz
          have HB_ := Lib.hid hb
          clear ht2 ht3 hz hb
          go_wp2_with fail
          refine (withinref_is _ _ _ _ HT2.out _).mono ?_
          rintro e w' ⟨rfl, rfl⟩
          cases t2
          · go_wp2
            go_ret
            exact ⟨rfl, by repeat' (first | exact Below.refl _ _ | exact HB2.out | refine below_drewN ?_ _ | refine Below.drew ?_ | refine Below.alloc ?_ (by first | omega | (simp; done) | (simp; omega) | (simp [World.setCell]; omega)) _ | refine Below.setCell ?_ (by first | omega | (simp; done) | (simp; omega)) _ | assumption)⟩
          go_wp2_with fail
          refine (withinref_is _ _ _ _ HT3.out _).mono ?_
          rintro e w' ⟨rfl, rfl⟩
          cases t3
          · go_wp2
            go_ret
            exact ⟨rfl, by repeat' (first | exact Below.refl _ _ | exact HB2.out | refine below_drewN ?_ _ | refine Below.drew ?_ | refine Below.alloc ?_ (by first | omega | (simp; done) | (simp; omega) | (simp [World.setCell]; omega)) _ | refine Below.setCell ?_ (by first | omega | (simp; done) | (simp; omega)) _ | assumption)⟩
          go_wp2
          try rw [← hAx]
          try rw [← hAs]
          try rw [← hBt]
          go_roundw
          case rel =>
            refine ⟨k + 1, by omega, by go_num, by trivial, fun q z' hq hz' => ?_, fun q z' hq hz' => ?_⟩
            · by_cases e : q < k
              · exact HP1.out q z' e hz'
              · obtain rfl : k = q := by omega
                obtain rfl := Option.some.inj (HZ.out.symm.trans hz')
                exact (withinB_iff _ _ _).1 HT2.out
            · by_cases e : q < k
              · exact HP2.out q z' e hz'
              · obtain rfl : k = q := by omega
                obtain rfl := Option.some.inj (HB_.out.symm.trans hz')
                exact (withinB_iff _ _ _).1 HT3.out
          case measure => simp [intOf]; omega
        · obtain rfl : sn = k := by omega
          go_wp2
          try rw [← hAx]
          go_roundw
          case rel =>
            have hb2 : ∀ z ∈ bs, -100 ≤ z ∧ z ≤ 100 := fun z hz => by
              obtain ⟨q, hq⟩ := List.getElem?_of_mem hz
              have h := (List.getElem?_eq_some_iff.1 hq).1
              exact HP2.out q z (by have := HBL.out; omega) hq
            refine ⟨i + 1, by omega, by go_num, by trivial, fun j s hj hs => ?_, fun _ => hb2⟩
            by_cases e : j < i
            · exact HPRE.out j s e hs
            · obtain rfl : i = j := by omega
              obtain rfl := Option.some.inj (HSI.out.symm.trans hs)
              refine ⟨HSL.out, (withinB_iff _ _ _).1 HT1.out, fun z hz => ?_⟩
              obtain ⟨q, hq⟩ := List.getElem?_of_mem hz
              have h := (List.getElem?_eq_some_iff.1 hq).1
              exact HP1.out q z (by have h5 : sx.length = sn := HSL.out; have h6 : q < sx.length := h; omega) hq
          case measure => simp [intOf]; omega
    · obtain rfl : n = i := by omega
      have hall : ∀ s ∈ l, tinyS nb s := fun s hs => by
        obtain ⟨j, hj⟩ := List.getElem?_of_mem hs
        exact HPRE.out j s (by have h := (List.getElem?_eq_some_iff.1 hj).1; have := HLN.out; omega) hj
      have hbs := HPB.out (by omega)
      have HALL := Lib.hid hall
      have HBS := Lib.hid hbs
      clear hall hbs
      obtain ⟨⟨⟨T, D⟩, E⟩, hf⟩ : ∃ z, fitF l = z := ⟨_, rfl⟩
      obtain ⟨mm, hm⟩ : ∃ m, T.length = m := ⟨_, rfl⟩
      have hek := fit_kind hf
      have HFF := Lib.hid hf
      have HMM := Lib.hid hm
      clear hf hm
      go_wp2_with fail
      refine (pfitB_is rfl HFF.out HMM.out A n c (by rw [HS.out]) _ R0_2.out).mono ?_
      rintro e w3 ⟨A5, c5, rfl, hb, hT5, -⟩
      have HB3 := Lib.hid (show Below w.heap.size w w3 from step_below hb (by repeat' (first | exact Below.refl _ _ | exact HB2.out | refine below_drewN ?_ _ | refine Below.drew ?_ | refine Below.alloc ?_ (by first | omega | (simp; done) | (simp; omega) | (simp [World.setCell]; omega)) _ | refine Below.setCell ?_ (by first | omega | (simp; done) | (simp; omega)) _ | assumption)))
      have hL3 := Lib.hid (show Below w2.heap.size w2 _ from reads_mid hb (by repeat' (first | exact Below.refl _ _ | refine below_drewN ?_ _ | refine Below.drew ?_ | refine Below.alloc ?_ (by first | omega | (simp; done) | (simp; omega) | (simp [World.setCell]; omega)) _ | refine Below.setCell ?_ (by first | omega | (simp; done) | (simp; omega)) _)))
      have R0_3 := Lib.hid (stars_lay hb hL3.out R0_2.out)
      have R1_3 := Lib.hid (reads_lay hb hL3.out R1_2.out)
      clear hL3 R0_2 R1_2
      have hz3 := hb.size
      try simp only [World.size_alloc, World.drewN, World.drew] at hz3
      clear hb
      have R2_3 := Lib.hid hT5
      clear hT5
      go_upto_region 17 with fail
      generalize hwn : (w3.alloc (.cells #[.slice (A5) (mm) c5, .int .i64 (D)] 45)) = w4
      have hbn : Below w3.heap.size w3 w4 := by rw [← hwn]; repeat' (first | exact Below.refl _ _ | refine below_drewN ?_ _ | refine Below.drew ?_ | refine Below.alloc ?_ (by first | omega | (simp; done) | (simp; omega) | (simp [World.setCell]; omega)) _ | refine Below.setCell ?_ (by first | omega | (simp; done) | (simp; omega)) _)
      have HB4 := Lib.hid (show Below w.heap.size w w4 from HB3.out.trans (hbn.mono HB3.out.size))
      have K0_4 := Lib.hid (show Blk w4 (w3.heap.size) 45 #[.slice (A5) (mm) c5, .int .i64 (D)] by rw [← hwn]; repeat' (first | exact Blk.at_ _ (by first | rfl | (simp; done) | (simp; omega)) _ _ | refine Blk.drewN ?_ _ | refine Blk.drew ?_ | refine Blk.alloc ?_ _ | refine Blk.far ?_ (by first | omega | (simp; done) | (simp; omega)) _ | assumption))
      have R0_4 := Lib.hid (R0_3.out.lay hbn)
      have R1_4 := Lib.hid ((R1_3.out.below hbn).more hbn.size)
      have R2_4 := Lib.hid ((R2_3.out.below hbn).more hbn.size)
      have HN4 := Lib.hid hbn
      have hz4 := hbn.size
      clear hwn hbn R0_3 R1_3 R2_3
      have l0_4 : w3.heap.size < w4.heap.size := K0_4.out.lt
      have z0_0_4 : w4.cell? ⟨w3.heap.size, 0, none⟩ = some (.slice (A5) (mm) c5) := K0_4.out.cell 0
      have z0_1_4 : w4.cell? ⟨w3.heap.size, 1, none⟩ = some (.int .i64 (D)) := K0_4.out.cell 1
      by_cases e0 : E = 0
      rotate_left
      · rcases hek with h | rfl | rfl
        · exact absurd h e0
        · clear e0
          go_wp2
          go_ret
          exact ⟨rfl, by repeat' (first | exact Below.refl _ _ | exact HB4.out | refine below_drewN ?_ _ | refine Below.drew ?_ | refine Below.alloc ?_ (by first | omega | (simp; done) | (simp; omega) | (simp [World.setCell]; omega)) _ | refine Below.setCell ?_ (by first | omega | (simp; done) | (simp; omega)) _ | assumption)⟩
        · clear e0
          go_wp2
          go_ret
          exact ⟨rfl, by repeat' (first | exact Below.refl _ _ | exact HB4.out | refine below_drewN ?_ _ | refine Below.drew ?_ | refine Below.alloc ?_ (by first | omega | (simp; done) | (simp; omega) | (simp [World.setCell]; omega)) _ | refine Below.setCell ?_ (by first | omega | (simp; done) | (simp; omega)) _ | assumption)⟩
      subst e0
      obtain ⟨a1, a2, a3⟩ := fit_accepted (by rw [HS.out]) HFF.out
      rw [HMM.out, HNN.out] at a1
      subst a1
      have hle := fun (h : bs.length = T.length) => sq_least (b := bs) (by rw [HS.out]) HFF.out h
      have hle := hle (by rw [HBL.out, HMM.out])
      obtain ⟨D1, D2⟩ : 1 ≤ D ∧ D ≤ 1000000000000 := by
        unfold mdlErr at a2
        split at a2
        · cases a2
        · split at a2
          · cases a2
          · rename_i h; rw [not_or] at h; exact (withinB_iff _ _ _).1 (by simpa using h.1)
      have HLE := Lib.hid hle
      have HA3 := Lib.hid a3
      clear hle a2 a3 hek
      go_wp2_with fail
      refine (pcheckfit_is l A n c A5 mm c5 T D 0 HA3.out _ R0_4.out R2_4.out (by omega) (by omega)).mono ?_
      rintro e w5 ⟨rfl, hb⟩
      have HB5 := Lib.hid (show Below w.heap.size w w5 from step_below hb (by repeat' (first | exact Below.refl _ _ | exact HB4.out | refine below_drewN ?_ _ | refine Below.drew ?_ | refine Below.alloc ?_ (by first | omega | (simp; done) | (simp; omega) | (simp [World.setCell]; omega)) _ | refine Below.setCell ?_ (by first | omega | (simp; done) | (simp; omega)) _ | assumption)))
      have K0_5 := Lib.hid (step_blk hb (show Blk _ (w3.heap.size) 45 #[.slice (A5) (mm) c5, .int .i64 (D)] by repeat' (first | exact K0_4.out | exact Blk.at_ _ (by first | rfl | (simp; done) | (simp; omega)) _ _ | refine Blk.drewN ?_ _ | refine Blk.drew ?_ | refine Blk.alloc ?_ _ | refine Blk.far ?_ (by first | omega | (simp; done) | (simp; omega)) _ | assumption)))
      have hL5 := Lib.hid (show Below w4.heap.size w4 _ from reads_mid hb (by repeat' (first | exact Below.refl _ _ | refine below_drewN ?_ _ | refine Below.drew ?_ | refine Below.alloc ?_ (by first | omega | (simp; done) | (simp; omega) | (simp [World.setCell]; omega)) _ | refine Below.setCell ?_ (by first | omega | (simp; done) | (simp; omega)) _)))
      have R0_5 := Lib.hid (stars_lay hb hL5.out R0_4.out)
      have R1_5 := Lib.hid (reads_lay hb hL5.out R1_4.out)
      have R2_5 := Lib.hid (reads_lay hb hL5.out R2_4.out)
      clear hL5 R0_4 R1_4 R2_4
      have hz5 := hb.size
      try simp only [World.size_alloc, World.drewN, World.drew] at hz5
      clear hb K0_4 z0_0_4 z0_1_4 l0_4
      have l0_5 : w3.heap.size < w5.heap.size := K0_5.out.lt
      have z0_0_5 : w5.cell? ⟨w3.heap.size, 0, none⟩ = some (.slice (A5) (mm) c5) := K0_5.out.cell 0
      have z0_1_5 : w5.cell? ⟨w3.heap.size, 1, none⟩ = some (.int .i64 (D)) := K0_5.out.cell 1
      obtain ⟨t4, ht4⟩ : ∃ t, withinB D 1 10000 = t := ⟨_, rfl⟩
      have HT4 := Lib.hid ht4
      clear ht4
      go_wp2_with fail
      refine (withinref_is _ _ _ _ HT4.out _).mono ?_
      rintro e w' ⟨rfl, rfl⟩
      cases t4
      · have dD : decide (0 < D) = true := decide_eq_true (by omega)
        go_wp2
        go_ret
        exact ⟨rfl, by repeat' (first | exact Below.refl _ _ | exact HB5.out | refine below_drewN ?_ _ | refine Below.drew ?_ | refine Below.alloc ?_ (by first | omega | (simp; done) | (simp; omega) | (simp [World.setCell]; omega)) _ | refine Below.setCell ?_ (by first | omega | (simp; done) | (simp; omega)) _ | assumption)⟩
      obtain ⟨-, D3⟩ := (withinB_iff _ _ _).1 HT4.out
      go_wp2
      have hmb5 : w3.heap.size < w5.heap.size := l0_5
      go_loopw [11, 12, 13] (fun bv ov iv wr => ∃ i : Nat, i ≤ n ∧ bv = .int .i64 (sqL T D (l.take i)) ∧ ov = .int .i64 (sqL bs 1 (l.take i)) ∧ iv = .int .i64 i ∧ Below w5.heap.size w5 wr ∧ (0 ≤ sqL T D (l.take i) ∧ sqL T D (l.take i) ≤ 10000000000000000 * i) ∧ (0 ≤ sqL bs 1 (l.take i) ∧ sqL bs 1 (l.take i) ≤ 10000000 * i)) (fun _ _ i _ => n - (intOf i).toNat)
      case atStart => exact ⟨0, by omega, rfl, rfl, rfl, Below.refl _ _, by simp [sqL], by simp [sqL]⟩
      case round =>
        obtain ⟨i, hi, rfl, rfl, rfl, hb6, hq1, hq2⟩ := hrel
        obtain ⟨w6, hnm⟩ : ∃ z : World, z = wr := ⟨_, rfl⟩
        subst hnm
        have hbw6 := HB5.out.trans (hb6.mono HB5.out.size)
        have hk0 := K0_5.out.below hb6 l0_5
        have hr0 := R0_5.out.lay hb6
        have hr1 := (R1_5.out.below hb6).more hb6.size
        have hr2 := (R2_5.out.below hb6).more hb6.size
        have HB56 := Lib.hid hb6
        have hs56 := hb6.size
        clear hb6
        have HB6 := Lib.hid hbw6
        have K0_6 := Lib.hid (show Blk w6 (w3.heap.size) 45 #[.slice (A5) (mm) c5, .int .i64 (D)] from hk0)
        clear hbw6 hk0
        have l0_6 : w3.heap.size < w6.heap.size := K0_6.out.lt
        have z0_0_6 : w6.cell? ⟨w3.heap.size, 0, none⟩ = some (.slice (A5) (mm) c5) := K0_6.out.cell 0
        have z0_1_6 : w6.cell? ⟨w3.heap.size, 1, none⟩ = some (.int .i64 (D)) := K0_6.out.cell 1
        have R0_6 := Lib.hid hr0
        clear hr0
        have R1_6 := Lib.hid hr1
        clear hr1
        have R2_6 := Lib.hid hr2
        clear hr2
        obtain ⟨Q, hQ⟩ : ∃ Q, sqL T D (l.take i) = Q := ⟨_, rfl⟩
        obtain ⟨O, hO⟩ : ∃ O, sqL bs 1 (l.take i) = O := ⟨_, rfl⟩
        rw [hQ] at hq1 ⊢
        rw [hO] at hq2 ⊢
        obtain ⟨Q1, Q2⟩ := hq1
        obtain ⟨O1, O2⟩ := hq2
        have HQ := Lib.hid hQ
        have HO := Lib.hid hO
        clear hQ hO
        by_cases hlt : i < n
        rotate_left
        · obtain rfl : n = i := by omega
          have hfin := HLE.out
          have e1 := HQ.out
          have e2 := HO.out
          rw [List.take_of_length_le (by rw [HLN.out]; exact Nat.le_refl _)] at e1 e2
          rw [e1, e2] at hfin
          have m1 := mulb (x := O) (y := D) (a := 100000000) (b := 10000) ⟨by omega, by omega⟩ ⟨by omega, by omega⟩ (by decide) (by decide)
          obtain ⟨OD, hOD⟩ : ∃ z, O * D = z := ⟨_, rfl⟩
          rw [hOD] at m1 hfin
          have m2 := mulb (x := OD) (y := D) (a := 1000000000000) (b := 10000) ⟨by omega, by omega⟩ ⟨by omega, by omega⟩ (by decide) (by decide)
          obtain ⟨OE, hOE⟩ : ∃ z, OD * D = z := ⟨_, rfl⟩
          rw [hOE] at m2 hfin
          have w1_ := IntWalk.i64_in OD ⟨by omega, by omega⟩
          have w2_ := IntWalk.i64_in OE ⟨by omega, by omega⟩
          have dle : decide (Q ≤ OE) = true := decide_eq_true hfin
          clear hfin e1 e2 m1 m2
          go_wp2
          go_ret
          exact ⟨rfl, by repeat' (first | exact Below.refl _ _ | exact HB6.out | refine below_drewN ?_ _ | refine Below.drew ?_ | refine Below.alloc ?_ (by first | omega | (simp; done) | (simp; omega) | (simp [World.setCell]; omega)) _ | refine Below.setCell ?_ (by first | omega | (simp; done) | (simp; omega)) _ | assumption)⟩
        obtain ⟨xb, xo, s, rfl, hxb, hs, c0, c1, hcs, hsl, hsr⟩ := R0_6.out.at_ hlt
        obtain ⟨t1, t2, t3⟩ := HALL.out s (List.mem_of_getElem? hs)
        have hrs : ∀ (V : List Int) (G : Int), V.length = mm → resS V G s = s.er * G - dotTo V s.xs mm := fun V G hV => by
          unfold resS
          rw [← hV, show dotTo V s.xs V.length = dotS V s from dotP_all (by rw [t1, hV]) (by omega)]
        have hx1 := hrs T D HMM.out
        have hy1 := hrs bs 1 HBL.out
        have hnQ := sqL_snoc (T := T) (D := D) hs
        have hnO := sqL_snoc (T := bs) (D := 1) hs
        rw [HQ.out] at hnQ
        rw [HO.out] at hnO
        have hsn : s.n = mm := by rw [← hsl, t1]
        obtain ⟨sA, sn, sc, sx, se⟩ := s
        simp only at c0 c1 hcs hsl hsr hsn t1 t2 t3 hx1 hy1
        subst hsn
        obtain ⟨t2, t2'⟩ := t2
        have hii : (i : Int) < (n : Int) := by omega
        have p0 := mulb (x := se) (y := D) (a := 10) (b := 10000) ⟨t2, t2'⟩ ⟨by omega, by omega⟩ (by decide) (by decide)
        obtain ⟨ED, hED⟩ : ∃ z, se * D = z := ⟨_, rfl⟩
        rw [hED] at p0 hx1
        obtain ⟨p1, p2⟩ := p0
        have w1_ := IntWalk.i64_in ED ⟨by omega, by omega⟩
        have HNQ := Lib.hid hnQ
        have HNO := Lib.hid hnO
        have HX1 := Lib.hid hx1
        have HY1 := Lib.hid hy1
        have HT3 := Lib.hid t3
        have HSL := Lib.hid t1
        have HSX := Lib.hid hsr
        clear hnQ hnO hx1 hy1 hrs hs t3 t1 hsr hsl
        go_wp2_with fail
        refine Fx.regionW (fun W f w' => Below W.heap.size W w') (by kernel_rfl) (by kernel_rfl) ?_ ?_
        · intro f hf0
          exact below_drewN (Below.refl _ _) 1
        repeat (first
          | (refine Fx.skip_ (by rfl) (fun f w h => h) ?_; simp only [Act.put, List.setIfInBounds_toArray, List.set_cons_zero, List.set_cons_succ])
          | (refine Fx.val_ ?_ (by rfl) ?_ (fun f w h => h) ?_
             rotate_left
             · intro f w' hD hk
               have hb := hD
               have kb0 := step_blk hb (show Blk _ (w3.heap.size) 45 #[.slice (A5) (sn) c5, .int .i64 (D)] by repeat' (first | exact K0_6.out | exact Blk.at_ _ (by first | rfl | (simp; done) | (simp; omega)) _ _ | refine Blk.drewN ?_ _ | refine Blk.drew ?_ | refine Blk.alloc ?_ _ | refine Blk.far ?_ (by first | omega | (simp; done) | (simp; omega)) _ | assumption))
               have y0_0 : w'.cell? ⟨w3.heap.size, 0, none⟩ = some (.slice (A5) (sn) c5) := kb0.cell 0
               have y0_1 : w'.cell? ⟨w3.heap.size, 1, none⟩ = some (.int .i64 (D)) := kb0.cell 1
               have x7 := (hb.cell (p := ⟨xb, xo + i * 2 + 1, none⟩) hxb).trans c1
               clear kb0
               clear hk hD hb
               go_simp
               try rfl
             simp only [Act.put, List.setIfInBounds_toArray, List.set_cons_zero, List.set_cons_succ]))
        refine Fx.nil_ ?_
        intro f w7 hall hb
        try clear hall
        have HB67 := Lib.hid hb
        have HB7 := Lib.hid (show Below w.heap.size w w7 from step_below hb (by repeat' (first | exact Below.refl _ _ | exact HB6.out | refine below_drewN ?_ _ | refine Below.drew ?_ | refine Below.alloc ?_ (by first | omega | (simp; done) | (simp; omega) | (simp [World.setCell]; omega)) _ | refine Below.setCell ?_ (by first | omega | (simp; done) | (simp; omega)) _ | assumption)))
        have K0_7 := Lib.hid (step_blk hb (show Blk _ (w3.heap.size) 45 #[.slice (A5) (sn) c5, .int .i64 (D)] by repeat' (first | exact K0_6.out | exact Blk.at_ _ (by first | rfl | (simp; done) | (simp; omega)) _ _ | refine Blk.drewN ?_ _ | refine Blk.drew ?_ | refine Blk.alloc ?_ _ | refine Blk.far ?_ (by first | omega | (simp; done) | (simp; omega)) _ | assumption)))
        have hL7 := Lib.hid (show Below w6.heap.size w6 _ from reads_mid hb (by repeat' (first | exact Below.refl _ _ | refine below_drewN ?_ _ | refine Below.drew ?_ | refine Below.alloc ?_ (by first | omega | (simp; done) | (simp; omega) | (simp [World.setCell]; omega)) _ | refine Below.setCell ?_ (by first | omega | (simp; done) | (simp; omega)) _)))
        have R0_7 := Lib.hid (stars_lay hb hL7.out R0_6.out)
        have R1_7 := Lib.hid (reads_lay hb hL7.out R1_6.out)
        have R2_7 := Lib.hid (reads_lay hb hL7.out R2_6.out)
        clear hL7 R0_6 R1_6 R2_6
        have hz7 := hb.size
        try simp only [World.size_alloc, World.drewN, World.drew] at hz7
        clear hb K0_6 z0_0_6 z0_1_6 l0_6
        have l0_7 : w3.heap.size < w7.heap.size := K0_7.out.lt
        have z0_0_7 : w7.cell? ⟨w3.heap.size, 0, none⟩ = some (.slice (A5) (sn) c5) := K0_7.out.cell 0
        have z0_1_7 : w7.cell? ⟨w3.heap.size, 1, none⟩ = some (.int .i64 (D)) := K0_7.out.cell 1
        have HB67 := Lib.hid HB67.out
        have c07 := (HB67.out.cell (p := ⟨xb, xo + i * 2, none⟩) hxb).trans c0
        have hs67 := HB67.out.size
        go_wp2
        go_loopw [14, 15, 16] (fun xv yv kv wr => ∃ (k : Nat) (X Y : Int), k ≤ sn ∧ xv = .int .i64 X ∧ yv = .int .i64 Y ∧ kv = .int .i64 k ∧ X = ED - dotTo T sx k ∧ Y = se - dotTo bs sx k ∧ Below w7.heap.size w7 wr ∧ (-(100000 + 100000000 * (k : Int)) ≤ X ∧ X ≤ 100000 + 100000000 * (k : Int)) ∧ (-(10 + 1000 * (k : Int)) ≤ Y ∧ Y ≤ 10 + 1000 * (k : Int))) (fun _ _ i _ => sn - (intOf i).toNat)
        case atStart => exact ⟨0, ED, se, by omega, rfl, rfl, rfl, by simp [dotTo], by simp [dotTo], Below.refl _ _, by omega, by omega⟩
        case round =>
          obtain ⟨k, X, Y, hk, rfl, rfl, rfl, hX, hY, hb8, hX2, hY2⟩ := hrel
          obtain ⟨w8, hnm⟩ : ∃ z : World, z = wr := ⟨_, rfl⟩
          subst hnm
          have hbw8 := HB7.out.trans (hb8.mono HB7.out.size)
          have hk0 := K0_7.out.below hb8 l0_7
          have hr1 := (R1_7.out.below hb8).more hb8.size
          have hr2 := (R2_7.out.below hb8).more hb8.size
          have c08 := (hb8.cell (p := ⟨xb, xo + i * 2, none⟩) (by show xb < _; omega)).trans c07
          have HSX8 := Lib.hid ((HSX.out.below (HB67.out.trans (hb8.mono HB67.out.size))).more (HB67.out.trans (hb8.mono HB67.out.size)).size)
          have HB78 := Lib.hid hb8
          have hs78 := hb8.size
          have HX := Lib.hid hX
          have HY := Lib.hid hY
          clear hb8 hX hY
          have HB8 := Lib.hid hbw8
          have K0_8 := Lib.hid (show Blk w8 (w3.heap.size) 45 #[.slice (A5) (sn) c5, .int .i64 (D)] from hk0)
          clear hbw8 hk0
          have l0_8 : w3.heap.size < w8.heap.size := K0_8.out.lt
          have z0_0_8 : w8.cell? ⟨w3.heap.size, 0, none⟩ = some (.slice (A5) (sn) c5) := K0_8.out.cell 0
          have z0_1_8 : w8.cell? ⟨w3.heap.size, 1, none⟩ = some (.int .i64 (D)) := K0_8.out.cell 1
          have R0_8 := Lib.hid hr1
          clear hr1
          have R1_8 := Lib.hid hr2
          clear hr2
          obtain ⟨X3, X4⟩ := hX2
          obtain ⟨Y3, Y4⟩ := hY2
          by_cases hlt2 : k < sn
          · obtain ⟨yb, yo, z, rfl, hyb, hz, f0⟩ := HSX8.out.int_ hlt2
            obtain ⟨ub, uo, b, rfl, hub, hb, f1⟩ := R0_8.out.int_ hlt2
            obtain ⟨vb, vo, tz, rfl, hvb, htz, f2⟩ := R1_8.out.int_ hlt2
            have hkk : (k : Int) < (sn : Int) := by omega
            obtain ⟨t5, ht5⟩ : ∃ t, withinB tz (-10000000) 10000000 = t := ⟨_, rfl⟩
            have HT5 := Lib.hid ht5
            have hz3 := HT3.out z (List.mem_of_getElem? hz)
            have hb3 := HBS.out b (List.mem_of_getElem? hb)
            have hdT := dotTo_succ htz hz
            have hdB := dotTo_succ hb hz
            have HDT := Lib.hid hdT
            have HDB := Lib.hid hdB
            clear ht5 hz hb htz hdT hdB
            go_wp2_with fail
            refine (withinref_is _ _ _ _ HT5.out _).mono ?_
            rintro e w' ⟨rfl, rfl⟩
            cases t5
            · go_wp2
              go_ret
              exact ⟨rfl, by repeat' (first | exact Below.refl _ _ | exact HB8.out | refine below_drewN ?_ _ | refine Below.drew ?_ | refine Below.alloc ?_ (by first | omega | (simp; done) | (simp; omega) | (simp [World.setCell]; omega)) _ | refine Below.setCell ?_ (by first | omega | (simp; done) | (simp; omega)) _ | assumption)⟩
            obtain ⟨T1, T2⟩ := (withinB_iff _ _ _).1 HT5.out
            obtain ⟨Z1, Z2⟩ := hz3
            obtain ⟨B1, B2⟩ := hb3
            have m1 := mulb (x := tz) (y := z) (a := 10000000) (b := 10) ⟨T1, T2⟩ ⟨Z1, Z2⟩ (by decide) (by decide)
            have m2 := mulb (x := b) (y := z) (a := 100) (b := 10) ⟨B1, B2⟩ ⟨Z1, Z2⟩ (by decide) (by decide)
            obtain ⟨tzz, h1⟩ : ∃ q, tz * z = q := ⟨_, rfl⟩
            obtain ⟨bz, h2⟩ : ∃ q, b * z = q := ⟨_, rfl⟩
            have HM1 := Lib.hid h1
            have HM2 := Lib.hid h2
            rw [h1] at m1
            rw [h2] at m2
            obtain ⟨m1, m1'⟩ := m1
            obtain ⟨m2, m2'⟩ := m2
            have v1 := IntWalk.i64_in tzz ⟨by omega, by omega⟩
            have v2 := IntWalk.i64_in (X - tzz) ⟨by omega, by omega⟩
            have v3 := IntWalk.i64_in bz ⟨by omega, by omega⟩
            have v4 := IntWalk.i64_in (Y - bz) ⟨by omega, by omega⟩
            go_wp2_with fail
            refine Fx.regionW (fun W f w' => Below W.heap.size W w') (by kernel_rfl) (by kernel_rfl) ?_ ?_
            · intro f hf0
              exact below_drewN (Below.refl _ _) 1
            repeat (first
              | (refine Fx.skip_ (by rfl) (fun f w h => h) ?_; simp only [Act.put, List.setIfInBounds_toArray, List.set_cons_zero, List.set_cons_succ])
              | (refine Fx.val_ ?_ (by rfl) ?_ (fun f w h => h) ?_
                 rotate_left
                 · intro f w' hD hk
                   have hb := hD
                   have kb0 := step_blk hb (show Blk _ (w3.heap.size) 45 #[.slice (some ⟨vb, vo, none⟩) (sn) c5, .int .i64 (D)] by repeat' (first | exact K0_8.out | exact Blk.at_ _ (by first | rfl | (simp; done) | (simp; omega)) _ _ | refine Blk.drewN ?_ _ | refine Blk.drew ?_ | refine Blk.alloc ?_ _ | refine Blk.far ?_ (by first | omega | (simp; done) | (simp; omega)) _ | assumption))
                   have y0_0 : w'.cell? ⟨w3.heap.size, 0, none⟩ = some (.slice (some ⟨vb, vo, none⟩) (sn) c5) := kb0.cell 0
                   have y0_1 : w'.cell? ⟨w3.heap.size, 1, none⟩ = some (.int .i64 (D)) := kb0.cell 1
                   have x7 := (hb.cell (p := ⟨xb, xo + i * 2, none⟩) (by show xb < _; omega)).trans c08
                   have x8 := (hb.cell (p := ⟨yb, yo + k, none⟩) hyb).trans f0
                   have x9 := (hb.cell (p := ⟨ub, uo + k, none⟩) hub).trans f1
                   have xa := (hb.cell (p := ⟨vb, vo + k, none⟩) hvb).trans f2
                   clear kb0
                   clear hk hD hb
                   go_simp
                   try rfl
                 simp only [Act.put, List.setIfInBounds_toArray, List.set_cons_zero, List.set_cons_succ]))
            refine Fx.nil_ ?_
            intro f w9 hall hb
            try clear hall
            have HB89 := Lib.hid hb
            have HB9 := Lib.hid (show Below w.heap.size w w9 from step_below hb (by repeat' (first | exact Below.refl _ _ | exact HB8.out | refine below_drewN ?_ _ | refine Below.drew ?_ | refine Below.alloc ?_ (by first | omega | (simp; done) | (simp; omega) | (simp [World.setCell]; omega)) _ | refine Below.setCell ?_ (by first | omega | (simp; done) | (simp; omega)) _ | assumption)))
            have K0_9 := Lib.hid (step_blk hb (show Blk _ (w3.heap.size) 45 #[.slice (some ⟨vb, vo, none⟩) (sn) c5, .int .i64 (D)] by repeat' (first | exact K0_8.out | exact Blk.at_ _ (by first | rfl | (simp; done) | (simp; omega)) _ _ | refine Blk.drewN ?_ _ | refine Blk.drew ?_ | refine Blk.alloc ?_ _ | refine Blk.far ?_ (by first | omega | (simp; done) | (simp; omega)) _ | assumption)))
            have hL9 := Lib.hid (show Below w8.heap.size w8 _ from reads_mid hb (by repeat' (first | exact Below.refl _ _ | refine below_drewN ?_ _ | refine Below.drew ?_ | refine Below.alloc ?_ (by first | omega | (simp; done) | (simp; omega) | (simp [World.setCell]; omega)) _ | refine Below.setCell ?_ (by first | omega | (simp; done) | (simp; omega)) _)))
            have R0_9 := Lib.hid (reads_lay hb hL9.out R0_8.out)
            have R1_9 := Lib.hid (reads_lay hb hL9.out R1_8.out)
            clear hL9 R0_8 R1_8
            have hz9 := hb.size
            try simp only [World.size_alloc, World.drewN, World.drew] at hz9
            clear hb K0_8 z0_0_8 z0_1_8 l0_8
            have l0_9 : w3.heap.size < w9.heap.size := K0_9.out.lt
            have z0_0_9 : w9.cell? ⟨w3.heap.size, 0, none⟩ = some (.slice (some ⟨vb, vo, none⟩) (sn) c5) := K0_9.out.cell 0
            have z0_1_9 : w9.cell? ⟨w3.heap.size, 1, none⟩ = some (.int .i64 (D)) := K0_9.out.cell 1
            go_wp2
            go_roundw
            case rel => exact ⟨k + 1, X - tzz, Y - bz, by omega, rfl, rfl, by go_num, by rw [HDT.out, HX.out, HM1.out]; omega, by rw [HDB.out, HY.out, HM2.out]; omega, HB78.out.trans (HB89.out.mono HB78.out.size), by push_cast; omega, by push_cast; omega⟩
            case measure => simp [intOf]; omega
          · obtain rfl : sn = k := by omega
            have hXr : X = resS T D ⟨sA, sn, sc, sx, se⟩ := by rw [HX.out, HX1.out]
            have hYr : Y = resS bs 1 ⟨sA, sn, sc, sx, se⟩ := by rw [HY.out, HY1.out]; omega
            rw [← hXr] at HNQ
            rw [← hYr] at HNO
            obtain ⟨t6, ht6⟩ : ∃ t, withinB X (-100000000) 100000000 = t := ⟨_, rfl⟩
            have HT6 := Lib.hid ht6
            clear ht6 hXr hYr
            go_wp2_with fail
            refine (withinref_is _ _ _ _ HT6.out _).mono ?_
            rintro e w' ⟨rfl, rfl⟩
            cases t6
            · go_wp2
              go_ret
              exact ⟨rfl, by repeat' (first | exact Below.refl _ _ | exact HB9.out | refine below_drewN ?_ _ | refine Below.drew ?_ | refine Below.alloc ?_ (by first | omega | (simp; done) | (simp; omega) | (simp [World.setCell]; omega)) _ | refine Below.setCell ?_ (by first | omega | (simp; done) | (simp; omega)) _ | assumption)⟩
            obtain ⟨X5, X6⟩ := (withinB_iff _ _ _).1 HT6.out
            have m1 := mulb (x := X) (y := X) (a := 100000000) (b := 100000000) ⟨X5, X6⟩ ⟨X5, X6⟩ (by decide) (by decide)
            have m2 := mulb (x := Y) (y := Y) (a := 3010) (b := 3010) ⟨by omega, by omega⟩ ⟨by omega, by omega⟩ (by decide) (by decide)
            have g1 : 0 ≤ X * X := by rcases Int.le_total 0 X with h | h; exact Int.mul_nonneg h h; exact Int.mul_nonneg_of_nonpos_of_nonpos h h
            have g2 : 0 ≤ Y * Y := by rcases Int.le_total 0 Y with h | h; exact Int.mul_nonneg h h; exact Int.mul_nonneg_of_nonpos_of_nonpos h h
            obtain ⟨XX, h1⟩ : ∃ q, X * X = q := ⟨_, rfl⟩
            obtain ⟨YY, h2⟩ : ∃ q, Y * Y = q := ⟨_, rfl⟩
            rw [h1] at m1 g1 HNQ
            rw [h2] at m2 g2 HNO
            obtain ⟨-, m1⟩ := m1
            obtain ⟨-, m2⟩ := m2
            have v1 := IntWalk.i64_in XX ⟨by omega, by omega⟩
            have v2 := IntWalk.i64_in (Q + XX) ⟨by omega, by omega⟩
            have v3 := IntWalk.i64_in YY ⟨by omega, by omega⟩
            have v4 := IntWalk.i64_in (O + YY) ⟨by omega, by omega⟩
            go_wp2
            go_roundw
            case rel =>
              refine ⟨i + 1, by omega, by rw [HNQ.out], by rw [HNO.out], by go_num, HB56.out.trans ((HB67.out.trans (HB78.out.mono HB67.out.size)).mono HB56.out.size), ?_, ?_⟩
              · rw [HNQ.out]; push_cast; omega
              · rw [HNO.out]; push_cast; omega
            case measure => simp [intOf]; omega
theorem lawTM_any (A : Option Addr) (n c : Nat) (l : List Star) (Bt : Option Addr) (nb cb : Nat) (bs : List Int) (w : World) (hnc : n ≤ c ∧ c ≤ 9223372036854775807) (_ : ∀ s ∈ l, (∀ z ∈ s.xs, I64 z) ∧ I64 s.er) (hx : StarsAt l A n w) (hbc : nb ≤ cb ∧ cb ≤ 9223372036854775807) (_ : bs.length = nb) (_ : ∀ z ∈ bs, I64 z) (hrb : Reads w w.heap.size 1 Bt nb (bs.map (.int .i64))) :
    Calls Try.prog 11 #[.slice A n c, .slice Bt nb cb] w fun e w' => e = .returned (.bool true) ∧ Below w.heap.size w w' := by
  obtain ⟨⟨N0, E0⟩, hS⟩ : ∃ z, starsF l = z := ⟨_, rfl⟩
  by_cases h0 : E0 ≠ 0 ∨ 6 < n ∨ (nb : Int) ≠ N0 ∨ fewStars l = false
  · exact lawTM_no A n c l Bt nb cb bs w hnc hx hbc hrb N0 E0 hS h0
  · rw [not_or, not_or, not_or] at h0
    obtain ⟨h1, h2, h3, h4⟩ := h0
    obtain rfl := Decidable.not_not.1 h1
    obtain rfl := Decidable.not_not.1 h3
    exact lawTM_yes A n c l Bt nb cb bs w hnc hx hbc hrb hS (by omega) (by simpa using h4)
end Go.Proofs.Ytdidcpealabaiaa

end
