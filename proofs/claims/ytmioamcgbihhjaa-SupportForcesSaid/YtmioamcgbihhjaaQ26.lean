import Derived.Test.YtmioamcgbihhjaaQ21
import Derived.Test.YtmioamcgbihhjaaQ25

section
/- The walk of the statement on the check of shares. -/
namespace Go.Proofs.Ytmioamcgbihhjaa
open Go.RowKit

theorem rcheckshares_is (l : List Rk) (hfits : ∀ r ∈ l, r.Fits) (A : Option Addr) (n c : Nat) (B : Option Addr) (m cb : Nat) (xs : List (Int × Int)) (t : Int) (np : Nat) (ht : cksErr np (sharesOf l) xs = t) (w : World) (hx : Reads w w.heap.size 5 A n (rkCells l)) (hn : n ≤ 100000) (hy : Reads w w.heap.size 2 B m (cells2 xs)) (hm : m ≤ 1000000) (hsm : Small2 xs) (h0 : openErr l = 0) (ps : List ByteArray) (hp : ptsOf l = some ps) (hps : ps.length ≤ 1000000) (hnp : ps.length = np) :
    Calls Try.prog 64 #[.slice A n c, .slice B m cb] w fun e w' => e = .returned (.int .i64 t) ∧ Below w.heap.size w w' := by
  subst hnp ht
  exact rcheckshares_any l hfits A n c B m cb xs w hx hn hy hm hsm h0 ps hp hps
theorem checkshares_is (l : List Rk) (hfits : ∀ r ∈ l, r.Fits) (A : Option Addr) (n c : Nat) (B : Option Addr) (m cb : Nat) (xs : List (Int × Int)) (t : Int) (np : Nat) (ht : cksErr np (sharesOf l) xs = t) (w : World) (hx : Reads w w.heap.size 5 A n (rkCells l)) (hn : n ≤ 100000) (hy : Reads w w.heap.size 2 B m (cells2 xs)) (hm : m ≤ 1000000) (hsm : Small2 xs) (h0 : openErr l = 0) (ps : List ByteArray) (hp : ptsOf l = some ps) (hps : ps.length ≤ 1000000) (hnp : ps.length = np) :
    Calls Try.prog 62 #[.slice A n c, .slice B m cb] w fun e w' => e = .returned (.int .i64 t) ∧ Below w.heap.size w w' := by
  subst hnp ht
  exact checkshares_any l hfits A n c B m cb xs w hx hn hy hm hsm h0 ps hp hps

set_option maxRecDepth 100000 in
set_option maxHeartbeats 2000000 in
theorem law12_any (A : Option Addr) (n c : Nat) (l : List Rk) (B : Option Addr) (m cb : Nat) (xs : List (Int × Int)) (w : World) (hnc : n ≤ c ∧ c ≤ 9223372036854775807) (hl : l.length = n) (hfits : ∀ r ∈ l, r.Fits) (hx : Reads w w.heap.size 5 A n (rkCells l))
    (hmc : m ≤ cb ∧ cb ≤ 9223372036854775807) (hxl : xs.length = m) (hsm : Small2 xs) (hy : Reads w w.heap.size 2 B m (cells2 xs)) :
    Calls Try.prog 12 #[.slice A n c, .slice B m cb] w fun e w' => e = .returned (.bool true) ∧ Below w.heap.size w w' := by
  obtain ⟨hnc, hcm⟩ := hnc
  obtain ⟨hmc, hcbm⟩ := hmc
  cases hfw : fewB l
  · have HF := Lib.hid hfw
    clear hfw hl hxl
    go_enter Try.func12, Try.ntmps12
    have R0_0 := Lib.hid hx
    clear hx
    go_wp2_with fail
    refine (awake_any _).mono ?_
    rintro e w1 ⟨rfl, hb⟩
    have HB1 := Lib.hid (show Below w.heap.size w w1 from step_below hb (by repeat' (first | exact Below.refl _ _ | exact HB0.out | refine below_drewN ?_ _ | refine Below.drew ?_ | refine Below.alloc ?_ (by first | omega | (simp; done) | (simp; omega) | (simp [World.setCell]; omega)) _ | refine Below.setCell ?_ (by first | omega | (simp; done) | (simp; omega)) _ | assumption)))
    have hL1 := Lib.hid (show Below w.heap.size w _ from reads_mid hb (by repeat' (first | exact Below.refl _ _ | refine below_drewN ?_ _ | refine Below.drew ?_ | refine Below.alloc ?_ (by first | omega | (simp; done) | (simp; omega) | (simp [World.setCell]; omega)) _ | refine Below.setCell ?_ (by first | omega | (simp; done) | (simp; omega)) _)))
    have R0_1 := Lib.hid (reads_lay hb hL1.out R0_0.out)
    clear hL1 R0_0
    have hz1 := hb.size
    try simp only [World.size_alloc, World.drewN, World.drew] at hz1
    clear hb
    go_wp2_with fail
    refine (few_is l hfits A n c _ false HF.out _ R0_1.out (by omega)).mono ?_
    rintro e w' ⟨rfl, rfl⟩
    go_wp2
    go_ret
    exact ⟨rfl, by repeat' (first | exact Below.refl _ _ | exact HB1.out | refine below_drewN ?_ _ | refine Below.drew ?_ | refine Below.alloc ?_ (by first | omega | (simp; done) | (simp; omega) | (simp [World.setCell]; omega)) _ | refine Below.setCell ?_ (by first | omega | (simp; done) | (simp; omega)) _ | assumption)⟩
  have hlen := fewB_len hfw
  have hn : n ≤ 43 := by omega
  by_cases hm12 : (12 : Int) < m
  · have HF := Lib.hid hfw
    clear hfw hl hxl
    go_enter Try.func12, Try.ntmps12
    have R0_0 := Lib.hid hx
    clear hx
    go_wp2_with fail
    refine (awake_any _).mono ?_
    rintro e w1 ⟨rfl, hb⟩
    have HB1 := Lib.hid (show Below w.heap.size w w1 from step_below hb (by repeat' (first | exact Below.refl _ _ | exact HB0.out | refine below_drewN ?_ _ | refine Below.drew ?_ | refine Below.alloc ?_ (by first | omega | (simp; done) | (simp; omega) | (simp [World.setCell]; omega)) _ | refine Below.setCell ?_ (by first | omega | (simp; done) | (simp; omega)) _ | assumption)))
    have hL1 := Lib.hid (show Below w.heap.size w _ from reads_mid hb (by repeat' (first | exact Below.refl _ _ | refine below_drewN ?_ _ | refine Below.drew ?_ | refine Below.alloc ?_ (by first | omega | (simp; done) | (simp; omega) | (simp [World.setCell]; omega)) _ | refine Below.setCell ?_ (by first | omega | (simp; done) | (simp; omega)) _)))
    have R0_1 := Lib.hid (reads_lay hb hL1.out R0_0.out)
    clear hL1 R0_0
    have hz1 := hb.size
    try simp only [World.size_alloc, World.drewN, World.drew] at hz1
    clear hb
    go_wp2_with fail
    refine (few_is l hfits A n c _ true HF.out _ R0_1.out (by omega)).mono ?_
    rintro e w' ⟨rfl, rfl⟩
    go_wp2
    go_ret
    exact ⟨rfl, by repeat' (first | exact Below.refl _ _ | exact HB1.out | refine below_drewN ?_ _ | refine Below.drew ?_ | refine Below.alloc ?_ (by first | omega | (simp; done) | (simp; omega) | (simp [World.setCell]; omega)) _ | refine Below.setCell ?_ (by first | omega | (simp; done) | (simp; omega)) _ | assumption)⟩
  obtain ⟨E, hE⟩ : ∃ E, openErr l = E := ⟨_, rfl⟩
  by_cases h0 : E = 0
  rotate_left
  · have HF := Lib.hid hfw
    have HE := Lib.hid hE
    have HE0 := Lib.hid h0
    have e0 : (E == 0) = false := by simpa using h0
    clear hfw hE h0 hl hxl
    go_enter Try.func12, Try.ntmps12
    have R0_0 := Lib.hid hx
    clear hx
    have R1_0 := Lib.hid hy
    clear hy
    go_wp2_with fail
    refine (awake_any _).mono ?_
    rintro e w1 ⟨rfl, hb⟩
    have HB1 := Lib.hid (show Below w.heap.size w w1 from step_below hb (by repeat' (first | exact Below.refl _ _ | exact HB0.out | refine below_drewN ?_ _ | refine Below.drew ?_ | refine Below.alloc ?_ (by first | omega | (simp; done) | (simp; omega) | (simp [World.setCell]; omega)) _ | refine Below.setCell ?_ (by first | omega | (simp; done) | (simp; omega)) _ | assumption)))
    have hL1 := Lib.hid (show Below w.heap.size w _ from reads_mid hb (by repeat' (first | exact Below.refl _ _ | refine below_drewN ?_ _ | refine Below.drew ?_ | refine Below.alloc ?_ (by first | omega | (simp; done) | (simp; omega) | (simp [World.setCell]; omega)) _ | refine Below.setCell ?_ (by first | omega | (simp; done) | (simp; omega)) _)))
    have R0_1 := Lib.hid (reads_lay hb hL1.out R0_0.out)
    have R1_1 := Lib.hid (reads_lay hb hL1.out R1_0.out)
    clear hL1 R0_0 R1_0
    have hz1 := hb.size
    try simp only [World.size_alloc, World.drewN, World.drew] at hz1
    clear hb
    go_wp2_with fail
    refine (few_is l hfits A n c _ true HF.out _ R0_1.out (by omega)).mono ?_
    rintro e w' ⟨rfl, rfl⟩
    go_wp2_with fail
    refine (rchecktree_is l hfits A n c _ E HE.out _ R0_1.out (Nat.le_refl _) (by omega) hnc hcm).mono ?_
    rintro e w2 ⟨rfl, hb⟩
    have HB2 := Lib.hid (show Below w.heap.size w w2 from step_below hb (by repeat' (first | exact Below.refl _ _ | exact HB1.out | refine below_drewN ?_ _ | refine Below.drew ?_ | refine Below.alloc ?_ (by first | omega | (simp; done) | (simp; omega) | (simp [World.setCell]; omega)) _ | refine Below.setCell ?_ (by first | omega | (simp; done) | (simp; omega)) _ | assumption)))
    have hL2 := Lib.hid (show Below w1.heap.size w1 _ from reads_mid hb (by repeat' (first | exact Below.refl _ _ | refine below_drewN ?_ _ | refine Below.drew ?_ | refine Below.alloc ?_ (by first | omega | (simp; done) | (simp; omega) | (simp [World.setCell]; omega)) _ | refine Below.setCell ?_ (by first | omega | (simp; done) | (simp; omega)) _)))
    have R0_2 := Lib.hid (reads_lay hb hL2.out R0_1.out)
    have R1_2 := Lib.hid (reads_lay hb hL2.out R1_1.out)
    clear hL2 R0_1 R1_1
    have hz2 := hb.size
    try simp only [World.size_alloc, World.drewN, World.drew] at hz2
    clear hb
    go_wp2_with fail
    refine (copied_any A n c _ l _ R0_2.out (Nat.le_refl _) (by omega)).mono ?_
    rintro e w3 ⟨A2, c2, rfl, hb, hr, -⟩
    have HB3 := Lib.hid (show Below w.heap.size w w3 from step_below hb (by repeat' (first | exact Below.refl _ _ | exact HB2.out | refine below_drewN ?_ _ | refine Below.drew ?_ | refine Below.alloc ?_ (by first | omega | (simp; done) | (simp; omega) | (simp [World.setCell]; omega)) _ | refine Below.setCell ?_ (by first | omega | (simp; done) | (simp; omega)) _ | assumption)))
    have hL3 := Lib.hid (show Below w2.heap.size w2 _ from reads_mid hb (by repeat' (first | exact Below.refl _ _ | refine below_drewN ?_ _ | refine Below.drew ?_ | refine Below.alloc ?_ (by first | omega | (simp; done) | (simp; omega) | (simp [World.setCell]; omega)) _ | refine Below.setCell ?_ (by first | omega | (simp; done) | (simp; omega)) _)))
    have R0_3 := Lib.hid (reads_lay hb hL3.out R0_2.out)
    have R1_3 := Lib.hid (reads_lay hb hL3.out R1_2.out)
    clear hL3 R0_2 R1_2
    have hz3 := hb.size
    try simp only [World.size_alloc, World.drewN, World.drew] at hz3
    clear hb
    have R2_3 := Lib.hid hr
    clear hr
    go_wp2_with fail
    refine (copyfracs_any B m cb _ xs _ R1_3.out (Nat.le_refl _) (by omega)).mono ?_
    rintro e w4 ⟨A3, c3, rfl, hb, hr, -⟩
    have HB4 := Lib.hid (show Below w.heap.size w w4 from step_below hb (by repeat' (first | exact Below.refl _ _ | exact HB3.out | refine below_drewN ?_ _ | refine Below.drew ?_ | refine Below.alloc ?_ (by first | omega | (simp; done) | (simp; omega) | (simp [World.setCell]; omega)) _ | refine Below.setCell ?_ (by first | omega | (simp; done) | (simp; omega)) _ | assumption)))
    have hL4 := Lib.hid (show Below w3.heap.size w3 _ from reads_mid hb (by repeat' (first | exact Below.refl _ _ | refine below_drewN ?_ _ | refine Below.drew ?_ | refine Below.alloc ?_ (by first | omega | (simp; done) | (simp; omega) | (simp [World.setCell]; omega)) _ | refine Below.setCell ?_ (by first | omega | (simp; done) | (simp; omega)) _)))
    have R0_4 := Lib.hid (reads_lay hb hL4.out R0_3.out)
    have R1_4 := Lib.hid (reads_lay hb hL4.out R1_3.out)
    have R2_4 := Lib.hid (reads_lay hb hL4.out R2_3.out)
    clear hL4 R0_3 R1_3 R2_3
    have hz4 := hb.size
    try simp only [World.size_alloc, World.drewN, World.drew] at hz4
    clear hb
    have R3_4 := Lib.hid hr
    clear hr
    go_wp2_with fail
    refine (checkshares_bad l hfits A2 n c2 A3 m c3 E _ R2_4.out (by omega) HE.out HE0.out).mono ?_
    rintro e w5 ⟨rfl, hb⟩
    have HB5 := Lib.hid (show Below w.heap.size w w5 from step_below hb (by repeat' (first | exact Below.refl _ _ | exact HB4.out | refine below_drewN ?_ _ | refine Below.drew ?_ | refine Below.alloc ?_ (by first | omega | (simp; done) | (simp; omega) | (simp [World.setCell]; omega)) _ | refine Below.setCell ?_ (by first | omega | (simp; done) | (simp; omega)) _ | assumption)))
    have hL5 := Lib.hid (show Below w4.heap.size w4 _ from reads_mid hb (by repeat' (first | exact Below.refl _ _ | refine below_drewN ?_ _ | refine Below.drew ?_ | refine Below.alloc ?_ (by first | omega | (simp; done) | (simp; omega) | (simp [World.setCell]; omega)) _ | refine Below.setCell ?_ (by first | omega | (simp; done) | (simp; omega)) _)))
    have R0_5 := Lib.hid (reads_lay hb hL5.out R0_4.out)
    have R1_5 := Lib.hid (reads_lay hb hL5.out R1_4.out)
    have R2_5 := Lib.hid (reads_lay hb hL5.out R2_4.out)
    have R3_5 := Lib.hid (reads_lay hb hL5.out R3_4.out)
    clear hL5 R0_4 R1_4 R2_4 R3_4
    have hz5 := hb.size
    try simp only [World.size_alloc, World.drewN, World.drew] at hz5
    clear hb
    go_wp2
    go_ret
    exact ⟨rfl, by repeat' (first | exact Below.refl _ _ | exact HB5.out | refine below_drewN ?_ _ | refine Below.drew ?_ | refine Below.alloc ?_ (by first | omega | (simp; done) | (simp; omega) | (simp [World.setCell]; omega)) _ | refine Below.setCell ?_ (by first | omega | (simp; done) | (simp; omega)) _ | assumption)⟩
  subst h0
  obtain ⟨ps, hps, hpl⟩ := few_pts hfw hE
  obtain ⟨np, hnp⟩ : ∃ np, ps.length = np := ⟨_, rfl⟩
  obtain ⟨t, ht⟩ : ∃ t, cksErr np (sharesOf l) xs = t := ⟨_, rfl⟩
  have HF := Lib.hid hfw
  have HE := Lib.hid hE
  have HP := Lib.hid hps
  have HNP := Lib.hid hnp
  have HT := Lib.hid ht
  have HSM := Lib.hid hsm
  clear hfw hE hl hxl hps hnp ht hsm
  go_enter Try.func12, Try.ntmps12
  have R0_0 := Lib.hid hx
  clear hx
  have R1_0 := Lib.hid hy
  clear hy
  go_wp2_with fail
  refine (awake_any _).mono ?_
  rintro e w1 ⟨rfl, hb⟩
  have HB1 := Lib.hid (show Below w.heap.size w w1 from step_below hb (by repeat' (first | exact Below.refl _ _ | exact HB0.out | refine below_drewN ?_ _ | refine Below.drew ?_ | refine Below.alloc ?_ (by first | omega | (simp; done) | (simp; omega) | (simp [World.setCell]; omega)) _ | refine Below.setCell ?_ (by first | omega | (simp; done) | (simp; omega)) _ | assumption)))
  have hL1 := Lib.hid (show Below w.heap.size w _ from reads_mid hb (by repeat' (first | exact Below.refl _ _ | refine below_drewN ?_ _ | refine Below.drew ?_ | refine Below.alloc ?_ (by first | omega | (simp; done) | (simp; omega) | (simp [World.setCell]; omega)) _ | refine Below.setCell ?_ (by first | omega | (simp; done) | (simp; omega)) _)))
  have R0_1 := Lib.hid (reads_lay hb hL1.out R0_0.out)
  have R1_1 := Lib.hid (reads_lay hb hL1.out R1_0.out)
  clear hL1 R0_0 R1_0
  have hz1 := hb.size
  try simp only [World.size_alloc, World.drewN, World.drew] at hz1
  clear hb
  go_wp2_with fail
  refine (few_is l hfits A n c _ true HF.out _ R0_1.out (by omega)).mono ?_
  rintro e w' ⟨rfl, rfl⟩
  go_wp2_with fail
  refine (rchecktree_is l hfits A n c _ 0 HE.out _ R0_1.out (Nat.le_refl _) (by omega) hnc hcm).mono ?_
  rintro e w2 ⟨rfl, hb⟩
  have HB2 := Lib.hid (show Below w.heap.size w w2 from step_below hb (by repeat' (first | exact Below.refl _ _ | exact HB1.out | refine below_drewN ?_ _ | refine Below.drew ?_ | refine Below.alloc ?_ (by first | omega | (simp; done) | (simp; omega) | (simp [World.setCell]; omega)) _ | refine Below.setCell ?_ (by first | omega | (simp; done) | (simp; omega)) _ | assumption)))
  have hL2 := Lib.hid (show Below w1.heap.size w1 _ from reads_mid hb (by repeat' (first | exact Below.refl _ _ | refine below_drewN ?_ _ | refine Below.drew ?_ | refine Below.alloc ?_ (by first | omega | (simp; done) | (simp; omega) | (simp [World.setCell]; omega)) _ | refine Below.setCell ?_ (by first | omega | (simp; done) | (simp; omega)) _)))
  have R0_2 := Lib.hid (reads_lay hb hL2.out R0_1.out)
  have R1_2 := Lib.hid (reads_lay hb hL2.out R1_1.out)
  clear hL2 R0_1 R1_1
  have hz2 := hb.size
  try simp only [World.size_alloc, World.drewN, World.drew] at hz2
  clear hb
  go_wp2_with fail
  refine (rcheckshares_is l hfits A n c B m cb xs t np HT.out _ R0_2.out (by omega) R1_2.out (by omega) HSM.out HE.out ps HP.out hpl HNP.out).mono ?_
  rintro e w3 ⟨rfl, hb⟩
  have HB3 := Lib.hid (show Below w.heap.size w w3 from step_below hb (by repeat' (first | exact Below.refl _ _ | exact HB2.out | refine below_drewN ?_ _ | refine Below.drew ?_ | refine Below.alloc ?_ (by first | omega | (simp; done) | (simp; omega) | (simp [World.setCell]; omega)) _ | refine Below.setCell ?_ (by first | omega | (simp; done) | (simp; omega)) _ | assumption)))
  have hL3 := Lib.hid (show Below w2.heap.size w2 _ from reads_mid hb (by repeat' (first | exact Below.refl _ _ | refine below_drewN ?_ _ | refine Below.drew ?_ | refine Below.alloc ?_ (by first | omega | (simp; done) | (simp; omega) | (simp [World.setCell]; omega)) _ | refine Below.setCell ?_ (by first | omega | (simp; done) | (simp; omega)) _)))
  have R0_3 := Lib.hid (reads_lay hb hL3.out R0_2.out)
  have R1_3 := Lib.hid (reads_lay hb hL3.out R1_2.out)
  clear hL3 R0_2 R1_2
  have hz3 := hb.size
  try simp only [World.size_alloc, World.drewN, World.drew] at hz3
  clear hb
  go_wp2_with fail
  refine (copied_any A n c _ l _ R0_3.out (Nat.le_refl _) (by omega)).mono ?_
  rintro e w4 ⟨A2, c2, rfl, hb, hr, -⟩
  have HB4 := Lib.hid (show Below w.heap.size w w4 from step_below hb (by repeat' (first | exact Below.refl _ _ | exact HB3.out | refine below_drewN ?_ _ | refine Below.drew ?_ | refine Below.alloc ?_ (by first | omega | (simp; done) | (simp; omega) | (simp [World.setCell]; omega)) _ | refine Below.setCell ?_ (by first | omega | (simp; done) | (simp; omega)) _ | assumption)))
  have hL4 := Lib.hid (show Below w3.heap.size w3 _ from reads_mid hb (by repeat' (first | exact Below.refl _ _ | refine below_drewN ?_ _ | refine Below.drew ?_ | refine Below.alloc ?_ (by first | omega | (simp; done) | (simp; omega) | (simp [World.setCell]; omega)) _ | refine Below.setCell ?_ (by first | omega | (simp; done) | (simp; omega)) _)))
  have R0_4 := Lib.hid (reads_lay hb hL4.out R0_3.out)
  have R1_4 := Lib.hid (reads_lay hb hL4.out R1_3.out)
  clear hL4 R0_3 R1_3
  have hz4 := hb.size
  try simp only [World.size_alloc, World.drewN, World.drew] at hz4
  clear hb
  have R2_4 := Lib.hid hr
  clear hr
  go_wp2_with fail
  refine (copyfracs_any B m cb _ xs _ R1_4.out (Nat.le_refl _) (by omega)).mono ?_
  rintro e w5 ⟨A3, c3, rfl, hb, hr, -⟩
  have HB5 := Lib.hid (show Below w.heap.size w w5 from step_below hb (by repeat' (first | exact Below.refl _ _ | exact HB4.out | refine below_drewN ?_ _ | refine Below.drew ?_ | refine Below.alloc ?_ (by first | omega | (simp; done) | (simp; omega) | (simp [World.setCell]; omega)) _ | refine Below.setCell ?_ (by first | omega | (simp; done) | (simp; omega)) _ | assumption)))
  have hL5 := Lib.hid (show Below w4.heap.size w4 _ from reads_mid hb (by repeat' (first | exact Below.refl _ _ | refine below_drewN ?_ _ | refine Below.drew ?_ | refine Below.alloc ?_ (by first | omega | (simp; done) | (simp; omega) | (simp [World.setCell]; omega)) _ | refine Below.setCell ?_ (by first | omega | (simp; done) | (simp; omega)) _)))
  have R0_5 := Lib.hid (reads_lay hb hL5.out R0_4.out)
  have R1_5 := Lib.hid (reads_lay hb hL5.out R1_4.out)
  have R2_5 := Lib.hid (reads_lay hb hL5.out R2_4.out)
  clear hL5 R0_4 R1_4 R2_4
  have hz5 := hb.size
  try simp only [World.size_alloc, World.drewN, World.drew] at hz5
  clear hb
  have R3_5 := Lib.hid hr
  clear hr
  go_wp2_with fail
  refine (checkshares_is l hfits A2 n c2 A3 m c3 xs t np HT.out _ R2_5.out (by omega) R3_5.out (by omega) HSM.out HE.out ps HP.out hpl HNP.out).mono ?_
  rintro e w6 ⟨rfl, hb⟩
  have HB6 := Lib.hid (show Below w.heap.size w w6 from step_below hb (by repeat' (first | exact Below.refl _ _ | exact HB5.out | refine below_drewN ?_ _ | refine Below.drew ?_ | refine Below.alloc ?_ (by first | omega | (simp; done) | (simp; omega) | (simp [World.setCell]; omega)) _ | refine Below.setCell ?_ (by first | omega | (simp; done) | (simp; omega)) _ | assumption)))
  have hL6 := Lib.hid (show Below w5.heap.size w5 _ from reads_mid hb (by repeat' (first | exact Below.refl _ _ | refine below_drewN ?_ _ | refine Below.drew ?_ | refine Below.alloc ?_ (by first | omega | (simp; done) | (simp; omega) | (simp [World.setCell]; omega)) _ | refine Below.setCell ?_ (by first | omega | (simp; done) | (simp; omega)) _)))
  have R0_6 := Lib.hid (reads_lay hb hL6.out R0_5.out)
  have R1_6 := Lib.hid (reads_lay hb hL6.out R1_5.out)
  have R2_6 := Lib.hid (reads_lay hb hL6.out R2_5.out)
  have R3_6 := Lib.hid (reads_lay hb hL6.out R3_5.out)
  clear hL6 R0_5 R1_5 R2_5 R3_5
  have hz6 := hb.size
  try simp only [World.size_alloc, World.drewN, World.drew] at hz6
  clear hb
  go_wp2
  go_ret
  exact ⟨rfl, by repeat' (first | exact Below.refl _ _ | exact HB6.out | refine below_drewN ?_ _ | refine Below.drew ?_ | refine Below.alloc ?_ (by first | omega | (simp; done) | (simp; omega) | (simp [World.setCell]; omega)) _ | refine Below.setCell ?_ (by first | omega | (simp; done) | (simp; omega)) _ | assumption)⟩

end Go.Proofs.Ytmioamcgbihhjaa

end
