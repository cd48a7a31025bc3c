import Derived.Test.YtoiconebcmneiabQ15
import Derived.Test.YtoiconebcmneiabQ16
import Derived.Test.YtoiconebcmneiabQ18

section
/- The contracts of deflections. -/
namespace Go.Proofs.Ytoiconebcmneiab
open Go Go.RowKit

def RangesPost (L : List (Int × Int)) (n : Nat) (w : World) (e : Ending) (w' : World) : Prop :=
  Below w.heap.size w w' ∧ ∃ A' c', e = .returned (.tuple #[.slice A' n c', .int .i64 0]) ∧ Reads w' w'.heap.size 2 A' n (cells2 L)

theorem defl_tbl (B : Option Addr) (nt ct : Nat) (t : List TRow) (A : Option Addr) (n c : Nat) (wt E : Int) (w : World) (ht : ReadsT w w.heap.size B nt t) (hn : nt ≤ 9223372036854775807) (hE : tblErr t = E) (h0 : E ≠ 0) :
    Calls Try.prog 11 #[.slice B nt ct, .slice A n c, .int .i64 wt] w fun e w' => e = .returned (.tuple #[.slice none 0 0, .int .i64 E]) ∧ Below w.heap.size w w' := by
  have e1 : (E != 0) = true := by simpa using h0
  have HE := Lib.hid hE
  clear h0 hE
  go_enter Try.func11, Try.ntmps11
  have R0_0 := Lib.hid ht
  clear ht
  go_wp2_with fail
  refine (checktable_any B nt ct t _ R0_0.out hn E HE.out).mono ?_
  rintro e w1 ⟨rfl, hb⟩
  have HB1 := Lib.hid (show Below w.heap.size w w1 from step_below hb (by repeat' (first | exact Below.refl _ _ | exact HB0.out | refine below_drewN ?_ _ | refine Below.drew ?_ | refine Below.alloc ?_ (by first | omega | (simp; done) | (simp; omega) | (simp [World.setCell]; omega)) _ | refine Below.setCell ?_ (by first | omega | (simp; done) | (simp; omega)) _ | assumption)))
  have hL1 := Lib.hid (show Below w.heap.size w _ from reads_mid hb (by repeat' (first | exact Below.refl _ _ | refine below_drewN ?_ _ | refine Below.drew ?_ | refine Below.alloc ?_ (by first | omega | (simp; done) | (simp; omega) | (simp [World.setCell]; omega)) _ | refine Below.setCell ?_ (by first | omega | (simp; done) | (simp; omega)) _)))
  have R0_1 := Lib.hid (readsT_lay hb hL1.out R0_0.out)
  clear hL1 R0_0
  have hz1 := hb.size
  try simp only [World.size_alloc, World.drewN, World.drew] at hz1
  clear hb
  go_wp2
  go_ret2
  refine ⟨rfl, ?_⟩
  repeat' (first | exact Below.refl _ _ | exact HB1.out | refine below_drewN ?_ _ | refine Below.drew ?_ | refine Below.alloc ?_ (by first | omega | (simp; done) | (simp; omega) | (simp [World.setCell]; omega)) _ | refine Below.setCell ?_ (by first | omega | (simp; done) | (simp; omega)) _ | assumption)

theorem defl_tree (l : List Rk) (hfits : ∀ r ∈ l, r.Fits) (B : Option Addr) (nt ct : Nat) (t : List TRow) (A : Option Addr) (n c : Nat) (wt E : Int) (w : World) (hx : Reads w w.heap.size 5 A n (rkCells l)) (hn : n ≤ 100000) (ht : ReadsT w w.heap.size B nt t) (hnt : nt ≤ 9223372036854775807) (hT : tblErr t = 0) (hE : openErr l = E) (h0 : E ≠ 0) :
    Calls Try.prog 11 #[.slice B nt ct, .slice A n c, .int .i64 wt] w fun e w' => e = .returned (.tuple #[.slice none 0 0, .int .i64 E]) ∧ Below w.heap.size w w' := by
  have e1 : (E != 0) = true := by simpa using h0
  have HE := Lib.hid hE
  have H0 := Lib.hid h0
  have hp := (tbl_zero hT).1
  have hl := ht.len
  have HT := Lib.hid hT
  clear h0 hE hT
  go_enter Try.func11, Try.ntmps11
  have R0_0 := Lib.hid hx
  clear hx
  have R1_0 := Lib.hid ht
  clear ht
  go_wp2_with fail
  refine (checktable_any B nt ct t _ R1_0.out hnt 0 HT.out).mono ?_
  rintro e w1 ⟨rfl, hb⟩
  have HB1 := Lib.hid (show Below w.heap.size w w1 from step_below hb (by repeat' (first | exact Below.refl _ _ | exact HB0.out | refine below_drewN ?_ _ | refine Below.drew ?_ | refine Below.alloc ?_ (by first | omega | (simp; done) | (simp; omega) | (simp [World.setCell]; omega)) _ | refine Below.setCell ?_ (by first | omega | (simp; done) | (simp; omega)) _ | assumption)))
  have hL1 := Lib.hid (show Below w.heap.size w _ from reads_mid hb (by repeat' (first | exact Below.refl _ _ | refine below_drewN ?_ _ | refine Below.drew ?_ | refine Below.alloc ?_ (by first | omega | (simp; done) | (simp; omega) | (simp [World.setCell]; omega)) _ | refine Below.setCell ?_ (by first | omega | (simp; done) | (simp; omega)) _)))
  have R0_1 := Lib.hid (reads_lay hb hL1.out R0_0.out)
  have R1_1 := Lib.hid (readsT_lay hb hL1.out R1_0.out)
  clear hL1 R0_0 R1_0
  have hz1 := hb.size
  try simp only [World.size_alloc, World.drewN, World.drew] at hz1
  clear hb
  obtain ⟨yb, yo, q, rfl, hyb, hq, c0, hqc, -, -⟩ := R1_1.out.at_ (i := 0) (by omega)
  simp only [Nat.add_zero] at c0
  clear hq
  go_wp2_with fail
  refine (forpoints_bad l hfits A n c (q.n : Int) E _ R0_1.out hn HE.out H0.out).mono ?_
  rintro e w2 ⟨rfl, hb⟩
  have HB2 := Lib.hid (show Below w.heap.size w w2 from step_below hb (by repeat' (first | exact Below.refl _ _ | exact HB1.out | refine below_drewN ?_ _ | refine Below.drew ?_ | refine Below.alloc ?_ (by first | omega | (simp; done) | (simp; omega) | (simp [World.setCell]; omega)) _ | refine Below.setCell ?_ (by first | omega | (simp; done) | (simp; omega)) _ | assumption)))
  have hL2 := Lib.hid (show Below w1.heap.size w1 _ from reads_mid hb (by repeat' (first | exact Below.refl _ _ | refine below_drewN ?_ _ | refine Below.drew ?_ | refine Below.alloc ?_ (by first | omega | (simp; done) | (simp; omega) | (simp [World.setCell]; omega)) _ | refine Below.setCell ?_ (by first | omega | (simp; done) | (simp; omega)) _)))
  have R0_2 := Lib.hid (reads_lay hb hL2.out R0_1.out)
  have R1_2 := Lib.hid (readsT_lay hb hL2.out R1_1.out)
  clear hL2 R0_1 R1_1
  have hz2 := hb.size
  try simp only [World.size_alloc, World.drewN, World.drew] at hz2
  clear hb
  go_wp2
  go_ret2
  refine ⟨rfl, ?_⟩
  repeat' (first | exact Below.refl _ _ | exact HB2.out | refine below_drewN ?_ _ | refine Below.drew ?_ | refine Below.alloc ?_ (by first | omega | (simp; done) | (simp; omega) | (simp [World.setCell]; omega)) _ | refine Below.setCell ?_ (by first | omega | (simp; done) | (simp; omega)) _ | assumption)

theorem defl_err (l : List Rk) (hfits : ∀ r ∈ l, r.Fits) (B : Option Addr) (nt ct : Nat) (t : List TRow) (A : Option Addr) (n c : Nat) (wt E : Int) (w : World) (hx : Reads w w.heap.size 5 A n (rkCells l)) (hn : n ≤ 100000) (ht : ReadsT w w.heap.size B nt t) (hnt : nt ≤ 9223372036854775807) (hT : tblErr t = 0) (h0 : openErr l = 0)
    (ps : List ByteArray) (hp : ptsOf l = some ps) (hps : ps.length ≤ 1000000) (hE : deflErr ps.length t wt (sharesOf l) = E) (hE0 : E ≠ 0) :
    Calls Try.prog 11 #[.slice B nt ct, .slice A n c, .int .i64 wt] w fun e w' => e = .returned (.tuple #[.slice none 0 0, .int .i64 E]) ∧ Below w.heap.size w w' := by
  have hp1 := (tbl_zero hT).1
  have hl := ht.len
  have HT := Lib.hid hT
  have H0 := Lib.hid h0
  have HP := Lib.hid hp
  have HARMS := Lib.hid (arms_of h0)
  obtain ⟨z0, -⟩ := open_zero h0
  have htop := Lib.hid (topOf_lt z0)
  obtain ⟨yb, yo, q, hB, hyb, hq, c0, hqc, -, -⟩ := ht.at_ (i := 0) (by omega)
  have hh : headLen t = q.n := by unfold headLen; rw [hq]; rfl
  subst hB
  simp only [Nat.add_zero] at c0
  clear hq z0
  by_cases hm : ps.length = q.n
  rotate_left
  · have e : E = 10 := by rw [← hE]; unfold deflErr; rw [if_pos (by omega)]
    subst e
    have HM := Lib.hid hm
    clear hm hE h0 hp hT hh
    go_enter Try.func11, Try.ntmps11
    have R0_0 := Lib.hid hx
    clear hx
    have R1_0 := Lib.hid ht
    clear ht
    go_wp2_with fail
    refine (checktable_any _ nt ct t _ R1_0.out hnt 0 HT.out).mono ?_
    rintro e w1 ⟨rfl, hb⟩
    have HB1 := Lib.hid (show Below w.heap.size w w1 from step_below hb (by repeat' (first | exact Below.refl _ _ | exact HB0.out | refine below_drewN ?_ _ | refine Below.drew ?_ | refine Below.alloc ?_ (by first | omega | (simp; done) | (simp; omega) | (simp [World.setCell]; omega)) _ | refine Below.setCell ?_ (by first | omega | (simp; done) | (simp; omega)) _ | assumption)))
    have hL1 := Lib.hid (show Below w.heap.size w _ from reads_mid hb (by repeat' (first | exact Below.refl _ _ | refine below_drewN ?_ _ | refine Below.drew ?_ | refine Below.alloc ?_ (by first | omega | (simp; done) | (simp; omega) | (simp [World.setCell]; omega)) _ | refine Below.setCell ?_ (by first | omega | (simp; done) | (simp; omega)) _)))
    have R0_1 := Lib.hid (reads_lay hb hL1.out R0_0.out)
    have R1_1 := Lib.hid (readsT_lay hb hL1.out R1_0.out)
    clear hL1 R0_0 R1_0
    have hz1 := hb.size
    try simp only [World.size_alloc, World.drewN, World.drew] at hz1
    clear hb
    have c1 := (HB1.out.cell (p := ⟨yb, yo, none⟩) hyb).trans c0
    go_wp2_with fail
    refine (forpoints_no l hfits A n c q.n _ R0_1.out hn H0.out ps HP.out hps HM.out).mono ?_
    rintro e w2 ⟨rfl, hb⟩
    have HB2 := Lib.hid (show Below w.heap.size w w2 from step_below hb (by repeat' (first | exact Below.refl _ _ | exact HB1.out | refine below_drewN ?_ _ | refine Below.drew ?_ | refine Below.alloc ?_ (by first | omega | (simp; done) | (simp; omega) | (simp [World.setCell]; omega)) _ | refine Below.setCell ?_ (by first | omega | (simp; done) | (simp; omega)) _ | assumption)))
    have hL2 := Lib.hid (show Below w1.heap.size w1 _ from reads_mid hb (by repeat' (first | exact Below.refl _ _ | refine below_drewN ?_ _ | refine Below.drew ?_ | refine Below.alloc ?_ (by first | omega | (simp; done) | (simp; omega) | (simp [World.setCell]; omega)) _ | refine Below.setCell ?_ (by first | omega | (simp; done) | (simp; omega)) _)))
    have R0_2 := Lib.hid (reads_lay hb hL2.out R0_1.out)
    have R1_2 := Lib.hid (readsT_lay hb hL2.out R1_1.out)
    clear hL2 R0_1 R1_1
    have hz2 := hb.size
    try simp only [World.size_alloc, World.drewN, World.drew] at hz2
    clear hb
    go_wp2
    go_ret2
    refine ⟨rfl, ?_⟩
    repeat' (first | exact Below.refl _ _ | exact HB2.out | refine below_drewN ?_ _ | refine Below.drew ?_ | refine Below.alloc ?_ (by first | omega | (simp; done) | (simp; omega) | (simp [World.setCell]; omega)) _ | refine Below.setCell ?_ (by first | omega | (simp; done) | (simp; omega)) _ | assumption)
  cases hw : withinB wt 0 100000 with
  | false =>
    have e : E = 2 := by rw [← hE]; unfold deflErr; rw [if_neg (by omega), if_pos hw]
    subst e
    have HM := Lib.hid hm
    have HW := Lib.hid hw
    clear hm hE h0 hp hT hh hw
    go_enter Try.func11, Try.ntmps11
    have R0_0 := Lib.hid hx
    clear hx
    have R1_0 := Lib.hid ht
    clear ht
    go_wp2_with fail
    refine (checktable_any _ nt ct t _ R1_0.out hnt 0 HT.out).mono ?_
    rintro e w1 ⟨rfl, hb⟩
    have HB1 := Lib.hid (show Below w.heap.size w w1 from step_below hb (by repeat' (first | exact Below.refl _ _ | exact HB0.out | refine below_drewN ?_ _ | refine Below.drew ?_ | refine Below.alloc ?_ (by first | omega | (simp; done) | (simp; omega) | (simp [World.setCell]; omega)) _ | refine Below.setCell ?_ (by first | omega | (simp; done) | (simp; omega)) _ | assumption)))
    have hL1 := Lib.hid (show Below w.heap.size w _ from reads_mid hb (by repeat' (first | exact Below.refl _ _ | refine below_drewN ?_ _ | refine Below.drew ?_ | refine Below.alloc ?_ (by first | omega | (simp; done) | (simp; omega) | (simp [World.setCell]; omega)) _ | refine Below.setCell ?_ (by first | omega | (simp; done) | (simp; omega)) _)))
    have R0_1 := Lib.hid (reads_lay hb hL1.out R0_0.out)
    have R1_1 := Lib.hid (readsT_lay hb hL1.out R1_0.out)
    clear hL1 R0_0 R1_0
    have hz1 := hb.size
    try simp only [World.size_alloc, World.drewN, World.drew] at hz1
    clear hb
    have c1 := (HB1.out.cell (p := ⟨yb, yo, none⟩) hyb).trans c0
    go_wp2_with fail
    refine (forpoints_ok l hfits A n c q.n _ R0_1.out hn H0.out ps HP.out hps HM.out).mono ?_
    rintro e w2 ⟨hb, tb, mb, rfl, -⟩
    have HB2 := Lib.hid (show Below w.heap.size w w2 from step_below hb (by repeat' (first | exact Below.refl _ _ | exact HB1.out | refine below_drewN ?_ _ | refine Below.drew ?_ | refine Below.alloc ?_ (by first | omega | (simp; done) | (simp; omega) | (simp [World.setCell]; omega)) _ | refine Below.setCell ?_ (by first | omega | (simp; done) | (simp; omega)) _ | assumption)))
    have hL2 := Lib.hid (show Below w1.heap.size w1 _ from reads_mid hb (by repeat' (first | exact Below.refl _ _ | refine below_drewN ?_ _ | refine Below.drew ?_ | refine Below.alloc ?_ (by first | omega | (simp; done) | (simp; omega) | (simp [World.setCell]; omega)) _ | refine Below.setCell ?_ (by first | omega | (simp; done) | (simp; omega)) _)))
    have R0_2 := Lib.hid (reads_lay hb hL2.out R0_1.out)
    have R1_2 := Lib.hid (readsT_lay hb hL2.out R1_1.out)
    clear hL2 R0_1 R1_1
    have hz2 := hb.size
    try simp only [World.size_alloc, World.drewN, World.drew] at hz2
    clear hb
    go_wp2_with fail
    refine (withinsup_is wt 0 100000 false HW.out _).mono ?_
    rintro e w' ⟨rfl, rfl⟩
    go_wp2
    go_ret2
    refine ⟨rfl, ?_⟩
    repeat' (first | exact Below.refl _ _ | exact HB2.out | refine below_drewN ?_ _ | refine Below.drew ?_ | refine Below.alloc ?_ (by first | omega | (simp; done) | (simp; omega) | (simp [World.setCell]; omega)) _ | refine Below.setCell ?_ (by first | omega | (simp; done) | (simp; omega)) _ | assumption)
  | true =>
    have hs : sharesOf l = none := by
      cases hs : sharesOf l with
      | none => rfl
      | some ys =>
        unfold deflErr at hE
        rw [if_neg (by omega), if_neg (by simp [hw]), if_neg (by simp [hs])] at hE
        exact absurd hE.symm hE0
    have e : E = 8 := by rw [← hE]; unfold deflErr; rw [if_neg (by omega), if_neg (by simp [hw]), if_pos hs]
    subst e
    have HM := Lib.hid hm
    have HW := Lib.hid hw
    have HS := Lib.hid hs
    clear hm hE h0 hp hT hh hw hs
    go_enter Try.func11, Try.ntmps11
    have R0_0 := Lib.hid hx
    clear hx
    have R1_0 := Lib.hid ht
    clear ht
    go_wp2_with fail
    refine (checktable_any _ nt ct t _ R1_0.out hnt 0 HT.out).mono ?_
    rintro e w1 ⟨rfl, hb⟩
    have HB1 := Lib.hid (show Below w.heap.size w w1 from step_below hb (by repeat' (first | exact Below.refl _ _ | exact HB0.out | refine below_drewN ?_ _ | refine Below.drew ?_ | refine Below.alloc ?_ (by first | omega | (simp; done) | (simp; omega) | (simp [World.setCell]; omega)) _ | refine Below.setCell ?_ (by first | omega | (simp; done) | (simp; omega)) _ | assumption)))
    have hL1 := Lib.hid (show Below w.heap.size w _ from reads_mid hb (by repeat' (first | exact Below.refl _ _ | refine below_drewN ?_ _ | refine Below.drew ?_ | refine Below.alloc ?_ (by first | omega | (simp; done) | (simp; omega) | (simp [World.setCell]; omega)) _ | refine Below.setCell ?_ (by first | omega | (simp; done) | (simp; omega)) _)))
    have R0_1 := Lib.hid (reads_lay hb hL1.out R0_0.out)
    have R1_1 := Lib.hid (readsT_lay hb hL1.out R1_0.out)
    clear hL1 R0_0 R1_0
    have hz1 := hb.size
    try simp only [World.size_alloc, World.drewN, World.drew] at hz1
    clear hb
    have c1 := (HB1.out.cell (p := ⟨yb, yo, none⟩) hyb).trans c0
    go_wp2_with fail
    refine (forpoints_ok l hfits A n c q.n _ R0_1.out hn H0.out ps HP.out hps HM.out).mono ?_
    rintro e w2 ⟨hb, tb, mb, rfl, hTT⟩
    have HB2 := Lib.hid (show Below w.heap.size w w2 from step_below hb (by repeat' (first | exact Below.refl _ _ | exact HB1.out | refine below_drewN ?_ _ | refine Below.drew ?_ | refine Below.alloc ?_ (by first | omega | (simp; done) | (simp; omega) | (simp [World.setCell]; omega)) _ | refine Below.setCell ?_ (by first | omega | (simp; done) | (simp; omega)) _ | assumption)))
    have hL2 := Lib.hid (show Below w1.heap.size w1 _ from reads_mid hb (by repeat' (first | exact Below.refl _ _ | refine below_drewN ?_ _ | refine Below.drew ?_ | refine Below.alloc ?_ (by first | omega | (simp; done) | (simp; omega) | (simp [World.setCell]; omega)) _ | refine Below.setCell ?_ (by first | omega | (simp; done) | (simp; omega)) _)))
    have R0_2 := Lib.hid (reads_lay hb hL2.out R0_1.out)
    have R1_2 := Lib.hid (readsT_lay hb hL2.out R1_1.out)
    clear hL2 R0_1 R1_1
    have hz2 := hb.size
    try simp only [World.size_alloc, World.drewN, World.drew] at hz2
    clear hb
    have HTT := Lib.hid hTT
    clear hTT
    go_wp2_with fail
    refine (withinsup_is wt 0 100000 true HW.out _).mono ?_
    rintro e w' ⟨rfl, rfl⟩
    go_wp2_with fail
    refine (all_none l hfits HARMS.out A n c _ tb mb _ hn HTT.out.reads (Nat.le_refl _) HTT.out.tree HTT.out.map htop.out ps HP.out hps HS.out).mono ?_
    rintro e w3 ⟨hb, v', rfl⟩
    have HB3 := Lib.hid (show Below w.heap.size w w3 from step_below hb (by repeat' (first | exact Below.refl _ _ | exact HB2.out | refine below_drewN ?_ _ | refine Below.drew ?_ | refine Below.alloc ?_ (by first | omega | (simp; done) | (simp; omega) | (simp [World.setCell]; omega)) _ | refine Below.setCell ?_ (by first | omega | (simp; done) | (simp; omega)) _ | assumption)))
    have hL3 := Lib.hid (show Below w2.heap.size w2 _ from reads_mid hb (by repeat' (first | exact Below.refl _ _ | refine below_drewN ?_ _ | refine Below.drew ?_ | refine Below.alloc ?_ (by first | omega | (simp; done) | (simp; omega) | (simp [World.setCell]; omega)) _ | refine Below.setCell ?_ (by first | omega | (simp; done) | (simp; omega)) _)))
    have R0_3 := Lib.hid (reads_lay hb hL3.out R0_2.out)
    have R1_3 := Lib.hid (readsT_lay hb hL3.out R1_2.out)
    clear hL3 R0_2 R1_2
    have hz3 := hb.size
    try simp only [World.size_alloc, World.drewN, World.drew] at hz3
    clear hb
    go_wp2
    go_ret2
    refine ⟨rfl, ?_⟩
    repeat' (first | exact Below.refl _ _ | exact HB3.out | refine below_drewN ?_ _ | refine Below.drew ?_ | refine Below.alloc ?_ (by first | omega | (simp; done) | (simp; omega) | (simp [World.setCell]; omega)) _ | refine Below.setCell ?_ (by first | omega | (simp; done) | (simp; omega)) _ | assumption)

/-- What the walk of a row needs of a number and a share. -/
theorem defl_facts {l : List Rk} (h0 : openErr l = 0) {ys : List (Int × Int)} (hs : sharesOf l = some ys) : ∀ p ∈ ys, (1 ≤ p.1 ∧ p.1 ≤ p.2) ∧ p.2 ≤ 1000000000 := fun p hp => by
  have harms := arms_of h0
  unfold sharesOf at hs
  have h1 := sh_ok l harms _ _ _ _ _ ⟨by omega, by omega⟩ ⟨by omega, by omega⟩ (by decide) hs p hp
  have h2 := sh_le l harms _ _ _ _ _ (by omega) (by omega) hs p hp
  exact ⟨⟨h1.1.1, h2⟩, h1.2.1.2⟩

set_option maxRecDepth 100000 in
set_option maxHeartbeats 2000000 in
theorem defl_ok (l : List Rk) (hfits : ∀ r ∈ l, r.Fits) (B : Option Addr) (nt ct : Nat) (t : List TRow) (A : Option Addr) (n c : Nat) (wt : Int) (w : World) (hx : Reads w w.heap.size 5 A n (rkCells l)) (hn : n ≤ 100000) (ht : ReadsT w w.heap.size B nt t) (hnt : nt ≤ 1000) (hT : tblErr t = 0) (h0 : openErr l = 0)
    (ps : List ByteArray) (hp : ptsOf l = some ps) (hps : ps.length ≤ 1000000) (ys : List (Int × Int)) (hs : sharesOf l = some ys) (hE : deflErr ps.length t wt (sharesOf l) = 0) :
    Calls Try.prog 11 #[.slice B nt ct, .slice A n c, .int .i64 wt] w (RangesPost (rowsD wt t ys) nt w) := by
  obtain ⟨i0, hi0, hz0, hz1, hz2⟩ := info_parts info_range
  obtain ⟨hp1, hrn, h41, hzs⟩ := tbl_zero hT
  have hl := ht.len
  have hm0 : headLen t = ps.length := by
    unfold deflErr at hE
    by_cases h : headLen t ≠ ps.length
    · rw [if_pos h] at hE; cases hE
    · omega
  have hw : withinB wt 0 100000 = true := by
    cases hw : withinB wt 0 100000 with
    | true => rfl
    | false => unfold deflErr at hE; rw [if_neg (by omega), if_pos hw] at hE; cases hE
  have hwt := (withinB_iff _ _ _).1 hw
  have hyl : ys.length = ps.length := by
    have h1 := hs
    unfold sharesOf at h1
    exact sh_length l _ _ _ _ _ _ hp h1
  have hys := defl_facts h0 hs
  have HT := Lib.hid hT
  have H0 := Lib.hid h0
  have HP := Lib.hid hp
  have HS := Lib.hid hs
  have HW := Lib.hid hw
  have HZS := Lib.hid hzs
  have HYS := Lib.hid hys
  have HRN := Lib.hid hrn
  have HARMS := Lib.hid (arms_of h0)
  have HI0 := Lib.hid hi0
  have HZ0 := Lib.hid hz0
  have HZ1 := Lib.hid hz1
  have HZ2 := Lib.hid hz2
  obtain ⟨z0, -⟩ := open_zero h0
  have htop := Lib.hid (topOf_lt z0)
  obtain ⟨yb, yo, q, hB, hyb, hq, c0, hqc, -, -⟩ := ht.at_ (i := 0) (by omega)
  have hh : headLen t = q.n := by unfold headLen; rw [hq]; rfl
  subst hB
  simp only [Nat.add_zero] at c0
  have hm : ps.length = q.n := by omega
  have HM := Lib.hid hm
  have hyn : ys.length = q.n := by omega
  have HYN := Lib.hid hyn
  have hq41 : q.n ≤ 41 := by omega
  have HLT := Lib.hid hl
  have HHH := Lib.hid hh
  clear hE h0 hp hT hh hw hs hq z0 hm hm0 hyl hys hzs hrn hyn hi0 hz0 hz1 hz2
  go_enter Try.func11, Try.ntmps11
  have R0_0 := Lib.hid hx
  clear hx
  have R1_0 := Lib.hid ht
  clear ht
  go_wp2_with fail
  refine (checktable_any _ nt ct t _ R1_0.out (by omega) 0 HT.out).mono ?_
  rintro e w1 ⟨rfl, hb⟩
  have HB1 := Lib.hid (show Below w.heap.size w w1 from step_below hb (by repeat' (first | exact Below.refl _ _ | exact HB0.out | refine below_drewN ?_ _ | refine Below.drew ?_ | refine Below.alloc ?_ (by first | omega | (simp; done) | (simp; omega) | (simp [World.setCell]; omega)) _ | refine Below.setCell ?_ (by first | omega | (simp; done) | (simp; omega)) _ | assumption)))
  have hL1 := Lib.hid (show Below w.heap.size w _ from reads_mid hb (by repeat' (first | exact Below.refl _ _ | refine below_drewN ?_ _ | refine Below.drew ?_ | refine Below.alloc ?_ (by first | omega | (simp; done) | (simp; omega) | (simp [World.setCell]; omega)) _ | refine Below.setCell ?_ (by first | omega | (simp; done) | (simp; omega)) _)))
  have R0_1 := Lib.hid (reads_lay hb hL1.out R0_0.out)
  have R1_1 := Lib.hid (readsT_lay hb hL1.out R1_0.out)
  clear hL1 R0_0 R1_0
  have hz1 := hb.size
  try simp only [World.size_alloc, World.drewN, World.drew] at hz1
  clear hb
  have c1 := (HB1.out.cell (p := ⟨yb, yo, none⟩) hyb).trans c0
  go_wp2_with fail
  refine (forpoints_ok l hfits A n c q.n _ R0_1.out hn H0.out ps HP.out hps HM.out).mono ?_
  rintro e w2 ⟨hb, tb, mb, rfl, hTT⟩
  have HB2 := Lib.hid (show Below w.heap.size w w2 from step_below hb (by repeat' (first | exact Below.refl _ _ | exact HB1.out | refine below_drewN ?_ _ | refine Below.drew ?_ | refine Below.alloc ?_ (by first | omega | (simp; done) | (simp; omega) | (simp [World.setCell]; omega)) _ | refine Below.setCell ?_ (by first | omega | (simp; done) | (simp; omega)) _ | assumption)))
  have hL2 := Lib.hid (show Below w1.heap.size w1 _ from reads_mid hb (by repeat' (first | exact Below.refl _ _ | refine below_drewN ?_ _ | refine Below.drew ?_ | refine Below.alloc ?_ (by first | omega | (simp; done) | (simp; omega) | (simp [World.setCell]; omega)) _ | refine Below.setCell ?_ (by first | omega | (simp; done) | (simp; omega)) _)))
  have R0_2 := Lib.hid (reads_lay hb hL2.out R0_1.out)
  have R1_2 := Lib.hid (readsT_lay hb hL2.out R1_1.out)
  clear hL2 R0_1 R1_1
  have hz2 := hb.size
  try simp only [World.size_alloc, World.drewN, World.drew] at hz2
  clear hb
  have HTT := Lib.hid hTT
  clear hTT
  go_wp2_with fail
  refine (withinsup_is wt 0 100000 true HW.out _).mono ?_
  rintro e w' ⟨rfl, rfl⟩
  go_wp2_with fail
  refine (all_some l hfits HARMS.out A n c _ tb mb _ hn HTT.out.reads (Nat.le_refl _) HTT.out.tree HTT.out.map htop.out ps HP.out hps ys HS.out).mono ?_
  rintro e w3 ⟨hb, v3, rfl, ho3⟩
  have HB3 := Lib.hid (show Below w.heap.size w w3 from step_below hb (by repeat' (first | exact Below.refl _ _ | exact HB2.out | refine below_drewN ?_ _ | refine Below.drew ?_ | refine Below.alloc ?_ (by first | omega | (simp; done) | (simp; omega) | (simp [World.setCell]; omega)) _ | refine Below.setCell ?_ (by first | omega | (simp; done) | (simp; omega)) _ | assumption)))
  have hL3 := Lib.hid (show Below w2.heap.size w2 _ from reads_mid hb (by repeat' (first | exact Below.refl _ _ | refine below_drewN ?_ _ | refine Below.drew ?_ | refine Below.alloc ?_ (by first | omega | (simp; done) | (simp; omega) | (simp [World.setCell]; omega)) _ | refine Below.setCell ?_ (by first | omega | (simp; done) | (simp; omega)) _)))
  have R0_3 := Lib.hid (reads_lay hb hL3.out R0_2.out)
  have R1_3 := Lib.hid (readsT_lay hb hL3.out R1_2.out)
  clear hL3 R0_2 R1_2
  have hz3 := hb.size
  try simp only [World.size_alloc, World.drewN, World.drew] at hz3
  clear hb
  obtain ⟨A3, c3, rfl, hr3⟩ := own_reads ho3
  rw [HYN.out] at hr3
  have hr3n := HYN.out
  simp only [HYN.out]
  clear ho3
  have R2_3 := Lib.hid hr3
  clear hr3
  clear hr3n
  have hb3s := HB3.out.size
  go_wp2
  go_loopw [13, 50] (fun o i wr => ∃ k : Nat, k ≤ nt ∧ i = .int .i64 k ∧ Below w3.heap.size w3 wr ∧ wr.ownsRow w3.heap.size 97 2 o k (cells2 ((rowsD wt t ys).take k))) (fun _ i _ => nt - (intOf i).toNat)
  case atStart => exact ⟨0, by omega, rfl, Below.refl _ _, World.ownsRow_nil _ _ _ _⟩
  case round =>
    obtain ⟨k, hk, rfl, hb, ho⟩ := hrel
    have HO := Lib.hid ho
    have HBR := Lib.hid hb
    have hbr := hb.size
    clear ho hb
    by_cases hlt : k < nt
    · obtain ⟨b2, o2, r, hB2, hb2, hr, d0, hrc, hrl, hrr⟩ := R1_3.out.at_ hlt
      obtain ⟨rfl, rfl⟩ : yb = b2 ∧ yo = o2 := by simpa using hB2
      have hrm := List.mem_of_getElem? hr
      have hrq : r.n = q.n := (HRN.out r hrm).trans HHH.out
      have hzr := HZS.out r hrm
      obtain ⟨rA, rn, rc, rxs⟩ := r
      simp only at d0 hrc hrl hrr hrq hzr
      subst hrq
      have f0 := (HBR.out.cell (p := ⟨yb, yo + k, none⟩) hb2).trans d0
      have HRR : Hid (Reads wr wr.heap.size 1 rA q.n (rxs.map (.int .i64))) := (hrr.below HBR.out).more hbr
      have HYY : Hid (Reads wr wr.heap.size 2 A3 q.n (cells2 ys)) := (R2_3.out.below HBR.out).more hbr
      have HZR := Lib.hid hzr
      have HR := Lib.hid hr
      have HRL := Lib.hid hrl
      clear hr hrr d0 hB2 hrm hrl hzr
      obtain ⟨wo, hwo⟩ : ∃ wo : World, wo = wr := ⟨_, rfl⟩
      subst hwo
      go_wp2
      go_loopw [56] (fun i wr => ∃ j : Nat, j ≤ q.n ∧ i = .int .i64 j ∧ Below wo.heap.size wo wr ∧ Blk wr wo.heap.size 97 #[.int .i64 (defl wt ((rxs.zip ys).take j)).1, .int .i64 (defl wt ((rxs.zip ys).take j)).2]) (fun i _ => q.n - (intOf i).toNat)
      case atStart => exact ⟨0, by omega, rfl, (Below.refl _ _).alloc (Nat.le_refl _) _, Blk.new _ _ _⟩
      case round =>
        obtain ⟨j, hj, rfl, hbi, hki⟩ := hrel
        have HBI := Lib.hid hbi
        have hbis := hki.lt
        obtain ⟨lo, hlo⟩ : ∃ z, (defl wt ((rxs.zip ys).take j)).1 = z := ⟨_, rfl⟩
        obtain ⟨hi, hhi⟩ : ∃ z, (defl wt ((rxs.zip ys).take j)).2 = z := ⟨_, rfl⟩
        rw [hlo, hhi] at hki
        have HKI := Lib.hid hki
        clear hbi hki
        by_cases hlj : j < q.n
        · obtain ⟨xb, xo, z, rfl, hxb, hz, e0⟩ := int_at HRR.out hlj
          obtain ⟨zb, zo, p, rfl, hzb, hp, g0, g1⟩ := HYY.out.pair hlj
          have e1 := (HBI.out.cell (p := ⟨xb, xo + j, none⟩) hxb).trans e0
          have g2 := (HBI.out.cell (p := ⟨zb, zo + j * 2, none⟩) hzb).trans g0
          have g3 := (HBI.out.cell (p := ⟨zb, zo + j * 2 + 1, none⟩) hzb).trans g1
          have hzz := HZR.out z (List.mem_of_getElem? hz)
          obtain ⟨⟨p1, p2⟩, p3⟩ := HYS.out p (List.mem_of_getElem? hp)
          obtain ⟨⟨m1, m2⟩, ⟨m3, m4⟩, ⟨m5, m6⟩, m7, m8⟩ := term_bound hzz hwt p1 p3 p2
          have hall : ∀ x ∈ (rxs.zip ys).take j, (-10000 ≤ x.1 ∧ x.1 ≤ 10000) ∧ 1 ≤ x.2.1 ∧ x.2.2 ≤ 1000000000 ∧ x.2.1 ≤ x.2.2 := fun x hx => by
            have hx2 := List.mem_of_mem_take hx
            obtain ⟨u1, u2⟩ := List.of_mem_zip hx2
            obtain ⟨⟨v1, v2⟩, v3⟩ := HYS.out _ u2
            exact ⟨HZR.out _ u1, v1, v3, v2⟩
          have hbd := defl_bound hwt _ (0, 0) hall
          have hbl : ((rxs.zip ys).take j).length ≤ 41 := by rw [List.length_take]; omega
          have hlo2 : (((rxs.zip ys).take j).foldl (stepD wt) (0, 0)).1 = lo := hlo
          have hhi2 : (((rxs.zip ys).take j).foldl (stepD wt) (0, 0)).2 = hi := hhi
          rw [hlo2, hhi2] at hbd
          simp only at hbd
          obtain ⟨⟨s1, s2⟩, s3, s4⟩ := hbd
          have hnext : defl wt ((rxs.zip ys).take (j + 1)) = (lo + z * wt * p.1 / p.2, hi + -((-(z * wt * p.1)) / p.2)) := by
            rw [zip_take hz hp, defl_snoc]
            unfold stepD
            rw [hlo, hhi]
          have HN := Lib.hid hnext
          obtain ⟨pn, pd⟩ := p
          simp only at p1 p2 p3 m1 m2 m3 m4 m5 m6 m7 m8 g2 g3 HN
          obtain ⟨T, hTT⟩ : ∃ T, z * wt * pn = T := ⟨_, rfl⟩
          obtain ⟨FL, hFL⟩ : ∃ T', T / pd = T' := ⟨_, rfl⟩
          obtain ⟨CE, hCE⟩ : ∃ T', -(-T / pd) = T' := ⟨_, rfl⟩
          simp only [hTT, hFL, hCE] at m3 m4 m5 m6 m7 m8 HN
          have q1 : IntKind.i64.wrap (z * wt) = z * wt := IntWalk.i64_in _ ⟨by omega, by omega⟩
          have q2 : IntKind.i64.wrap (z * wt * pn) = T := by rw [hTT]; exact IntWalk.i64_in _ ⟨by omega, by omega⟩
          have q3 : IntKind.i64.wrap (lo + FL) = lo + FL := IntWalk.i64_in _ ⟨by omega, by omega⟩
          have q4 : IntKind.i64.wrap (hi + CE) = hi + CE := IntWalk.i64_in _ ⟨by omega, by omega⟩
          have HFL := Lib.hid hFL
          have HCE := Lib.hid hCE
          have hzg : zb < wo.heap.size := hzb
          clear hz hp e0 g0 g1 hall hlo hhi hlo2 hhi2 hnext hTT hFL hCE hbl
          go_wp2
          refine Fx.regionW (fun W f w' => UpD 97 (wo.heap.size) (.int .i64 (lo)) (.int .i64 (hi)) (.int .i64 (lo + FL)) (.int .i64 (hi)) 19 99 W f w') (by kernel_rfl) (by kernel_rfl) ?_ ?_
          · intro f hf0
            exact UpD.start (below_drewN (Below.refl _ _) 1) (Blk.drewN HKI.out 1) (hf0 19) (hf0 99)
          iterate 2 (first
            | (refine Fx.skip_ (by rfl) (fun f w h => h) ?_; simp only [Act.put, List.setIfInBounds_toArray, List.set_cons_zero, List.set_cons_succ])
            | (refine Fx.val_ ?_ (by rfl) ?_ (fun f w h => h) ?_
               rotate_left
               · intro f w' hD hk
                 obtain ⟨hb, hrest⟩ := id hD
                 have uq0 := (UpD.read0 hD (hk.2.1 19 (by kernel_rfl))).1
                 have x0 := (hb.cell (p := ⟨zb, zo + j * 2, none⟩) hzg).trans g2
                 have x1 := (hb.cell (p := ⟨zb, zo + j * 2 + 1, none⟩) hzg).trans g3
                 clear hk hD hb hrest
                 go_simp
                 try rfl
               simp only [Act.put, List.setIfInBounds_toArray, List.set_cons_zero, List.set_cons_succ]))
          repeat (first
            | (refine Fx.skip_ (by rfl) (fun f w h => h) ?_; simp only [Act.put, List.setIfInBounds_toArray, List.set_cons_zero, List.set_cons_succ])
            | (refine Fx.val_ ?_ (by rfl) ?_ (fun f w h => h) ?_
               rotate_left
               · intro f w' hD hk
                 obtain ⟨hb, hrest⟩ := id hD
                 have x0 := (hb.cell (p := ⟨zb, zo + j * 2, none⟩) hzg).trans g2
                 have x1 := (hb.cell (p := ⟨zb, zo + j * 2 + 1, none⟩) hzg).trans g3
                 clear hk hD hb hrest
                 go_simp
                 try rfl
               simp only [Act.put, List.setIfInBounds_toArray, List.set_cons_zero, List.set_cons_succ]))
          refine Fx.call_ (.int .i64 FL) ?_ ?_ (by rfl) ?_ ?_ ?_
          rotate_left 2
          · intro w'
            go_simp
            refine ⟨?_, ?_⟩ <;> rfl
          · intro f w' hD hk
            exact (HFL.out ▸ floorsup_any T pd _ (by omega) (by omega) (by omega) (by omega)).mono fun e w'' ⟨he, hw⟩ => ⟨he, hw ▸ hD⟩
          simp only [Act.put, List.setIfInBounds_toArray, List.set_cons_zero, List.set_cons_succ]
          repeat (first
            | (refine Fx.skip_ (by rfl) (fun f w h => h) ?_; simp only [Act.put, List.setIfInBounds_toArray, List.set_cons_zero, List.set_cons_succ])
            | (refine Fx.val_ ?_ (by rfl) ?_ (fun f w h => h) ?_
               rotate_left
               · intro f w' hD hk
                 obtain ⟨hb, hrest⟩ := id hD
                 have x0 := (hb.cell (p := ⟨zb, zo + j * 2, none⟩) hzg).trans g2
                 have x1 := (hb.cell (p := ⟨zb, zo + j * 2 + 1, none⟩) hzg).trans g3
                 clear hk hD hb hrest
                 go_simp
                 try rfl
               simp only [Act.put, List.setIfInBounds_toArray, List.set_cons_zero, List.set_cons_succ]))
          refine Fx.store_ (fun w' => w'.setCell ⟨wo.heap.size, 0, none⟩ (.int .i64 (lo + FL))) (by rfl) ?_ ?_ ?_
          · intro f w' hD hk
            obtain ⟨hb, hrest⟩ := id hD
            obtain ⟨uq0, uq1⟩ := UpD.read0 hD hk.1
            clear hb hrest
            clear hk hD
            go_simp
          · intro f w' hD hk
            obtain ⟨hb, hrest⟩ := id hD
            obtain ⟨uq0, uq1⟩ := UpD.read0 hD hk.1
            clear hb hrest
            exact hD.store0 (by decide)
          simp only [Act.put, List.setIfInBounds_toArray, List.set_cons_zero, List.set_cons_succ]
          refine Fx.nil_ ?_
          intro f w5 hall hD
          obtain ⟨hb, hblk⟩ := UpD.end0 hD (hall 19 (by simp))
          clear hall hD
          have h2 := (hb.cell (p := ⟨zb, zo + j * 2, none⟩) hzg).trans g2
          have h3 := (hb.cell (p := ⟨zb, zo + j * 2 + 1, none⟩) hzg).trans g3
          have HB5 := Lib.hid (HBI.out.trans hb)
          have HK5 := Lib.hid hblk
          clear hb hblk g2 g3 e1 q3
          go_wp2
          refine Fx.regionW (fun W f w' => UpD 97 (wo.heap.size) (.int .i64 (lo + FL)) (.int .i64 (hi)) (.int .i64 (lo + FL)) (.int .i64 (hi + CE)) 99 19 W f w') (by kernel_rfl) (by kernel_rfl) ?_ ?_
          · intro f hf0
            exact UpD.start (below_drewN (Below.refl _ _) 1) (Blk.drewN HK5.out 1) (hf0 99) (hf0 19)
          iterate 2 (first
            | (refine Fx.skip_ (by rfl) (fun f w h => h) ?_; simp only [Act.put, List.setIfInBounds_toArray, List.set_cons_zero, List.set_cons_succ])
            | (refine Fx.val_ ?_ (by rfl) ?_ (fun f w h => h) ?_
               rotate_left
               · intro f w' hD hk
                 obtain ⟨hb, hrest⟩ := id hD
                 have uq1 := (UpD.read1 hD (hk.2.1 19 (by kernel_rfl))).1
                 have x0 := (hb.cell (p := ⟨zb, zo + j * 2, none⟩) hzg).trans h2
                 have x1 := (hb.cell (p := ⟨zb, zo + j * 2 + 1, none⟩) hzg).trans h3
                 clear hk hD hb hrest
                 go_simp
                 try rfl
               simp only [Act.put, List.setIfInBounds_toArray, List.set_cons_zero, List.set_cons_succ]))
          repeat (first
            | (refine Fx.skip_ (by rfl) (fun f w h => h) ?_; simp only [Act.put, List.setIfInBounds_toArray, List.set_cons_zero, List.set_cons_succ])
            | (refine Fx.val_ ?_ (by rfl) ?_ (fun f w h => h) ?_
               rotate_left
               · intro f w' hD hk
                 obtain ⟨hb, hrest⟩ := id hD
                 have x0 := (hb.cell (p := ⟨zb, zo + j * 2, none⟩) hzg).trans h2
                 have x1 := (hb.cell (p := ⟨zb, zo + j * 2 + 1, none⟩) hzg).trans h3
                 clear hk hD hb hrest
                 go_simp
                 try rfl
               simp only [Act.put, List.setIfInBounds_toArray, List.set_cons_zero, List.set_cons_succ]))
          refine Fx.call_ (.int .i64 CE) ?_ ?_ (by rfl) ?_ ?_ ?_
          rotate_left 2
          · intro w'
            go_simp
            refine ⟨?_, ?_⟩ <;> rfl
          · intro f w' hD hk
            exact (HCE.out ▸ ceilsup_any T pd _ (by omega) (by omega) (by omega) (by omega)).mono fun e w'' ⟨he, hw⟩ => ⟨he, hw ▸ hD⟩
          simp only [Act.put, List.setIfInBounds_toArray, List.set_cons_zero, List.set_cons_succ]
          repeat (first
            | (refine Fx.skip_ (by rfl) (fun f w h => h) ?_; simp only [Act.put, List.setIfInBounds_toArray, List.set_cons_zero, List.set_cons_succ])
            | (refine Fx.val_ ?_ (by rfl) ?_ (fun f w h => h) ?_
               rotate_left
               · intro f w' hD hk
                 obtain ⟨hb, hrest⟩ := id hD
                 have x0 := (hb.cell (p := ⟨zb, zo + j * 2, none⟩) hzg).trans h2
                 have x1 := (hb.cell (p := ⟨zb, zo + j * 2 + 1, none⟩) hzg).trans h3
                 clear hk hD hb hrest
                 go_simp
                 try rfl
               simp only [Act.put, List.setIfInBounds_toArray, List.set_cons_zero, List.set_cons_succ]))
          refine Fx.store_ (fun w' => w'.setCell ⟨wo.heap.size, 1, none⟩ (.int .i64 (hi + CE))) (by rfl) ?_ ?_ ?_
          · intro f w' hD hk
            obtain ⟨hb, hrest⟩ := id hD
            obtain ⟨uq0, uq1⟩ := UpD.read1 hD hk.1
            clear hb hrest
            clear hk hD
            go_simp
          · intro f w' hD hk
            obtain ⟨hb, hrest⟩ := id hD
            obtain ⟨uq0, uq1⟩ := UpD.read1 hD hk.1
            clear hb hrest
            exact hD.store1 (by decide)
          simp only [Act.put, List.setIfInBounds_toArray, List.set_cons_zero, List.set_cons_succ]
          refine Fx.nil_ ?_
          intro f w6 hall hD
          obtain ⟨hb, hblk⟩ := UpD.end1 hD (hall 19 (by simp))
          clear hall hD
          have HB6 := Lib.hid (HB5.out.trans hb)
          have HK6 := Lib.hid hblk
          clear hb hblk h2 h3 q4 q1 q2
          go_wp2
          go_roundw
          case rel => exact ⟨j + 1, by omega, by go_num, HB6.out, by rw [HN.out]; exact HK6.out⟩
          case measure => simp [intOf]; omega
        · have hjn : j = q.n := by omega
          have hfull : (rxs.zip ys).take j = rxs.zip ys := List.take_of_length_le (by rw [List.length_zip, HYN.out]; omega)
          have hrow : (rowsD wt t ys)[k]? = some (lo, hi) := by
            unfold rowsD
            rw [List.getElem?_map, HR.out]
            simp only [Option.map_some]
            rw [← hfull, ← hlo, ← hhi]
          have HTK : Hid (cells2 ((rowsD wt t ys).take (k + 1)) = cells2 ((rowsD wt t ys).take k) ++ [.int .i64 lo, .int .i64 hi]) := by
            show _ = _
            rw [List.take_add_one, hrow, cells2_append]; rfl
          obtain ⟨W, hW⟩ : ∃ W, W = wr.alloc (.cells #[.int .i64 lo, .int .i64 hi] 97) := ⟨_, rfl⟩
          have ho1 : W.ownsRow w3.heap.size 97 2 u13 k (cells2 ((rowsD wt t ys).take k)) := by rw [hW]; exact (own_below HO.out HBI.out (Nat.le_refl _)).alloc _
          have hnb : Blk W wr.heap.size 97 #[.int .i64 lo, .int .i64 hi] := by rw [hW]; exact Blk.new _ _ _
          have hsz : W.heap.size = wr.heap.size + 1 := by rw [hW]; simp
          have hbW : Below w3.heap.size w3 W := by rw [hW]; exact (HBR.out.trans (HBI.out.mono hbr)).alloc (by omega) _
          obtain ⟨v', W2, hrun, o2', hg2, hrow2⟩ := run_append_any (P := Try.prog) W w3.heap.size 27 27 97 i0 _ 2 16 Try.underlying27 HI0.out HZ0.out HZ1.out HZ2.out rfl (by omega) u13 k _ ho1 W.heap.size (some ⟨wr.heap.size, 0, none⟩) 1 1 [.int .i64 lo, .int .i64 hi] (Blk.reads hnb rfl) (by simp [Value.oneCell']) (by unfold maxLen; omega) (by omega) (by omega)
          rw [hW] at hrun
          have HRUN := Lib.hid hrun
          have HB2' := Lib.hid (hbW.grown hg2 (by omega) (fun g hg => (own_lt ho1 hg).1))
          have HO2 : Hid (W2.ownsRow w3.heap.size 97 2 v' (k + 1) (cells2 ((rowsD wt t ys).take (k + 1)))) := by
            show World.ownsRow _ _ _ _ _ _ _
            rw [HTK.out]
            exact o2'
          have l0 := HKI.out.cell 0
          have l1 := HKI.out.cell 1
          clear hrun hg2 hrow2 hnb ho1 hW hsz hbW o2' hrow hfull hlo hhi
          go_wp2_with (first | (at_builtin; refine wpList_app _ W2 v' rfl _ _ _ rfl _ _ rfl rfl HRUN.out ?_))
          go_roundw
          case rel => exact ⟨k + 1, by omega, by go_num, HB2'.out, HO2.out⟩
          case measure => simp [intOf]; omega
    · have hkn : k = nt := by omega
      rw [hkn] at HO
      clear hkn
      obtain ⟨A5, c5, rfl, hr5⟩ := own_reads HO.out
      rw [List.take_of_length_le (by unfold rowsD; rw [List.length_map, HLT.out]; exact Nat.le_refl _)] at hr5
      have HRR := Lib.hid hr5
      have HBE := Lib.hid (HB3.out.trans (HBR.out.mono hb3s))
      clear hr5
      go_wp2
      go_ret2
      exact ⟨HBE.out, A5, c5, rfl, HRR.out⟩

end Go.Proofs.Ytoiconebcmneiab

end
