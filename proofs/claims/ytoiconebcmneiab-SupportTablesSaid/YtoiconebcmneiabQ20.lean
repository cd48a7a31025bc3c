import Derived.Test.YtoiconebcmneiabQ19
import Derived.Test.YtoiconebcmneiabQ14
import Derived.Test.YtoiconebcmneiabQ7
import Derived.Test.YtoiconebcmneiabQ18
import Derived.Test.YtoiconebcmneiabQ15

section
/- The contracts of deflections, as the reference finds them. -/
namespace Go.Proofs.Ytoiconebcmneiab
open Go Go.RowKit

theorem rshares_no (l : List Rk) (hfits : ∀ r ∈ l, r.Fits) (A : Option Addr) (n c N : Nat) (w : World) (hx : Reads w N 5 A n (rkCells l)) (hN : N ≤ w.heap.size) (hn : n ≤ 100000) (h0 : openErr l = 0) (ps : List ByteArray) (hp : ptsOf l = some ps) (hps : ps.length ≤ 1000000) (hs : sharesOf l = none) :
    Calls Try.prog 37 #[.slice A n c] w fun e w' => Below w.heap.size w w' ∧ ∃ A' c', e = .returned (.tuple #[.slice A' ps.length c', .bool false]) :=
  (rshares_any l hfits A n c N w hx hN hn h0 ps hp hps).mono fun e w' ⟨h1, A', c', he, _⟩ => ⟨h1, A', c', by rw [he, hs]; rfl⟩
theorem rshares_yes (l : List Rk) (hfits : ∀ r ∈ l, r.Fits) (A : Option Addr) (n c N : Nat) (w : World) (hx : Reads w N 5 A n (rkCells l)) (hN : N ≤ w.heap.size) (hn : n ≤ 100000) (h0 : openErr l = 0) (ps : List ByteArray) (hp : ptsOf l = some ps) (hps : ps.length ≤ 1000000) (ys : List (Int × Int)) (m : Nat) (hm : ps.length = m) (hs : sharesOf l = some ys) :
    Calls Try.prog 37 #[.slice A n c] w fun e w' => Below w.heap.size w w' ∧ ∃ A' c', e = .returned (.tuple #[.slice A' m c', .bool true]) ∧ Reads w' w'.heap.size 2 A' m (cells2 ys) :=
  (rshares_any l hfits A n c N w hx hN hn h0 ps hp hps).mono fun e w' ⟨h1, A', c', he, h2⟩ => ⟨h1, A', c', by rw [he, hs, hm]; rfl, hm ▸ h2 ys hs⟩

set_option maxRecDepth 100000 in
theorem rdefl_err (l : List Rk) (hfits : ∀ r ∈ l, r.Fits) (B : Option Addr) (nt ct : Nat) (t : List TRow) (A : Option Addr) (n c : Nat) (wt E : Int) (w : World) (hx : Reads w w.heap.size 5 A n (rkCells l)) (hn : n ≤ 100000) (ht : ReadsT w w.heap.size B nt t) (hnt : nt ≤ 9223372036854775807) (hT : tblErr t = 0) (h0 : openErr l = 0)
    (ps : List ByteArray) (hp : ptsOf l = some ps) (hps : ps.length ≤ 1000000) (hE : deflErr ps.length t wt (sharesOf l) = E) (hE0 : E ≠ 0) :
    Calls Try.prog 17 #[.slice B nt ct, .slice A n c, .int .i64 wt] w fun e w' => e = .returned (.tuple #[.slice none 0 0, .int .i64 E]) ∧ Below w.heap.size w w' := by
  have hp1 := (tbl_zero hT).1
  have hl := ht.len
  have H0 := Lib.hid h0
  have HP := Lib.hid hp
  obtain ⟨yb, yo, q, hB, hyb, hq, c0, hqc, -, -⟩ := ht.at_ (i := 0) (by omega)
  have hh : headLen t = q.n := by unfold headLen; rw [hq]; rfl
  subst hB
  simp only [Nat.add_zero] at c0
  clear hq
  have hn0 : 0 < nt := by omega
  by_cases hm : ps.length = q.n
  rotate_left
  · have e : E = 10 := by rw [← hE]; unfold deflErr; rw [if_pos (by omega)]
    subst e
    have HM := Lib.hid hm
    have hne : ((q.n : Int) != (ps.length : Int)) = true := bne_iff_ne.2 (by omega)
    clear hm hE h0 hp hT hh
    go_enter Try.func17, Try.ntmps17
    have R0_0 := Lib.hid hx
    clear hx
    have R1_0 := Lib.hid ht
    clear ht
    go_wp2
    refine Fx.regionM (fun W g f w' => Below W.heap.size W w') (fun i (x : Pick) => .slice x.1 ps.length x.2) (by kernel_rfl) ?_ ?_
    · intro f hf0
      exact below_drewN (Below.refl _ _) 1
    first
    | (refine Fx.WM.skip 0 (by rfl) (by kernel_rfl) (by kernel_rfl) (by kernel_rfl) (by rfl) (fun g f w h => h) ?_; simp only [Act.put, List.setIfInBounds_toArray, List.set_cons_zero, List.set_cons_succ])
    | (refine Fx.WM.val_ 0 ?_ (by rfl) (by kernel_rfl) (by kernel_rfl) (by kernel_rfl) (by rfl) ?_ (fun g f w h => h) ?_
       rotate_left
       · intro g f w' hx hD hk
         obtain hb := id hD
         have y0 := (hb.cell (p := ⟨yb, yo, none⟩) hyb).trans c0
         clear hx hk hD hb
         go_simp
         try rfl
       simp only [Act.put, List.setIfInBounds_toArray, List.set_cons_zero, List.set_cons_succ])
    first
    | (refine Fx.WM.skip 1 (by rfl) (by kernel_rfl) (by kernel_rfl) (by kernel_rfl) (by rfl) (fun g f w h => h) ?_; simp only [Act.put, List.setIfInBounds_toArray, List.set_cons_zero, List.set_cons_succ])
    | (refine Fx.WM.val_ 1 ?_ (by rfl) (by kernel_rfl) (by kernel_rfl) (by kernel_rfl) (by rfl) ?_ (fun g f w h => h) ?_
       rotate_left
       · intro g f w' hx hD hk
         obtain hb := id hD
         have y0 := (hb.cell (p := ⟨yb, yo, none⟩) hyb).trans c0
         clear hx hk hD hb
         go_simp
         try rfl
       simp only [Act.put, List.setIfInBounds_toArray, List.set_cons_zero, List.set_cons_succ])
    first
    | (refine Fx.WM.skip 2 (by rfl) (by kernel_rfl) (by kernel_rfl) (by kernel_rfl) (by rfl) (fun g f w h => h) ?_; simp only [Act.put, List.setIfInBounds_toArray, List.set_cons_zero, List.set_cons_succ])
    | (refine Fx.WM.val_ 2 ?_ (by rfl) (by kernel_rfl) (by kernel_rfl) (by kernel_rfl) (by rfl) ?_ (fun g f w h => h) ?_
       rotate_left
       · intro g f w' hx hD hk
         obtain hb := id hD
         have y0 := (hb.cell (p := ⟨yb, yo, none⟩) hyb).trans c0
         clear hx hk hD hb
         go_simp
         try rfl
       simp only [Act.put, List.setIfInBounds_toArray, List.set_cons_zero, List.set_cons_succ])
    first
    | (refine Fx.WM.skip 3 (by rfl) (by kernel_rfl) (by kernel_rfl) (by kernel_rfl) (by rfl) (fun g f w h => h) ?_; simp only [Act.put, List.setIfInBounds_toArray, List.set_cons_zero, List.set_cons_succ])
    | (refine Fx.WM.val_ 3 ?_ (by rfl) (by kernel_rfl) (by kernel_rfl) (by kernel_rfl) (by rfl) ?_ (fun g f w h => h) ?_
       rotate_left
       · intro g f w' hx hD hk
         obtain hb := id hD
         have y0 := (hb.cell (p := ⟨yb, yo, none⟩) hyb).trans c0
         clear hx hk hD hb
         go_simp
         try rfl
       simp only [Act.put, List.setIfInBounds_toArray, List.set_cons_zero, List.set_cons_succ])
    first
    | (refine Fx.WM.skip 4 (by rfl) (by kernel_rfl) (by kernel_rfl) (by kernel_rfl) (by rfl) (fun g f w h => h) ?_; simp only [Act.put, List.setIfInBounds_toArray, List.set_cons_zero, List.set_cons_succ])
    | (refine Fx.WM.val_ 4 ?_ (by rfl) (by kernel_rfl) (by kernel_rfl) (by kernel_rfl) (by rfl) ?_ (fun g f w h => h) ?_
       rotate_left
       · intro g f w' hx hD hk
         obtain hb := id hD
         have y0 := (hb.cell (p := ⟨yb, yo, none⟩) hyb).trans c0
         clear hx hk hD hb
         go_simp
         try rfl
       simp only [Act.put, List.setIfInBounds_toArray, List.set_cons_zero, List.set_cons_succ])
    refine Fx.WM.choose 5 (by rfl) (by kernel_rfl) (by rfl) ?_ ?_
    · skip
      refine Fx.Chooses.call ?_ ?_ (by rfl) ?_ ?_
      rotate_left 2
      · intro w'
        go_simp
        refine ⟨?_, ?_⟩ <;> rfl
      · intro f w' hD hk
        exact (rpoints_any l hfits A n c _ w' ((R0_0.out.below hD).more hD.size) (Nat.le_refl _) hn H0.out ps HP.out hps).mono fun e w'' ⟨hb, A', c', he, _⟩ => ⟨(A', c'), he, step_below hb hD⟩
    intro x
    simp only [Act.put, List.setIfInBounds_toArray, List.set_cons_zero, List.set_cons_succ]
    first
    | (refine Fx.WM.skip 6 (by rfl) (by kernel_rfl) (by kernel_rfl) (by kernel_rfl) (by rfl) (fun g f w h => h) ?_; simp only [Act.put, List.setIfInBounds_toArray, List.set_cons_zero, List.set_cons_succ])
    | (refine Fx.WM.val_ 6 ?_ (by rfl) (by kernel_rfl) (by kernel_rfl) (by kernel_rfl) (by rfl) ?_ (fun g f w h => h) ?_
       rotate_left
       · intro g f w' hx hD hk
         obtain hb := id hD
         have y0 := (hb.cell (p := ⟨yb, yo, none⟩) hyb).trans c0
         clear hx hk hD hb
         go_simp
         try rfl
       simp only [Act.put, List.setIfInBounds_toArray, List.set_cons_zero, List.set_cons_succ])
    first
    | (refine Fx.WM.skip 7 (by rfl) (by kernel_rfl) (by kernel_rfl) (by kernel_rfl) (by rfl) (fun g f w h => h) ?_; simp only [Act.put, List.setIfInBounds_toArray, List.set_cons_zero, List.set_cons_succ])
    | (refine Fx.WM.val_ 7 ?_ (by rfl) (by kernel_rfl) (by kernel_rfl) (by kernel_rfl) (by rfl) ?_ (fun g f w h => h) ?_
       rotate_left
       · intro g f w' hx hD hk
         obtain hb := id hD
         have y0 := (hb.cell (p := ⟨yb, yo, none⟩) hyb).trans c0
         clear hx hk hD hb
         go_simp
         try rfl
       simp only [Act.put, List.setIfInBounds_toArray, List.set_cons_zero, List.set_cons_succ])
    refine Fx.WM.nil (by kernel_rfl) ?_
    intro w1 hb
    have HB1 := Lib.hid (show Below w.heap.size w w1 from step_below hb (by repeat' (first | exact Below.refl _ _ | exact HB0.out | refine below_drewN ?_ _ | refine Below.drew ?_ | refine Below.alloc ?_ (by first | omega | (simp; done) | (simp; omega) | (simp [World.setCell]; omega)) _ | refine Below.setCell ?_ (by first | omega | (simp; done) | (simp; omega)) _ | assumption)))
    have hL1 := Lib.hid (show Below w.heap.size w _ from reads_mid hb (by repeat' (first | exact Below.refl _ _ | refine below_drewN ?_ _ | refine Below.drew ?_ | refine Below.alloc ?_ (by first | omega | (simp; done) | (simp; omega) | (simp [World.setCell]; omega)) _ | refine Below.setCell ?_ (by first | omega | (simp; done) | (simp; omega)) _)))
    have R0_1 := Lib.hid (reads_lay hb hL1.out R0_0.out)
    have R1_1 := Lib.hid (readsT_lay hb hL1.out R1_0.out)
    clear hL1 R0_0 R1_0
    have hz1 := hb.size
    try simp only [World.size_alloc, World.drewN, World.drew] at hz1
    clear hb
    go_wp2
    go_ret2
    refine ⟨rfl, ?_⟩
    repeat' (first | exact Below.refl _ _ | exact HB1.out | refine below_drewN ?_ _ | refine Below.drew ?_ | refine Below.alloc ?_ (by first | omega | (simp; done) | (simp; omega) | (simp [World.setCell]; omega)) _ | refine Below.setCell ?_ (by first | omega | (simp; done) | (simp; omega)) _ | assumption)
  have hne : ((q.n : Int) != (ps.length : Int)) = false := by rw [hm]; simp
  cases hw : withinB wt 0 100000 with
  | false =>
    have e : E = 2 := by rw [← hE]; unfold deflErr; rw [if_neg (by omega), if_pos hw]
    subst e
    have HM := Lib.hid hm
    have HW := Lib.hid hw
    clear hm hE h0 hp hT hh hw
    go_enter Try.func17, Try.ntmps17
    have R0_0 := Lib.hid hx
    clear hx
    have R1_0 := Lib.hid ht
    clear ht
    go_wp2
    refine Fx.regionM (fun W g f w' => Below W.heap.size W w') (fun i (x : Pick) => .slice x.1 ps.length x.2) (by kernel_rfl) ?_ ?_
    · intro f hf0
      exact below_drewN (Below.refl _ _) 1
    first
    | (refine Fx.WM.skip 0 (by rfl) (by kernel_rfl) (by kernel_rfl) (by kernel_rfl) (by rfl) (fun g f w h => h) ?_; simp only [Act.put, List.setIfInBounds_toArray, List.set_cons_zero, List.set_cons_succ])
    | (refine Fx.WM.val_ 0 ?_ (by rfl) (by kernel_rfl) (by kernel_rfl) (by kernel_rfl) (by rfl) ?_ (fun g f w h => h) ?_
       rotate_left
       · intro g f w' hx hD hk
         obtain hb := id hD
         have y0 := (hb.cell (p := ⟨yb, yo, none⟩) hyb).trans c0
         clear hx hk hD hb
         go_simp
         try rfl
       simp only [Act.put, List.setIfInBounds_toArray, List.set_cons_zero, List.set_cons_succ])
    first
    | (refine Fx.WM.skip 1 (by rfl) (by kernel_rfl) (by kernel_rfl) (by kernel_rfl) (by rfl) (fun g f w h => h) ?_; simp only [Act.put, List.setIfInBounds_toArray, List.set_cons_zero, List.set_cons_succ])
    | (refine Fx.WM.val_ 1 ?_ (by rfl) (by kernel_rfl) (by kernel_rfl) (by kernel_rfl) (by rfl) ?_ (fun g f w h => h) ?_
       rotate_left
       · intro g f w' hx hD hk
         obtain hb := id hD
         have y0 := (hb.cell (p := ⟨yb, yo, none⟩) hyb).trans c0
         clear hx hk hD hb
         go_simp
         try rfl
       simp only [Act.put, List.setIfInBounds_toArray, List.set_cons_zero, List.set_cons_succ])
    first
    | (refine Fx.WM.skip 2 (by rfl) (by kernel_rfl) (by kernel_rfl) (by kernel_rfl) (by rfl) (fun g f w h => h) ?_; simp only [Act.put, List.setIfInBounds_toArray, List.set_cons_zero, List.set_cons_succ])
    | (refine Fx.WM.val_ 2 ?_ (by rfl) (by kernel_rfl) (by kernel_rfl) (by kernel_rfl) (by rfl) ?_ (fun g f w h => h) ?_
       rotate_left
       · intro g f w' hx hD hk
         obtain hb := id hD
         have y0 := (hb.cell (p := ⟨yb, yo, none⟩) hyb).trans c0
         clear hx hk hD hb
         go_simp
         try rfl
       simp only [Act.put, List.setIfInBounds_toArray, List.set_cons_zero, List.set_cons_succ])
    first
    | (refine Fx.WM.skip 3 (by rfl) (by kernel_rfl) (by kernel_rfl) (by kernel_rfl) (by rfl) (fun g f w h => h) ?_; simp only [Act.put, List.setIfInBounds_toArray, List.set_cons_zero, List.set_cons_succ])
    | (refine Fx.WM.val_ 3 ?_ (by rfl) (by kernel_rfl) (by kernel_rfl) (by kernel_rfl) (by rfl) ?_ (fun g f w h => h) ?_
       rotate_left
       · intro g f w' hx hD hk
         obtain hb := id hD
         have y0 := (hb.cell (p := ⟨yb, yo, none⟩) hyb).trans c0
         clear hx hk hD hb
         go_simp
         try rfl
       simp only [Act.put, List.setIfInBounds_toArray, List.set_cons_zero, List.set_cons_succ])
    first
    | (refine Fx.WM.skip 4 (by rfl) (by kernel_rfl) (by kernel_rfl) (by kernel_rfl) (by rfl) (fun g f w h => h) ?_; simp only [Act.put, List.setIfInBounds_toArray, List.set_cons_zero, List.set_cons_succ])
    | (refine Fx.WM.val_ 4 ?_ (by rfl) (by kernel_rfl) (by kernel_rfl) (by kernel_rfl) (by rfl) ?_ (fun g f w h => h) ?_
       rotate_left
       · intro g f w' hx hD hk
         obtain hb := id hD
         have y0 := (hb.cell (p := ⟨yb, yo, none⟩) hyb).trans c0
         clear hx hk hD hb
         go_simp
         try rfl
       simp only [Act.put, List.setIfInBounds_toArray, List.set_cons_zero, List.set_cons_succ])
    refine Fx.WM.choose 5 (by rfl) (by kernel_rfl) (by rfl) ?_ ?_
    · skip
      refine Fx.Chooses.call ?_ ?_ (by rfl) ?_ ?_
      rotate_left 2
      · intro w'
        go_simp
        refine ⟨?_, ?_⟩ <;> rfl
      · intro f w' hD hk
        exact (rpoints_any l hfits A n c _ w' ((R0_0.out.below hD).more hD.size) (Nat.le_refl _) hn H0.out ps HP.out hps).mono fun e w'' ⟨hb, A', c', he, _⟩ => ⟨(A', c'), he, step_below hb hD⟩
    intro x
    simp only [Act.put, List.setIfInBounds_toArray, List.set_cons_zero, List.set_cons_succ]
    first
    | (refine Fx.WM.skip 6 (by rfl) (by kernel_rfl) (by kernel_rfl) (by kernel_rfl) (by rfl) (fun g f w h => h) ?_; simp only [Act.put, List.setIfInBounds_toArray, List.set_cons_zero, List.set_cons_succ])
    | (refine Fx.WM.val_ 6 ?_ (by rfl) (by kernel_rfl) (by kernel_rfl) (by kernel_rfl) (by rfl) ?_ (fun g f w h => h) ?_
       rotate_left
       · intro g f w' hx hD hk
         obtain hb := id hD
         have y0 := (hb.cell (p := ⟨yb, yo, none⟩) hyb).trans c0
         clear hx hk hD hb
         go_simp
         try rfl
       simp only [Act.put, List.setIfInBounds_toArray, List.set_cons_zero, List.set_cons_succ])
    first
    | (refine Fx.WM.skip 7 (by rfl) (by kernel_rfl) (by kernel_rfl) (by kernel_rfl) (by rfl) (fun g f w h => h) ?_; simp only [Act.put, List.setIfInBounds_toArray, List.set_cons_zero, List.set_cons_succ])
    | (refine Fx.WM.val_ 7 ?_ (by rfl) (by kernel_rfl) (by kernel_rfl) (by kernel_rfl) (by rfl) ?_ (fun g f w h => h) ?_
       rotate_left
       · intro g f w' hx hD hk
         obtain hb := id hD
         have y0 := (hb.cell (p := ⟨yb, yo, none⟩) hyb).trans c0
         clear hx hk hD hb
         go_simp
         try rfl
       simp only [Act.put, List.setIfInBounds_toArray, List.set_cons_zero, List.set_cons_succ])
    refine Fx.WM.nil (by kernel_rfl) ?_
    intro w1 hb
    have HB1 := Lib.hid (show Below w.heap.size w w1 from step_below hb (by repeat' (first | exact Below.refl _ _ | exact HB0.out | refine below_drewN ?_ _ | refine Below.drew ?_ | refine Below.alloc ?_ (by first | omega | (simp; done) | (simp; omega) | (simp [World.setCell]; omega)) _ | refine Below.setCell ?_ (by first | omega | (simp; done) | (simp; omega)) _ | assumption)))
    have hL1 := Lib.hid (show Below w.heap.size w _ from reads_mid hb (by repeat' (first | exact Below.refl _ _ | refine below_drewN ?_ _ | refine Below.drew ?_ | refine Below.alloc ?_ (by first | omega | (simp; done) | (simp; omega) | (simp [World.setCell]; omega)) _ | refine Below.setCell ?_ (by first | omega | (simp; done) | (simp; omega)) _)))
    have R0_1 := Lib.hid (reads_lay hb hL1.out R0_0.out)
    have R1_1 := Lib.hid (readsT_lay hb hL1.out R1_0.out)
    clear hL1 R0_0 R1_0
    have hz1 := hb.size
    try simp only [World.size_alloc, World.drewN, World.drew] at hz1
    clear hb
    go_wp2_with fail
    refine (withinref_is wt 0 100000 false HW.out _).mono ?_
    rintro e w' ⟨rfl, rfl⟩
    go_wp2
    go_ret2
    refine ⟨rfl, ?_⟩
    repeat' (first | exact Below.refl _ _ | exact HB1.out | refine below_drewN ?_ _ | refine Below.drew ?_ | refine Below.alloc ?_ (by first | omega | (simp; done) | (simp; omega) | (simp [World.setCell]; omega)) _ | refine Below.setCell ?_ (by first | omega | (simp; done) | (simp; omega)) _ | assumption)
  | true =>
    have hs : sharesOf l = none := by
      cases hs : sharesOf l with
      | none => rfl
      | some ys =>
        unfold deflErr at hE
        rw [if_neg (by omega), if_neg (by simp [hw]), if_neg (by simp [hs])] at hE
        exact absurd hE.symm hE0
    have e : E = 8 := by rw [← hE]; unfold deflErr; rw [if_neg (by omega), if_neg (by simp [hw]), if_pos hs]
    subst e
    have HM := Lib.hid hm
    have HW := Lib.hid hw
    have HS := Lib.hid hs
    clear hm hE h0 hp hT hh hw hs
    go_enter Try.func17, Try.ntmps17
    have R0_0 := Lib.hid hx
    clear hx
    have R1_0 := Lib.hid ht
    clear ht
    go_wp2
    refine Fx.regionM (fun W g f w' => Below W.heap.size W w') (fun i (x : Pick) => .slice x.1 ps.length x.2) (by kernel_rfl) ?_ ?_
    · intro f hf0
      exact below_drewN (Below.refl _ _) 1
    first
    | (refine Fx.WM.skip 0 (by rfl) (by kernel_rfl) (by kernel_rfl) (by kernel_rfl) (by rfl) (fun g f w h => h) ?_; simp only [Act.put, List.setIfInBounds_toArray, List.set_cons_zero, List.set_cons_succ])
    | (refine Fx.WM.val_ 0 ?_ (by rfl) (by kernel_rfl) (by kernel_rfl) (by kernel_rfl) (by rfl) ?_ (fun g f w h => h) ?_
       rotate_left
       · intro g f w' hx hD hk
         obtain hb := id hD
         have y0 := (hb.cell (p := ⟨yb, yo, none⟩) hyb).trans c0
         clear hx hk hD hb
         go_simp
         try rfl
       simp only [Act.put, List.setIfInBounds_toArray, List.set_cons_zero, List.set_cons_succ])
    first
    | (refine Fx.WM.skip 1 (by rfl) (by kernel_rfl) (by kernel_rfl) (by kernel_rfl) (by rfl) (fun g f w h => h) ?_; simp only [Act.put, List.setIfInBounds_toArray, List.set_cons_zero, List.set_cons_succ])
    | (refine Fx.WM.val_ 1 ?_ (by rfl) (by kernel_rfl) (by kernel_rfl) (by kernel_rfl) (by rfl) ?_ (fun g f w h => h) ?_
       rotate_left
       · intro g f w' hx hD hk
         obtain hb := id hD
         have y0 := (hb.cell (p := ⟨yb, yo, none⟩) hyb).trans c0
         clear hx hk hD hb
         go_simp
         try rfl
       simp only [Act.put, List.setIfInBounds_toArray, List.set_cons_zero, List.set_cons_succ])
    first
    | (refine Fx.WM.skip 2 (by rfl) (by kernel_rfl) (by kernel_rfl) (by kernel_rfl) (by rfl) (fun g f w h => h) ?_; simp only [Act.put, List.setIfInBounds_toArray, List.set_cons_zero, List.set_cons_succ])
    | (refine Fx.WM.val_ 2 ?_ (by rfl) (by kernel_rfl) (by kernel_rfl) (by kernel_rfl) (by rfl) ?_ (fun g f w h => h) ?_
       rotate_left
       · intro g f w' hx hD hk
         obtain hb := id hD
         have y0 := (hb.cell (p := ⟨yb, yo, none⟩) hyb).trans c0
         clear hx hk hD hb
         go_simp
         try rfl
       simp only [Act.put, List.setIfInBounds_toArray, List.set_cons_zero, List.set_cons_succ])
    first
    | (refine Fx.WM.skip 3 (by rfl) (by kernel_rfl) (by kernel_rfl) (by kernel_rfl) (by rfl) (fun g f w h => h) ?_; simp only [Act.put, List.setIfInBounds_toArray, List.set_cons_zero, List.set_cons_succ])
    | (refine Fx.WM.val_ 3 ?_ (by rfl) (by kernel_rfl) (by kernel_rfl) (by kernel_rfl) (by rfl) ?_ (fun g f w h => h) ?_
       rotate_left
       · intro g f w' hx hD hk
         obtain hb := id hD
         have y0 := (hb.cell (p := ⟨yb, yo, none⟩) hyb).trans c0
         clear hx hk hD hb
         go_simp
         try rfl
       simp only [Act.put, List.setIfInBounds_toArray, List.set_cons_zero, List.set_cons_succ])
    first
    | (refine Fx.WM.skip 4 (by rfl) (by kernel_rfl) (by kernel_rfl) (by kernel_rfl) (by rfl) (fun g f w h => h) ?_; simp only [Act.put, List.setIfInBounds_toArray, List.set_cons_zero, List.set_cons_succ])
    | (refine Fx.WM.val_ 4 ?_ (by rfl) (by kernel_rfl) (by kernel_rfl) (by kernel_rfl) (by rfl) ?_ (fun g f w h => h) ?_
       rotate_left
       · intro g f w' hx hD hk
         obtain hb := id hD
         have y0 := (hb.cell (p := ⟨yb, yo, none⟩) hyb).trans c0
         clear hx hk hD hb
         go_simp
         try rfl
       simp only [Act.put, List.setIfInBounds_toArray, List.set_cons_zero, List.set_cons_succ])
    refine Fx.WM.choose 5 (by rfl) (by kernel_rfl) (by rfl) ?_ ?_
    · skip
      refine Fx.Chooses.call ?_ ?_ (by rfl) ?_ ?_
      rotate_left 2
      · intro w'
        go_simp
        refine ⟨?_, ?_⟩ <;> rfl
      · intro f w' hD hk
        exact (rpoints_any l hfits A n c _ w' ((R0_0.out.below hD).more hD.size) (Nat.le_refl _) hn H0.out ps HP.out hps).mono fun e w'' ⟨hb, A', c', he, _⟩ => ⟨(A', c'), he, step_below hb hD⟩
    intro x
    simp only [Act.put, List.setIfInBounds_toArray, List.set_cons_zero, List.set_cons_succ]
    first
    | (refine Fx.WM.skip 6 (by rfl) (by kernel_rfl) (by kernel_rfl) (by kernel_rfl) (by rfl) (fun g f w h => h) ?_; simp only [Act.put, List.setIfInBounds_toArray, List.set_cons_zero, List.set_cons_succ])
    | (refine Fx.WM.val_ 6 ?_ (by rfl) (by kernel_rfl) (by kernel_rfl) (by kernel_rfl) (by rfl) ?_ (fun g f w h => h) ?_
       rotate_left
       · intro g f w' hx hD hk
         obtain hb := id hD
         have y0 := (hb.cell (p := ⟨yb, yo, none⟩) hyb).trans c0
         clear hx hk hD hb
         go_simp
         try rfl
       simp only [Act.put, List.setIfInBounds_toArray, List.set_cons_zero, List.set_cons_succ])
    first
    | (refine Fx.WM.skip 7 (by rfl) (by kernel_rfl) (by kernel_rfl) (by kernel_rfl) (by rfl) (fun g f w h => h) ?_; simp only [Act.put, List.setIfInBounds_toArray, List.set_cons_zero, List.set_cons_succ])
    | (refine Fx.WM.val_ 7 ?_ (by rfl) (by kernel_rfl) (by kernel_rfl) (by kernel_rfl) (by rfl) ?_ (fun g f w h => h) ?_
       rotate_left
       · intro g f w' hx hD hk
         obtain hb := id hD
         have y0 := (hb.cell (p := ⟨yb, yo, none⟩) hyb).trans c0
         clear hx hk hD hb
         go_simp
         try rfl
       simp only [Act.put, List.setIfInBounds_toArray, List.set_cons_zero, List.set_cons_succ])
    refine Fx.WM.nil (by kernel_rfl) ?_
    intro w1 hb
    have HB1 := Lib.hid (show Below w.heap.size w w1 from step_below hb (by repeat' (first | exact Below.refl _ _ | exact HB0.out | refine below_drewN ?_ _ | refine Below.drew ?_ | refine Below.alloc ?_ (by first | omega | (simp; done) | (simp; omega) | (simp [World.setCell]; omega)) _ | refine Below.setCell ?_ (by first | omega | (simp; done) | (simp; omega)) _ | assumption)))
    have hL1 := Lib.hid (show Below w.heap.size w _ from reads_mid hb (by repeat' (first | exact Below.refl _ _ | refine below_drewN ?_ _ | refine Below.drew ?_ | refine Below.alloc ?_ (by first | omega | (simp; done) | (simp; omega) | (simp [World.setCell]; omega)) _ | refine Below.setCell ?_ (by first | omega | (simp; done) | (simp; omega)) _)))
    have R0_1 := Lib.hid (reads_lay hb hL1.out R0_0.out)
    have R1_1 := Lib.hid (readsT_lay hb hL1.out R1_0.out)
    clear hL1 R0_0 R1_0
    have hz1 := hb.size
    try simp only [World.size_alloc, World.drewN, World.drew] at hz1
    clear hb
    go_wp2_with fail
    refine (withinref_is wt 0 100000 true HW.out _).mono ?_
    rintro e w' ⟨rfl, rfl⟩
    go_wp2_with fail
    refine (rshares_no l hfits A n c _ _ R0_1.out (Nat.le_refl _) hn H0.out ps HP.out hps HS.out).mono ?_
    rintro e w2 ⟨hb, A3, c3, rfl⟩
    have HB2 := Lib.hid (show Below w.heap.size w w2 from step_below hb (by repeat' (first | exact Below.refl _ _ | exact HB1.out | refine below_drewN ?_ _ | refine Below.drew ?_ | refine Below.alloc ?_ (by first | omega | (simp; done) | (simp; omega) | (simp [World.setCell]; omega)) _ | refine Below.setCell ?_ (by first | omega | (simp; done) | (simp; omega)) _ | assumption)))
    have hL2 := Lib.hid (show Below w1.heap.size w1 _ from reads_mid hb (by repeat' (first | exact Below.refl _ _ | refine below_drewN ?_ _ | refine Below.drew ?_ | refine Below.alloc ?_ (by first | omega | (simp; done) | (simp; omega) | (simp [World.setCell]; omega)) _ | refine Below.setCell ?_ (by first | omega | (simp; done) | (simp; omega)) _)))
    have R0_2 := Lib.hid (reads_lay hb hL2.out R0_1.out)
    have R1_2 := Lib.hid (readsT_lay hb hL2.out R1_1.out)
    clear hL2 R0_1 R1_1
    have hz2 := hb.size
    try simp only [World.size_alloc, World.drewN, World.drew] at hz2
    clear hb
    go_wp2
    go_ret2
    refine ⟨rfl, ?_⟩
    repeat' (first | exact Below.refl _ _ | exact HB2.out | refine below_drewN ?_ _ | refine Below.drew ?_ | refine Below.alloc ?_ (by first | omega | (simp; done) | (simp; omega) | (simp [World.setCell]; omega)) _ | refine Below.setCell ?_ (by first | omega | (simp; done) | (simp; omega)) _ | assumption)

set_option maxRecDepth 100000 in
set_option maxHeartbeats 2000000 in
theorem rdefl_ok (l : List Rk) (hfits : ∀ r ∈ l, r.Fits) (B : Option Addr) (nt ct : Nat) (t : List TRow) (A : Option Addr) (n c : Nat) (wt : Int) (w : World) (hx : Reads w w.heap.size 5 A n (rkCells l)) (hn : n ≤ 100000) (ht : ReadsT w w.heap.size B nt t) (hnt : nt ≤ 1000) (hT : tblErr t = 0) (h0 : openErr l = 0)
    (ps : List ByteArray) (hp : ptsOf l = some ps) (hps : ps.length ≤ 1000000) (ys : List (Int × Int)) (hs : sharesOf l = some ys) (hE : deflErr ps.length t wt (sharesOf l) = 0) :
    Calls Try.prog 17 #[.slice B nt ct, .slice A n c, .int .i64 wt] w (RangesPost (rowsD wt t ys) nt w) := by
  obtain ⟨i0, hi0, hz0, hz1, hz2⟩ := info_parts info_range
  obtain ⟨hp1, hrn, h41, hzs⟩ := tbl_zero hT
  have hl := ht.len
  have hm0 : headLen t = ps.length := by
    unfold deflErr at hE
    by_cases h : headLen t ≠ ps.length
    · rw [if_pos h] at hE; cases hE
    · omega
  have hw : withinB wt 0 100000 = true := by
    cases hw : withinB wt 0 100000 with
    | true => rfl
    | false => unfold deflErr at hE; rw [if_neg (by omega), if_pos hw] at hE; cases hE
  have hwt := (withinB_iff _ _ _).1 hw
  have hyl : ys.length = ps.length := by
    have h1 := hs
    unfold sharesOf at h1
    exact sh_length l _ _ _ _ _ _ hp h1
  have hys := defl_facts h0 hs
  have HT := Lib.hid hT
  have H0 := Lib.hid h0
  have HP := Lib.hid hp
  have HS := Lib.hid hs
  have HW := Lib.hid hw
  have HZS := Lib.hid hzs
  have HYS := Lib.hid hys
  have HRN := Lib.hid hrn
  have HARMS := Lib.hid (arms_of h0)
  have HI0 := Lib.hid hi0
  have HZ0 := Lib.hid hz0
  have HZ1 := Lib.hid hz1
  have HZ2 := Lib.hid hz2
  obtain ⟨z0, -⟩ := open_zero h0
  have htop := Lib.hid (topOf_lt z0)
  obtain ⟨yb, yo, q, hB, hyb, hq, c0, hqc, -, -⟩ := ht.at_ (i := 0) (by omega)
  have hh : headLen t = q.n := by unfold headLen; rw [hq]; rfl
  subst hB
  simp only [Nat.add_zero] at c0
  have hm : ps.length = q.n := by omega
  have HM := Lib.hid hm
  have hyn : ys.length = q.n := by omega
  have HYN := Lib.hid hyn
  have hn0 : 0 < nt := by omega
  have hq41 : q.n ≤ 41 := by omega
  have HLT := Lib.hid hl
  have HHH := Lib.hid hh
  clear hE h0 hp hT hh hw hs hq z0 hm hm0 hyl hys hzs hrn hyn hi0 hz0 hz1 hz2
  go_enter Try.func17, Try.ntmps17
  have R0_0 := Lib.hid hx
  clear hx
  have R1_0 := Lib.hid ht
  clear ht
  go_wp2
  refine Fx.regionM (fun W g f w' => Below W.heap.size W w') (fun i (x : Pick) => .slice x.1 ps.length x.2) (by kernel_rfl) ?_ ?_
  · intro f hf0
    exact below_drewN (Below.refl _ _) 1
  first
  | (refine Fx.WM.skip 0 (by rfl) (by kernel_rfl) (by kernel_rfl) (by kernel_rfl) (by rfl) (fun g f w h => h) ?_; simp only [Act.put, List.setIfInBounds_toArray, List.set_cons_zero, List.set_cons_succ])
  | (refine Fx.WM.val_ 0 ?_ (by rfl) (by kernel_rfl) (by kernel_rfl) (by kernel_rfl) (by rfl) ?_ (fun g f w h => h) ?_
     rotate_left
     · intro g f w' hx hD hk
       obtain hb := id hD
       have y0 := (hb.cell (p := ⟨yb, yo, none⟩) hyb).trans c0
       clear hx hk hD hb
       go_simp
       try rfl
     simp only [Act.put, List.setIfInBounds_toArray, List.set_cons_zero, List.set_cons_succ])
  first
  | (refine Fx.WM.skip 1 (by rfl) (by kernel_rfl) (by kernel_rfl) (by kernel_rfl) (by rfl) (fun g f w h => h) ?_; simp only [Act.put, List.setIfInBounds_toArray, List.set_cons_zero, List.set_cons_succ])
  | (refine Fx.WM.val_ 1 ?_ (by rfl) (by kernel_rfl) (by kernel_rfl) (by kernel_rfl) (by rfl) ?_ (fun g f w h => h) ?_
     rotate_left
     · intro g f w' hx hD hk
       obtain hb := id hD
       have y0 := (hb.cell (p := ⟨yb, yo, none⟩) hyb).trans c0
       clear hx hk hD hb
       go_simp
       try rfl
     simp only [Act.put, List.setIfInBounds_toArray, List.set_cons_zero, List.set_cons_succ])
  first
  | (refine Fx.WM.skip 2 (by rfl) (by kernel_rfl) (by kernel_rfl) (by kernel_rfl) (by rfl) (fun g f w h => h) ?_; simp only [Act.put, List.setIfInBounds_toArray, List.set_cons_zero, List.set_cons_succ])
  | (refine Fx.WM.val_ 2 ?_ (by rfl) (by kernel_rfl) (by kernel_rfl) (by kernel_rfl) (by rfl) ?_ (fun g f w h => h) ?_
     rotate_left
     · intro g f w' hx hD hk
       obtain hb := id hD
       have y0 := (hb.cell (p := ⟨yb, yo, none⟩) hyb).trans c0
       clear hx hk hD hb
       go_simp
       try rfl
     simp only [Act.put, List.setIfInBounds_toArray, List.set_cons_zero, List.set_cons_succ])
  first
  | (refine Fx.WM.skip 3 (by rfl) (by kernel_rfl) (by kernel_rfl) (by kernel_rfl) (by rfl) (fun g f w h => h) ?_; simp only [Act.put, List.setIfInBounds_toArray, List.set_cons_zero, List.set_cons_succ])
  | (refine Fx.WM.val_ 3 ?_ (by rfl) (by kernel_rfl) (by kernel_rfl) (by kernel_rfl) (by rfl) ?_ (fun g f w h => h) ?_
     rotate_left
     · intro g f w' hx hD hk
       obtain hb := id hD
       have y0 := (hb.cell (p := ⟨yb, yo, none⟩) hyb).trans c0
       clear hx hk hD hb
       go_simp
       try rfl
     simp only [Act.put, List.setIfInBounds_toArray, List.set_cons_zero, List.set_cons_succ])
  first
  | (refine Fx.WM.skip 4 (by rfl) (by kernel_rfl) (by kernel_rfl) (by kernel_rfl) (by rfl) (fun g f w h => h) ?_; simp only [Act.put, List.setIfInBounds_toArray, List.set_cons_zero, List.set_cons_succ])
  | (refine Fx.WM.val_ 4 ?_ (by rfl) (by kernel_rfl) (by kernel_rfl) (by kernel_rfl) (by rfl) ?_ (fun g f w h => h) ?_
     rotate_left
     · intro g f w' hx hD hk
       obtain hb := id hD
       have y0 := (hb.cell (p := ⟨yb, yo, none⟩) hyb).trans c0
       clear hx hk hD hb
       go_simp
       try rfl
     simp only [Act.put, List.setIfInBounds_toArray, List.set_cons_zero, List.set_cons_succ])
  refine Fx.WM.choose 5 (by rfl) (by kernel_rfl) (by rfl) ?_ ?_
  · skip
    refine Fx.Chooses.call ?_ ?_ (by rfl) ?_ ?_
    rotate_left 2
    · intro w'
      go_simp
      refine ⟨?_, ?_⟩ <;> rfl
    · intro f w' hD hk
      exact (rpoints_any l hfits A n c _ w' ((R0_0.out.below hD).more hD.size) (Nat.le_refl _) hn H0.out ps HP.out hps).mono fun e w'' ⟨hb, A', c', he, _⟩ => ⟨(A', c'), he, step_below hb hD⟩
  intro x
  simp only [Act.put, List.setIfInBounds_toArray, List.set_cons_zero, List.set_cons_succ]
  first
  | (refine Fx.WM.skip 6 (by rfl) (by kernel_rfl) (by kernel_rfl) (by kernel_rfl) (by rfl) (fun g f w h => h) ?_; simp only [Act.put, List.setIfInBounds_toArray, List.set_cons_zero, List.set_cons_succ])
  | (refine Fx.WM.val_ 6 ?_ (by rfl) (by kernel_rfl) (by kernel_rfl) (by kernel_rfl) (by rfl) ?_ (fun g f w h => h) ?_
     rotate_left
     · intro g f w' hx hD hk
       obtain hb := id hD
       have y0 := (hb.cell (p := ⟨yb, yo, none⟩) hyb).trans c0
       clear hx hk hD hb
       go_simp
       try rfl
     simp only [Act.put, List.setIfInBounds_toArray, List.set_cons_zero, List.set_cons_succ])
  first
  | (refine Fx.WM.skip 7 (by rfl) (by kernel_rfl) (by kernel_rfl) (by kernel_rfl) (by rfl) (fun g f w h => h) ?_; simp only [Act.put, List.setIfInBounds_toArray, List.set_cons_zero, List.set_cons_succ])
  | (refine Fx.WM.val_ 7 ?_ (by rfl) (by kernel_rfl) (by kernel_rfl) (by kernel_rfl) (by rfl) ?_ (fun g f w h => h) ?_
     rotate_left
     · intro g f w' hx hD hk
       obtain hb := id hD
       have y0 := (hb.cell (p := ⟨yb, yo, none⟩) hyb).trans c0
       clear hx hk hD hb
       go_simp
       try rfl
     simp only [Act.put, List.setIfInBounds_toArray, List.set_cons_zero, List.set_cons_succ])
  refine Fx.WM.nil (by kernel_rfl) ?_
  intro w1 hb
  have HB1 := Lib.hid (show Below w.heap.size w w1 from step_below hb (by repeat' (first | exact Below.refl _ _ | exact HB0.out | refine below_drewN ?_ _ | refine Below.drew ?_ | refine Below.alloc ?_ (by first | omega | (simp; done) | (simp; omega) | (simp [World.setCell]; omega)) _ | refine Below.setCell ?_ (by first | omega | (simp; done) | (simp; omega)) _ | assumption)))
  have hL1 := Lib.hid (show Below w.heap.size w _ from reads_mid hb (by repeat' (first | exact Below.refl _ _ | refine below_drewN ?_ _ | refine Below.drew ?_ | refine Below.alloc ?_ (by first | omega | (simp; done) | (simp; omega) | (simp [World.setCell]; omega)) _ | refine Below.setCell ?_ (by first | omega | (simp; done) | (simp; omega)) _)))
  have R0_1 := Lib.hid (reads_lay hb hL1.out R0_0.out)
  have R1_1 := Lib.hid (readsT_lay hb hL1.out R1_0.out)
  clear hL1 R0_0 R1_0
  have hz1 := hb.size
  try simp only [World.size_alloc, World.drewN, World.drew] at hz1
  clear hb
  have hne : ((q.n : Int) != (ps.length : Int)) = false := by rw [HM.out]; simp
  go_wp2_with fail
  refine (withinref_is wt 0 100000 true HW.out _).mono ?_
  rintro e w' ⟨rfl, rfl⟩
  go_wp2_with fail
  refine (rshares_yes l hfits A n c _ _ R0_1.out (Nat.le_refl _) hn H0.out ps HP.out hps ys q.n HM.out HS.out).mono ?_
  rintro e w2 ⟨hb, A3, c3, rfl, hr3⟩
  have HB2 := Lib.hid (show Below w.heap.size w w2 from step_below hb (by repeat' (first | exact Below.refl _ _ | exact HB1.out | refine below_drewN ?_ _ | refine Below.drew ?_ | refine Below.alloc ?_ (by first | omega | (simp; done) | (simp; omega) | (simp [World.setCell]; omega)) _ | refine Below.setCell ?_ (by first | omega | (simp; done) | (simp; omega)) _ | assumption)))
  have hL2 := Lib.hid (show Below w1.heap.size w1 _ from reads_mid hb (by repeat' (first | exact Below.refl _ _ | refine below_drewN ?_ _ | refine Below.drew ?_ | refine Below.alloc ?_ (by first | omega | (simp; done) | (simp; omega) | (simp [World.setCell]; omega)) _ | refine Below.setCell ?_ (by first | omega | (simp; done) | (simp; omega)) _)))
  have R0_2 := Lib.hid (reads_lay hb hL2.out R0_1.out)
  have R1_2 := Lib.hid (readsT_lay hb hL2.out R1_1.out)
  clear hL2 R0_1 R1_1
  have hz2 := hb.size
  try simp only [World.size_alloc, World.drewN, World.drew] at hz2
  clear hb
  have R2_2 := Lib.hid hr3
  clear hr3
  have hb3s := HB2.out.size
  go_wp2
  go_loopw [10, 11] (fun o i wr => ∃ k : Nat, k ≤ nt ∧ i = .int .i64 k ∧ Below w2.heap.size w2 wr ∧ wr.ownsRow w2.heap.size 97 2 o k (cells2 ((rowsD wt t ys).take k))) (fun _ i _ => nt - (intOf i).toNat)
  case atStart => exact ⟨0, by omega, rfl, Below.refl _ _, World.ownsRow_nil _ _ _ _⟩
  case round =>
    obtain ⟨k, hk, rfl, hb, ho⟩ := hrel
    have HO := Lib.hid ho
    have HBR := Lib.hid hb
    have hbr := hb.size
    clear ho hb
    by_cases hlt : k < nt
    · obtain ⟨b2, o2, r, hB2, hb2, hr, d0, hrc, hrl, hrr⟩ := R1_2.out.at_ hlt
      obtain ⟨rfl, rfl⟩ : yb = b2 ∧ yo = o2 := by simpa using hB2
      have hrm := List.mem_of_getElem? hr
      have hrq : r.n = q.n := (HRN.out r hrm).trans HHH.out
      have hzr := HZS.out r hrm
      obtain ⟨rA, rn, rc, rxs⟩ := r
      simp only at d0 hrc hrl hrr hrq hzr
      subst hrq
      have f0 := (HBR.out.cell (p := ⟨yb, yo + k, none⟩) hb2).trans d0
      have HRR : Hid (Reads wr wr.heap.size 1 rA q.n (rxs.map (.int .i64))) := (hrr.below HBR.out).more hbr
      have HYY : Hid (Reads wr wr.heap.size 2 A3 q.n (cells2 ys)) := (R2_2.out.below HBR.out).more hbr
      have HZR := Lib.hid hzr
      have HR := Lib.hid hr
      have HRL := Lib.hid hrl
      clear hr hrr d0 hB2 hrm hrl hzr
      obtain ⟨wo, hwo⟩ : ∃ wo : World, wo = wr := ⟨_, rfl⟩
      subst hwo
      go_wp2
      go_loopw [13] (fun i wr => ∃ j : Nat, j ≤ q.n ∧ i = .int .i64 j ∧ Below wo.heap.size wo wr ∧ Blk wr wo.heap.size 97 #[.int .i64 (defl wt ((rxs.zip ys).take j)).1, .int .i64 (defl wt ((rxs.zip ys).take j)).2]) (fun i _ => q.n - (intOf i).toNat)
      case atStart => exact ⟨0, by omega, rfl, (Below.refl _ _).alloc (Nat.le_refl _) _, Blk.new _ _ _⟩
      case round =>
        obtain ⟨j, hj, rfl, hbi, hki⟩ := hrel
        have HBI := Lib.hid hbi
        have hbis := hki.lt
        obtain ⟨lo, hlo⟩ : ∃ z, (defl wt ((rxs.zip ys).take j)).1 = z := ⟨_, rfl⟩
        obtain ⟨hi, hhi⟩ : ∃ z, (defl wt ((rxs.zip ys).take j)).2 = z := ⟨_, rfl⟩
        rw [hlo, hhi] at hki
        have HKI := Lib.hid hki
        clear hbi hki
        by_cases hlj : j < q.n
        · obtain ⟨xb, xo, z, rfl, hxb, hz, e0⟩ := int_at HRR.out hlj
          obtain ⟨zb, zo, p, rfl, hzb, hp, g0, g1⟩ := HYY.out.pair hlj
          have e1 := (HBI.out.cell (p := ⟨xb, xo + j, none⟩) hxb).trans e0
          have g2 := (HBI.out.cell (p := ⟨zb, zo + j * 2, none⟩) hzb).trans g0
          have g3 := (HBI.out.cell (p := ⟨zb, zo + j * 2 + 1, none⟩) hzb).trans g1
          have hzz := HZR.out z (List.mem_of_getElem? hz)
          obtain ⟨⟨p1, p2⟩, p3⟩ := HYS.out p (List.mem_of_getElem? hp)
          obtain ⟨⟨m1, m2⟩, ⟨m3, m4⟩, ⟨m5, m6⟩, m7, m8⟩ := term_bound hzz hwt p1 p3 p2
          have hall : ∀ x ∈ (rxs.zip ys).take j, (-10000 ≤ x.1 ∧ x.1 ≤ 10000) ∧ 1 ≤ x.2.1 ∧ x.2.2 ≤ 1000000000 ∧ x.2.1 ≤ x.2.2 := fun x hx => by
            have hx2 := List.mem_of_mem_take hx
            obtain ⟨u1, u2⟩ := List.of_mem_zip hx2
            obtain ⟨⟨v1, v2⟩, v3⟩ := HYS.out _ u2
            exact ⟨HZR.out _ u1, v1, v3, v2⟩
          have hbd := defl_bound hwt _ (0, 0) hall
          have hbl : ((rxs.zip ys).take j).length ≤ 41 := by rw [List.length_take]; omega
          have hlo2 : (((rxs.zip ys).take j).foldl (stepD wt) (0, 0)).1 = lo := hlo
          have hhi2 : (((rxs.zip ys).take j).foldl (stepD wt) (0, 0)).2 = hi := hhi
          rw [hlo2, hhi2] at hbd
          simp only at hbd
          obtain ⟨⟨s1, s2⟩, s3, s4⟩ := hbd
          have hnext : defl wt ((rxs.zip ys).take (j + 1)) = (lo + z * wt * p.1 / p.2, hi + -((-(z * wt * p.1)) / p.2)) := by
            rw [zip_take hz hp, defl_snoc]
            unfold stepD
            rw [hlo, hhi]
          have HN := Lib.hid hnext
          obtain ⟨pn, pd⟩ := p
          simp only at p1 p2 p3 m1 m2 m3 m4 m5 m6 m7 m8 g0 g1 g2 g3 HN
          obtain ⟨T, hTT⟩ : ∃ T, z * wt * pn = T := ⟨_, rfl⟩
          obtain ⟨FL, hFL⟩ : ∃ T', T / pd = T' := ⟨_, rfl⟩
          obtain ⟨CE, hCE⟩ : ∃ T', -(-T / pd) = T' := ⟨_, rfl⟩
          simp only [hTT, hFL, hCE] at m3 m4 m5 m6 m7 m8 HN
          have q1 : IntKind.i64.wrap (z * wt) = z * wt := IntWalk.i64_in _ ⟨by omega, by omega⟩
          have q2 : IntKind.i64.wrap (z * wt * pn) = T := by rw [hTT]; exact IntWalk.i64_in _ ⟨by omega, by omega⟩
          have q3 : IntKind.i64.wrap (lo + FL) = lo + FL := IntWalk.i64_in _ ⟨by omega, by omega⟩
          have q4 : IntKind.i64.wrap (hi + CE) = hi + CE := IntWalk.i64_in _ ⟨by omega, by omega⟩
          have HFL := Lib.hid hFL
          have HCE := Lib.hid hCE
          have hzg : zb < wo.heap.size := hzb
          clear hz hp e0 hall hlo hhi hlo2 hhi2 hnext hTT hFL hCE hbl
          have f1 := (HBI.out.cell (p := ⟨yb, yo + k, none⟩) (by show yb < _; omega)).trans f0
          go_wp2
          go_quiet (fail)
          clear f1
          generalize hw5 : World.drewN _ _ = w5
          have HB5 : Hid (Below wo.heap.size wo w5) := by show Below _ _ _; rw [← hw5]; exact below_drewN HBI.out _
          have HK5 : Hid (Blk w5 wo.heap.size 97 #[.int .i64 lo, .int .i64 hi]) := by show Blk _ _ _ _; rw [← hw5]; exact Blk.drewN HKI.out _
          have h2 := (HB5.out.cell (p := ⟨zb, zo + j * 2, none⟩) hzb).trans g0
          have h3 := (HB5.out.cell (p := ⟨zb, zo + j * 2 + 1, none⟩) hzb).trans g1
          clear hw5 g0 g1 g2 g3 e1
          go_wp2
          refine Fx.regionW (fun W f w' => UpD 97 (wo.heap.size) (.int .i64 (lo)) (.int .i64 (hi)) (.int .i64 (lo + FL)) (.int .i64 (hi + CE)) 21 23 W f w') (by kernel_rfl) (by kernel_rfl) ?_ ?_
          · intro f hf0
            exact UpD.start (below_drewN (Below.refl _ _) 1) (Blk.drewN HK5.out 1) (hf0 21) (hf0 23)
          iterate 2 (first
            | (refine Fx.skip_ (by rfl) (fun f w h => h) ?_; simp only [Act.put, List.setIfInBounds_toArray, List.set_cons_zero, List.set_cons_succ])
            | (refine Fx.val_ ?_ (by rfl) ?_ (fun f w h => h) ?_
               rotate_left
               · intro f w' hD hk
                 obtain ⟨hb, hrest⟩ := id hD
                 have uq0 := (UpD.read0 hD (hk.2.1 21 (by kernel_rfl))).1
                 have x0 := (hb.cell (p := ⟨zb, zo + j * 2, none⟩) hzg).trans h2
                 have x1 := (hb.cell (p := ⟨zb, zo + j * 2 + 1, none⟩) hzg).trans h3
                 clear hk hD hb hrest
                 go_simp
                 try rfl
               simp only [Act.put, List.setIfInBounds_toArray, List.set_cons_zero, List.set_cons_succ]))
          repeat (first
            | (refine Fx.skip_ (by rfl) (fun f w h => h) ?_; simp only [Act.put, List.setIfInBounds_toArray, List.set_cons_zero, List.set_cons_succ])
            | (refine Fx.val_ ?_ (by rfl) ?_ (fun f w h => h) ?_
               rotate_left
               · intro f w' hD hk
                 obtain ⟨hb, hrest⟩ := id hD
                 have x0 := (hb.cell (p := ⟨zb, zo + j * 2, none⟩) hzg).trans h2
                 have x1 := (hb.cell (p := ⟨zb, zo + j * 2 + 1, none⟩) hzg).trans h3
                 clear hk hD hb hrest
                 go_simp
                 try rfl
               simp only [Act.put, List.setIfInBounds_toArray, List.set_cons_zero, List.set_cons_succ]))
          refine Fx.call_ (.int .i64 FL) ?_ ?_ (by rfl) ?_ ?_ ?_
          rotate_left 2
          · intro w'
            go_simp
            refine ⟨?_, ?_⟩ <;> rfl
          · intro f w' hD hk
            exact (HFL.out ▸ floorref_any T pd _ (by omega) (by omega) (by omega) (by omega)).mono fun e w'' ⟨he, hw⟩ => ⟨he, hw ▸ hD⟩
          simp only [Act.put, List.setIfInBounds_toArray, List.set_cons_zero, List.set_cons_succ]
          iterate 1 (first
            | (refine Fx.skip_ (by rfl) (fun f w h => h) ?_; simp only [Act.put, List.setIfInBounds_toArray, List.set_cons_zero, List.set_cons_succ])
            | (refine Fx.val_ ?_ (by rfl) ?_ (fun f w h => h) ?_
               rotate_left
               · intro f w' hD hk
                 obtain ⟨hb, hrest⟩ := id hD
                 have x0 := (hb.cell (p := ⟨zb, zo + j * 2, none⟩) hzg).trans h2
                 have x1 := (hb.cell (p := ⟨zb, zo + j * 2 + 1, none⟩) hzg).trans h3
                 clear hk hD hb hrest
                 go_simp
                 try rfl
               simp only [Act.put, List.setIfInBounds_toArray, List.set_cons_zero, List.set_cons_succ]))
          iterate 2 (first
            | (refine Fx.skip_ (by rfl) (fun f w h => h) ?_; simp only [Act.put, List.setIfInBounds_toArray, List.set_cons_zero, List.set_cons_succ])
            | (refine Fx.val_ ?_ (by rfl) ?_ (fun f w h => h) ?_
               rotate_left
               · intro f w' hD hk
                 obtain ⟨hb, hrest⟩ := id hD
                 have uq1 := (UpD.read1 hD (hk.2.1 23 (by kernel_rfl))).1
                 have x0 := (hb.cell (p := ⟨zb, zo + j * 2, none⟩) hzg).trans h2
                 have x1 := (hb.cell (p := ⟨zb, zo + j * 2 + 1, none⟩) hzg).trans h3
                 clear hk hD hb hrest
                 go_simp
                 try rfl
               simp only [Act.put, List.setIfInBounds_toArray, List.set_cons_zero, List.set_cons_succ]))
          repeat (first
            | (refine Fx.skip_ (by rfl) (fun f w h => h) ?_; simp only [Act.put, List.setIfInBounds_toArray, List.set_cons_zero, List.set_cons_succ])
            | (refine Fx.val_ ?_ (by rfl) ?_ (fun f w h => h) ?_
               rotate_left
               · intro f w' hD hk
                 obtain ⟨hb, hrest⟩ := id hD
                 have x0 := (hb.cell (p := ⟨zb, zo + j * 2, none⟩) hzg).trans h2
                 have x1 := (hb.cell (p := ⟨zb, zo + j * 2 + 1, none⟩) hzg).trans h3
                 clear hk hD hb hrest
                 go_simp
                 try rfl
               simp only [Act.put, List.setIfInBounds_toArray, List.set_cons_zero, List.set_cons_succ]))
          refine Fx.call_ (.int .i64 CE) ?_ ?_ (by rfl) ?_ ?_ ?_
          rotate_left 2
          · intro w'
            go_simp
            refine ⟨?_, ?_⟩ <;> rfl
          · intro f w' hD hk
            exact (HCE.out ▸ ceilref_any T pd _ (by omega) (by omega) (by omega) (by omega)).mono fun e w'' ⟨he, hw⟩ => ⟨he, hw ▸ hD⟩
          simp only [Act.put, List.setIfInBounds_toArray, List.set_cons_zero, List.set_cons_succ]
          repeat (first
            | (refine Fx.skip_ (by rfl) (fun f w h => h) ?_; simp only [Act.put, List.setIfInBounds_toArray, List.set_cons_zero, List.set_cons_succ])
            | (refine Fx.val_ ?_ (by rfl) ?_ (fun f w h => h) ?_
               rotate_left
               · intro f w' hD hk
                 obtain ⟨hb, hrest⟩ := id hD
                 have x0 := (hb.cell (p := ⟨zb, zo + j * 2, none⟩) hzg).trans h2
                 have x1 := (hb.cell (p := ⟨zb, zo + j * 2 + 1, none⟩) hzg).trans h3
                 clear hk hD hb hrest
                 go_simp
                 try rfl
               simp only [Act.put, List.setIfInBounds_toArray, List.set_cons_zero, List.set_cons_succ]))
          refine Fx.store_ (fun w' => w'.setCell ⟨wo.heap.size, 0, none⟩ (.int .i64 (lo + FL))) (by rfl) ?_ ?_ ?_
          · intro f w' hD hk
            obtain ⟨hb, hrest⟩ := id hD
            obtain ⟨uq0, uq1⟩ := UpD.read0 hD hk.1
            clear hb hrest
            clear hk hD
            go_simp
          · intro f w' hD hk
            obtain ⟨hb, hrest⟩ := id hD
            obtain ⟨uq0, uq1⟩ := UpD.read0 hD hk.1
            clear hb hrest
            exact hD.store0 (by decide)
          simp only [Act.put, List.setIfInBounds_toArray, List.set_cons_zero, List.set_cons_succ]
          repeat (first
            | (refine Fx.skip_ (by rfl) (fun f w h => h) ?_; simp only [Act.put, List.setIfInBounds_toArray, List.set_cons_zero, List.set_cons_succ])
            | (refine Fx.val_ ?_ (by rfl) ?_ (fun f w h => h) ?_
               rotate_left
               · intro f w' hD hk
                 obtain ⟨hb, hrest⟩ := id hD
                 have x0 := (hb.cell (p := ⟨zb, zo + j * 2, none⟩) hzg).trans h2
                 have x1 := (hb.cell (p := ⟨zb, zo + j * 2 + 1, none⟩) hzg).trans h3
                 clear hk hD hb hrest
                 go_simp
                 try rfl
               simp only [Act.put, List.setIfInBounds_toArray, List.set_cons_zero, List.set_cons_succ]))
          refine Fx.store_ (fun w' => w'.setCell ⟨wo.heap.size, 1, none⟩ (.int .i64 (hi + CE))) (by rfl) ?_ ?_ ?_
          · intro f w' hD hk
            obtain ⟨hb, hrest⟩ := id hD
            obtain ⟨uq0, uq1⟩ := UpD.read1 hD hk.1
            clear hb hrest
            clear hk hD
            go_simp
          · intro f w' hD hk
            obtain ⟨hb, hrest⟩ := id hD
            obtain ⟨uq0, uq1⟩ := UpD.read1 hD hk.1
            clear hb hrest
            exact hD.store1 (by decide)
          simp only [Act.put, List.setIfInBounds_toArray, List.set_cons_zero, List.set_cons_succ]
          refine Fx.nil_ ?_
          intro f w1 hall hD
          obtain ⟨hb, hblk⟩ := UpD.end_ hD (hall 21 (by simp)) (hall 23 (by simp))
          clear hall hD
          have HB6 := Lib.hid (HB5.out.trans hb)
          have HK6 := Lib.hid hblk
          clear hb hblk h2 h3 q4 q1 q2 q3
          go_wp2
          go_roundw
          case rel => exact ⟨j + 1, by omega, by go_num, HB6.out, by rw [HN.out]; exact HK6.out⟩
          case measure => simp [intOf]; omega
        · have hjn : j = q.n := by omega
          have hfull : (rxs.zip ys).take j = rxs.zip ys := List.take_of_length_le (by rw [List.length_zip, HYN.out]; omega)
          have hrow : (rowsD wt t ys)[k]? = some (lo, hi) := by
            unfold rowsD
            rw [List.getElem?_map, HR.out]
            simp only [Option.map_some]
            rw [← hfull, ← hlo, ← hhi]
          have HTK : Hid (cells2 ((rowsD wt t ys).take (k + 1)) = cells2 ((rowsD wt t ys).take k) ++ [.int .i64 lo, .int .i64 hi]) := by
            show _ = _
            rw [List.take_add_one, hrow, cells2_append]; rfl
          obtain ⟨W, hW⟩ : ∃ W, W = wr.alloc (.cells #[.int .i64 lo, .int .i64 hi] 97) := ⟨_, rfl⟩
          have ho1 : W.ownsRow w2.heap.size 97 2 u10 k (cells2 ((rowsD wt t ys).take k)) := by rw [hW]; exact (own_below HO.out HBI.out (Nat.le_refl _)).alloc _
          have hnb : Blk W wr.heap.size 97 #[.int .i64 lo, .int .i64 hi] := by rw [hW]; exact Blk.new _ _ _
          have hsz : W.heap.size = wr.heap.size + 1 := by rw [hW]; simp
          have hbW : Below w2.heap.size w2 W := by rw [hW]; exact (HBR.out.trans (HBI.out.mono hbr)).alloc (by omega) _
          obtain ⟨v', W2, hrun, o2', hg2, hrow2⟩ := run_append_any (P := Try.prog) W w2.heap.size 27 27 97 i0 _ 2 16 Try.underlying27 HI0.out HZ0.out HZ1.out HZ2.out rfl (by omega) u10 k _ ho1 W.heap.size (some ⟨wr.heap.size, 0, none⟩) 1 1 [.int .i64 lo, .int .i64 hi] (Blk.reads hnb rfl) (by simp [Value.oneCell']) (by unfold maxLen; omega) (by omega) (by omega)
          rw [hW] at hrun
          have HRUN := Lib.hid hrun
          have HB2' := Lib.hid (hbW.grown hg2 (by omega) (fun g hg => (own_lt ho1 hg).1))
          have HO2 : Hid (W2.ownsRow w2.heap.size 97 2 v' (k + 1) (cells2 ((rowsD wt t ys).take (k + 1)))) := by
            show World.ownsRow _ _ _ _ _ _ _
            rw [HTK.out]
            exact o2'
          have l0 := HKI.out.cell 0
          have l1 := HKI.out.cell 1
          clear hrun hg2 hrow2 hnb ho1 hW hsz hbW o2' hrow hfull hlo hhi
          go_wp2_with (first | (at_builtin; refine wpList_app _ W2 v' rfl _ _ _ rfl _ _ rfl rfl HRUN.out ?_))
          go_roundw
          case rel => exact ⟨k + 1, by omega, by go_num, HB2'.out, HO2.out⟩
          case measure => simp [intOf]; omega
    · have hkn : k = nt := by omega
      rw [hkn] at HO
      clear hkn
      obtain ⟨A5, c5, rfl, hr5⟩ := own_reads HO.out
      rw [List.take_of_length_le (by unfold rowsD; rw [List.length_map, HLT.out]; exact Nat.le_refl _)] at hr5
      have HRR := Lib.hid hr5
      have HBE := Lib.hid (HB2.out.trans (HBR.out.mono hb3s))
      clear hr5
      go_wp2
      go_ret2
      exact ⟨HBE.out, A5, c5, rfl, HRR.out⟩

end Go.Proofs.Ytoiconebcmneiab

end

section
/- The contract of the rockers that forces do not balance, as the reference finds them; the comparison of lists of numbers. -/
namespace Go.Proofs.Ytoiconebcmneiab
open Go Go.RowKit




end Go.Proofs.Ytoiconebcmneiab

end

section
/- The walk of the statement on forces. -/
namespace Go.Proofs.Ytoiconebcmneiab
open Go.RowKit

theorem few_below {l : List Rk} (h : fewB l = true) (h0 : openErr l = 0) (s : ByteArray) : (below_ l s).length ≤ 1000000 := by
  have h1 := (open_zero h0).2.1
  have h2 := (fewB_len h).1
  have hl : l.length ≤ 8 := by omega
  have := below_len h0 s
  have h3 : 2 ^ l.length ≤ 2 ^ 8 := Nat.pow_le_pow_right (by omega) hl
  omega


end Go.Proofs.Ytoiconebcmneiab

end
