import Derived.Test.YtgamepmipoociaaQ24
import Derived.Test.YtgamepmipoociaaQ29
import Derived.Test.YtgamepmipoociaaQ34

section
/- The walk of the statement on the check of models and on predictions. -/
namespace Go.Proofs.Ytgamepmipoociaa
open Go Go.RowKit

@[go_sem] theorem held_rangeF : Try.prog.stoodInHeld 112 = false := by kernel_rfl
@[go_sem] theorem guard_rangeF : Try.prog.eqGuardType Try.prog.depth 112 = false := by kernel_rfl
theorem eq_rangeF (x y : Int) (w : World) : (Op.equalIn 10000 112 (.agg #[.int .i64 x, .int .i64 y]) (.agg #[.int .i64 x, .int .i64 y])).run Try.prog w = .ok true w := by
  simp [go_sem]
@[go_sem ↓ high] theorem eql_rangeF (x y : Int) (w : World) : (binOp .eql 112 (.agg #[.int .i64 x, .int .i64 y]) (.agg #[.int .i64 x, .int .i64 y])).run Try.prog w = .ok (.bool true) w := by
  rw [run_eql_struct, eq_rangeF]; rfl

/-- What is known of copies: of stars (operation ci), of a model (operation ki). -/
def PfM (l : List Star) (n : Nat) (T : List Int) (m ci ki : Nat) (i : Nat) (x : Pick2) (w : World) : Prop :=
  (i = ci → ∃ S : List Star, S.map (fun s => (s.xs, s.er)) = l.map (fun s => (s.xs, s.er)) ∧ StarsAt S x.1.1 n w) ∧ (i = ki → Reads w w.heap.size 1 x.1.1 m (T.map (.int .i64)))
theorem PfM.stb {l : List Star} {n : Nat} {T : List Int} {m ci ki : Nat} : Stb (PfM l n T m ci ki) := fun _ _ _ _ hb h =>
  ⟨fun e => by obtain ⟨S, h1, h2⟩ := h.1 e; exact ⟨S, h1, h2.lay hb⟩, fun e => ((h.2 e).below hb).more hb.size⟩
theorem chk_alike {S l : List Star} (h : S.map (fun s => (s.xs, s.er)) = l.map (fun s => (s.xs, s.er))) (T : List Int) (D : Int) : chkErr S T D = chkErr l T D := by
  obtain ⟨⟨T0, E0⟩, hE⟩ : ∃ z, starsF l = z := ⟨_, rfl⟩
  have hS := stars_alike h hE
  have hx : S.map Star.xs = l.map Star.xs := by
    have := congrArg (List.map Prod.fst) h
    rw [List.map_map, List.map_map] at this
    exact this
  have hN := termsN_congr hx
  have hl : S.length = l.length := by simpa using congrArg List.length h
  have hc : ∀ k q, chkTo S T D k q = chkTo l T D k q := fun k q => by
    have e : ∀ L : List Star, (L.take q).map (chkS T D k) = ((L.map (fun s => (s.xs, s.er))).take q).map (fun p : List Int × Int => p.1.getD k 0 * (p.2 * D - dotTo T p.1 T.length)) := fun L => by
      rw [← List.map_take, List.map_map]; rfl
    unfold chkTo
    rw [e, e, h]
  unfold chkErr fitErr
  rw [hE, hS, hN, hl]
  simp only [hc]
theorem pcheckfit_like {l : List Star} {n m : Nat} {T : List Int} {D E : Int} (hE : chkErr l T D = E) (A : Option Addr) (c : Nat) (B : Option Addr) (cb : Nat) (w : World) (hx : ∃ S : List Star, S.map (fun s => (s.xs, s.er)) = l.map (fun s => (s.xs, s.er)) ∧ StarsAt S A n w) (hy : Reads w w.heap.size 1 B m (T.map (.int .i64))) (hn : n ≤ 9223372036854775807) (hm : m ≤ 9223372036854775807) :
    Calls Try.prog 66 #[.slice A n c, .agg #[.slice B m cb, .int .i64 D]] w fun e w' => e = .returned (.int .i64 E) ∧ Below w.heap.size w w' := by
  obtain ⟨S, h1, h2⟩ := hx
  exact pcheckfit_is S A n c B m cb T D E (by rw [chk_alike h1, hE]) w h2 hy hn hm

set_option maxRecDepth 100000 in
set_option maxHeartbeats 4000000 in
theorem lawPF_no (A : Option Addr) (n c : Nat) (l : List Star) (B : Option Addr) (m cb : Nat) (T : List Int) (D : Int) (C : Option Addr) (r d : Nat) (w : World) (hnc : n ≤ c ∧ c ≤ 9223372036854775807) (hx : StarsAt l A n w)
    (h0 : fewStars l = false ∨ 6 < m ∨ 6 < r) :
    Calls Try.prog 12 #[.slice A n c, .agg #[.slice B m cb, .int .i64 D], .slice C r d] w fun e w' => e = .returned (.bool true) ∧ Below w.heap.size w w' := by
  obtain ⟨hnc, hcm⟩ := hnc
  cases hr : fewStars l
  · have HR := Lib.hid hr
    clear hr h0
    go_enter Try.func12, Try.ntmps12
    have R0_0 := Lib.hid hx
    clear hx
    go_wp2_with fail
    refine (awakept_any _).mono ?_
    rintro e w1 ⟨rfl, hb⟩
    have HB1 := Lib.hid (show Below w.heap.size w w1 from step_below hb (by repeat' (first | exact Below.refl _ _ | exact HB0.out | refine below_drewN ?_ _ | refine Below.drew ?_ | refine Below.alloc ?_ (by first | omega | (simp; done) | (simp; omega) | (simp [World.setCell]; omega)) _ | refine Below.setCell ?_ (by first | omega | (simp; done) | (simp; omega)) _ | assumption)))
    have K0_1 := Lib.hid (step_blk hb (show Blk _ (w.heap.size) 102 #[.slice B m cb, .int .i64 (D)] by repeat' (first | exact Blk.at_ _ (by first | rfl | (simp; done) | (simp; omega)) _ _ | refine Blk.drewN ?_ _ | refine Blk.drew ?_ | refine Blk.alloc ?_ _ | refine Blk.far ?_ (by first | omega | (simp; done) | (simp; omega)) _ | assumption)))
    have hL1 := Lib.hid (show Below w.heap.size w _ from reads_mid hb (by repeat' (first | exact Below.refl _ _ | refine below_drewN ?_ _ | refine Below.drew ?_ | refine Below.alloc ?_ (by first | omega | (simp; done) | (simp; omega) | (simp [World.setCell]; omega)) _ | refine Below.setCell ?_ (by first | omega | (simp; done) | (simp; omega)) _)))
    have R0_1 := Lib.hid (stars_lay hb hL1.out R0_0.out)
    clear hL1 R0_0
    have hz1 := hb.size
    try simp only [World.size_alloc, World.drewN, World.drew] at hz1
    clear hb
    have l0_1 : w.heap.size < w1.heap.size := K0_1.out.lt
    have z0_0_1 : w1.cell? ⟨w.heap.size, 0, none⟩ = some (.slice B m cb) := K0_1.out.cell 0
    have z0_1_1 : w1.cell? ⟨w.heap.size, 1, none⟩ = some (.int .i64 (D)) := K0_1.out.cell 1
    go_wp2_with fail
    refine (fewstars_is l A n c false HR.out _ R0_1.out (by omega)).mono ?_
    rintro e w' ⟨rfl, rfl⟩
    go_wp2
    go_ret
    exact ⟨rfl, by repeat' (first | exact Below.refl _ _ | exact HB1.out | refine below_drewN ?_ _ | refine Below.drew ?_ | refine Below.alloc ?_ (by first | omega | (simp; done) | (simp; omega) | (simp [World.setCell]; omega)) _ | refine Below.setCell ?_ (by first | omega | (simp; done) | (simp; omega)) _ | assumption)⟩
  have HR := Lib.hid hr
  by_cases h6 : 6 < m
  · have d6 : (6 : Int) < (m : Int) := by omega
    clear hr h0
    go_enter Try.func12, Try.ntmps12
    have R0_0 := Lib.hid hx
    clear hx
    go_wp2_with fail
    refine (awakept_any _).mono ?_
    rintro e w1 ⟨rfl, hb⟩
    have HB1 := Lib.hid (show Below w.heap.size w w1 from step_below hb (by repeat' (first | exact Below.refl _ _ | exact HB0.out | refine below_drewN ?_ _ | refine Below.drew ?_ | refine Below.alloc ?_ (by first | omega | (simp; done) | (simp; omega) | (simp [World.setCell]; omega)) _ | refine Below.setCell ?_ (by first | omega | (simp; done) | (simp; omega)) _ | assumption)))
    have K0_1 := Lib.hid (step_blk hb (show Blk _ (w.heap.size) 102 #[.slice B m cb, .int .i64 (D)] by repeat' (first | exact Blk.at_ _ (by first | rfl | (simp; done) | (simp; omega)) _ _ | refine Blk.drewN ?_ _ | refine Blk.drew ?_ | refine Blk.alloc ?_ _ | refine Blk.far ?_ (by first | omega | (simp; done) | (simp; omega)) _ | assumption)))
    have hL1 := Lib.hid (show Below w.heap.size w _ from reads_mid hb (by repeat' (first | exact Below.refl _ _ | refine below_drewN ?_ _ | refine Below.drew ?_ | refine Below.alloc ?_ (by first | omega | (simp; done) | (simp; omega) | (simp [World.setCell]; omega)) _ | refine Below.setCell ?_ (by first | omega | (simp; done) | (simp; omega)) _)))
    have R0_1 := Lib.hid (stars_lay hb hL1.out R0_0.out)
    clear hL1 R0_0
    have hz1 := hb.size
    try simp only [World.size_alloc, World.drewN, World.drew] at hz1
    clear hb
    have l0_1 : w.heap.size < w1.heap.size := K0_1.out.lt
    have z0_0_1 : w1.cell? ⟨w.heap.size, 0, none⟩ = some (.slice B m cb) := K0_1.out.cell 0
    have z0_1_1 : w1.cell? ⟨w.heap.size, 1, none⟩ = some (.int .i64 (D)) := K0_1.out.cell 1
    go_wp2_with fail
    refine (fewstars_is l A n c true HR.out _ R0_1.out (by omega)).mono ?_
    rintro e w' ⟨rfl, rfl⟩
    go_wp2
    go_ret
    exact ⟨rfl, by repeat' (first | exact Below.refl _ _ | exact HB1.out | refine below_drewN ?_ _ | refine Below.drew ?_ | refine Below.alloc ?_ (by first | omega | (simp; done) | (simp; omega) | (simp [World.setCell]; omega)) _ | refine Below.setCell ?_ (by first | omega | (simp; done) | (simp; omega)) _ | assumption)⟩
  have d6 : ¬ (6 : Int) < (m : Int) := by omega
  have h7 : 6 < r := by
    rcases h0 with h | h | h
    · rw [hr] at h; cases h
    · exact absurd h h6
    · exact h
  have d7 : (6 : Int) < (r : Int) := by omega
  clear hr h0
  go_enter Try.func12, Try.ntmps12
  have R0_0 := Lib.hid hx
  clear hx
  go_wp2_with fail
  refine (awakept_any _).mono ?_
  rintro e w1 ⟨rfl, hb⟩
  have HB1 := Lib.hid (show Below w.heap.size w w1 from step_below hb (by repeat' (first | exact Below.refl _ _ | exact HB0.out | refine below_drewN ?_ _ | refine Below.drew ?_ | refine Below.alloc ?_ (by first | omega | (simp; done) | (simp; omega) | (simp [World.setCell]; omega)) _ | refine Below.setCell ?_ (by first | omega | (simp; done) | (simp; omega)) _ | assumption)))
  have K0_1 := Lib.hid (step_blk hb (show Blk _ (w.heap.size) 102 #[.slice B m cb, .int .i64 (D)] by repeat' (first | exact Blk.at_ _ (by first | rfl | (simp; done) | (simp; omega)) _ _ | refine Blk.drewN ?_ _ | refine Blk.drew ?_ | refine Blk.alloc ?_ _ | refine Blk.far ?_ (by first | omega | (simp; done) | (simp; omega)) _ | assumption)))
  have hL1 := Lib.hid (show Below w.heap.size w _ from reads_mid hb (by repeat' (first | exact Below.refl _ _ | refine below_drewN ?_ _ | refine Below.drew ?_ | refine Below.alloc ?_ (by first | omega | (simp; done) | (simp; omega) | (simp [World.setCell]; omega)) _ | refine Below.setCell ?_ (by first | omega | (simp; done) | (simp; omega)) _)))
  have R0_1 := Lib.hid (stars_lay hb hL1.out R0_0.out)
  clear hL1 R0_0
  have hz1 := hb.size
  try simp only [World.size_alloc, World.drewN, World.drew] at hz1
  clear hb
  have l0_1 : w.heap.size < w1.heap.size := K0_1.out.lt
  have z0_0_1 : w1.cell? ⟨w.heap.size, 0, none⟩ = some (.slice B m cb) := K0_1.out.cell 0
  have z0_1_1 : w1.cell? ⟨w.heap.size, 1, none⟩ = some (.int .i64 (D)) := K0_1.out.cell 1
  go_wp2_with fail
  refine (fewstars_is l A n c true HR.out _ R0_1.out (by omega)).mono ?_
  rintro e w' ⟨rfl, rfl⟩
  go_wp2
  go_ret
  exact ⟨rfl, by repeat' (first | exact Below.refl _ _ | exact HB1.out | refine below_drewN ?_ _ | refine Below.drew ?_ | refine Below.alloc ?_ (by first | omega | (simp; done) | (simp; omega) | (simp [World.setCell]; omega)) _ | refine Below.setCell ?_ (by first | omega | (simp; done) | (simp; omega)) _ | assumption)⟩

set_option maxRecDepth 100000 in
set_option maxHeartbeats 8000000 in
theorem lawPF_yes (A : Option Addr) (n c : Nat) (l : List Star) (B : Option Addr) (m cb : Nat) (T : List Int) (D : Int) (C : Option Addr) (r d : Nat) (S : List Int) (w : World) (hnc : n ≤ c ∧ c ≤ 9223372036854775807) (hx : StarsAt l A n w)
    (hy : Reads w w.heap.size 1 B m (T.map (.int .i64))) (hz : Reads w w.heap.size 1 C r (S.map (.int .i64))) (hr : fewStars l = true) (h6 : m ≤ 6) (h7 : r ≤ 6) :
    Calls Try.prog 12 #[.slice A n c, .agg #[.slice B m cb, .int .i64 D], .slice C r d] w fun e w' => e = .returned (.bool true) ∧ Below w.heap.size w w' := by
  obtain ⟨hnc, hcm⟩ := hnc
  obtain ⟨hf6, hf23⟩ := fewStars_right hr
  have hll := hx.len
  obtain ⟨⟨T0, C0⟩, h0⟩ : ∃ z, starsF l = z := ⟨_, rfl⟩
  obtain ⟨D0, h1⟩ : ∃ z, mdlErr T D = z := ⟨_, rfl⟩
  obtain ⟨E, hE⟩ : ∃ z, chkErr l T D = z := ⟨_, rfl⟩
  obtain ⟨⟨⟨lo, hi⟩, F⟩, hP⟩ : ∃ z, prdAll T D S = z := ⟨_, rfl⟩
  have hn23 : n ≤ 23 := by omega
  have d6 : ¬ (6 : Int) < (m : Int) := by omega
  have d7 : ¬ (6 : Int) < (r : Int) := by omega
  have HR := Lib.hid hr
  have HF := Lib.hid hf6
  have H0 := Lib.hid h0
  have H1 := Lib.hid h1
  have HE := Lib.hid hE
  have HP := Lib.hid hP
  have q1 : (D0 != D0) = false := by simp
  have q2 : (E != E) = false := by simp
  have q3 : (F == F) = true := by simp
  clear hr hf6 h0 h1 hE hP hll
  go_enter Try.func12, Try.ntmps12
  have R0_0 := Lib.hid hx
  clear hx
  have R1_0 := Lib.hid hy
  clear hy
  have R2_0 := Lib.hid hz
  clear hz
  go_wp2_with fail
  refine (awakept_any _).mono ?_
  rintro e w1 ⟨rfl, hb⟩
  have HB1 := Lib.hid (show Below w.heap.size w w1 from step_below hb (by repeat' (first | exact Below.refl _ _ | exact HB0.out | refine below_drewN ?_ _ | refine Below.drew ?_ | refine Below.alloc ?_ (by first | omega | (simp; done) | (simp; omega) | (simp [World.setCell]; omega)) _ | refine Below.setCell ?_ (by first | omega | (simp; done) | (simp; omega)) _ | assumption)))
  have K0_1 := Lib.hid (step_blk hb (show Blk _ (w.heap.size) 102 #[.slice B m cb, .int .i64 (D)] by repeat' (first | exact Blk.at_ _ (by first | rfl | (simp; done) | (simp; omega)) _ _ | refine Blk.drewN ?_ _ | refine Blk.drew ?_ | refine Blk.alloc ?_ _ | refine Blk.far ?_ (by first | omega | (simp; done) | (simp; omega)) _ | assumption)))
  have hL1 := Lib.hid (show Below w.heap.size w _ from reads_mid hb (by repeat' (first | exact Below.refl _ _ | refine below_drewN ?_ _ | refine Below.drew ?_ | refine Below.alloc ?_ (by first | omega | (simp; done) | (simp; omega) | (simp [World.setCell]; omega)) _ | refine Below.setCell ?_ (by first | omega | (simp; done) | (simp; omega)) _)))
  have R0_1 := Lib.hid (stars_lay hb hL1.out R0_0.out)
  have R1_1 := Lib.hid (reads_lay hb hL1.out R1_0.out)
  have R2_1 := Lib.hid (reads_lay hb hL1.out R2_0.out)
  clear hL1 R0_0 R1_0 R2_0
  have hz1 := hb.size
  try simp only [World.size_alloc, World.drewN, World.drew] at hz1
  clear hb
  have l0_1 : w.heap.size < w1.heap.size := K0_1.out.lt
  have z0_0_1 : w1.cell? ⟨w.heap.size, 0, none⟩ = some (.slice B m cb) := K0_1.out.cell 0
  have z0_1_1 : w1.cell? ⟨w.heap.size, 1, none⟩ = some (.int .i64 (D)) := K0_1.out.cell 1
  go_wp2_with fail
  refine (fewstars_is l A n c true HR.out _ R0_1.out (by omega)).mono ?_
  rintro e w' ⟨rfl, rfl⟩
  go_wp2
  refine Fx.regionM (fun W g f w' => Kp (PfM l n T m 1 3) W g w') (fun i (x : Pick2) => if i = 3 then .agg #[.slice x.1.1 m x.1.2, .int .i64 D] else .slice x.1.1 n x.1.2) (by kernel_rfl) ?_ ?_
  · intro f hf0
    exact Kp.start
  first
  | (refine Fx.WM.skip 0 (by rfl) (by kernel_rfl) (by kernel_rfl) (by kernel_rfl) (by rfl) (fun g f w h => h) ?_; simp only [Act.put, List.setIfInBounds_toArray, List.set_cons_zero, List.set_cons_succ])
  | (refine Fx.WM.val_ 0 ?_ (by rfl) (by kernel_rfl) (by kernel_rfl) (by kernel_rfl) (by rfl) ?_ (fun g f w h => h) ?_
     rotate_left
     · intro g f w' hx hD hk
       obtain hkp := id hD
       clear hx hk hD hkp
       go_simp
       try rfl
     simp only [Act.put, List.setIfInBounds_toArray, List.set_cons_zero, List.set_cons_succ])
  first
  | (refine Fx.WM.skip 2 (by rfl) (by kernel_rfl) (by kernel_rfl) (by kernel_rfl) (by rfl) (fun g f w h => h) ?_; simp only [Act.put, List.setIfInBounds_toArray, List.set_cons_zero, List.set_cons_succ])
  | (refine Fx.WM.val_ 2 ?_ (by rfl) (by kernel_rfl) (by kernel_rfl) (by kernel_rfl) (by rfl) ?_ (fun g f w h => h) ?_
     rotate_left
     · intro g f w' hx hD hk
       obtain hkp := id hD
       have y0_0 := (K0_1.out.below hkp.bel l0_1).cell 0
       have y0_1 := (K0_1.out.below hkp.bel l0_1).cell 1
       clear hx hk hD hkp
       go_simp
       try rfl
     simp only [Act.put, List.setIfInBounds_toArray, List.set_cons_zero, List.set_cons_succ])
  refine Fx.WM.choose 1 (by rfl) (by kernel_rfl) (by rfl) ?_ ?_
  · skip
    refine Fx.Chooses.call ?_ ?_ (by rfl) ?_ ?_
    rotate_left 2
    · intro w'
      go_simp
      refine ⟨?_, ?_⟩ <;> rfl
    · intro f w' hD hk
      exact (cstars_any l A n c w' (R0_1.out.lay hD.bel) (by omega) (fun s hs => Nat.le_trans (HF.out s hs) (by decide))).mono fun e w'' ⟨A', c', S', he, hb, hS, ho⟩ => ⟨((A', c'), (none, 0)), he, hD.choose PfM.stb hb 1 _ ⟨fun _ => ⟨S', hS, ho.at_⟩, fun e => absurd e (by decide)⟩⟩
  intro x
  simp only [Act.put, List.setIfInBounds_toArray, List.set_cons_zero, List.set_cons_succ]
  refine Fx.WM.choose 3 (by rfl) (by kernel_rfl) (by rfl) ?_ ?_
  · skip
    refine Fx.Chooses.call ?_ ?_ (by rfl) ?_ ?_
    rotate_left 2
    · intro w'
      go_simp
      refine ⟨?_, ?_⟩ <;> rfl
    · intro f w' hD hk
      exact (cmodel_any B m cb T D w' ((R1_1.out.below hD.bel).more hD.bel.size) (by omega)).mono fun e w'' ⟨A', c', he, hb, ho⟩ => ⟨((A', c'), (none, 0)), he, hD.choose PfM.stb hb 3 _ ⟨fun e => absurd e (by decide), fun _ => own_reads2 ho⟩⟩
  intro z
  simp only [Act.put, List.setIfInBounds_toArray, List.set_cons_zero, List.set_cons_succ]
  refine Fx.WM.call 4 (.int .i64 (E)) ?_ ?_ (by rfl) (by kernel_rfl) (by kernel_rfl) (by kernel_rfl) (by rfl) ?_ ?_ ?_
  rotate_left 2
  · intro w'
    go_simp
    refine ⟨?_, ?_⟩ <;> rfl
  · intro g f w' hx hD hk
    exact (pcheckfit_like HE.out x.1.1 x.1.2 z.1.1 z.1.2 w' ((hD.has 1 x (hx 1 _ (by rfl))).1 rfl) ((hD.has 3 z (hx 3 _ (by rfl))).2 rfl) (by omega) (by omega)).mono fun e w'' ⟨he, hw⟩ => ⟨he, hD.call PfM.stb hw⟩
  simp only [Act.put, List.setIfInBounds_toArray, List.set_cons_zero, List.set_cons_succ]
  first
  | (refine Fx.WM.skip 5 (by rfl) (by kernel_rfl) (by kernel_rfl) (by kernel_rfl) (by rfl) (fun g f w h => h) ?_; simp only [Act.put, List.setIfInBounds_toArray, List.set_cons_zero, List.set_cons_succ])
  | (refine Fx.WM.val_ 5 ?_ (by rfl) (by kernel_rfl) (by kernel_rfl) (by kernel_rfl) (by rfl) ?_ (fun g f w h => h) ?_
     rotate_left
     · intro g f w' hx hD hk
       obtain hkp := id hD
       clear hx hk hD hkp
       go_simp
       try rfl
     simp only [Act.put, List.setIfInBounds_toArray, List.set_cons_zero, List.set_cons_succ])
  refine Fx.WM.nil (by kernel_rfl) ?_
  intro wz hkp
  have hb := hkp.bel
  clear hkp
  obtain ⟨w2, hnm⟩ : ∃ z : World, z = wz := ⟨_, rfl⟩
  subst hnm
  have HB2 := Lib.hid (show Below w.heap.size w w2 from step_below hb (by repeat' (first | exact Below.refl _ _ | exact HB1.out | refine below_drewN ?_ _ | refine Below.drew ?_ | refine Below.alloc ?_ (by first | omega | (simp; done) | (simp; omega) | (simp [World.setCell]; omega)) _ | refine Below.setCell ?_ (by first | omega | (simp; done) | (simp; omega)) _ | assumption)))
  have K0_2 := Lib.hid (step_blk hb (show Blk _ (w.heap.size) 102 #[.slice B m cb, .int .i64 (D)] by repeat' (first | exact K0_1.out | exact Blk.at_ _ (by first | rfl | (simp; done) | (simp; omega)) _ _ | refine Blk.drewN ?_ _ | refine Blk.drew ?_ | refine Blk.alloc ?_ _ | refine Blk.far ?_ (by first | omega | (simp; done) | (simp; omega)) _ | assumption)))
  have hL2 := Lib.hid (show Below w1.heap.size w1 _ from reads_mid hb (by repeat' (first | exact Below.refl _ _ | refine below_drewN ?_ _ | refine Below.drew ?_ | refine Below.alloc ?_ (by first | omega | (simp; done) | (simp; omega) | (simp [World.setCell]; omega)) _ | refine Below.setCell ?_ (by first | omega | (simp; done) | (simp; omega)) _)))
  have R0_2 := Lib.hid (stars_lay hb hL2.out R0_1.out)
  have R1_2 := Lib.hid (reads_lay hb hL2.out R1_1.out)
  have R2_2 := Lib.hid (reads_lay hb hL2.out R2_1.out)
  clear hL2 R0_1 R1_1 R2_1
  have hz2 := hb.size
  try simp only [World.size_alloc, World.drewN, World.drew] at hz2
  clear hb K0_1 z0_0_1 z0_1_1 l0_1
  have l0_2 : w.heap.size < w2.heap.size := K0_2.out.lt
  have z0_0_2 : w2.cell? ⟨w.heap.size, 0, none⟩ = some (.slice B m cb) := K0_2.out.cell 0
  have z0_1_2 : w2.cell? ⟨w.heap.size, 1, none⟩ = some (.int .i64 (D)) := K0_2.out.cell 1
  go_wp2_with fail
  refine (cmodel_any B m cb T D _ R1_2.out (by omega)).mono ?_
  rintro e w3 ⟨A3, c3, rfl, hb, ho3⟩
  have HB3 := Lib.hid (show Below w.heap.size w w3 from step_below hb (by repeat' (first | exact Below.refl _ _ | exact HB2.out | refine below_drewN ?_ _ | refine Below.drew ?_ | refine Below.alloc ?_ (by first | omega | (simp; done) | (simp; omega) | (simp [World.setCell]; omega)) _ | refine Below.setCell ?_ (by first | omega | (simp; done) | (simp; omega)) _ | assumption)))
  have K0_3 := Lib.hid (step_blk hb (show Blk _ (w.heap.size) 102 #[.slice B m cb, .int .i64 (D)] by repeat' (first | exact K0_2.out | exact Blk.at_ _ (by first | rfl | (simp; done) | (simp; omega)) _ _ | refine Blk.drewN ?_ _ | refine Blk.drew ?_ | refine Blk.alloc ?_ _ | refine Blk.far ?_ (by first | omega | (simp; done) | (simp; omega)) _ | assumption)))
  have hL3 := Lib.hid (show Below w2.heap.size w2 _ from reads_mid hb (by repeat' (first | exact Below.refl _ _ | refine below_drewN ?_ _ | refine Below.drew ?_ | refine Below.alloc ?_ (by first | omega | (simp; done) | (simp; omega) | (simp [World.setCell]; omega)) _ | refine Below.setCell ?_ (by first | omega | (simp; done) | (simp; omega)) _)))
  have R0_3 := Lib.hid (stars_lay hb hL3.out R0_2.out)
  have R1_3 := Lib.hid (reads_lay hb hL3.out R1_2.out)
  have R2_3 := Lib.hid (reads_lay hb hL3.out R2_2.out)
  clear hL3 R0_2 R1_2 R2_2
  have hz3 := hb.size
  try simp only [World.size_alloc, World.drewN, World.drew] at hz3
  clear hb K0_2 z0_0_2 z0_1_2 l0_2
  have l0_3 : w.heap.size < w3.heap.size := K0_3.out.lt
  have z0_0_3 : w3.cell? ⟨w.heap.size, 0, none⟩ = some (.slice B m cb) := K0_3.out.cell 0
  have z0_1_3 : w3.cell? ⟨w.heap.size, 1, none⟩ = some (.int .i64 (D)) := K0_3.out.cell 1
  have hr3 := own_reads2 ho3
  have R3_3 := Lib.hid hr3
  clear hr3
  go_wp2_with fail
  refine (copyints_any C r d _ S _ R2_3.out (Nat.le_refl _) (by omega)).mono ?_
  rintro e w4 ⟨A4, c4, rfl, hb, hr4, -⟩
  have HB4 := Lib.hid (show Below w.heap.size w w4 from step_below hb (by repeat' (first | exact Below.refl _ _ | exact HB3.out | refine below_drewN ?_ _ | refine Below.drew ?_ | refine Below.alloc ?_ (by first | omega | (simp; done) | (simp; omega) | (simp [World.setCell]; omega)) _ | refine Below.setCell ?_ (by first | omega | (simp; done) | (simp; omega)) _ | assumption)))
  have K0_4 := Lib.hid (step_blk hb (show Blk _ (w.heap.size) 102 #[.slice B m cb, .int .i64 (D)] by repeat' (first | exact K0_3.out | exact Blk.at_ _ (by first | rfl | (simp; done) | (simp; omega)) _ _ | refine Blk.drewN ?_ _ | refine Blk.drew ?_ | refine Blk.alloc ?_ _ | refine Blk.far ?_ (by first | omega | (simp; done) | (simp; omega)) _ | assumption)))
  have hL4 := Lib.hid (show Below w3.heap.size w3 _ from reads_mid hb (by repeat' (first | exact Below.refl _ _ | refine below_drewN ?_ _ | refine Below.drew ?_ | refine Below.alloc ?_ (by first | omega | (simp; done) | (simp; omega) | (simp [World.setCell]; omega)) _ | refine Below.setCell ?_ (by first | omega | (simp; done) | (simp; omega)) _)))
  have R0_4 := Lib.hid (stars_lay hb hL4.out R0_3.out)
  have R1_4 := Lib.hid (reads_lay hb hL4.out R1_3.out)
  have R2_4 := Lib.hid (reads_lay hb hL4.out R2_3.out)
  have R3_4 := Lib.hid (reads_lay hb hL4.out R3_3.out)
  clear hL4 R0_3 R1_3 R2_3 R3_3
  have hz4 := hb.size
  try simp only [World.size_alloc, World.drewN, World.drew] at hz4
  clear hb K0_3 z0_0_3 z0_1_3 l0_3
  have l0_4 : w.heap.size < w4.heap.size := K0_4.out.lt
  have z0_0_4 : w4.cell? ⟨w.heap.size, 0, none⟩ = some (.slice B m cb) := K0_4.out.cell 0
  have z0_1_4 : w4.cell? ⟨w.heap.size, 1, none⟩ = some (.int .i64 (D)) := K0_4.out.cell 1
  have R4_4 := Lib.hid hr4
  clear hr4
  go_wp2_with fail
  refine (ppred_is A3 m c3 T D A4 r c4 S lo hi F HP.out _ R3_4.out R4_4.out (by omega) (by omega)).mono ?_
  rintro e w5 ⟨rfl, hb⟩
  have HB5 := Lib.hid (show Below w.heap.size w w5 from step_below hb (by repeat' (first | exact Below.refl _ _ | exact HB4.out | refine below_drewN ?_ _ | refine Below.drew ?_ | refine Below.alloc ?_ (by first | omega | (simp; done) | (simp; omega) | (simp [World.setCell]; omega)) _ | refine Below.setCell ?_ (by first | omega | (simp; done) | (simp; omega)) _ | assumption)))
  have K0_5 := Lib.hid (step_blk hb (show Blk _ (w.heap.size) 102 #[.slice B m cb, .int .i64 (D)] by repeat' (first | exact K0_4.out | exact Blk.at_ _ (by first | rfl | (simp; done) | (simp; omega)) _ _ | refine Blk.drewN ?_ _ | refine Blk.drew ?_ | refine Blk.alloc ?_ _ | refine Blk.far ?_ (by first | omega | (simp; done) | (simp; omega)) _ | assumption)))
  have hL5 := Lib.hid (show Below w4.heap.size w4 _ from reads_mid hb (by repeat' (first | exact Below.refl _ _ | refine below_drewN ?_ _ | refine Below.drew ?_ | refine Below.alloc ?_ (by first | omega | (simp; done) | (simp; omega) | (simp [World.setCell]; omega)) _ | refine Below.setCell ?_ (by first | omega | (simp; done) | (simp; omega)) _)))
  have R0_5 := Lib.hid (stars_lay hb hL5.out R0_4.out)
  have R1_5 := Lib.hid (reads_lay hb hL5.out R1_4.out)
  have R2_5 := Lib.hid (reads_lay hb hL5.out R2_4.out)
  have R3_5 := Lib.hid (reads_lay hb hL5.out R3_4.out)
  have R4_5 := Lib.hid (reads_lay hb hL5.out R4_4.out)
  clear hL5 R0_4 R1_4 R2_4 R3_4 R4_4
  have hz5 := hb.size
  try simp only [World.size_alloc, World.drewN, World.drew] at hz5
  clear hb K0_4 z0_0_4 z0_1_4 l0_4
  have l0_5 : w.heap.size < w5.heap.size := K0_5.out.lt
  have z0_0_5 : w5.cell? ⟨w.heap.size, 0, none⟩ = some (.slice B m cb) := K0_5.out.cell 0
  have z0_1_5 : w5.cell? ⟨w.heap.size, 1, none⟩ = some (.int .i64 (D)) := K0_5.out.cell 1
  go_wp2_with fail
  generalize hwn : (w5.alloc (.cells #[.int .i64 (lo), .int .i64 (hi)] 112)) = w6
  have hbn : Below w5.heap.size w5 w6 := by rw [← hwn]; repeat' (first | exact Below.refl _ _ | refine below_drewN ?_ _ | refine Below.drew ?_ | refine Below.alloc ?_ (by first | omega | (simp; done) | (simp; omega) | (simp [World.setCell]; omega)) _ | refine Below.setCell ?_ (by first | omega | (simp; done) | (simp; omega)) _)
  have HB6 := Lib.hid (show Below w.heap.size w w6 from HB5.out.trans (hbn.mono HB5.out.size))
  have K0_6 := Lib.hid (step_blk hbn K0_5.out)
  have K1_6 := Lib.hid (show Blk w6 (w5.heap.size) 112 #[.int .i64 (lo), .int .i64 (hi)] by rw [← hwn]; repeat' (first | exact Blk.at_ _ (by first | rfl | (simp; done) | (simp; omega)) _ _ | refine Blk.drewN ?_ _ | refine Blk.drew ?_ | refine Blk.alloc ?_ _ | refine Blk.far ?_ (by first | omega | (simp; done) | (simp; omega)) _ | assumption))
  have R0_6 := Lib.hid (R0_5.out.lay hbn)
  have R1_6 := Lib.hid ((R1_5.out.below hbn).more hbn.size)
  have R2_6 := Lib.hid ((R2_5.out.below hbn).more hbn.size)
  have R3_6 := Lib.hid ((R3_5.out.below hbn).more hbn.size)
  have R4_6 := Lib.hid ((R4_5.out.below hbn).more hbn.size)
  have HN6 := Lib.hid hbn
  have hz6 := hbn.size
  clear hwn hbn K0_5 l0_5 z0_0_5 z0_1_5 R0_5 R1_5 R2_5 R3_5 R4_5
  have l0_6 : w.heap.size < w6.heap.size := K0_6.out.lt
  have z0_0_6 : w6.cell? ⟨w.heap.size, 0, none⟩ = some (.slice B m cb) := K0_6.out.cell 0
  have z0_1_6 : w6.cell? ⟨w.heap.size, 1, none⟩ = some (.int .i64 (D)) := K0_6.out.cell 1
  have l1_6 : w5.heap.size < w6.heap.size := K1_6.out.lt
  have z1_0_6 : w6.cell? ⟨w5.heap.size, 0, none⟩ = some (.int .i64 (lo)) := K1_6.out.cell 0
  have z1_1_6 : w6.cell? ⟨w5.heap.size, 1, none⟩ = some (.int .i64 (hi)) := K1_6.out.cell 1
  refine (rmodel_is B m cb T D D0 H1.out _ R1_6.out (by omega)).mono ?_
  rintro e w7 ⟨rfl, hb⟩
  have HB7 := Lib.hid (show Below w.heap.size w w7 from step_below hb (by repeat' (first | exact Below.refl _ _ | exact HB6.out | refine below_drewN ?_ _ | refine Below.drew ?_ | refine Below.alloc ?_ (by first | omega | (simp; done) | (simp; omega) | (simp [World.setCell]; omega)) _ | refine Below.setCell ?_ (by first | omega | (simp; done) | (simp; omega)) _ | assumption)))
  have K0_7 := Lib.hid (step_blk hb (show Blk _ (w.heap.size) 102 #[.slice B m cb, .int .i64 (D)] by repeat' (first | exact K0_6.out | exact K1_6.out | exact Blk.at_ _ (by first | rfl | (simp; done) | (simp; omega)) _ _ | refine Blk.drewN ?_ _ | refine Blk.drew ?_ | refine Blk.alloc ?_ _ | refine Blk.far ?_ (by first | omega | (simp; done) | (simp; omega)) _ | assumption)))
  have K1_7 := Lib.hid (step_blk hb (show Blk _ (w5.heap.size) 112 #[.int .i64 (lo), .int .i64 (hi)] by repeat' (first | exact K0_6.out | exact K1_6.out | exact Blk.at_ _ (by first | rfl | (simp; done) | (simp; omega)) _ _ | refine Blk.drewN ?_ _ | refine Blk.drew ?_ | refine Blk.alloc ?_ _ | refine Blk.far ?_ (by first | omega | (simp; done) | (simp; omega)) _ | assumption)))
  have hL7 := Lib.hid (show Below w6.heap.size w6 _ from reads_mid hb (by repeat' (first | exact Below.refl _ _ | refine below_drewN ?_ _ | refine Below.drew ?_ | refine Below.alloc ?_ (by first | omega | (simp; done) | (simp; omega) | (simp [World.setCell]; omega)) _ | refine Below.setCell ?_ (by first | omega | (simp; done) | (simp; omega)) _)))
  have R0_7 := Lib.hid (stars_lay hb hL7.out R0_6.out)
  have R1_7 := Lib.hid (reads_lay hb hL7.out R1_6.out)
  have R2_7 := Lib.hid (reads_lay hb hL7.out R2_6.out)
  have R3_7 := Lib.hid (reads_lay hb hL7.out R3_6.out)
  have R4_7 := Lib.hid (reads_lay hb hL7.out R4_6.out)
  clear hL7 R0_6 R1_6 R2_6 R3_6 R4_6
  have hz7 := hb.size
  try simp only [World.size_alloc, World.drewN, World.drew] at hz7
  clear hb K0_6 K1_6 z0_0_6 z0_1_6 l0_6 z1_0_6 z1_1_6 l1_6
  have l0_7 : w.heap.size < w7.heap.size := K0_7.out.lt
  have z0_0_7 : w7.cell? ⟨w.heap.size, 0, none⟩ = some (.slice B m cb) := K0_7.out.cell 0
  have z0_1_7 : w7.cell? ⟨w.heap.size, 1, none⟩ = some (.int .i64 (D)) := K0_7.out.cell 1
  have l1_7 : w5.heap.size < w7.heap.size := K1_7.out.lt
  have z1_0_7 : w7.cell? ⟨w5.heap.size, 0, none⟩ = some (.int .i64 (lo)) := K1_7.out.cell 0
  have z1_1_7 : w7.cell? ⟨w5.heap.size, 1, none⟩ = some (.int .i64 (hi)) := K1_7.out.cell 1
  go_wp2_with fail
  refine (cmodel_any B m cb T D _ R1_7.out (by omega)).mono ?_
  rintro e w8 ⟨A7, c7, rfl, hb, ho7⟩
  have HB8 := Lib.hid (show Below w.heap.size w w8 from step_below hb (by repeat' (first | exact Below.refl _ _ | exact HB7.out | refine below_drewN ?_ _ | refine Below.drew ?_ | refine Below.alloc ?_ (by first | omega | (simp; done) | (simp; omega) | (simp [World.setCell]; omega)) _ | refine Below.setCell ?_ (by first | omega | (simp; done) | (simp; omega)) _ | assumption)))
  have K0_8 := Lib.hid (step_blk hb (show Blk _ (w.heap.size) 102 #[.slice B m cb, .int .i64 (D)] by repeat' (first | exact K0_7.out | exact K1_7.out | exact Blk.at_ _ (by first | rfl | (simp; done) | (simp; omega)) _ _ | refine Blk.drewN ?_ _ | refine Blk.drew ?_ | refine Blk.alloc ?_ _ | refine Blk.far ?_ (by first | omega | (simp; done) | (simp; omega)) _ | assumption)))
  have K1_8 := Lib.hid (step_blk hb (show Blk _ (w5.heap.size) 112 #[.int .i64 (lo), .int .i64 (hi)] by repeat' (first | exact K0_7.out | exact K1_7.out | exact Blk.at_ _ (by first | rfl | (simp; done) | (simp; omega)) _ _ | refine Blk.drewN ?_ _ | refine Blk.drew ?_ | refine Blk.alloc ?_ _ | refine Blk.far ?_ (by first | omega | (simp; done) | (simp; omega)) _ | assumption)))
  have hL8 := Lib.hid (show Below w7.heap.size w7 _ from reads_mid hb (by repeat' (first | exact Below.refl _ _ | refine below_drewN ?_ _ | refine Below.drew ?_ | refine Below.alloc ?_ (by first | omega | (simp; done) | (simp; omega) | (simp [World.setCell]; omega)) _ | refine Below.setCell ?_ (by first | omega | (simp; done) | (simp; omega)) _)))
  have R0_8 := Lib.hid (stars_lay hb hL8.out R0_7.out)
  have R1_8 := Lib.hid (reads_lay hb hL8.out R1_7.out)
  have R2_8 := Lib.hid (reads_lay hb hL8.out R2_7.out)
  have R3_8 := Lib.hid (reads_lay hb hL8.out R3_7.out)
  have R4_8 := Lib.hid (reads_lay hb hL8.out R4_7.out)
  clear hL8 R0_7 R1_7 R2_7 R3_7 R4_7
  have hz8 := hb.size
  try simp only [World.size_alloc, World.drewN, World.drew] at hz8
  clear hb K0_7 K1_7 z0_0_7 z0_1_7 l0_7 z1_0_7 z1_1_7 l1_7
  have l0_8 : w.heap.size < w8.heap.size := K0_8.out.lt
  have z0_0_8 : w8.cell? ⟨w.heap.size, 0, none⟩ = some (.slice B m cb) := K0_8.out.cell 0
  have z0_1_8 : w8.cell? ⟨w.heap.size, 1, none⟩ = some (.int .i64 (D)) := K0_8.out.cell 1
  have l1_8 : w5.heap.size < w8.heap.size := K1_8.out.lt
  have z1_0_8 : w8.cell? ⟨w5.heap.size, 0, none⟩ = some (.int .i64 (lo)) := K1_8.out.cell 0
  have z1_1_8 : w8.cell? ⟨w5.heap.size, 1, none⟩ = some (.int .i64 (hi)) := K1_8.out.cell 1
  have hr7 := own_reads2 ho7
  have R5_8 := Lib.hid hr7
  clear hr7
  go_wp2_with fail
  refine (pmodel_is A7 m c7 T D D0 H1.out _ R5_8.out (by omega)).mono ?_
  rintro e w9 ⟨rfl, hb⟩
  have HB9 := Lib.hid (show Below w.heap.size w w9 from step_below hb (by repeat' (first | exact Below.refl _ _ | exact HB8.out | refine below_drewN ?_ _ | refine Below.drew ?_ | refine Below.alloc ?_ (by first | omega | (simp; done) | (simp; omega) | (simp [World.setCell]; omega)) _ | refine Below.setCell ?_ (by first | omega | (simp; done) | (simp; omega)) _ | assumption)))
  have K0_9 := Lib.hid (step_blk hb (show Blk _ (w.heap.size) 102 #[.slice B m cb, .int .i64 (D)] by repeat' (first | exact K0_8.out | exact K1_8.out | exact Blk.at_ _ (by first | rfl | (simp; done) | (simp; omega)) _ _ | refine Blk.drewN ?_ _ | refine Blk.drew ?_ | refine Blk.alloc ?_ _ | refine Blk.far ?_ (by first | omega | (simp; done) | (simp; omega)) _ | assumption)))
  have K1_9 := Lib.hid (step_blk hb (show Blk _ (w5.heap.size) 112 #[.int .i64 (lo), .int .i64 (hi)] by repeat' (first | exact K0_8.out | exact K1_8.out | exact Blk.at_ _ (by first | rfl | (simp; done) | (simp; omega)) _ _ | refine Blk.drewN ?_ _ | refine Blk.drew ?_ | refine Blk.alloc ?_ _ | refine Blk.far ?_ (by first | omega | (simp; done) | (simp; omega)) _ | assumption)))
  have hL9 := Lib.hid (show Below w8.heap.size w8 _ from reads_mid hb (by repeat' (first | exact Below.refl _ _ | refine below_drewN ?_ _ | refine Below.drew ?_ | refine Below.alloc ?_ (by first | omega | (simp; done) | (simp; omega) | (simp [World.setCell]; omega)) _ | refine Below.setCell ?_ (by first | omega | (simp; done) | (simp; omega)) _)))
  have R0_9 := Lib.hid (stars_lay hb hL9.out R0_8.out)
  have R1_9 := Lib.hid (reads_lay hb hL9.out R1_8.out)
  have R2_9 := Lib.hid (reads_lay hb hL9.out R2_8.out)
  have R3_9 := Lib.hid (reads_lay hb hL9.out R3_8.out)
  have R4_9 := Lib.hid (reads_lay hb hL9.out R4_8.out)
  have R5_9 := Lib.hid (reads_lay hb hL9.out R5_8.out)
  clear hL9 R0_8 R1_8 R2_8 R3_8 R4_8 R5_8
  have hz9 := hb.size
  try simp only [World.size_alloc, World.drewN, World.drew] at hz9
  clear hb K0_8 K1_8 z0_0_8 z0_1_8 l0_8 z1_0_8 z1_1_8 l1_8
  have l0_9 : w.heap.size < w9.heap.size := K0_9.out.lt
  have z0_0_9 : w9.cell? ⟨w.heap.size, 0, none⟩ = some (.slice B m cb) := K0_9.out.cell 0
  have z0_1_9 : w9.cell? ⟨w.heap.size, 1, none⟩ = some (.int .i64 (D)) := K0_9.out.cell 1
  have l1_9 : w5.heap.size < w9.heap.size := K1_9.out.lt
  have z1_0_9 : w9.cell? ⟨w5.heap.size, 0, none⟩ = some (.int .i64 (lo)) := K1_9.out.cell 0
  have z1_1_9 : w9.cell? ⟨w5.heap.size, 1, none⟩ = some (.int .i64 (hi)) := K1_9.out.cell 1
  go_wp2_with fail
  refine (rstars_is l A n c T0 C0 H0.out _ R0_9.out (by omega)).mono ?_
  rintro e w10 ⟨rfl, hb⟩
  have HB10 := Lib.hid (show Below w.heap.size w w10 from step_below hb (by repeat' (first | exact Below.refl _ _ | exact HB9.out | refine below_drewN ?_ _ | refine Below.drew ?_ | refine Below.alloc ?_ (by first | omega | (simp; done) | (simp; omega) | (simp [World.setCell]; omega)) _ | refine Below.setCell ?_ (by first | omega | (simp; done) | (simp; omega)) _ | assumption)))
  have K0_10 := Lib.hid (step_blk hb (show Blk _ (w.heap.size) 102 #[.slice B m cb, .int .i64 (D)] by repeat' (first | exact K0_9.out | exact K1_9.out | exact Blk.at_ _ (by first | rfl | (simp; done) | (simp; omega)) _ _ | refine Blk.drewN ?_ _ | refine Blk.drew ?_ | refine Blk.alloc ?_ _ | refine Blk.far ?_ (by first | omega | (simp; done) | (simp; omega)) _ | assumption)))
  have K1_10 := Lib.hid (step_blk hb (show Blk _ (w5.heap.size) 112 #[.int .i64 (lo), .int .i64 (hi)] by repeat' (first | exact K0_9.out | exact K1_9.out | exact Blk.at_ _ (by first | rfl | (simp; done) | (simp; omega)) _ _ | refine Blk.drewN ?_ _ | refine Blk.drew ?_ | refine Blk.alloc ?_ _ | refine Blk.far ?_ (by first | omega | (simp; done) | (simp; omega)) _ | assumption)))
  have hL10 := Lib.hid (show Below w9.heap.size w9 _ from reads_mid hb (by repeat' (first | exact Below.refl _ _ | refine below_drewN ?_ _ | refine Below.drew ?_ | refine Below.alloc ?_ (by first | omega | (simp; done) | (simp; omega) | (simp [World.setCell]; omega)) _ | refine Below.setCell ?_ (by first | omega | (simp; done) | (simp; omega)) _)))
  have R0_10 := Lib.hid (stars_lay hb hL10.out R0_9.out)
  have R1_10 := Lib.hid (reads_lay hb hL10.out R1_9.out)
  have R2_10 := Lib.hid (reads_lay hb hL10.out R2_9.out)
  have R3_10 := Lib.hid (reads_lay hb hL10.out R3_9.out)
  have R4_10 := Lib.hid (reads_lay hb hL10.out R4_9.out)
  have R5_10 := Lib.hid (reads_lay hb hL10.out R5_9.out)
  clear hL10 R0_9 R1_9 R2_9 R3_9 R4_9 R5_9
  have hz10 := hb.size
  try simp only [World.size_alloc, World.drewN, World.drew] at hz10
  clear hb K0_9 K1_9 z0_0_9 z0_1_9 l0_9 z1_0_9 z1_1_9 l1_9
  have l0_10 : w.heap.size < w10.heap.size := K0_10.out.lt
  have z0_0_10 : w10.cell? ⟨w.heap.size, 0, none⟩ = some (.slice B m cb) := K0_10.out.cell 0
  have z0_1_10 : w10.cell? ⟨w.heap.size, 1, none⟩ = some (.int .i64 (D)) := K0_10.out.cell 1
  have l1_10 : w5.heap.size < w10.heap.size := K1_10.out.lt
  have z1_0_10 : w10.cell? ⟨w5.heap.size, 0, none⟩ = some (.int .i64 (lo)) := K1_10.out.cell 0
  have z1_1_10 : w10.cell? ⟨w5.heap.size, 1, none⟩ = some (.int .i64 (hi)) := K1_10.out.cell 1
  have hE := HE.out
  have hP := HP.out
  unfold chkErr at hE
  unfold prdAll at hP
  rw [H0.out, H1.out] at hE
  rw [H1.out] at hP
  simp only at hE
  by_cases c0 : C0 = 0
  · subst c0
    rw [if_neg (by simp)] at hE
    have p1 : ((0 : Int) == 0) = true := by decide
    by_cases d0 : D0 = 0
    · subst d0
      rw [if_neg (by simp)] at hE hP
      have p2 : ((0 : Int) != 0) = false := by decide
      have HE2 := Lib.hid hE
      have HP2 := Lib.hid hP
      clear hE hP
      go_wp2_with fail
      refine (rcheckfit_is l A n c B m cb T D E (by rw [H0.out]) H1.out HE2.out _ R0_10.out R1_10.out (by omega) (by omega)).mono ?_
      rintro e w11 ⟨rfl, hb⟩
      have HB11 := Lib.hid (show Below w.heap.size w w11 from step_below hb (by repeat' (first | exact Below.refl _ _ | exact HB10.out | refine below_drewN ?_ _ | refine Below.drew ?_ | refine Below.alloc ?_ (by first | omega | (simp; done) | (simp; omega) | (simp [World.setCell]; omega)) _ | refine Below.setCell ?_ (by first | omega | (simp; done) | (simp; omega)) _ | assumption)))
      have K0_11 := Lib.hid (step_blk hb (show Blk _ (w.heap.size) 102 #[.slice B m cb, .int .i64 (D)] by repeat' (first | exact K0_10.out | exact K1_10.out | exact Blk.at_ _ (by first | rfl | (simp; done) | (simp; omega)) _ _ | refine Blk.drewN ?_ _ | refine Blk.drew ?_ | refine Blk.alloc ?_ _ | refine Blk.far ?_ (by first | omega | (simp; done) | (simp; omega)) _ | assumption)))
      have K1_11 := Lib.hid (step_blk hb (show Blk _ (w5.heap.size) 112 #[.int .i64 (lo), .int .i64 (hi)] by repeat' (first | exact K0_10.out | exact K1_10.out | exact Blk.at_ _ (by first | rfl | (simp; done) | (simp; omega)) _ _ | refine Blk.drewN ?_ _ | refine Blk.drew ?_ | refine Blk.alloc ?_ _ | refine Blk.far ?_ (by first | omega | (simp; done) | (simp; omega)) _ | assumption)))
      have hL11 := Lib.hid (show Below w10.heap.size w10 _ from reads_mid hb (by repeat' (first | exact Below.refl _ _ | refine below_drewN ?_ _ | refine Below.drew ?_ | refine Below.alloc ?_ (by first | omega | (simp; done) | (simp; omega) | (simp [World.setCell]; omega)) _ | refine Below.setCell ?_ (by first | omega | (simp; done) | (simp; omega)) _)))
      have R0_11 := Lib.hid (stars_lay hb hL11.out R0_10.out)
      have R1_11 := Lib.hid (reads_lay hb hL11.out R1_10.out)
      have R2_11 := Lib.hid (reads_lay hb hL11.out R2_10.out)
      have R3_11 := Lib.hid (reads_lay hb hL11.out R3_10.out)
      have R4_11 := Lib.hid (reads_lay hb hL11.out R4_10.out)
      have R5_11 := Lib.hid (reads_lay hb hL11.out R5_10.out)
      clear hL11 R0_10 R1_10 R2_10 R3_10 R4_10 R5_10
      have hz11 := hb.size
      try simp only [World.size_alloc, World.drewN, World.drew] at hz11
      clear hb K0_10 K1_10 z0_0_10 z0_1_10 l0_10 z1_0_10 z1_1_10 l1_10
      have l0_11 : w.heap.size < w11.heap.size := K0_11.out.lt
      have z0_0_11 : w11.cell? ⟨w.heap.size, 0, none⟩ = some (.slice B m cb) := K0_11.out.cell 0
      have z0_1_11 : w11.cell? ⟨w.heap.size, 1, none⟩ = some (.int .i64 (D)) := K0_11.out.cell 1
      have l1_11 : w5.heap.size < w11.heap.size := K1_11.out.lt
      have z1_0_11 : w11.cell? ⟨w5.heap.size, 0, none⟩ = some (.int .i64 (lo)) := K1_11.out.cell 0
      have z1_1_11 : w11.cell? ⟨w5.heap.size, 1, none⟩ = some (.int .i64 (hi)) := K1_11.out.cell 1
      go_wp2_with fail
      refine (rpred_is B m cb T D C r d S lo hi F H1.out HP2.out _ R1_11.out R2_11.out (by omega) (by omega)).mono ?_
      rintro e w12 ⟨rfl, hb⟩
      have HB12 := Lib.hid (show Below w.heap.size w w12 from step_below hb (by repeat' (first | exact Below.refl _ _ | exact HB11.out | refine below_drewN ?_ _ | refine Below.drew ?_ | refine Below.alloc ?_ (by first | omega | (simp; done) | (simp; omega) | (simp [World.setCell]; omega)) _ | refine Below.setCell ?_ (by first | omega | (simp; done) | (simp; omega)) _ | assumption)))
      have K0_12 := Lib.hid (step_blk hb (show Blk _ (w.heap.size) 102 #[.slice B m cb, .int .i64 (D)] by repeat' (first | exact K0_11.out | exact K1_11.out | exact Blk.at_ _ (by first | rfl | (simp; done) | (simp; omega)) _ _ | refine Blk.drewN ?_ _ | refine Blk.drew ?_ | refine Blk.alloc ?_ _ | refine Blk.far ?_ (by first | omega | (simp; done) | (simp; omega)) _ | assumption)))
      have K1_12 := Lib.hid (step_blk hb (show Blk _ (w5.heap.size) 112 #[.int .i64 (lo), .int .i64 (hi)] by repeat' (first | exact K0_11.out | exact K1_11.out | exact Blk.at_ _ (by first | rfl | (simp; done) | (simp; omega)) _ _ | refine Blk.drewN ?_ _ | refine Blk.drew ?_ | refine Blk.alloc ?_ _ | refine Blk.far ?_ (by first | omega | (simp; done) | (simp; omega)) _ | assumption)))
      have hL12 := Lib.hid (show Below w11.heap.size w11 _ from reads_mid hb (by repeat' (first | exact Below.refl _ _ | refine below_drewN ?_ _ | refine Below.drew ?_ | refine Below.alloc ?_ (by first | omega | (simp; done) | (simp; omega) | (simp [World.setCell]; omega)) _ | refine Below.setCell ?_ (by first | omega | (simp; done) | (simp; omega)) _)))
      have R0_12 := Lib.hid (stars_lay hb hL12.out R0_11.out)
      have R1_12 := Lib.hid (reads_lay hb hL12.out R1_11.out)
      have R2_12 := Lib.hid (reads_lay hb hL12.out R2_11.out)
      have R3_12 := Lib.hid (reads_lay hb hL12.out R3_11.out)
      have R4_12 := Lib.hid (reads_lay hb hL12.out R4_11.out)
      have R5_12 := Lib.hid (reads_lay hb hL12.out R5_11.out)
      clear hL12 R0_11 R1_11 R2_11 R3_11 R4_11 R5_11
      have hz12 := hb.size
      try simp only [World.size_alloc, World.drewN, World.drew] at hz12
      clear hb K0_11 K1_11 z0_0_11 z0_1_11 l0_11 z1_0_11 z1_1_11 l1_11
      have l0_12 : w.heap.size < w12.heap.size := K0_12.out.lt
      have z0_0_12 : w12.cell? ⟨w.heap.size, 0, none⟩ = some (.slice B m cb) := K0_12.out.cell 0
      have z0_1_12 : w12.cell? ⟨w.heap.size, 1, none⟩ = some (.int .i64 (D)) := K0_12.out.cell 1
      have l1_12 : w5.heap.size < w12.heap.size := K1_12.out.lt
      have z1_0_12 : w12.cell? ⟨w5.heap.size, 0, none⟩ = some (.int .i64 (lo)) := K1_12.out.cell 0
      have z1_1_12 : w12.cell? ⟨w5.heap.size, 1, none⟩ = some (.int .i64 (hi)) := K1_12.out.cell 1
      go_wp2
      go_ret
      exact ⟨rfl, by repeat' (first | exact Below.refl _ _ | exact HB12.out | refine below_drewN ?_ _ | refine Below.drew ?_ | refine Below.alloc ?_ (by first | omega | (simp; done) | (simp; omega) | (simp [World.setCell]; omega)) _ | refine Below.setCell ?_ (by first | omega | (simp; done) | (simp; omega)) _ | assumption)⟩
    · rw [if_pos d0] at hE hP
      cases hP
      subst hE
      have p2 : (D0 == 0) = false := by simpa using d0
      have p3 : (D0 != 0) = true := by simpa using d0
      clear d0
      go_wp2
      go_ret
      exact ⟨rfl, by repeat' (first | exact Below.refl _ _ | exact HB10.out | refine below_drewN ?_ _ | refine Below.drew ?_ | refine Below.alloc ?_ (by first | omega | (simp; done) | (simp; omega) | (simp [World.setCell]; omega)) _ | refine Below.setCell ?_ (by first | omega | (simp; done) | (simp; omega)) _ | assumption)⟩
  · rw [if_pos c0] at hE
    subst hE
    have p1 : (C0 == 0) = false := by simpa using c0
    clear c0
    by_cases d0 : D0 = 0
    · subst d0
      rw [if_neg (by simp)] at hP
      have p2 : ((0 : Int) != 0) = false := by decide
      have HP2 := Lib.hid hP
      clear hP
      go_wp2_with fail
      refine (rpred_is B m cb T D C r d S lo hi F H1.out HP2.out _ R1_10.out R2_10.out (by omega) (by omega)).mono ?_
      rintro e w11 ⟨rfl, hb⟩
      have HB11 := Lib.hid (show Below w.heap.size w w11 from step_below hb (by repeat' (first | exact Below.refl _ _ | exact HB10.out | refine below_drewN ?_ _ | refine Below.drew ?_ | refine Below.alloc ?_ (by first | omega | (simp; done) | (simp; omega) | (simp [World.setCell]; omega)) _ | refine Below.setCell ?_ (by first | omega | (simp; done) | (simp; omega)) _ | assumption)))
      have K0_11 := Lib.hid (step_blk hb (show Blk _ (w.heap.size) 102 #[.slice B m cb, .int .i64 (D)] by repeat' (first | exact K0_10.out | exact K1_10.out | exact Blk.at_ _ (by first | rfl | (simp; done) | (simp; omega)) _ _ | refine Blk.drewN ?_ _ | refine Blk.drew ?_ | refine Blk.alloc ?_ _ | refine Blk.far ?_ (by first | omega | (simp; done) | (simp; omega)) _ | assumption)))
      have K1_11 := Lib.hid (step_blk hb (show Blk _ (w5.heap.size) 112 #[.int .i64 (lo), .int .i64 (hi)] by repeat' (first | exact K0_10.out | exact K1_10.out | exact Blk.at_ _ (by first | rfl | (simp; done) | (simp; omega)) _ _ | refine Blk.drewN ?_ _ | refine Blk.drew ?_ | refine Blk.alloc ?_ _ | refine Blk.far ?_ (by first | omega | (simp; done) | (simp; omega)) _ | assumption)))
      have hL11 := Lib.hid (show Below w10.heap.size w10 _ from reads_mid hb (by repeat' (first | exact Below.refl _ _ | refine below_drewN ?_ _ | refine Below.drew ?_ | refine Below.alloc ?_ (by first | omega | (simp; done) | (simp; omega) | (simp [World.setCell]; omega)) _ | refine Below.setCell ?_ (by first | omega | (simp; done) | (simp; omega)) _)))
      have R0_11 := Lib.hid (stars_lay hb hL11.out R0_10.out)
      have R1_11 := Lib.hid (reads_lay hb hL11.out R1_10.out)
      have R2_11 := Lib.hid (reads_lay hb hL11.out R2_10.out)
      have R3_11 := Lib.hid (reads_lay hb hL11.out R3_10.out)
      have R4_11 := Lib.hid (reads_lay hb hL11.out R4_10.out)
      have R5_11 := Lib.hid (reads_lay hb hL11.out R5_10.out)
      clear hL11 R0_10 R1_10 R2_10 R3_10 R4_10 R5_10
      have hz11 := hb.size
      try simp only [World.size_alloc, World.drewN, World.drew] at hz11
      clear hb K0_10 K1_10 z0_0_10 z0_1_10 l0_10 z1_0_10 z1_1_10 l1_10
      have l0_11 : w.heap.size < w11.heap.size := K0_11.out.lt
      have z0_0_11 : w11.cell? ⟨w.heap.size, 0, none⟩ = some (.slice B m cb) := K0_11.out.cell 0
      have z0_1_11 : w11.cell? ⟨w.heap.size, 1, none⟩ = some (.int .i64 (D)) := K0_11.out.cell 1
      have l1_11 : w5.heap.size < w11.heap.size := K1_11.out.lt
      have z1_0_11 : w11.cell? ⟨w5.heap.size, 0, none⟩ = some (.int .i64 (lo)) := K1_11.out.cell 0
      have z1_1_11 : w11.cell? ⟨w5.heap.size, 1, none⟩ = some (.int .i64 (hi)) := K1_11.out.cell 1
      go_wp2
      go_ret
      exact ⟨rfl, by repeat' (first | exact Below.refl _ _ | exact HB11.out | refine below_drewN ?_ _ | refine Below.drew ?_ | refine Below.alloc ?_ (by first | omega | (simp; done) | (simp; omega) | (simp [World.setCell]; omega)) _ | refine Below.setCell ?_ (by first | omega | (simp; done) | (simp; omega)) _ | assumption)⟩
    · rw [if_pos d0] at hP
      cases hP
      have p3 : (D0 != 0) = true := by simpa using d0
      clear d0
      go_wp2
      go_ret
      exact ⟨rfl, by repeat' (first | exact Below.refl _ _ | exact HB10.out | refine below_drewN ?_ _ | refine Below.drew ?_ | refine Below.alloc ?_ (by first | omega | (simp; done) | (simp; omega) | (simp [World.setCell]; omega)) _ | refine Below.setCell ?_ (by first | omega | (simp; done) | (simp; omega)) _ | assumption)⟩

theorem lawPF_any (A : Option Addr) (n c : Nat) (l : List Star) (B : Option Addr) (m cb : Nat) (T : List Int) (D : Int) (C : Option Addr) (r d : Nat) (S : List Int) (w : World) (hnc : n ≤ c ∧ c ≤ 9223372036854775807) (_ : ∀ s ∈ l, (∀ z ∈ s.xs, I64 z) ∧ I64 s.er) (hx : StarsAt l A n w)
    (_ : m ≤ cb ∧ cb ≤ 9223372036854775807) (_ : ∀ z ∈ T, I64 z) (hy : Reads w w.heap.size 1 B m (T.map (.int .i64))) (_ : I64 D) (_ : r ≤ d ∧ d ≤ 9223372036854775807) (_ : S.length = r) (_ : ∀ z ∈ S, I64 z) (hz : Reads w w.heap.size 1 C r (S.map (.int .i64))) :
    Calls Try.prog 12 #[.slice A n c, .agg #[.slice B m cb, .int .i64 D], .slice C r d] w fun e w' => e = .returned (.bool true) ∧ Below w.heap.size w w' := by
  by_cases h : fewStars l = false ∨ 6 < m ∨ 6 < r
  · exact lawPF_no A n c l B m cb T D C r d w hnc hx h
  · rw [not_or, not_or] at h
    exact lawPF_yes A n c l B m cb T D C r d S w hnc hx hy hz (by simpa using h.1) (by omega) (by omega)
end Go.Proofs.Ytgamepmipoociaa

end
