import Derived.Test.YtnepjgnnppfibaaQ20

section
/- The walk of the statement on surfaces that meet a tolerance. -/
namespace Go.Proofs.Ytnepjgnnppfibaa
open Go Go.RowKit

def PfI (l : List Int) (n ci : Nat) (i : Nat) (x : Pick2) (w : World) : Prop := i = ci → Reads w w.heap.size 1 x.1.1 n (l.map (.int .i64))
theorem PfI.stb {l : List Int} {n ci : Nat} : Stb (PfI l n ci) := fun _ _ _ _ hb h e => ((h e).below hb).more hb.size

theorem copyI_any (A : Option Addr) (n c : Nat) (l : List Int) (w : World) (hx : Reads w w.heap.size 1 A n (l.map (.int .i64))) (hn : n ≤ 1000000) :
    Calls Try.prog 34 #[.slice A n c] w fun e w' => ∃ A' c', e = .returned (.slice A' n c') ∧ Below w.heap.size w w' ∧ Reads w' w'.heap.size 1 A' n (l.map (.int .i64)) :=
  (copyints_any A n c _ l w hx (Nat.le_refl _) hn).mono fun e w' h => by
    obtain ⟨A', c', he, hb, hr, -⟩ := h
    exact ⟨A', c', he, hb, hr⟩

theorem meets_any (n : Nat) (l : List Int) (p s E : Int) (t : Bool) (a b : Nat) (hn : n ≤ 9223372036854775807) (h : (meetErr l p s = E ∧ E ≠ 0 ∧ a = 0 ∧ b = 0) ∨ (meetErr l p s = 0 ∧ E = (if t then 26 else 0) ∧ firstP n (meetB l p s) = (if t then some (a, b) else none) ∧ (t = false → a = 0 ∧ b = 0))) (A : Option Addr) (c : Nat) (w : World) (hx : Reads w w.heap.size 1 A n (l.map (.int .i64))) :
    Calls Try.prog 33 #[.slice A n c, .agg #[.int .i64 p, .int .i64 s]] w fun e w' => e = .returned (.tuple #[.agg #[.int .i64 (a : Int), .int .i64 (b : Int)], .int .i64 E]) ∧ Below w.heap.size w w' := by
  rcases h with ⟨hE, h0, rfl, rfl⟩ | ⟨hE, rfl, ho, h0⟩
  · exact meets_bad A n c l p s E hE h0 hn w hx
  · exact meets_ok A n c l p s hE a b t ho h0 w hx

set_option maxRecDepth 100000 in
set_option maxHeartbeats 4000000 in
theorem lawFM_any (A : Option Addr) (n c : Nat) (l : List Int) (p s : Int) (w : World) (hnc : n ≤ c ∧ c ≤ 9223372036854775807) (_ : l.length = n) (_ : ∀ z ∈ l, I64 z) (hx : Reads w w.heap.size 1 A n (l.map (.int .i64))) (_ : -9223372036854775808 ≤ p) (_ : p ≤ 9223372036854775807) (_ : -9223372036854775808 ≤ s) (_ : s ≤ 9223372036854775807) :
    Calls Try.prog 6 #[.slice A n c, .agg #[.int .i64 p, .int .i64 s]] w fun e w' => e = .returned (.bool true) ∧ Below w.heap.size w w' := by
  by_cases hn45 : n ≤ 45
  rotate_left
  · have hd : 45 < n := by omega
    have hd2 : decide ((45 : Int) < (n : Int)) = true := by simp; omega
    clear hx
    go_enter Try.func6, Try.ntmps6
    go_wp2_with fail
    generalize hwn : (w.alloc (.cells #[.int .i64 (p), .int .i64 (s)] 38)) = w1
    have hbn : Below w.heap.size w w1 := by rw [← hwn]; repeat' (first | exact Below.refl _ _ | refine below_drewN ?_ _ | refine Below.drew ?_ | refine Below.alloc ?_ (by first | omega | (simp; done) | (simp; omega) | (simp [World.setCell]; omega)) _ | refine Below.setCell ?_ (by first | omega | (simp; done) | (simp; omega)) _)
    have HB1 := Lib.hid (show Below w.heap.size w w1 from hbn)
    have K0_1 := Lib.hid (show Blk w1 (w.heap.size) 38 #[.int .i64 (p), .int .i64 (s)] by rw [← hwn]; repeat' (first | exact Blk.at_ _ (by first | rfl | (simp; done) | (simp; omega)) _ _ | refine Blk.drewN ?_ _ | refine Blk.drew ?_ | refine Blk.alloc ?_ _ | refine Blk.far ?_ (by first | omega | (simp; done) | (simp; omega)) _ | assumption))
    have HN1 := Lib.hid hbn
    have hz1 := hbn.size
    clear hwn hbn
    have l0_1 : w.heap.size < w1.heap.size := K0_1.out.lt
    have z0_0_1 : w1.cell? ⟨w.heap.size, 0, none⟩ = some (.int .i64 (p)) := K0_1.out.cell 0
    have z0_1_1 : w1.cell? ⟨w.heap.size, 1, none⟩ = some (.int .i64 (s)) := K0_1.out.cell 1
    refine (awake6_any _).mono ?_
    rintro e w2 ⟨rfl, hb⟩
    have HB2 := Lib.hid (show Below w.heap.size w w2 from step_below hb (by repeat' (first | exact Below.refl _ _ | exact HB1.out | refine below_drewN ?_ _ | refine Below.drew ?_ | refine Below.alloc ?_ (by first | omega | (simp; done) | (simp; omega) | (simp [World.setCell]; omega)) _ | refine Below.setCell ?_ (by first | omega | (simp; done) | (simp; omega)) _ | assumption)))
    have K0_2 := Lib.hid (step_blk hb (show Blk _ (w.heap.size) 38 #[.int .i64 (p), .int .i64 (s)] by repeat' (first | exact K0_1.out | exact Blk.at_ _ (by first | rfl | (simp; done) | (simp; omega)) _ _ | refine Blk.drewN ?_ _ | refine Blk.drew ?_ | refine Blk.alloc ?_ _ | refine Blk.far ?_ (by first | omega | (simp; done) | (simp; omega)) _ | assumption)))
    have hz2 := hb.size
    try simp only [World.size_alloc, World.drewN, World.drew] at hz2
    clear hb K0_1 z0_0_1 z0_1_1 l0_1
    have l0_2 : w.heap.size < w2.heap.size := K0_2.out.lt
    have z0_0_2 : w2.cell? ⟨w.heap.size, 0, none⟩ = some (.int .i64 (p)) := K0_2.out.cell 0
    have z0_1_2 : w2.cell? ⟨w.heap.size, 1, none⟩ = some (.int .i64 (s)) := K0_2.out.cell 1
    go_wp2
    go_ret
    exact ⟨rfl, by repeat' (first | exact Below.refl _ _ | exact HB2.out | refine below_drewN ?_ _ | refine Below.drew ?_ | refine Below.alloc ?_ (by first | omega | (simp; done) | (simp; omega) | (simp [World.setCell]; omega)) _ | refine Below.setCell ?_ (by first | omega | (simp; done) | (simp; omega)) _ | assumption)⟩
  have hd : ¬ 45 < n := by omega
  have hd2 : decide ((45 : Int) < (n : Int)) = false := by simp; omega
  obtain ⟨EH, hEH⟩ : ∃ E, heightsErr l = E := ⟨_, rfl⟩
  obtain ⟨ET, hET⟩ : ∃ E, tolErr p s = E := ⟨_, rfl⟩
  obtain ⟨E, t, i, k, hv⟩ : ∃ E t i k, ((meetErr l p s = E ∧ E ≠ 0 ∧ i = 0 ∧ k = 0) ∨ (meetErr l p s = 0 ∧ E = (if t then 26 else 0) ∧ firstP n (meetB l p s) = (if t then some (i, k) else none) ∧ (t = false → i = 0 ∧ k = 0))) := by
    by_cases h0 : meetErr l p s = 0
    · cases h1 : firstP n (meetB l p s) with
      | none => exact ⟨0, false, 0, 0, .inr ⟨h0, rfl, rfl, fun _ => ⟨rfl, rfl⟩⟩⟩
      | some x => exact ⟨26, true, x.1, x.2, .inr ⟨h0, rfl, rfl, fun h => by cases h⟩⟩
    · exact ⟨_, false, 0, 0, .inl ⟨rfl, h0, rfl, rfl⟩⟩
  have HEH := Lib.hid hEH
  have HET := Lib.hid hET
  have HV := Lib.hid hv
  have HX := Lib.hid hx
  have ett : (ET != ET) = false := by simp
  clear hEH hET hv
  go_enter Try.func6, Try.ntmps6
  have R0_0 := Lib.hid hx
  clear hx
  go_wp2_with fail
  generalize hwn : (w.alloc (.cells #[.int .i64 (p), .int .i64 (s)] 38)) = w1
  have hbn : Below w.heap.size w w1 := by rw [← hwn]; repeat' (first | exact Below.refl _ _ | refine below_drewN ?_ _ | refine Below.drew ?_ | refine Below.alloc ?_ (by first | omega | (simp; done) | (simp; omega) | (simp [World.setCell]; omega)) _ | refine Below.setCell ?_ (by first | omega | (simp; done) | (simp; omega)) _)
  have HB1 := Lib.hid (show Below w.heap.size w w1 from hbn)
  have K0_1 := Lib.hid (show Blk w1 (w.heap.size) 38 #[.int .i64 (p), .int .i64 (s)] by rw [← hwn]; repeat' (first | exact Blk.at_ _ (by first | rfl | (simp; done) | (simp; omega)) _ _ | refine Blk.drewN ?_ _ | refine Blk.drew ?_ | refine Blk.alloc ?_ _ | refine Blk.far ?_ (by first | omega | (simp; done) | (simp; omega)) _ | assumption))
  have R0_1 := Lib.hid ((R0_0.out.below hbn).more hbn.size)
  have HN1 := Lib.hid hbn
  have hz1 := hbn.size
  clear hwn hbn R0_0
  have l0_1 : w.heap.size < w1.heap.size := K0_1.out.lt
  have z0_0_1 : w1.cell? ⟨w.heap.size, 0, none⟩ = some (.int .i64 (p)) := K0_1.out.cell 0
  have z0_1_1 : w1.cell? ⟨w.heap.size, 1, none⟩ = some (.int .i64 (s)) := K0_1.out.cell 1
  refine (awake6_any _).mono ?_
  rintro e w2 ⟨rfl, hb⟩
  have HB2 := Lib.hid (show Below w.heap.size w w2 from step_below hb (by repeat' (first | exact Below.refl _ _ | exact HB1.out | refine below_drewN ?_ _ | refine Below.drew ?_ | refine Below.alloc ?_ (by first | omega | (simp; done) | (simp; omega) | (simp [World.setCell]; omega)) _ | refine Below.setCell ?_ (by first | omega | (simp; done) | (simp; omega)) _ | assumption)))
  have K0_2 := Lib.hid (step_blk hb (show Blk _ (w.heap.size) 38 #[.int .i64 (p), .int .i64 (s)] by repeat' (first | exact K0_1.out | exact Blk.at_ _ (by first | rfl | (simp; done) | (simp; omega)) _ _ | refine Blk.drewN ?_ _ | refine Blk.drew ?_ | refine Blk.alloc ?_ _ | refine Blk.far ?_ (by first | omega | (simp; done) | (simp; omega)) _ | assumption)))
  have hL2 := Lib.hid (show Below w1.heap.size w1 _ from reads_mid hb (by repeat' (first | exact Below.refl _ _ | refine below_drewN ?_ _ | refine Below.drew ?_ | refine Below.alloc ?_ (by first | omega | (simp; done) | (simp; omega) | (simp [World.setCell]; omega)) _ | refine Below.setCell ?_ (by first | omega | (simp; done) | (simp; omega)) _)))
  have R0_2 := Lib.hid (reads_lay hb hL2.out R0_1.out)
  clear hL2 R0_1
  have hz2 := hb.size
  try simp only [World.size_alloc, World.drewN, World.drew] at hz2
  clear hb K0_1 z0_0_1 z0_1_1 l0_1
  have l0_2 : w.heap.size < w2.heap.size := K0_2.out.lt
  have z0_0_2 : w2.cell? ⟨w.heap.size, 0, none⟩ = some (.int .i64 (p)) := K0_2.out.cell 0
  have z0_1_2 : w2.cell? ⟨w.heap.size, 1, none⟩ = some (.int .i64 (s)) := K0_2.out.cell 1
  go_wp2
  apply share (Fact := fun (x y : Pick2) (wz : World) => ∃ b, y.1.1 = some ⟨b, 0, none⟩ ∧ w2.heap.size ≤ b ∧ Below w2.heap.size w2 wz ∧ Blk wz b 39 #[.int .i64 (i : Int), .int .i64 (k : Int)])
  · intro key
    refine Fx.regionM (fun W g f w' => KpS (PfI l n 1) 39 (.int .i64 ((i : Int))) (.int .i64 ((k : Int))) 7 8 W g f w') (fun i (x : Pick2) => if i = 1 then .slice x.1.1 n x.1.2 else .pointer x.1.1) (by kernel_rfl) ?_ ?_
    · intro f hf0
      exact KpS.start
    first
    | (refine Fx.WM.skip 0 (by rfl) (by kernel_rfl) (by kernel_rfl) (by kernel_rfl) (by rfl) (fun g f w h => h.same (by decide)) ?_; simp only [Act.put, List.setIfInBounds_toArray, List.set_cons_zero, List.set_cons_succ])
    | (refine Fx.WM.val_ 0 ?_ (by rfl) (by kernel_rfl) (by kernel_rfl) (by kernel_rfl) (by rfl) ?_ (fun g f w h => h.same (by decide)) ?_
       rotate_left
       · intro g f w' hx hD hk
         obtain hkp := id hD
         clear hx hk hD hkp
         go_simp
         try rfl
       simp only [Act.put, List.setIfInBounds_toArray, List.set_cons_zero, List.set_cons_succ])
    first
    | (refine Fx.WM.skip 2 (by rfl) (by kernel_rfl) (by kernel_rfl) (by kernel_rfl) (by rfl) (fun g f w h => h.same (by decide)) ?_; simp only [Act.put, List.setIfInBounds_toArray, List.set_cons_zero, List.set_cons_succ])
    | (refine Fx.WM.val_ 2 ?_ (by rfl) (by kernel_rfl) (by kernel_rfl) (by kernel_rfl) (by rfl) ?_ (fun g f w h => h.same (by decide)) ?_
       rotate_left
       · intro g f w' hx hD hk
         obtain hkp := id hD
         have y0_0 := (K0_2.out.below hkp.bel l0_2).cell 0
         have y0_1 := (K0_2.out.below hkp.bel l0_2).cell 1
         clear hx hk hD hkp
         go_simp
         try rfl
       simp only [Act.put, List.setIfInBounds_toArray, List.set_cons_zero, List.set_cons_succ])
    refine Fx.WM.choose2 1 7 (by rfl) (by rfl) (by kernel_rfl) (by rfl) (by rfl) ?_ ?_ ?_ ?_
    · skip
      refine Fx.Chooses.call ?_ ?_ (by rfl) ?_ ?_
      rotate_left 2
      · intro w'
        go_simp
        refine ⟨?_, ?_⟩ <;> rfl
      · intro f w' hD hk
        exact (copyI_any A n c l w' ((R0_2.out.below hD.bel).more hD.bel.size) (by omega)).mono fun e w'' ⟨A', c', he, hb, hr⟩ => ⟨((A', c'), (none, 0)), he, hD.choose PfI.stb hb 1 _ (by decide) (by decide) (fun _ => hr)⟩
    · skip
      refine Fx.Chooses.make (by rfl) ?_
      intro f w' hD hk
      refine ⟨((some ⟨w'.heap.size, 0, none⟩, 0), (none, 0)), w'.alloc (.cells #[.int .i64 (0), .int .i64 (0)] 39), ?_, ?_⟩
      · clear hk hD
        go_simp
        try rfl
      · exact hD.make PfI.stb (hk.2.1 8 (by kernel_rfl)) (by decide)
    · intro x
      simp only [Act.put, List.setIfInBounds_toArray, List.set_cons_zero, List.set_cons_succ]
      refine Fx.WM.call 3 (.tuple #[.agg #[.int .i64 (i : Int), .int .i64 (k : Int)], .int .i64 E]) ?_ ?_ (by rfl) (by kernel_rfl) (by kernel_rfl) (by kernel_rfl) (by rfl) ?_ ?_ ?_
      rotate_left 2
      · intro w'
        go_simp
        refine ⟨?_, ?_⟩ <;> rfl
      · intro g f w' hx hD hk
        exact (meets_any n l p s E t i k (by omega) HV.out _ _ w' ((hD.has (hk.2.1 8 (by kernel_rfl)) 1 x (hx 1 _ (by rfl)) (by decide)) rfl)).mono fun e w'' ⟨he, hw⟩ => ⟨he, hD.call PfI.stb (by decide) hw⟩
      simp only [Act.put, List.setIfInBounds_toArray, List.set_cons_zero, List.set_cons_succ]
      first
      | (refine Fx.WM.skip 4 (by rfl) (by kernel_rfl) (by kernel_rfl) (by kernel_rfl) (by rfl) (fun g f w h => h.same (by decide)) ?_; simp only [Act.put, List.setIfInBounds_toArray, List.set_cons_zero, List.set_cons_succ])
      | (refine Fx.WM.val_ 4 ?_ (by rfl) (by kernel_rfl) (by kernel_rfl) (by kernel_rfl) (by rfl) ?_ (fun g f w h => h.same (by decide)) ?_
         rotate_left
         · intro g f w' hx hD hk
           obtain hkp := id hD
           clear hx hk hD hkp
           go_simp
           try rfl
         simp only [Act.put, List.setIfInBounds_toArray, List.set_cons_zero, List.set_cons_succ])
      first
      | (refine Fx.WM.skip 5 (by rfl) (by kernel_rfl) (by kernel_rfl) (by kernel_rfl) (by rfl) (fun g f w h => h.same (by decide)) ?_; simp only [Act.put, List.setIfInBounds_toArray, List.set_cons_zero, List.set_cons_succ])
      | (refine Fx.WM.val_ 5 ?_ (by rfl) (by kernel_rfl) (by kernel_rfl) (by kernel_rfl) (by rfl) ?_ (fun g f w h => h.same (by decide)) ?_
         rotate_left
         · intro g f w' hx hD hk
           obtain hkp := id hD
           clear hx hk hD hkp
           go_simp
           try rfl
         simp only [Act.put, List.setIfInBounds_toArray, List.set_cons_zero, List.set_cons_succ])
      first
      | (refine Fx.WM.skip 6 (by rfl) (by kernel_rfl) (by kernel_rfl) (by kernel_rfl) (by rfl) (fun g f w h => h.same (by decide)) ?_; simp only [Act.put, List.setIfInBounds_toArray, List.set_cons_zero, List.set_cons_succ])
      | (refine Fx.WM.val_ 6 ?_ (by rfl) (by kernel_rfl) (by kernel_rfl) (by kernel_rfl) (by rfl) ?_ (fun g f w h => h.same (by decide)) ?_
         rotate_left
         · intro g f w' hx hD hk
           obtain hkp := id hD
           clear hx hk hD hkp
           go_simp
           try rfl
         simp only [Act.put, List.setIfInBounds_toArray, List.set_cons_zero, List.set_cons_succ])
      refine Fx.WM.choose 7 (by rfl) (by kernel_rfl) (by rfl) ?_ ?_
      · skip
        refine Fx.Chooses.make (by rfl) ?_
        intro f w' hD hk
        refine ⟨((some ⟨w'.heap.size, 0, none⟩, 0), (none, 0)), w'.alloc (.cells #[.int .i64 (0), .int .i64 (0)] 39), ?_, ?_⟩
        · clear hk hD
          go_simp
          try rfl
        · exact hD.make PfI.stb (hk.2.1 8 (by kernel_rfl)) (by decide)
      intro y
      simp only [Act.put, List.setIfInBounds_toArray, List.set_cons_zero, List.set_cons_succ]
      refine Fx.WM.eff 8 undef (by rfl) (by kernel_rfl) (by kernel_rfl) (by kernel_rfl) (by rfl) ?_ ?_
      · intro g f w' hx hD hk
        obtain ⟨bx, e0, e1, r0, r1, r2, r3, r4, r5⟩ := KpS.cells hD (hx 7 _ (by rfl))
        refine Fx.gives_skip (w' := ((w'.setCell ⟨bx, 0, none⟩ (.int .i64 ((i : Int)))).setCell ⟨bx, 1, none⟩ (.int .i64 ((k : Int))))) ?_ ?_
        · clear hx hk hD
          go_simp
          try rfl
        · exact KpS.store hD (hx 7 _ (by rfl)) r0
      simp only [Act.put, List.setIfInBounds_toArray, List.set_cons_zero, List.set_cons_succ]
      first
      | (refine Fx.WM.skip 9 (by rfl) (by kernel_rfl) (by kernel_rfl) (by kernel_rfl) (by rfl) (fun g f w h => h.same (by decide)) ?_; simp only [Act.put, List.setIfInBounds_toArray, List.set_cons_zero, List.set_cons_succ])
      | (refine Fx.WM.val_ 9 ?_ (by rfl) (by kernel_rfl) (by kernel_rfl) (by kernel_rfl) (by rfl) ?_ (fun g f w h => h.same (by decide)) ?_
         rotate_left
         · intro g f w' hx hD hk
           obtain hkp := id hD
           clear hx hk hD hkp
           go_simp
           try rfl
         simp only [Act.put, List.setIfInBounds_toArray, List.set_cons_zero, List.set_cons_succ])
      refine Fx.WM.nil (by kernel_rfl) ?_
      intro wz hkp
      obtain ⟨b, h1, h2, h3⟩ := hkp.end_ (x := y) (by rfl) (by rfl)
      exact key x y wz ⟨b, h1, h2, hkp.bel, h3⟩
    · intro y
      simp only [Act.put, List.setIfInBounds_toArray, List.set_cons_zero, List.set_cons_succ]
      refine Fx.WM.choose 1 (by rfl) (by kernel_rfl) (by rfl) ?_ ?_
      · skip
        refine Fx.Chooses.call ?_ ?_ (by rfl) ?_ ?_
        rotate_left 2
        · intro w'
          go_simp
          refine ⟨?_, ?_⟩ <;> rfl
        · intro f w' hD hk
          exact (copyI_any A n c l w' ((R0_2.out.below hD.bel).more hD.bel.size) (by omega)).mono fun e w'' ⟨A', c', he, hb, hr⟩ => ⟨((A', c'), (none, 0)), he, hD.choose PfI.stb hb 1 _ (by decide) (by decide) (fun _ => hr)⟩
      intro x
      simp only [Act.put, List.setIfInBounds_toArray, List.set_cons_zero, List.set_cons_succ]
      refine Fx.WM.call 3 (.tuple #[.agg #[.int .i64 (i : Int), .int .i64 (k : Int)], .int .i64 E]) ?_ ?_ (by rfl) (by kernel_rfl) (by kernel_rfl) (by kernel_rfl) (by rfl) ?_ ?_ ?_
      rotate_left 2
      · intro w'
        go_simp
        refine ⟨?_, ?_⟩ <;> rfl
      · intro g f w' hx hD hk
        exact (meets_any n l p s E t i k (by omega) HV.out _ _ w' ((hD.has (hk.2.1 8 (by kernel_rfl)) 1 x (hx 1 _ (by rfl)) (by decide)) rfl)).mono fun e w'' ⟨he, hw⟩ => ⟨he, hD.call PfI.stb (by decide) hw⟩
      simp only [Act.put, List.setIfInBounds_toArray, List.set_cons_zero, List.set_cons_succ]
      first
      | (refine Fx.WM.skip 4 (by rfl) (by kernel_rfl) (by kernel_rfl) (by kernel_rfl) (by rfl) (fun g f w h => h.same (by decide)) ?_; simp only [Act.put, List.setIfInBounds_toArray, List.set_cons_zero, List.set_cons_succ])
      | (refine Fx.WM.val_ 4 ?_ (by rfl) (by kernel_rfl) (by kernel_rfl) (by kernel_rfl) (by rfl) ?_ (fun g f w h => h.same (by decide)) ?_
         rotate_left
         · intro g f w' hx hD hk
           obtain hkp := id hD
           clear hx hk hD hkp
           go_simp
           try rfl
         simp only [Act.put, List.setIfInBounds_toArray, List.set_cons_zero, List.set_cons_succ])
      first
      | (refine Fx.WM.skip 5 (by rfl) (by kernel_rfl) (by kernel_rfl) (by kernel_rfl) (by rfl) (fun g f w h => h.same (by decide)) ?_; simp only [Act.put, List.setIfInBounds_toArray, List.set_cons_zero, List.set_cons_succ])
      | (refine Fx.WM.val_ 5 ?_ (by rfl) (by kernel_rfl) (by kernel_rfl) (by kernel_rfl) (by rfl) ?_ (fun g f w h => h.same (by decide)) ?_
         rotate_left
         · intro g f w' hx hD hk
           obtain hkp := id hD
           clear hx hk hD hkp
           go_simp
           try rfl
         simp only [Act.put, List.setIfInBounds_toArray, List.set_cons_zero, List.set_cons_succ])
      first
      | (refine Fx.WM.skip 6 (by rfl) (by kernel_rfl) (by kernel_rfl) (by kernel_rfl) (by rfl) (fun g f w h => h.same (by decide)) ?_; simp only [Act.put, List.setIfInBounds_toArray, List.set_cons_zero, List.set_cons_succ])
      | (refine Fx.WM.val_ 6 ?_ (by rfl) (by kernel_rfl) (by kernel_rfl) (by kernel_rfl) (by rfl) ?_ (fun g f w h => h.same (by decide)) ?_
         rotate_left
         · intro g f w' hx hD hk
           obtain hkp := id hD
           clear hx hk hD hkp
           go_simp
           try rfl
         simp only [Act.put, List.setIfInBounds_toArray, List.set_cons_zero, List.set_cons_succ])
      refine Fx.WM.eff 8 undef (by rfl) (by kernel_rfl) (by kernel_rfl) (by kernel_rfl) (by rfl) ?_ ?_
      · intro g f w' hx hD hk
        obtain ⟨bx, e0, e1, r0, r1, r2, r3, r4, r5⟩ := KpS.cells hD (hx 7 _ (by rfl))
        refine Fx.gives_skip (w' := ((w'.setCell ⟨bx, 0, none⟩ (.int .i64 ((i : Int)))).setCell ⟨bx, 1, none⟩ (.int .i64 ((k : Int))))) ?_ ?_
        · clear hx hk hD
          go_simp
          try rfl
        · exact KpS.store hD (hx 7 _ (by rfl)) r0
      simp only [Act.put, List.setIfInBounds_toArray, List.set_cons_zero, List.set_cons_succ]
      first
      | (refine Fx.WM.skip 9 (by rfl) (by kernel_rfl) (by kernel_rfl) (by kernel_rfl) (by rfl) (fun g f w h => h.same (by decide)) ?_; simp only [Act.put, List.setIfInBounds_toArray, List.set_cons_zero, List.set_cons_succ])
      | (refine Fx.WM.val_ 9 ?_ (by rfl) (by kernel_rfl) (by kernel_rfl) (by kernel_rfl) (by rfl) ?_ (fun g f w h => h.same (by decide)) ?_
         rotate_left
         · intro g f w' hx hD hk
           obtain hkp := id hD
           clear hx hk hD hkp
           go_simp
           try rfl
         simp only [Act.put, List.setIfInBounds_toArray, List.set_cons_zero, List.set_cons_succ])
      refine Fx.WM.nil (by kernel_rfl) ?_
      intro wz hkp
      obtain ⟨b, h1, h2, h3⟩ := hkp.end_ (x := y) (by rfl) (by rfl)
      exact key x y wz ⟨b, h1, h2, hkp.bel, h3⟩
  rintro ⟨⟨x1, x2⟩, ⟨x3, x4⟩⟩ ⟨⟨y1, y2⟩, ⟨y3, y4⟩⟩ w3 ⟨bx, hy, hbx, hb, hbk⟩
  simp only at hy
  subst hy
  simp only [show ((7 : Nat) = 1) = False from by simp, if_false, if_true]
  have HB3 := Lib.hid (show Below w.heap.size w w3 from step_below hb (by repeat' (first | exact Below.refl _ _ | exact HB2.out | refine below_drewN ?_ _ | refine Below.drew ?_ | refine Below.alloc ?_ (by first | omega | (simp; done) | (simp; omega) | (simp [World.setCell]; omega)) _ | refine Below.setCell ?_ (by first | omega | (simp; done) | (simp; omega)) _ | assumption)))
  have K0_3 := Lib.hid (step_blk hb (show Blk _ (w.heap.size) 38 #[.int .i64 (p), .int .i64 (s)] by repeat' (first | exact K0_2.out | exact Blk.at_ _ (by first | rfl | (simp; done) | (simp; omega)) _ _ | refine Blk.drewN ?_ _ | refine Blk.drew ?_ | refine Blk.alloc ?_ _ | refine Blk.far ?_ (by first | omega | (simp; done) | (simp; omega)) _ | assumption)))
  have hL3 := Lib.hid (show Below w2.heap.size w2 _ from reads_mid hb (by repeat' (first | exact Below.refl _ _ | refine below_drewN ?_ _ | refine Below.drew ?_ | refine Below.alloc ?_ (by first | omega | (simp; done) | (simp; omega) | (simp [World.setCell]; omega)) _ | refine Below.setCell ?_ (by first | omega | (simp; done) | (simp; omega)) _)))
  have R0_3 := Lib.hid (reads_lay hb hL3.out R0_2.out)
  clear hL3 R0_2
  have hz3 := hb.size
  try simp only [World.size_alloc, World.drewN, World.drew] at hz3
  clear hb K0_2 z0_0_2 z0_1_2 l0_2
  have l0_3 : w.heap.size < w3.heap.size := K0_3.out.lt
  have z0_0_3 : w3.cell? ⟨w.heap.size, 0, none⟩ = some (.int .i64 (p)) := K0_3.out.cell 0
  have z0_1_3 : w3.cell? ⟨w.heap.size, 1, none⟩ = some (.int .i64 (s)) := K0_3.out.cell 1
  have K1_3 := Lib.hid (show Blk w3 (bx) 39 #[.int .i64 ((i : Int)), .int .i64 ((k : Int))] from hbk)
  clear hbk
  have l1_3 : bx < w3.heap.size := K1_3.out.lt
  have z1_0_3 : w3.cell? ⟨bx, 0, none⟩ = some (.int .i64 ((i : Int))) := K1_3.out.cell 0
  have z1_1_3 : w3.cell? ⟨bx, 1, none⟩ = some (.int .i64 ((k : Int))) := K1_3.out.cell 1
  go_wp2
  refine Fx.regionW (fun W f w' => Below W.heap.size W w') (by kernel_rfl) (by kernel_rfl) ?_ ?_
  · intro f hf0
    exact below_drewN (Below.refl _ _) 1
  repeat (first
    | (refine Fx.skip_ (by rfl) (fun f w h => h) ?_; simp only [Act.put, List.setIfInBounds_toArray, List.set_cons_zero, List.set_cons_succ])
    | (refine Fx.val_ ?_ (by rfl) ?_ (fun f w h => h) ?_
       rotate_left
       · intro f w' hD hk
         have hb := hD
         have kb0 := step_blk hb (show Blk _ (w.heap.size) 38 #[.int .i64 (p), .int .i64 (s)] by repeat' (first | exact K0_3.out | exact K1_3.out | exact Blk.at_ _ (by first | rfl | (simp; done) | (simp; omega)) _ _ | refine Blk.drewN ?_ _ | refine Blk.drew ?_ | refine Blk.alloc ?_ _ | refine Blk.far ?_ (by first | omega | (simp; done) | (simp; omega)) _ | assumption))
         have y0_0 : w'.cell? ⟨w.heap.size, 0, none⟩ = some (.int .i64 (p)) := kb0.cell 0
         have y0_1 : w'.cell? ⟨w.heap.size, 1, none⟩ = some (.int .i64 (s)) := kb0.cell 1
         have kb1 := step_blk hb (show Blk _ (bx) 39 #[.int .i64 ((i : Int)), .int .i64 ((k : Int))] by repeat' (first | exact K0_3.out | exact K1_3.out | exact Blk.at_ _ (by first | rfl | (simp; done) | (simp; omega)) _ _ | refine Blk.drewN ?_ _ | refine Blk.drew ?_ | refine Blk.alloc ?_ _ | refine Blk.far ?_ (by first | omega | (simp; done) | (simp; omega)) _ | assumption))
         have y1_0 : w'.cell? ⟨bx, 0, none⟩ = some (.int .i64 ((i : Int))) := kb1.cell 0
         have y1_1 : w'.cell? ⟨bx, 1, none⟩ = some (.int .i64 ((k : Int))) := kb1.cell 1
         clear kb0 kb1
         clear hk hD hb
         go_simp
         try rfl
       simp only [Act.put, List.setIfInBounds_toArray, List.set_cons_zero, List.set_cons_succ]))
  refine Fx.call_ (.int .i64 (ET)) ?_ ?_ (by rfl) ?_ ?_ ?_
  rotate_left 2
  · intro w'
    go_simp
    refine ⟨?_, ?_⟩ <;> rfl
  · intro f w' hD hk
    exact (tol_is p s ET HET.out w').mono fun e w'' ⟨he, hw⟩ => ⟨he, step_below hw hD⟩
  simp only [Act.put, List.setIfInBounds_toArray, List.set_cons_zero, List.set_cons_succ]
  repeat (first
    | (refine Fx.skip_ (by rfl) (fun f w h => h) ?_; simp only [Act.put, List.setIfInBounds_toArray, List.set_cons_zero, List.set_cons_succ])
    | (refine Fx.val_ ?_ (by rfl) ?_ (fun f w h => h) ?_
       rotate_left
       · intro f w' hD hk
         have hb := hD
         have kb0 := step_blk hb (show Blk _ (w.heap.size) 38 #[.int .i64 (p), .int .i64 (s)] by repeat' (first | exact K0_3.out | exact K1_3.out | exact Blk.at_ _ (by first | rfl | (simp; done) | (simp; omega)) _ _ | refine Blk.drewN ?_ _ | refine Blk.drew ?_ | refine Blk.alloc ?_ _ | refine Blk.far ?_ (by first | omega | (simp; done) | (simp; omega)) _ | assumption))
         have y0_0 : w'.cell? ⟨w.heap.size, 0, none⟩ = some (.int .i64 (p)) := kb0.cell 0
         have y0_1 : w'.cell? ⟨w.heap.size, 1, none⟩ = some (.int .i64 (s)) := kb0.cell 1
         have kb1 := step_blk hb (show Blk _ (bx) 39 #[.int .i64 ((i : Int)), .int .i64 ((k : Int))] by repeat' (first | exact K0_3.out | exact K1_3.out | exact Blk.at_ _ (by first | rfl | (simp; done) | (simp; omega)) _ _ | refine Blk.drewN ?_ _ | refine Blk.drew ?_ | refine Blk.alloc ?_ _ | refine Blk.far ?_ (by first | omega | (simp; done) | (simp; omega)) _ | assumption))
         have y1_0 : w'.cell? ⟨bx, 0, none⟩ = some (.int .i64 ((i : Int))) := kb1.cell 0
         have y1_1 : w'.cell? ⟨bx, 1, none⟩ = some (.int .i64 ((k : Int))) := kb1.cell 1
         clear kb0 kb1
         clear hk hD hb
         go_simp
         try rfl
       simp only [Act.put, List.setIfInBounds_toArray, List.set_cons_zero, List.set_cons_succ]))
  refine Fx.call_ (.int .i64 (ET)) ?_ ?_ (by rfl) ?_ ?_ ?_
  rotate_left 2
  · intro w'
    go_simp
    refine ⟨?_, ?_⟩ <;> rfl
  · intro f w' hD hk
    exact (rtol_is p s ET HET.out w').mono fun e w'' ⟨he, hw⟩ => ⟨he, step_below hw hD⟩
  simp only [Act.put, List.setIfInBounds_toArray, List.set_cons_zero, List.set_cons_succ]
  repeat (first
    | (refine Fx.skip_ (by rfl) (fun f w h => h) ?_; simp only [Act.put, List.setIfInBounds_toArray, List.set_cons_zero, List.set_cons_succ])
    | (refine Fx.val_ ?_ (by rfl) ?_ (fun f w h => h) ?_
       rotate_left
       · intro f w' hD hk
         have hb := hD
         have kb0 := step_blk hb (show Blk _ (w.heap.size) 38 #[.int .i64 (p), .int .i64 (s)] by repeat' (first | exact K0_3.out | exact K1_3.out | exact Blk.at_ _ (by first | rfl | (simp; done) | (simp; omega)) _ _ | refine Blk.drewN ?_ _ | refine Blk.drew ?_ | refine Blk.alloc ?_ _ | refine Blk.far ?_ (by first | omega | (simp; done) | (simp; omega)) _ | assumption))
         have y0_0 : w'.cell? ⟨w.heap.size, 0, none⟩ = some (.int .i64 (p)) := kb0.cell 0
         have y0_1 : w'.cell? ⟨w.heap.size, 1, none⟩ = some (.int .i64 (s)) := kb0.cell 1
         have kb1 := step_blk hb (show Blk _ (bx) 39 #[.int .i64 ((i : Int)), .int .i64 ((k : Int))] by repeat' (first | exact K0_3.out | exact K1_3.out | exact Blk.at_ _ (by first | rfl | (simp; done) | (simp; omega)) _ _ | refine Blk.drewN ?_ _ | refine Blk.drew ?_ | refine Blk.alloc ?_ _ | refine Blk.far ?_ (by first | omega | (simp; done) | (simp; omega)) _ | assumption))
         have y1_0 : w'.cell? ⟨bx, 0, none⟩ = some (.int .i64 ((i : Int))) := kb1.cell 0
         have y1_1 : w'.cell? ⟨bx, 1, none⟩ = some (.int .i64 ((k : Int))) := kb1.cell 1
         clear kb0 kb1
         clear hk hD hb
         go_simp
         try rfl
       simp only [Act.put, List.setIfInBounds_toArray, List.set_cons_zero, List.set_cons_succ]))
  refine Fx.nil_ ?_
  intro f w4 hall hb
  try clear hall
  have HB34 := Lib.hid hb
  have HB4 := Lib.hid (show Below w.heap.size w w4 from step_below hb (by repeat' (first | exact Below.refl _ _ | exact HB3.out | refine below_drewN ?_ _ | refine Below.drew ?_ | refine Below.alloc ?_ (by first | omega | (simp; done) | (simp; omega) | (simp [World.setCell]; omega)) _ | refine Below.setCell ?_ (by first | omega | (simp; done) | (simp; omega)) _ | assumption)))
  have K0_4 := Lib.hid (step_blk hb (show Blk _ (w.heap.size) 38 #[.int .i64 (p), .int .i64 (s)] by repeat' (first | exact K0_3.out | exact K1_3.out | exact Blk.at_ _ (by first | rfl | (simp; done) | (simp; omega)) _ _ | refine Blk.drewN ?_ _ | refine Blk.drew ?_ | refine Blk.alloc ?_ _ | refine Blk.far ?_ (by first | omega | (simp; done) | (simp; omega)) _ | assumption)))
  have K1_4 := Lib.hid (step_blk hb (show Blk _ (bx) 39 #[.int .i64 ((i : Int)), .int .i64 ((k : Int))] by repeat' (first | exact K0_3.out | exact K1_3.out | exact Blk.at_ _ (by first | rfl | (simp; done) | (simp; omega)) _ _ | refine Blk.drewN ?_ _ | refine Blk.drew ?_ | refine Blk.alloc ?_ _ | refine Blk.far ?_ (by first | omega | (simp; done) | (simp; omega)) _ | assumption)))
  have hL4 := Lib.hid (show Below w3.heap.size w3 _ from reads_mid hb (by repeat' (first | exact Below.refl _ _ | refine below_drewN ?_ _ | refine Below.drew ?_ | refine Below.alloc ?_ (by first | omega | (simp; done) | (simp; omega) | (simp [World.setCell]; omega)) _ | refine Below.setCell ?_ (by first | omega | (simp; done) | (simp; omega)) _)))
  have R0_4 := Lib.hid (reads_lay hb hL4.out R0_3.out)
  clear hL4 R0_3
  have hz4 := hb.size
  try simp only [World.size_alloc, World.drewN, World.drew] at hz4
  clear hb K0_3 K1_3 z0_0_3 z0_1_3 l0_3 z1_0_3 z1_1_3 l1_3
  have l0_4 : w.heap.size < w4.heap.size := K0_4.out.lt
  have z0_0_4 : w4.cell? ⟨w.heap.size, 0, none⟩ = some (.int .i64 (p)) := K0_4.out.cell 0
  have z0_1_4 : w4.cell? ⟨w.heap.size, 1, none⟩ = some (.int .i64 (s)) := K0_4.out.cell 1
  have l1_4 : bx < w4.heap.size := K1_4.out.lt
  have z1_0_4 : w4.cell? ⟨bx, 0, none⟩ = some (.int .i64 ((i : Int))) := K1_4.out.cell 0
  have z1_1_4 : w4.cell? ⟨bx, 1, none⟩ = some (.int .i64 ((k : Int))) := K1_4.out.cell 1
  go_wp2_with fail
  refine (rheights_is A n c l EH HEH.out _ R0_4.out).mono ?_
  rintro e w5 ⟨rfl, hb⟩
  have HB5 := Lib.hid (show Below w.heap.size w w5 from step_below hb (by repeat' (first | exact Below.refl _ _ | exact HB4.out | refine below_drewN ?_ _ | refine Below.drew ?_ | refine Below.alloc ?_ (by first | omega | (simp; done) | (simp; omega) | (simp [World.setCell]; omega)) _ | refine Below.setCell ?_ (by first | omega | (simp; done) | (simp; omega)) _ | assumption)))
  have K0_5 := Lib.hid (step_blk hb (show Blk _ (w.heap.size) 38 #[.int .i64 (p), .int .i64 (s)] by repeat' (first | exact K0_4.out | exact K1_4.out | exact Blk.at_ _ (by first | rfl | (simp; done) | (simp; omega)) _ _ | refine Blk.drewN ?_ _ | refine Blk.drew ?_ | refine Blk.alloc ?_ _ | refine Blk.far ?_ (by first | omega | (simp; done) | (simp; omega)) _ | assumption)))
  have K1_5 := Lib.hid (step_blk hb (show Blk _ (bx) 39 #[.int .i64 ((i : Int)), .int .i64 ((k : Int))] by repeat' (first | exact K0_4.out | exact K1_4.out | exact Blk.at_ _ (by first | rfl | (simp; done) | (simp; omega)) _ _ | refine Blk.drewN ?_ _ | refine Blk.drew ?_ | refine Blk.alloc ?_ _ | refine Blk.far ?_ (by first | omega | (simp; done) | (simp; omega)) _ | assumption)))
  have hL5 := Lib.hid (show Below w4.heap.size w4 _ from reads_mid hb (by repeat' (first | exact Below.refl _ _ | refine below_drewN ?_ _ | refine Below.drew ?_ | refine Below.alloc ?_ (by first | omega | (simp; done) | (simp; omega) | (simp [World.setCell]; omega)) _ | refine Below.setCell ?_ (by first | omega | (simp; done) | (simp; omega)) _)))
  have R0_5 := Lib.hid (reads_lay hb hL5.out R0_4.out)
  clear hL5 R0_4
  have hz5 := hb.size
  try simp only [World.size_alloc, World.drewN, World.drew] at hz5
  clear hb K0_4 K1_4 z0_0_4 z0_1_4 l0_4 z1_0_4 z1_1_4 l1_4
  have l0_5 : w.heap.size < w5.heap.size := K0_5.out.lt
  have z0_0_5 : w5.cell? ⟨w.heap.size, 0, none⟩ = some (.int .i64 (p)) := K0_5.out.cell 0
  have z0_1_5 : w5.cell? ⟨w.heap.size, 1, none⟩ = some (.int .i64 (s)) := K0_5.out.cell 1
  have l1_5 : bx < w5.heap.size := K1_5.out.lt
  have z1_0_5 : w5.cell? ⟨bx, 0, none⟩ = some (.int .i64 ((i : Int))) := K1_5.out.cell 0
  have z1_1_5 : w5.cell? ⟨bx, 1, none⟩ = some (.int .i64 ((k : Int))) := K1_5.out.cell 1
  by_cases h0 : EH = 0
  rotate_left
  · obtain ⟨rfl, rfl, rfl⟩ : E = EH ∧ i = 0 ∧ k = 0 := by
      have hm : meetErr l p s = EH := by unfold meetErr; rw [HEH.out, if_pos h0]
      rcases HV.out with ⟨h1, -, h2, h3⟩ | ⟨h1, -⟩
      · exact ⟨by rw [← h1, hm], h2, h3⟩
      · rw [hm] at h1; exact absurd h1 h0
    have e1 : (E != 0) = true := by simpa using h0
    have e2 : (E == 0) = false := by simpa using h0
    have e3 : (E == E) = true := by simp
    clear h0
    go_wp2
    go_ret
    exact ⟨rfl, by repeat' (first | exact Below.refl _ _ | exact HB5.out | refine below_drewN ?_ _ | refine Below.drew ?_ | refine Below.alloc ?_ (by first | omega | (simp; done) | (simp; omega) | (simp [World.setCell]; omega)) _ | refine Below.setCell ?_ (by first | omega | (simp; done) | (simp; omega)) _ | assumption)⟩
  subst h0
  have hm : meetErr l p s = ET := by unfold meetErr; rw [HEH.out, HET.out, if_neg (by simp)]
  have HM := Lib.hid hm
  clear hm
  go_wp2_with fail
  refine (rtol_is p s ET HET.out _).mono ?_
  rintro e w6 ⟨rfl, hb⟩
  have HB6 := Lib.hid (show Below w.heap.size w w6 from step_below hb (by repeat' (first | exact Below.refl _ _ | exact HB5.out | refine below_drewN ?_ _ | refine Below.drew ?_ | refine Below.alloc ?_ (by first | omega | (simp; done) | (simp; omega) | (simp [World.setCell]; omega)) _ | refine Below.setCell ?_ (by first | omega | (simp; done) | (simp; omega)) _ | assumption)))
  have K0_6 := Lib.hid (step_blk hb (show Blk _ (w.heap.size) 38 #[.int .i64 (p), .int .i64 (s)] by repeat' (first | exact K0_5.out | exact K1_5.out | exact Blk.at_ _ (by first | rfl | (simp; done) | (simp; omega)) _ _ | refine Blk.drewN ?_ _ | refine Blk.drew ?_ | refine Blk.alloc ?_ _ | refine Blk.far ?_ (by first | omega | (simp; done) | (simp; omega)) _ | assumption)))
  have K1_6 := Lib.hid (step_blk hb (show Blk _ (bx) 39 #[.int .i64 ((i : Int)), .int .i64 ((k : Int))] by repeat' (first | exact K0_5.out | exact K1_5.out | exact Blk.at_ _ (by first | rfl | (simp; done) | (simp; omega)) _ _ | refine Blk.drewN ?_ _ | refine Blk.drew ?_ | refine Blk.alloc ?_ _ | refine Blk.far ?_ (by first | omega | (simp; done) | (simp; omega)) _ | assumption)))
  have hL6 := Lib.hid (show Below w5.heap.size w5 _ from reads_mid hb (by repeat' (first | exact Below.refl _ _ | refine below_drewN ?_ _ | refine Below.drew ?_ | refine Below.alloc ?_ (by first | omega | (simp; done) | (simp; omega) | (simp [World.setCell]; omega)) _ | refine Below.setCell ?_ (by first | omega | (simp; done) | (simp; omega)) _)))
  have R0_6 := Lib.hid (reads_lay hb hL6.out R0_5.out)
  clear hL6 R0_5
  have hz6 := hb.size
  try simp only [World.size_alloc, World.drewN, World.drew] at hz6
  clear hb K0_5 K1_5 z0_0_5 z0_1_5 l0_5 z1_0_5 z1_1_5 l1_5
  have l0_6 : w.heap.size < w6.heap.size := K0_6.out.lt
  have z0_0_6 : w6.cell? ⟨w.heap.size, 0, none⟩ = some (.int .i64 (p)) := K0_6.out.cell 0
  have z0_1_6 : w6.cell? ⟨w.heap.size, 1, none⟩ = some (.int .i64 (s)) := K0_6.out.cell 1
  have l1_6 : bx < w6.heap.size := K1_6.out.lt
  have z1_0_6 : w6.cell? ⟨bx, 0, none⟩ = some (.int .i64 ((i : Int))) := K1_6.out.cell 0
  have z1_1_6 : w6.cell? ⟨bx, 1, none⟩ = some (.int .i64 ((k : Int))) := K1_6.out.cell 1
  by_cases h0 : ET = 0
  rotate_left
  · obtain ⟨rfl, rfl, rfl⟩ : E = ET ∧ i = 0 ∧ k = 0 := by
      rcases HV.out with ⟨h1, -, h2, h3⟩ | ⟨h1, -⟩
      · exact ⟨by rw [← h1, HM.out], h2, h3⟩
      · rw [HM.out] at h1; exact absurd h1 h0
    have e1 : (E != 0) = true := by simpa using h0
    have e2 : (E == 0) = false := by simpa using h0
    have e3 : (E == E) = true := by simp
    clear h0
    go_wp2
    go_ret
    exact ⟨rfl, by repeat' (first | exact Below.refl _ _ | exact HB6.out | refine below_drewN ?_ _ | refine Below.drew ?_ | refine Below.alloc ?_ (by first | omega | (simp; done) | (simp; omega) | (simp [World.setCell]; omega)) _ | refine Below.setCell ?_ (by first | omega | (simp; done) | (simp; omega)) _ | assumption)⟩
  subst h0
  obtain ⟨hE, ho, hz⟩ : E = (if t then 26 else 0) ∧ firstP n (meetB l p s) = (if t then some (i, k) else none) ∧ (t = false → i = 0 ∧ k = 0) := by
    rcases HV.out with ⟨h1, h2, -⟩ | ⟨-, h⟩
    · rw [HM.out] at h1; exact absurd h1.symm h2
    · exact h
  have HO := Lib.hid ho
  have H0 := Lib.hid hz
  have HEE := Lib.hid hE
  clear ho hz hE
  go_wp2_with fail
  refine (rmeets_is A n c l p s HM.out i k t HO.out H0.out _ R0_6.out).mono ?_
  rintro e w7 ⟨rfl, hb⟩
  have HB7 := Lib.hid (show Below w.heap.size w w7 from step_below hb (by repeat' (first | exact Below.refl _ _ | exact HB6.out | refine below_drewN ?_ _ | refine Below.drew ?_ | refine Below.alloc ?_ (by first | omega | (simp; done) | (simp; omega) | (simp [World.setCell]; omega)) _ | refine Below.setCell ?_ (by first | omega | (simp; done) | (simp; omega)) _ | assumption)))
  have K0_7 := Lib.hid (step_blk hb (show Blk _ (w.heap.size) 38 #[.int .i64 (p), .int .i64 (s)] by repeat' (first | exact K0_6.out | exact K1_6.out | exact Blk.at_ _ (by first | rfl | (simp; done) | (simp; omega)) _ _ | refine Blk.drewN ?_ _ | refine Blk.drew ?_ | refine Blk.alloc ?_ _ | refine Blk.far ?_ (by first | omega | (simp; done) | (simp; omega)) _ | assumption)))
  have K1_7 := Lib.hid (step_blk hb (show Blk _ (bx) 39 #[.int .i64 ((i : Int)), .int .i64 ((k : Int))] by repeat' (first | exact K0_6.out | exact K1_6.out | exact Blk.at_ _ (by first | rfl | (simp; done) | (simp; omega)) _ _ | refine Blk.drewN ?_ _ | refine Blk.drew ?_ | refine Blk.alloc ?_ _ | refine Blk.far ?_ (by first | omega | (simp; done) | (simp; omega)) _ | assumption)))
  have hL7 := Lib.hid (show Below w6.heap.size w6 _ from reads_mid hb (by repeat' (first | exact Below.refl _ _ | refine below_drewN ?_ _ | refine Below.drew ?_ | refine Below.alloc ?_ (by first | omega | (simp; done) | (simp; omega) | (simp [World.setCell]; omega)) _ | refine Below.setCell ?_ (by first | omega | (simp; done) | (simp; omega)) _)))
  have R0_7 := Lib.hid (reads_lay hb hL7.out R0_6.out)
  clear hL7 R0_6
  have hz7 := hb.size
  try simp only [World.size_alloc, World.drewN, World.drew] at hz7
  clear hb K0_6 K1_6 z0_0_6 z0_1_6 l0_6 z1_0_6 z1_1_6 l1_6
  have l0_7 : w.heap.size < w7.heap.size := K0_7.out.lt
  have z0_0_7 : w7.cell? ⟨w.heap.size, 0, none⟩ = some (.int .i64 (p)) := K0_7.out.cell 0
  have z0_1_7 : w7.cell? ⟨w.heap.size, 1, none⟩ = some (.int .i64 (s)) := K0_7.out.cell 1
  have l1_7 : bx < w7.heap.size := K1_7.out.lt
  have z1_0_7 : w7.cell? ⟨bx, 0, none⟩ = some (.int .i64 ((i : Int))) := K1_7.out.cell 0
  have z1_1_7 : w7.cell? ⟨bx, 1, none⟩ = some (.int .i64 ((k : Int))) := K1_7.out.cell 1
  cases t with
  | false =>
    obtain ⟨rfl, rfl⟩ := H0.out rfl
    have hE := HEE.out
    simp only [Bool.false_eq_true, if_false] at hE
    subst hE
    go_wp2
    go_ret
    exact ⟨rfl, by repeat' (first | exact Below.refl _ _ | exact HB7.out | refine below_drewN ?_ _ | refine Below.drew ?_ | refine Below.alloc ?_ (by first | omega | (simp; done) | (simp; omega) | (simp [World.setCell]; omega)) _ | refine Below.setCell ?_ (by first | omega | (simp; done) | (simp; omega)) _ | assumption)⟩
  | true =>
    have hE := HEE.out
    simp only [if_true] at hE
    subst hE
    have l7x : w.heap.size < w7.heap.size := l0_7
    go_wp2
    go_ret
    exact ⟨rfl, by repeat' (first | exact Below.refl _ _ | exact HB7.out | refine below_drewN ?_ _ | refine Below.drew ?_ | refine Below.alloc ?_ (by first | omega | (simp; done) | (simp; omega) | (simp [World.setCell]; omega)) _ | refine Below.setCell ?_ (by first | omega | (simp; done) | (simp; omega)) _ | assumption)⟩
end Go.Proofs.Ytnepjgnnppfibaa

end
