import Derived.Test.YtgamepmipoociaaQ24
import Derived.Test.YtgamepmipoociaaQ32

section
/- The walk of the statement on screws. -/
namespace Go.Proofs.Ytgamepmipoociaa
open Go Go.RowKit

theorem share4 {α β γ δ : Type} {Fact : α → β → γ → δ → Prop} {G : Prop} {F : α → β → γ → δ → Prop} (main : (∀ x y z w, Fact x y z w → F x y z w) → G) (rest : ∀ x y z w, Fact x y z w → F x y z w) : G := main rest
theorem low_spec {a b x y : Int} (h : lowF a b = (x, y)) (h0 : b ≠ 0) : x * b = y * a ∧ 0 < y ∧ y ≤ b.natAbs ∧ x.natAbs ≤ a.natAbs := by
  unfold lowF at h
  by_cases hb : b < 0
  · rw [if_pos hb] at h
    obtain ⟨hx, hy⟩ := Prod.mk.inj h
    obtain ⟨h1, h2, h3, h4⟩ := red_spec (a := -a) (b := -b) (by omega)
    rw [hx, hy] at h1
    rw [hy] at h2 h3
    rw [hx] at h4
    rw [Int.mul_neg, Int.mul_neg] at h1
    exact ⟨by omega, h2, by omega, by omega⟩
  · rw [if_neg hb] at h
    obtain ⟨hx, hy⟩ := Prod.mk.inj h
    obtain ⟨h1, h2, h3, h4⟩ := red_spec (a := a) (b := b) (by omega)
    rw [hx, hy] at h1
    rw [hy] at h2 h3
    rw [hx] at h4
    exact ⟨h1, h2, by omega, h4⟩
/-- The moves and the error add up to 0. -/
theorem col_sum {a b u v o d p0 p1 q0 q1 : Int} (hd : d ≠ 0) (h1 : p0 * d = p1 * u) (h2 : q0 * d = q1 * v) (hs : a * u + b * v + o * d = 0) : a * p0 * q1 + b * q0 * p1 + o * p1 * q1 = 0 := by
  have h : (a * p0 * q1 + b * q0 * p1 + o * p1 * q1) * d = 0 := by
    have e : (a * p0 * q1 + b * q0 * p1 + o * p1 * q1) * d = p1 * q1 * (a * u + b * v + o * d) := by grind
    rw [e, hs, Int.mul_zero]
  rcases Int.mul_eq_zero.1 h with h | h
  · exact h
  · exact absurd h hd

theorem wraps {a b o p0 p1 q0 q1 : Int} (ha : -1000 ≤ a ∧ a ≤ 1000) (hb : -1000 ≤ b ∧ b ≤ 1000) (ho : -100000 ≤ o ∧ o ≤ 100000) (h0 : -200000000 ≤ p0 ∧ p0 ≤ 200000000) (h1 : -200000000 ≤ q0 ∧ q0 ≤ 200000000) (h2 : -2000000 ≤ p1 ∧ p1 ≤ 2000000) (h3 : -2000000 ≤ q1 ∧ q1 ≤ 2000000) :
    IntKind.i64.wrap (a * p0) = a * p0 ∧ IntKind.i64.wrap (a * p0 * q1) = a * p0 * q1 ∧ IntKind.i64.wrap (b * q0) = b * q0 ∧ IntKind.i64.wrap (b * q0 * p1) = b * q0 * p1 ∧ IntKind.i64.wrap (a * p0 * q1 + b * q0 * p1) = a * p0 * q1 + b * q0 * p1 ∧ IntKind.i64.wrap (o * p1) = o * p1 ∧ IntKind.i64.wrap (o * p1 * q1) = o * p1 * q1 ∧ IntKind.i64.wrap 0 = 0 := by
  have m1 := mulb ha h0 (by decide) (by decide)
  have m2 := mulb m1 h3 (by decide) (by decide)
  have m3 := mulb hb h1 (by decide) (by decide)
  have m4 := mulb m3 h2 (by decide) (by decide)
  have m5 := mulb ho h2 (by decide) (by decide)
  have m6 := mulb m5 h3 (by decide) (by decide)
  exact ⟨IntWalk.i64_in _ ⟨by omega, by omega⟩, IntWalk.i64_in _ ⟨by omega, by omega⟩, IntWalk.i64_in _ ⟨by omega, by omega⟩, IntWalk.i64_in _ ⟨by omega, by omega⟩, IntWalk.i64_in _ ⟨by omega, by omega⟩, IntWalk.i64_in _ ⟨by omega, by omega⟩, IntWalk.i64_in _ ⟨by omega, by omega⟩, IntWalk.i64_in _ ⟨by omega, by omega⟩⟩

set_option maxRecDepth 100000 in
set_option maxHeartbeats 4000000 in
theorem lawPS_any (A : Option Addr) (n c : Nat) (l : List (Int × Int)) (ox oy : Int) (w : World) (hnc : n ≤ c ∧ c ≤ 9223372036854775807) (hl : l.length = n) (_ : ∀ p ∈ l, I64 p.1 ∧ I64 p.2) (hx : Reads w w.heap.size 2 A n (cells2 l)) (_ : -9223372036854775808 ≤ ox) (_ : ox ≤ 9223372036854775807) (_ : -9223372036854775808 ≤ oy) (_ : oy ≤ 9223372036854775807) :
    Calls Try.prog 7 #[.slice A n c, .agg #[.int .i64 ox, .int .i64 oy]] w fun e w' => e = .returned (.bool true) ∧ Below w.heap.size w w' := by
  obtain ⟨hnc, hcm⟩ := hnc
  by_cases h4 : 4 < n
  · have k1 : (4 : Int) < (n : Int) := by omega
    go_enter Try.func7, Try.ntmps7
    go_wp2_with fail
    refine (awakept_any _).mono ?_
    rintro e w1 ⟨rfl, hb⟩
    have HB1 := Lib.hid (show Below w.heap.size w w1 from step_below hb (by repeat' (first | exact Below.refl _ _ | exact HB0.out | refine below_drewN ?_ _ | refine Below.drew ?_ | refine Below.alloc ?_ (by first | omega | (simp; done) | (simp; omega) | (simp [World.setCell]; omega)) _ | refine Below.setCell ?_ (by first | omega | (simp; done) | (simp; omega)) _ | assumption)))
    have K0_1 := Lib.hid (step_blk hb (show Blk _ (w.heap.size) 46 #[.int .i64 (ox), .int .i64 (oy)] by repeat' (first | exact Blk.at_ _ (by first | rfl | (simp; done) | (simp; omega)) _ _ | refine Blk.drewN ?_ _ | refine Blk.drew ?_ | refine Blk.alloc ?_ _ | refine Blk.far ?_ (by first | omega | (simp; done) | (simp; omega)) _ | assumption)))
    have hz1 := hb.size
    try simp only [World.size_alloc, World.drewN, World.drew] at hz1
    clear hb
    have l0_1 : w.heap.size < w1.heap.size := K0_1.out.lt
    have z0_0_1 : w1.cell? ⟨w.heap.size, 0, none⟩ = some (.int .i64 (ox)) := K0_1.out.cell 0
    have z0_1_1 : w1.cell? ⟨w.heap.size, 1, none⟩ = some (.int .i64 (oy)) := K0_1.out.cell 1
    go_wp2
    go_ret
    exact ⟨rfl, by repeat' (first | exact Below.refl _ _ | exact HB1.out | refine below_drewN ?_ _ | refine Below.drew ?_ | refine Below.alloc ?_ (by first | omega | (simp; done) | (simp; omega) | (simp [World.setCell]; omega)) _ | refine Below.setCell ?_ (by first | omega | (simp; done) | (simp; omega)) _ | assumption)⟩
  have k1 : ¬ (4 : Int) < (n : Int) := by omega
  have hn1000 : n ≤ 1000 := by omega
  obtain ⟨E, hE⟩ : ∃ E, scrErr l = E := ⟨_, rfl⟩
  by_cases h0 : E = 0
  rotate_left
  · have HE := Lib.hid hE
    have q1 : (E == E) = true := by simp
    have q2 : (E == 0) = false := by simpa using h0
    have q3 : (E != 0) = true := by simpa using h0
    have q4 : (E != E) = false := by simp
    clear hE hl
    go_enter Try.func7, Try.ntmps7
    have R0_0 := Lib.hid hx
    clear hx
    go_wp2_with fail
    refine (awakept_any _).mono ?_
    rintro e w1 ⟨rfl, hb⟩
    have HB1 := Lib.hid (show Below w.heap.size w w1 from step_below hb (by repeat' (first | exact Below.refl _ _ | exact HB0.out | refine below_drewN ?_ _ | refine Below.drew ?_ | refine Below.alloc ?_ (by first | omega | (simp; done) | (simp; omega) | (simp [World.setCell]; omega)) _ | refine Below.setCell ?_ (by first | omega | (simp; done) | (simp; omega)) _ | assumption)))
    have K0_1 := Lib.hid (step_blk hb (show Blk _ (w.heap.size) 46 #[.int .i64 (ox), .int .i64 (oy)] by repeat' (first | exact Blk.at_ _ (by first | rfl | (simp; done) | (simp; omega)) _ _ | refine Blk.drewN ?_ _ | refine Blk.drew ?_ | refine Blk.alloc ?_ _ | refine Blk.far ?_ (by first | omega | (simp; done) | (simp; omega)) _ | assumption)))
    have hL1 := Lib.hid (show Below w.heap.size w _ from reads_mid hb (by repeat' (first | exact Below.refl _ _ | refine below_drewN ?_ _ | refine Below.drew ?_ | refine Below.alloc ?_ (by first | omega | (simp; done) | (simp; omega) | (simp [World.setCell]; omega)) _ | refine Below.setCell ?_ (by first | omega | (simp; done) | (simp; omega)) _)))
    have R0_1 := Lib.hid (reads_lay hb hL1.out R0_0.out)
    clear hL1 R0_0
    have hz1 := hb.size
    try simp only [World.size_alloc, World.drewN, World.drew] at hz1
    clear hb
    have l0_1 : w.heap.size < w1.heap.size := K0_1.out.lt
    have z0_0_1 : w1.cell? ⟨w.heap.size, 0, none⟩ = some (.int .i64 (ox)) := K0_1.out.cell 0
    have z0_1_1 : w1.cell? ⟨w.heap.size, 1, none⟩ = some (.int .i64 (oy)) := K0_1.out.cell 1
    go_wp2
    apply share4 (Fact := fun (_ _ z : Pick2) (wz : World) => ∃ bx, z.1.1 = some ⟨bx, 0, none⟩ ∧ w1.heap.size ≤ bx ∧ Below w1.heap.size w1 wz ∧ Blk wz bx 73 #[.int .i64 (0), .int .i64 (0), .int .i64 (0), .int .i64 (0)])
    · intro key
      refine Fx.regionM (fun W (g : Nat → Option Pick2) f w' => ScD 46 73 (n) (cells2 (l)) #[.int .i64 (0), .int .i64 (0), .int .i64 (0), .int .i64 (0)] W g f w') (fun i (x : Pick2) => if i = 8 then .pointer x.1.1 else if i = 2 then .slice x.1.1 (n) x.1.2 else .slice x.1.1 0 0) (by kernel_rfl) ?_ ?_
      · intro f hf0
        exact ScD.start
      first
      | (refine Fx.WM.skip 1 (by rfl) (by kernel_rfl) (by kernel_rfl) (by kernel_rfl) (by rfl) (fun g f w h => h.same (by decide) (by decide)) ?_; simp only [Act.put, List.setIfInBounds_toArray, List.set_cons_zero, List.set_cons_succ])
      | (refine Fx.WM.val_ 1 ?_ (by rfl) (by kernel_rfl) (by kernel_rfl) (by kernel_rfl) (by rfl) ?_ (fun g f w h => h.same (by decide) (by decide)) ?_
         rotate_left
         · intro g f w' hx hD hk
           obtain hsd := id hD
           clear hx hk hD hsd
           go_simp
           try rfl
         simp only [Act.put, List.setIfInBounds_toArray, List.set_cons_zero, List.set_cons_succ])
      first
      | (refine Fx.WM.skip 3 (by rfl) (by kernel_rfl) (by kernel_rfl) (by kernel_rfl) (by rfl) (fun g f w h => h.same (by decide) (by decide)) ?_; simp only [Act.put, List.setIfInBounds_toArray, List.set_cons_zero, List.set_cons_succ])
      | (refine Fx.WM.val_ 3 ?_ (by rfl) (by kernel_rfl) (by kernel_rfl) (by kernel_rfl) (by rfl) ?_ (fun g f w h => h.same (by decide) (by decide)) ?_
         rotate_left
         · intro g f w' hx hD hk
           obtain hsd := id hD
           have y0 := (K0_1.out.below hsd.bel l0_1).cell 0
           have y1 := (K0_1.out.below hsd.bel l0_1).cell 1
           clear hx hk hD hsd
           go_simp
           try rfl
         simp only [Act.put, List.setIfInBounds_toArray, List.set_cons_zero, List.set_cons_succ])
      refine Fx.WM.choose2 0 8 (by rfl) (by rfl) (by kernel_rfl) (by rfl) (by rfl) ?_ ?_ ?_ ?_
      · skip
        refine Fx.Chooses.make (by rfl) ?_
        intro f w' hD hk
        refine ⟨((some ⟨w'.heap.size, 0, none⟩, 0), (none, 0)), w'.alloc (.cells #[] 46), ?_, ?_⟩
        · clear hk hD
          go_simp
          try rfl
        · exact hD.lit (by rfl)
      · skip
        refine Fx.Chooses.make (by rfl) ?_
        intro f w' hD hk
        refine ⟨((some ⟨w'.heap.size, 0, none⟩, 0), (none, 0)), w'.alloc (.cells #[.int .i64 0, .int .i64 0, .int .i64 0, .int .i64 0] 73), ?_, ?_⟩
        · clear hk hD
          go_simp
          try rfl
        · exact hD.make (hk.2.1 9 (by kernel_rfl))
      · skip
        intro x
        simp only [Act.put, List.setIfInBounds_toArray, List.set_cons_zero, List.set_cons_succ]
        refine Fx.WM.choose2 2 8 (by rfl) (by rfl) (by kernel_rfl) (by rfl) (by rfl) ?_ ?_ ?_ ?_
        · skip
          refine Fx.Chooses.make (by rfl) ?_
          intro f w' hD hk
          obtain ⟨y', w2', hrun, hD2⟩ := ScD.app hD hk.1 (hk.2.1 9 (by kernel_rfl)) (by rfl) (((R0_1.out.below hD.bel).more hD.bel.size)) hn1000
          exact ⟨y', w2', exec_append _ _ _ rfl hrun, hD2⟩
        · skip
          refine Fx.Chooses.make (by rfl) ?_
          intro f w' hD hk
          refine ⟨((some ⟨w'.heap.size, 0, none⟩, 0), (none, 0)), w'.alloc (.cells #[.int .i64 0, .int .i64 0, .int .i64 0, .int .i64 0] 73), ?_, ?_⟩
          · clear hk hD
            go_simp
            try rfl
          · exact hD.make (hk.2.1 9 (by kernel_rfl))
        · intro y
          simp only [Act.put, List.setIfInBounds_toArray, List.set_cons_zero, List.set_cons_succ]
          refine Fx.WM.call 4 (.tuple #[.agg #[.int .i64 (0), .int .i64 (0), .int .i64 (0), .int .i64 (0)], .int .i64 (E)]) ?_ ?_ (by rfl) (by kernel_rfl) (by kernel_rfl) (by kernel_rfl) (by rfl) ?_ ?_ ?_
          rotate_left 2
          · intro w'
            go_simp
            refine ⟨?_, ?_⟩ <;> rfl
          · intro g f w' hx hD hk
            exact (pcol_bad y.1.1 n y.1.2 l ox oy E HE.out h0 w' (hD.o2 (hk.2.1 9 (by kernel_rfl)) y (hx 2 _ (by rfl))) (by omega)).mono fun e w'' ⟨he, hw⟩ => ⟨he, hD.call (by decide) (by decide) hw⟩
          simp only [Act.put, List.setIfInBounds_toArray, List.set_cons_zero, List.set_cons_succ]
          first
          | (refine Fx.WM.skip 5 (by rfl) (by kernel_rfl) (by kernel_rfl) (by kernel_rfl) (by rfl) (fun g f w h => h.same (by decide) (by decide)) ?_; simp only [Act.put, List.setIfInBounds_toArray, List.set_cons_zero, List.set_cons_succ])
          | (refine Fx.WM.val_ 5 ?_ (by rfl) (by kernel_rfl) (by kernel_rfl) (by kernel_rfl) (by rfl) ?_ (fun g f w h => h.same (by decide) (by decide)) ?_
             rotate_left
             · intro g f w' hx hD hk
               obtain hsd := id hD
               clear hx hk hD hsd
               go_simp
               try rfl
             simp only [Act.put, List.setIfInBounds_toArray, List.set_cons_zero, List.set_cons_succ])
          first
          | (refine Fx.WM.skip 6 (by rfl) (by kernel_rfl) (by kernel_rfl) (by kernel_rfl) (by rfl) (fun g f w h => h.same (by decide) (by decide)) ?_; simp only [Act.put, List.setIfInBounds_toArray, List.set_cons_zero, List.set_cons_succ])
          | (refine Fx.WM.val_ 6 ?_ (by rfl) (by kernel_rfl) (by kernel_rfl) (by kernel_rfl) (by rfl) ?_ (fun g f w h => h.same (by decide) (by decide)) ?_
             rotate_left
             · intro g f w' hx hD hk
               obtain hsd := id hD
               clear hx hk hD hsd
               go_simp
               try rfl
             simp only [Act.put, List.setIfInBounds_toArray, List.set_cons_zero, List.set_cons_succ])
          first
          | (refine Fx.WM.skip 7 (by rfl) (by kernel_rfl) (by kernel_rfl) (by kernel_rfl) (by rfl) (fun g f w h => h.same (by decide) (by decide)) ?_; simp only [Act.put, List.setIfInBounds_toArray, List.set_cons_zero, List.set_cons_succ])
          | (refine Fx.WM.val_ 7 ?_ (by rfl) (by kernel_rfl) (by kernel_rfl) (by kernel_rfl) (by rfl) ?_ (fun g f w h => h.same (by decide) (by decide)) ?_
             rotate_left
             · intro g f w' hx hD hk
               obtain hsd := id hD
               clear hx hk hD hsd
               go_simp
               try rfl
             simp only [Act.put, List.setIfInBounds_toArray, List.set_cons_zero, List.set_cons_succ])
          refine Fx.WM.choose 8 (by rfl) (by kernel_rfl) (by rfl) ?_ ?_
          · skip
            refine Fx.Chooses.make (by rfl) ?_
            intro f w' hD hk
            refine ⟨((some ⟨w'.heap.size, 0, none⟩, 0), (none, 0)), w'.alloc (.cells #[.int .i64 0, .int .i64 0, .int .i64 0, .int .i64 0] 73), ?_, ?_⟩
            · clear hk hD
              go_simp
              try rfl
            · exact hD.make (hk.2.1 9 (by kernel_rfl))
          intro z
          simp only [Act.put, List.setIfInBounds_toArray, List.set_cons_zero, List.set_cons_succ]
          refine Fx.WM.eff 9 undef (by rfl) (by kernel_rfl) (by kernel_rfl) (by kernel_rfl) (by rfl) ?_ ?_
          · intro g f w' hx hD hk
            obtain ⟨bx, c0, c1, c2, c3, r0, r1, r2, r3, r4, r5, r6, r7, r8⟩ := ScD.cells hD (hx 8 _ (by rfl))
            refine Fx.gives_skip (w' := ((((w'.setCell ⟨bx, 0, none⟩ (.int .i64 (0))).setCell ⟨bx, 1, none⟩ (.int .i64 (0))).setCell ⟨bx, 2, none⟩ (.int .i64 (0))).setCell ⟨bx, 3, none⟩ (.int .i64 (0)))) ?_ ?_
            · clear hx hk hD
              go_simp
              try rfl
            · exact ScD.store hD (hx 8 _ (by rfl)) r0 (hk.2.2.1 2 (by kernel_rfl))
          simp only [Act.put, List.setIfInBounds_toArray, List.set_cons_zero, List.set_cons_succ]
          first
          | (refine Fx.WM.skip 10 (by rfl) (by kernel_rfl) (by kernel_rfl) (by kernel_rfl) (by rfl) (fun g f w h => h.same (by decide) (by decide)) ?_; simp only [Act.put, List.setIfInBounds_toArray, List.set_cons_zero, List.set_cons_succ])
          | (refine Fx.WM.val_ 10 ?_ (by rfl) (by kernel_rfl) (by kernel_rfl) (by kernel_rfl) (by rfl) ?_ (fun g f w h => h.same (by decide) (by decide)) ?_
             rotate_left
             · intro g f w' hx hD hk
               obtain hsd := id hD
               clear hx hk hD hsd
               go_simp
               try rfl
             simp only [Act.put, List.setIfInBounds_toArray, List.set_cons_zero, List.set_cons_succ])
          refine Fx.WM.nil (by kernel_rfl) ?_
          intro wz hsd
          obtain ⟨bx, h1, h2, h3⟩ := ScD.end_ hsd (z := z) (by rfl) (by rfl)
          exact key x y z wz ⟨bx, h1, h2, hsd.bel, h3⟩
        · intro z
          simp only [Act.put, List.setIfInBounds_toArray, List.set_cons_zero, List.set_cons_succ]
          refine Fx.WM.choose 2 (by rfl) (by kernel_rfl) (by rfl) ?_ ?_
          · skip
            refine Fx.Chooses.make (by rfl) ?_
            intro f w' hD hk
            obtain ⟨y', w2', hrun, hD2⟩ := ScD.app hD hk.1 (hk.2.1 9 (by kernel_rfl)) (by rfl) (((R0_1.out.below hD.bel).more hD.bel.size)) hn1000
            exact ⟨y', w2', exec_append _ _ _ rfl hrun, hD2⟩
          intro y
          simp only [Act.put, List.setIfInBounds_toArray, List.set_cons_zero, List.set_cons_succ]
          refine Fx.WM.call 4 (.tuple #[.agg #[.int .i64 (0), .int .i64 (0), .int .i64 (0), .int .i64 (0)], .int .i64 (E)]) ?_ ?_ (by rfl) (by kernel_rfl) (by kernel_rfl) (by kernel_rfl) (by rfl) ?_ ?_ ?_
          rotate_left 2
          · intro w'
            go_simp
            refine ⟨?_, ?_⟩ <;> rfl
          · intro g f w' hx hD hk
            exact (pcol_bad y.1.1 n y.1.2 l ox oy E HE.out h0 w' (hD.o2 (hk.2.1 9 (by kernel_rfl)) y (hx 2 _ (by rfl))) (by omega)).mono fun e w'' ⟨he, hw⟩ => ⟨he, hD.call (by decide) (by decide) hw⟩
          simp only [Act.put, List.setIfInBounds_toArray, List.set_cons_zero, List.set_cons_succ]
          first
          | (refine Fx.WM.skip 5 (by rfl) (by kernel_rfl) (by kernel_rfl) (by kernel_rfl) (by rfl) (fun g f w h => h.same (by decide) (by decide)) ?_; simp only [Act.put, List.setIfInBounds_toArray, List.set_cons_zero, List.set_cons_succ])
          | (refine Fx.WM.val_ 5 ?_ (by rfl) (by kernel_rfl) (by kernel_rfl) (by kernel_rfl) (by rfl) ?_ (fun g f w h => h.same (by decide) (by decide)) ?_
             rotate_left
             · intro g f w' hx hD hk
               obtain hsd := id hD
               clear hx hk hD hsd
               go_simp
               try rfl
             simp only [Act.put, List.setIfInBounds_toArray, List.set_cons_zero, List.set_cons_succ])
          first
          | (refine Fx.WM.skip 6 (by rfl) (by kernel_rfl) (by kernel_rfl) (by kernel_rfl) (by rfl) (fun g f w h => h.same (by decide) (by decide)) ?_; simp only [Act.put, List.setIfInBounds_toArray, List.set_cons_zero, List.set_cons_succ])
          | (refine Fx.WM.val_ 6 ?_ (by rfl) (by kernel_rfl) (by kernel_rfl) (by kernel_rfl) (by rfl) ?_ (fun g f w h => h.same (by decide) (by decide)) ?_
             rotate_left
             · intro g f w' hx hD hk
               obtain hsd := id hD
               clear hx hk hD hsd
               go_simp
               try rfl
             simp only [Act.put, List.setIfInBounds_toArray, List.set_cons_zero, List.set_cons_succ])
          first
          | (refine Fx.WM.skip 7 (by rfl) (by kernel_rfl) (by kernel_rfl) (by kernel_rfl) (by rfl) (fun g f w h => h.same (by decide) (by decide)) ?_; simp only [Act.put, List.setIfInBounds_toArray, List.set_cons_zero, List.set_cons_succ])
          | (refine Fx.WM.val_ 7 ?_ (by rfl) (by kernel_rfl) (by kernel_rfl) (by kernel_rfl) (by rfl) ?_ (fun g f w h => h.same (by decide) (by decide)) ?_
             rotate_left
             · intro g f w' hx hD hk
               obtain hsd := id hD
               clear hx hk hD hsd
               go_simp
               try rfl
             simp only [Act.put, List.setIfInBounds_toArray, List.set_cons_zero, List.set_cons_succ])
          refine Fx.WM.eff 9 undef (by rfl) (by kernel_rfl) (by kernel_rfl) (by kernel_rfl) (by rfl) ?_ ?_
          · intro g f w' hx hD hk
            obtain ⟨bx, c0, c1, c2, c3, r0, r1, r2, r3, r4, r5, r6, r7, r8⟩ := ScD.cells hD (hx 8 _ (by rfl))
            refine Fx.gives_skip (w' := ((((w'.setCell ⟨bx, 0, none⟩ (.int .i64 (0))).setCell ⟨bx, 1, none⟩ (.int .i64 (0))).setCell ⟨bx, 2, none⟩ (.int .i64 (0))).setCell ⟨bx, 3, none⟩ (.int .i64 (0)))) ?_ ?_
            · clear hx hk hD
              go_simp
              try rfl
            · exact ScD.store hD (hx 8 _ (by rfl)) r0 (hk.2.2.1 2 (by kernel_rfl))
          simp only [Act.put, List.setIfInBounds_toArray, List.set_cons_zero, List.set_cons_succ]
          first
          | (refine Fx.WM.skip 10 (by rfl) (by kernel_rfl) (by kernel_rfl) (by kernel_rfl) (by rfl) (fun g f w h => h.same (by decide) (by decide)) ?_; simp only [Act.put, List.setIfInBounds_toArray, List.set_cons_zero, List.set_cons_succ])
          | (refine Fx.WM.val_ 10 ?_ (by rfl) (by kernel_rfl) (by kernel_rfl) (by kernel_rfl) (by rfl) ?_ (fun g f w h => h.same (by decide) (by decide)) ?_
             rotate_left
             · intro g f w' hx hD hk
               obtain hsd := id hD
               clear hx hk hD hsd
               go_simp
               try rfl
             simp only [Act.put, List.setIfInBounds_toArray, List.set_cons_zero, List.set_cons_succ])
          refine Fx.WM.nil (by kernel_rfl) ?_
          intro wz hsd
          obtain ⟨bx, h1, h2, h3⟩ := ScD.end_ hsd (z := z) (by rfl) (by rfl)
          exact key x y z wz ⟨bx, h1, h2, hsd.bel, h3⟩
      · skip
        intro z
        simp only [Act.put, List.setIfInBounds_toArray, List.set_cons_zero, List.set_cons_succ]
        refine Fx.WM.choose 0 (by rfl) (by kernel_rfl) (by rfl) ?_ ?_
        · skip
          refine Fx.Chooses.make (by rfl) ?_
          intro f w' hD hk
          refine ⟨((some ⟨w'.heap.size, 0, none⟩, 0), (none, 0)), w'.alloc (.cells #[] 46), ?_, ?_⟩
          · clear hk hD
            go_simp
            try rfl
          · exact hD.lit (by rfl)
        intro x
        simp only [Act.put, List.setIfInBounds_toArray, List.set_cons_zero, List.set_cons_succ]
        refine Fx.WM.choose 2 (by rfl) (by kernel_rfl) (by rfl) ?_ ?_
        · skip
          refine Fx.Chooses.make (by rfl) ?_
          intro f w' hD hk
          obtain ⟨y', w2', hrun, hD2⟩ := ScD.app hD hk.1 (hk.2.1 9 (by kernel_rfl)) (by rfl) (((R0_1.out.below hD.bel).more hD.bel.size)) hn1000
          exact ⟨y', w2', exec_append _ _ _ rfl hrun, hD2⟩
        intro y
        simp only [Act.put, List.setIfInBounds_toArray, List.set_cons_zero, List.set_cons_succ]
        refine Fx.WM.call 4 (.tuple #[.agg #[.int .i64 (0), .int .i64 (0), .int .i64 (0), .int .i64 (0)], .int .i64 (E)]) ?_ ?_ (by rfl) (by kernel_rfl) (by kernel_rfl) (by kernel_rfl) (by rfl) ?_ ?_ ?_
        rotate_left 2
        · intro w'
          go_simp
          refine ⟨?_, ?_⟩ <;> rfl
        · intro g f w' hx hD hk
          exact (pcol_bad y.1.1 n y.1.2 l ox oy E HE.out h0 w' (hD.o2 (hk.2.1 9 (by kernel_rfl)) y (hx 2 _ (by rfl))) (by omega)).mono fun e w'' ⟨he, hw⟩ => ⟨he, hD.call (by decide) (by decide) hw⟩
        simp only [Act.put, List.setIfInBounds_toArray, List.set_cons_zero, List.set_cons_succ]
        first
        | (refine Fx.WM.skip 5 (by rfl) (by kernel_rfl) (by kernel_rfl) (by kernel_rfl) (by rfl) (fun g f w h => h.same (by decide) (by decide)) ?_; simp only [Act.put, List.setIfInBounds_toArray, List.set_cons_zero, List.set_cons_succ])
        | (refine Fx.WM.val_ 5 ?_ (by rfl) (by kernel_rfl) (by kernel_rfl) (by kernel_rfl) (by rfl) ?_ (fun g f w h => h.same (by decide) (by decide)) ?_
           rotate_left
           · intro g f w' hx hD hk
             obtain hsd := id hD
             clear hx hk hD hsd
             go_simp
             try rfl
           simp only [Act.put, List.setIfInBounds_toArray, List.set_cons_zero, List.set_cons_succ])
        first
        | (refine Fx.WM.skip 6 (by rfl) (by kernel_rfl) (by kernel_rfl) (by kernel_rfl) (by rfl) (fun g f w h => h.same (by decide) (by decide)) ?_; simp only [Act.put, List.setIfInBounds_toArray, List.set_cons_zero, List.set_cons_succ])
        | (refine Fx.WM.val_ 6 ?_ (by rfl) (by kernel_rfl) (by kernel_rfl) (by kernel_rfl) (by rfl) ?_ (fun g f w h => h.same (by decide) (by decide)) ?_
           rotate_left
           · intro g f w' hx hD hk
             obtain hsd := id hD
             clear hx hk hD hsd
             go_simp
             try rfl
           simp only [Act.put, List.setIfInBounds_toArray, List.set_cons_zero, List.set_cons_succ])
        first
        | (refine Fx.WM.skip 7 (by rfl) (by kernel_rfl) (by kernel_rfl) (by kernel_rfl) (by rfl) (fun g f w h => h.same (by decide) (by decide)) ?_; simp only [Act.put, List.setIfInBounds_toArray, List.set_cons_zero, List.set_cons_succ])
        | (refine Fx.WM.val_ 7 ?_ (by rfl) (by kernel_rfl) (by kernel_rfl) (by kernel_rfl) (by rfl) ?_ (fun g f w h => h.same (by decide) (by decide)) ?_
           rotate_left
           · intro g f w' hx hD hk
             obtain hsd := id hD
             clear hx hk hD hsd
             go_simp
             try rfl
           simp only [Act.put, List.setIfInBounds_toArray, List.set_cons_zero, List.set_cons_succ])
        refine Fx.WM.eff 9 undef (by rfl) (by kernel_rfl) (by kernel_rfl) (by kernel_rfl) (by rfl) ?_ ?_
        · intro g f w' hx hD hk
          obtain ⟨bx, c0, c1, c2, c3, r0, r1, r2, r3, r4, r5, r6, r7, r8⟩ := ScD.cells hD (hx 8 _ (by rfl))
          refine Fx.gives_skip (w' := ((((w'.setCell ⟨bx, 0, none⟩ (.int .i64 (0))).setCell ⟨bx, 1, none⟩ (.int .i64 (0))).setCell ⟨bx, 2, none⟩ (.int .i64 (0))).setCell ⟨bx, 3, none⟩ (.int .i64 (0)))) ?_ ?_
          · clear hx hk hD
            go_simp
            try rfl
          · exact ScD.store hD (hx 8 _ (by rfl)) r0 (hk.2.2.1 2 (by kernel_rfl))
        simp only [Act.put, List.setIfInBounds_toArray, List.set_cons_zero, List.set_cons_succ]
        first
        | (refine Fx.WM.skip 10 (by rfl) (by kernel_rfl) (by kernel_rfl) (by kernel_rfl) (by rfl) (fun g f w h => h.same (by decide) (by decide)) ?_; simp only [Act.put, List.setIfInBounds_toArray, List.set_cons_zero, List.set_cons_succ])
        | (refine Fx.WM.val_ 10 ?_ (by rfl) (by kernel_rfl) (by kernel_rfl) (by kernel_rfl) (by rfl) ?_ (fun g f w h => h.same (by decide) (by decide)) ?_
           rotate_left
           · intro g f w' hx hD hk
             obtain hsd := id hD
             clear hx hk hD hsd
             go_simp
             try rfl
           simp only [Act.put, List.setIfInBounds_toArray, List.set_cons_zero, List.set_cons_succ])
        refine Fx.WM.nil (by kernel_rfl) ?_
        intro wz hsd
        obtain ⟨bx, h1, h2, h3⟩ := ScD.end_ hsd (z := z) (by rfl) (by rfl)
        exact key x y z wz ⟨bx, h1, h2, hsd.bel, h3⟩
    rintro x0 y0 ⟨⟨z1, z2⟩, z3⟩ w2 ⟨bx, hz, hbx, hb, hblk⟩
    simp only at hz
    subst hz
    have HB2 := Lib.hid (show Below w.heap.size w w2 from step_below hb (by repeat' (first | exact Below.refl _ _ | exact HB1.out | refine below_drewN ?_ _ | refine Below.drew ?_ | refine Below.alloc ?_ (by first | omega | (simp; done) | (simp; omega) | (simp [World.setCell]; omega)) _ | refine Below.setCell ?_ (by first | omega | (simp; done) | (simp; omega)) _ | assumption)))
    have K0_2 := Lib.hid (step_blk hb (show Blk _ (w.heap.size) 46 #[.int .i64 (ox), .int .i64 (oy)] by repeat' (first | exact K0_1.out | exact Blk.at_ _ (by first | rfl | (simp; done) | (simp; omega)) _ _ | refine Blk.drewN ?_ _ | refine Blk.drew ?_ | refine Blk.alloc ?_ _ | refine Blk.far ?_ (by first | omega | (simp; done) | (simp; omega)) _ | assumption)))
    have hL2 := Lib.hid (show Below w1.heap.size w1 _ from reads_mid hb (by repeat' (first | exact Below.refl _ _ | refine below_drewN ?_ _ | refine Below.drew ?_ | refine Below.alloc ?_ (by first | omega | (simp; done) | (simp; omega) | (simp [World.setCell]; omega)) _ | refine Below.setCell ?_ (by first | omega | (simp; done) | (simp; omega)) _)))
    have R0_2 := Lib.hid (reads_lay hb hL2.out R0_1.out)
    clear hL2 R0_1
    have hz2 := hb.size
    try simp only [World.size_alloc, World.drewN, World.drew] at hz2
    clear hb K0_1 z0_0_1 z0_1_1 l0_1
    have l0_2 : w.heap.size < w2.heap.size := K0_2.out.lt
    have z0_0_2 : w2.cell? ⟨w.heap.size, 0, none⟩ = some (.int .i64 (ox)) := K0_2.out.cell 0
    have z0_1_2 : w2.cell? ⟨w.heap.size, 1, none⟩ = some (.int .i64 (oy)) := K0_2.out.cell 1
    have K1_2 := Lib.hid (show Blk w2 (bx) 73 #[.int .i64 (0), .int .i64 (0), .int .i64 (0), .int .i64 (0)] from hblk)
    clear hblk
    have l1_2 : bx < w2.heap.size := K1_2.out.lt
    have z1_0_2 : w2.cell? ⟨bx, 0, none⟩ = some (.int .i64 (0)) := K1_2.out.cell 0
    have z1_1_2 : w2.cell? ⟨bx, 1, none⟩ = some (.int .i64 (0)) := K1_2.out.cell 1
    have z1_2_2 : w2.cell? ⟨bx, 2, none⟩ = some (.int .i64 (0)) := K1_2.out.cell 2
    have z1_3_2 : w2.cell? ⟨bx, 3, none⟩ = some (.int .i64 (0)) := K1_2.out.cell 3
    go_wp2_with fail
    refine (rscrews_is A n c l E HE.out _ R0_2.out (by omega)).mono ?_
    rintro e w3 ⟨rfl, hb⟩
    have HB3 := Lib.hid (show Below w.heap.size w w3 from step_below hb (by repeat' (first | exact Below.refl _ _ | exact HB2.out | refine below_drewN ?_ _ | refine Below.drew ?_ | refine Below.alloc ?_ (by first | omega | (simp; done) | (simp; omega) | (simp [World.setCell]; omega)) _ | refine Below.setCell ?_ (by first | omega | (simp; done) | (simp; omega)) _ | assumption)))
    have K0_3 := Lib.hid (step_blk hb (show Blk _ (w.heap.size) 46 #[.int .i64 (ox), .int .i64 (oy)] by repeat' (first | exact K0_2.out | exact K1_2.out | exact Blk.at_ _ (by first | rfl | (simp; done) | (simp; omega)) _ _ | refine Blk.drewN ?_ _ | refine Blk.drew ?_ | refine Blk.alloc ?_ _ | refine Blk.far ?_ (by first | omega | (simp; done) | (simp; omega)) _ | assumption)))
    have K1_3 := Lib.hid (step_blk hb (show Blk _ (bx) 73 #[.int .i64 (0), .int .i64 (0), .int .i64 (0), .int .i64 (0)] by repeat' (first | exact K0_2.out | exact K1_2.out | exact Blk.at_ _ (by first | rfl | (simp; done) | (simp; omega)) _ _ | refine Blk.drewN ?_ _ | refine Blk.drew ?_ | refine Blk.alloc ?_ _ | refine Blk.far ?_ (by first | omega | (simp; done) | (simp; omega)) _ | assumption)))
    have hL3 := Lib.hid (show Below w2.heap.size w2 _ from reads_mid hb (by repeat' (first | exact Below.refl _ _ | refine below_drewN ?_ _ | refine Below.drew ?_ | refine Below.alloc ?_ (by first | omega | (simp; done) | (simp; omega) | (simp [World.setCell]; omega)) _ | refine Below.setCell ?_ (by first | omega | (simp; done) | (simp; omega)) _)))
    have R0_3 := Lib.hid (reads_lay hb hL3.out R0_2.out)
    clear hL3 R0_2
    have hz3 := hb.size
    try simp only [World.size_alloc, World.drewN, World.drew] at hz3
    clear hb K0_2 K1_2 z0_0_2 z0_1_2 l0_2 z1_0_2 z1_1_2 z1_2_2 z1_3_2 l1_2
    have l0_3 : w.heap.size < w3.heap.size := K0_3.out.lt
    have z0_0_3 : w3.cell? ⟨w.heap.size, 0, none⟩ = some (.int .i64 (ox)) := K0_3.out.cell 0
    have z0_1_3 : w3.cell? ⟨w.heap.size, 1, none⟩ = some (.int .i64 (oy)) := K0_3.out.cell 1
    have l1_3 : bx < w3.heap.size := K1_3.out.lt
    have z1_0_3 : w3.cell? ⟨bx, 0, none⟩ = some (.int .i64 (0)) := K1_3.out.cell 0
    have z1_1_3 : w3.cell? ⟨bx, 1, none⟩ = some (.int .i64 (0)) := K1_3.out.cell 1
    have z1_2_3 : w3.cell? ⟨bx, 2, none⟩ = some (.int .i64 (0)) := K1_3.out.cell 2
    have z1_3_3 : w3.cell? ⟨bx, 3, none⟩ = some (.int .i64 (0)) := K1_3.out.cell 3
    obtain ⟨v7, W7, hrun7, ho7, hb7⟩ := copy_run (P := Try.prog) 70 70 46 _ 2 16 Try.underlying70 info_arr2 rfl (by omega) w3 w3.heap.size A (n) c (cells2 (l)) R0_3.out (Nat.le_refl _) (one_cells2 _) (by unfold maxLen; omega) (by omega)
    obtain ⟨A7, c7, rfl, hr7⟩ := own_reads ho7
    have HRUN7 := Lib.hid hrun7
    clear hrun7 ho7
    go_wp2_with (first | (at_builtin; refine wpList_app _ W7 _ rfl _ _ _ rfl _ _ rfl rfl HRUN7.out ?_))
    obtain ⟨w4, hnm⟩ : ∃ z : World, z = W7 := ⟨_, rfl⟩
    subst hnm
    have HB4 := Lib.hid (show Below w.heap.size w w4 from step_below hb7 (by repeat' (first | exact Below.refl _ _ | exact HB3.out | refine below_drewN ?_ _ | refine Below.drew ?_ | refine Below.alloc ?_ (by first | omega | (simp; done) | (simp; omega) | (simp [World.setCell]; omega)) _ | refine Below.setCell ?_ (by first | omega | (simp; done) | (simp; omega)) _ | assumption)))
    have K0_4 := Lib.hid (step_blk hb7 (show Blk _ (w.heap.size) 46 #[.int .i64 (ox), .int .i64 (oy)] by repeat' (first | exact K0_3.out | exact K1_3.out | exact Blk.at_ _ (by first | rfl | (simp; done) | (simp; omega)) _ _ | refine Blk.drewN ?_ _ | refine Blk.drew ?_ | refine Blk.alloc ?_ _ | refine Blk.far ?_ (by first | omega | (simp; done) | (simp; omega)) _ | assumption)))
    have K1_4 := Lib.hid (step_blk hb7 (show Blk _ (bx) 73 #[.int .i64 (0), .int .i64 (0), .int .i64 (0), .int .i64 (0)] by repeat' (first | exact K0_3.out | exact K1_3.out | exact Blk.at_ _ (by first | rfl | (simp; done) | (simp; omega)) _ _ | refine Blk.drewN ?_ _ | refine Blk.drew ?_ | refine Blk.alloc ?_ _ | refine Blk.far ?_ (by first | omega | (simp; done) | (simp; omega)) _ | assumption)))
    have hL4 := Lib.hid (show Below w3.heap.size w3 _ from reads_mid hb7 (by repeat' (first | exact Below.refl _ _ | refine below_drewN ?_ _ | refine Below.drew ?_ | refine Below.alloc ?_ (by first | omega | (simp; done) | (simp; omega) | (simp [World.setCell]; omega)) _ | refine Below.setCell ?_ (by first | omega | (simp; done) | (simp; omega)) _)))
    have R0_4 := Lib.hid (reads_lay hb7 hL4.out R0_3.out)
    clear hL4 R0_3
    have hz4 := hb7.size
    try simp only [World.size_alloc, World.drewN, World.drew] at hz4
    clear hb7 K0_3 K1_3 z0_0_3 z0_1_3 l0_3 z1_0_3 z1_1_3 z1_2_3 z1_3_3 l1_3
    have l0_4 : w.heap.size < w4.heap.size := K0_4.out.lt
    have z0_0_4 : w4.cell? ⟨w.heap.size, 0, none⟩ = some (.int .i64 (ox)) := K0_4.out.cell 0
    have z0_1_4 : w4.cell? ⟨w.heap.size, 1, none⟩ = some (.int .i64 (oy)) := K0_4.out.cell 1
    have l1_4 : bx < w4.heap.size := K1_4.out.lt
    have z1_0_4 : w4.cell? ⟨bx, 0, none⟩ = some (.int .i64 (0)) := K1_4.out.cell 0
    have z1_1_4 : w4.cell? ⟨bx, 1, none⟩ = some (.int .i64 (0)) := K1_4.out.cell 1
    have z1_2_4 : w4.cell? ⟨bx, 2, none⟩ = some (.int .i64 (0)) := K1_4.out.cell 2
    have z1_3_4 : w4.cell? ⟨bx, 3, none⟩ = some (.int .i64 (0)) := K1_4.out.cell 3
    have R1_4 := Lib.hid hr7
    clear hr7
    go_wp2_with fail
    refine (pscrews_is A7 n c7 l E HE.out _ R1_4.out (by omega)).mono ?_
    rintro e w5 ⟨rfl, hb⟩
    have HB5 := Lib.hid (show Below w.heap.size w w5 from step_below hb (by repeat' (first | exact Below.refl _ _ | exact HB4.out | refine below_drewN ?_ _ | refine Below.drew ?_ | refine Below.alloc ?_ (by first | omega | (simp; done) | (simp; omega) | (simp [World.setCell]; omega)) _ | refine Below.setCell ?_ (by first | omega | (simp; done) | (simp; omega)) _ | assumption)))
    have K0_5 := Lib.hid (step_blk hb (show Blk _ (w.heap.size) 46 #[.int .i64 (ox), .int .i64 (oy)] by repeat' (first | exact K0_4.out | exact K1_4.out | exact Blk.at_ _ (by first | rfl | (simp; done) | (simp; omega)) _ _ | refine Blk.drewN ?_ _ | refine Blk.drew ?_ | refine Blk.alloc ?_ _ | refine Blk.far ?_ (by first | omega | (simp; done) | (simp; omega)) _ | assumption)))
    have K1_5 := Lib.hid (step_blk hb (show Blk _ (bx) 73 #[.int .i64 (0), .int .i64 (0), .int .i64 (0), .int .i64 (0)] by repeat' (first | exact K0_4.out | exact K1_4.out | exact Blk.at_ _ (by first | rfl | (simp; done) | (simp; omega)) _ _ | refine Blk.drewN ?_ _ | refine Blk.drew ?_ | refine Blk.alloc ?_ _ | refine Blk.far ?_ (by first | omega | (simp; done) | (simp; omega)) _ | assumption)))
    have hL5 := Lib.hid (show Below w4.heap.size w4 _ from reads_mid hb (by repeat' (first | exact Below.refl _ _ | refine below_drewN ?_ _ | refine Below.drew ?_ | refine Below.alloc ?_ (by first | omega | (simp; done) | (simp; omega) | (simp [World.setCell]; omega)) _ | refine Below.setCell ?_ (by first | omega | (simp; done) | (simp; omega)) _)))
    have R0_5 := Lib.hid (reads_lay hb hL5.out R0_4.out)
    have R1_5 := Lib.hid (reads_lay hb hL5.out R1_4.out)
    clear hL5 R0_4 R1_4
    have hz5 := hb.size
    try simp only [World.size_alloc, World.drewN, World.drew] at hz5
    clear hb K0_4 K1_4 z0_0_4 z0_1_4 l0_4 z1_0_4 z1_1_4 z1_2_4 z1_3_4 l1_4
    have l0_5 : w.heap.size < w5.heap.size := K0_5.out.lt
    have z0_0_5 : w5.cell? ⟨w.heap.size, 0, none⟩ = some (.int .i64 (ox)) := K0_5.out.cell 0
    have z0_1_5 : w5.cell? ⟨w.heap.size, 1, none⟩ = some (.int .i64 (oy)) := K0_5.out.cell 1
    have l1_5 : bx < w5.heap.size := K1_5.out.lt
    have z1_0_5 : w5.cell? ⟨bx, 0, none⟩ = some (.int .i64 (0)) := K1_5.out.cell 0
    have z1_1_5 : w5.cell? ⟨bx, 1, none⟩ = some (.int .i64 (0)) := K1_5.out.cell 1
    have z1_2_5 : w5.cell? ⟨bx, 2, none⟩ = some (.int .i64 (0)) := K1_5.out.cell 2
    have z1_3_5 : w5.cell? ⟨bx, 3, none⟩ = some (.int .i64 (0)) := K1_5.out.cell 3
    go_wp2
    go_ret
    exact ⟨rfl, by repeat' (first | exact Below.refl _ _ | exact HB5.out | refine below_drewN ?_ _ | refine Below.drew ?_ | refine Below.alloc ?_ (by first | omega | (simp; done) | (simp; omega) | (simp [World.setCell]; omega)) _ | refine Below.setCell ?_ (by first | omega | (simp; done) | (simp; omega)) _ | assumption)⟩
  subst h0
  have HE := Lib.hid hE
  clear hE
  cases hs : smallL 100000 [ox, oy]
  · have HS := Lib.hid hs
    clear hs hl
    go_enter Try.func7, Try.ntmps7
    have R0_0 := Lib.hid hx
    clear hx
    go_wp2_with fail
    refine (awakept_any _).mono ?_
    rintro e w1 ⟨rfl, hb⟩
    have HB1 := Lib.hid (show Below w.heap.size w w1 from step_below hb (by repeat' (first | exact Below.refl _ _ | exact HB0.out | refine below_drewN ?_ _ | refine Below.drew ?_ | refine Below.alloc ?_ (by first | omega | (simp; done) | (simp; omega) | (simp [World.setCell]; omega)) _ | refine Below.setCell ?_ (by first | omega | (simp; done) | (simp; omega)) _ | assumption)))
    have K0_1 := Lib.hid (step_blk hb (show Blk _ (w.heap.size) 46 #[.int .i64 (ox), .int .i64 (oy)] by repeat' (first | exact Blk.at_ _ (by first | rfl | (simp; done) | (simp; omega)) _ _ | refine Blk.drewN ?_ _ | refine Blk.drew ?_ | refine Blk.alloc ?_ _ | refine Blk.far ?_ (by first | omega | (simp; done) | (simp; omega)) _ | assumption)))
    have hL1 := Lib.hid (show Below w.heap.size w _ from reads_mid hb (by repeat' (first | exact Below.refl _ _ | refine below_drewN ?_ _ | refine Below.drew ?_ | refine Below.alloc ?_ (by first | omega | (simp; done) | (simp; omega) | (simp [World.setCell]; omega)) _ | refine Below.setCell ?_ (by first | omega | (simp; done) | (simp; omega)) _)))
    have R0_1 := Lib.hid (reads_lay hb hL1.out R0_0.out)
    clear hL1 R0_0
    have hz1 := hb.size
    try simp only [World.size_alloc, World.drewN, World.drew] at hz1
    clear hb
    have l0_1 : w.heap.size < w1.heap.size := K0_1.out.lt
    have z0_0_1 : w1.cell? ⟨w.heap.size, 0, none⟩ = some (.int .i64 (ox)) := K0_1.out.cell 0
    have z0_1_1 : w1.cell? ⟨w.heap.size, 1, none⟩ = some (.int .i64 (oy)) := K0_1.out.cell 1
    go_wp2
    apply share4 (Fact := fun (_ _ z : Pick2) (wz : World) => ∃ bx, z.1.1 = some ⟨bx, 0, none⟩ ∧ w1.heap.size ≤ bx ∧ Below w1.heap.size w1 wz ∧ Blk wz bx 73 #[.int .i64 (0), .int .i64 (0), .int .i64 (0), .int .i64 (0)])
    · intro key
      refine Fx.regionM (fun W (g : Nat → Option Pick2) f w' => ScD 46 73 (n) (cells2 (l)) #[.int .i64 (0), .int .i64 (0), .int .i64 (0), .int .i64 (0)] W g f w') (fun i (x : Pick2) => if i = 8 then .pointer x.1.1 else if i = 2 then .slice x.1.1 (n) x.1.2 else .slice x.1.1 0 0) (by kernel_rfl) ?_ ?_
      · intro f hf0
        exact ScD.start
      first
      | (refine Fx.WM.skip 1 (by rfl) (by kernel_rfl) (by kernel_rfl) (by kernel_rfl) (by rfl) (fun g f w h => h.same (by decide) (by decide)) ?_; simp only [Act.put, List.setIfInBounds_toArray, List.set_cons_zero, List.set_cons_succ])
      | (refine Fx.WM.val_ 1 ?_ (by rfl) (by kernel_rfl) (by kernel_rfl) (by kernel_rfl) (by rfl) ?_ (fun g f w h => h.same (by decide) (by decide)) ?_
         rotate_left
         · intro g f w' hx hD hk
           obtain hsd := id hD
           clear hx hk hD hsd
           go_simp
           try rfl
         simp only [Act.put, List.setIfInBounds_toArray, List.set_cons_zero, List.set_cons_succ])
      first
      | (refine Fx.WM.skip 3 (by rfl) (by kernel_rfl) (by kernel_rfl) (by kernel_rfl) (by rfl) (fun g f w h => h.same (by decide) (by decide)) ?_; simp only [Act.put, List.setIfInBounds_toArray, List.set_cons_zero, List.set_cons_succ])
      | (refine Fx.WM.val_ 3 ?_ (by rfl) (by kernel_rfl) (by kernel_rfl) (by kernel_rfl) (by rfl) ?_ (fun g f w h => h.same (by decide) (by decide)) ?_
         rotate_left
         · intro g f w' hx hD hk
           obtain hsd := id hD
           have y0 := (K0_1.out.below hsd.bel l0_1).cell 0
           have y1 := (K0_1.out.below hsd.bel l0_1).cell 1
           clear hx hk hD hsd
           go_simp
           try rfl
         simp only [Act.put, List.setIfInBounds_toArray, List.set_cons_zero, List.set_cons_succ])
      refine Fx.WM.choose2 0 8 (by rfl) (by rfl) (by kernel_rfl) (by rfl) (by rfl) ?_ ?_ ?_ ?_
      · skip
        refine Fx.Chooses.make (by rfl) ?_
        intro f w' hD hk
        refine ⟨((some ⟨w'.heap.size, 0, none⟩, 0), (none, 0)), w'.alloc (.cells #[] 46), ?_, ?_⟩
        · clear hk hD
          go_simp
          try rfl
        · exact hD.lit (by rfl)
      · skip
        refine Fx.Chooses.make (by rfl) ?_
        intro f w' hD hk
        refine ⟨((some ⟨w'.heap.size, 0, none⟩, 0), (none, 0)), w'.alloc (.cells #[.int .i64 0, .int .i64 0, .int .i64 0, .int .i64 0] 73), ?_, ?_⟩
        · clear hk hD
          go_simp
          try rfl
        · exact hD.make (hk.2.1 9 (by kernel_rfl))
      · skip
        intro x
        simp only [Act.put, List.setIfInBounds_toArray, List.set_cons_zero, List.set_cons_succ]
        refine Fx.WM.choose2 2 8 (by rfl) (by rfl) (by kernel_rfl) (by rfl) (by rfl) ?_ ?_ ?_ ?_
        · skip
          refine Fx.Chooses.make (by rfl) ?_
          intro f w' hD hk
          obtain ⟨y', w2', hrun, hD2⟩ := ScD.app hD hk.1 (hk.2.1 9 (by kernel_rfl)) (by rfl) (((R0_1.out.below hD.bel).more hD.bel.size)) hn1000
          exact ⟨y', w2', exec_append _ _ _ rfl hrun, hD2⟩
        · skip
          refine Fx.Chooses.make (by rfl) ?_
          intro f w' hD hk
          refine ⟨((some ⟨w'.heap.size, 0, none⟩, 0), (none, 0)), w'.alloc (.cells #[.int .i64 0, .int .i64 0, .int .i64 0, .int .i64 0] 73), ?_, ?_⟩
          · clear hk hD
            go_simp
            try rfl
          · exact hD.make (hk.2.1 9 (by kernel_rfl))
        · intro y
          simp only [Act.put, List.setIfInBounds_toArray, List.set_cons_zero, List.set_cons_succ]
          refine Fx.WM.call 4 (.tuple #[.agg #[.int .i64 (0), .int .i64 (0), .int .i64 (0), .int .i64 (0)], .int .i64 (2)]) ?_ ?_ (by rfl) (by kernel_rfl) (by kernel_rfl) (by kernel_rfl) (by rfl) ?_ ?_ ?_
          rotate_left 2
          · intro w'
            go_simp
            refine ⟨?_, ?_⟩ <;> rfl
          · intro g f w' hx hD hk
            exact (pcol_rng y.1.1 n y.1.2 l ox oy HE.out HS.out w' (hD.o2 (hk.2.1 9 (by kernel_rfl)) y (hx 2 _ (by rfl))) (by omega)).mono fun e w'' ⟨he, hw⟩ => ⟨he, hD.call (by decide) (by decide) hw⟩
          simp only [Act.put, List.setIfInBounds_toArray, List.set_cons_zero, List.set_cons_succ]
          first
          | (refine Fx.WM.skip 5 (by rfl) (by kernel_rfl) (by kernel_rfl) (by kernel_rfl) (by rfl) (fun g f w h => h.same (by decide) (by decide)) ?_; simp only [Act.put, List.setIfInBounds_toArray, List.set_cons_zero, List.set_cons_succ])
          | (refine Fx.WM.val_ 5 ?_ (by rfl) (by kernel_rfl) (by kernel_rfl) (by kernel_rfl) (by rfl) ?_ (fun g f w h => h.same (by decide) (by decide)) ?_
             rotate_left
             · intro g f w' hx hD hk
               obtain hsd := id hD
               clear hx hk hD hsd
               go_simp
               try rfl
             simp only [Act.put, List.setIfInBounds_toArray, List.set_cons_zero, List.set_cons_succ])
          first
          | (refine Fx.WM.skip 6 (by rfl) (by kernel_rfl) (by kernel_rfl) (by kernel_rfl) (by rfl) (fun g f w h => h.same (by decide) (by decide)) ?_; simp only [Act.put, List.setIfInBounds_toArray, List.set_cons_zero, List.set_cons_succ])
          | (refine Fx.WM.val_ 6 ?_ (by rfl) (by kernel_rfl) (by kernel_rfl) (by kernel_rfl) (by rfl) ?_ (fun g f w h => h.same (by decide) (by decide)) ?_
             rotate_left
             · intro g f w' hx hD hk
               obtain hsd := id hD
               clear hx hk hD hsd
               go_simp
               try rfl
             simp only [Act.put, List.setIfInBounds_toArray, List.set_cons_zero, List.set_cons_succ])
          first
          | (refine Fx.WM.skip 7 (by rfl) (by kernel_rfl) (by kernel_rfl) (by kernel_rfl) (by rfl) (fun g f w h => h.same (by decide) (by decide)) ?_; simp only [Act.put, List.setIfInBounds_toArray, List.set_cons_zero, List.set_cons_succ])
          | (refine Fx.WM.val_ 7 ?_ (by rfl) (by kernel_rfl) (by kernel_rfl) (by kernel_rfl) (by rfl) ?_ (fun g f w h => h.same (by decide) (by decide)) ?_
             rotate_left
             · intro g f w' hx hD hk
               obtain hsd := id hD
               clear hx hk hD hsd
               go_simp
               try rfl
             simp only [Act.put, List.setIfInBounds_toArray, List.set_cons_zero, List.set_cons_succ])
          refine Fx.WM.choose 8 (by rfl) (by kernel_rfl) (by rfl) ?_ ?_
          · skip
            refine Fx.Chooses.make (by rfl) ?_
            intro f w' hD hk
            refine ⟨((some ⟨w'.heap.size, 0, none⟩, 0), (none, 0)), w'.alloc (.cells #[.int .i64 0, .int .i64 0, .int .i64 0, .int .i64 0] 73), ?_, ?_⟩
            · clear hk hD
              go_simp
              try rfl
            · exact hD.make (hk.2.1 9 (by kernel_rfl))
          intro z
          simp only [Act.put, List.setIfInBounds_toArray, List.set_cons_zero, List.set_cons_succ]
          refine Fx.WM.eff 9 undef (by rfl) (by kernel_rfl) (by kernel_rfl) (by kernel_rfl) (by rfl) ?_ ?_
          · intro g f w' hx hD hk
            obtain ⟨bx, c0, c1, c2, c3, r0, r1, r2, r3, r4, r5, r6, r7, r8⟩ := ScD.cells hD (hx 8 _ (by rfl))
            refine Fx.gives_skip (w' := ((((w'.setCell ⟨bx, 0, none⟩ (.int .i64 (0))).setCell ⟨bx, 1, none⟩ (.int .i64 (0))).setCell ⟨bx, 2, none⟩ (.int .i64 (0))).setCell ⟨bx, 3, none⟩ (.int .i64 (0)))) ?_ ?_
            · clear hx hk hD
              go_simp
              try rfl
            · exact ScD.store hD (hx 8 _ (by rfl)) r0 (hk.2.2.1 2 (by kernel_rfl))
          simp only [Act.put, List.setIfInBounds_toArray, List.set_cons_zero, List.set_cons_succ]
          first
          | (refine Fx.WM.skip 10 (by rfl) (by kernel_rfl) (by kernel_rfl) (by kernel_rfl) (by rfl) (fun g f w h => h.same (by decide) (by decide)) ?_; simp only [Act.put, List.setIfInBounds_toArray, List.set_cons_zero, List.set_cons_succ])
          | (refine Fx.WM.val_ 10 ?_ (by rfl) (by kernel_rfl) (by kernel_rfl) (by kernel_rfl) (by rfl) ?_ (fun g f w h => h.same (by decide) (by decide)) ?_
             rotate_left
             · intro g f w' hx hD hk
               obtain hsd := id hD
               clear hx hk hD hsd
               go_simp
               try rfl
             simp only [Act.put, List.setIfInBounds_toArray, List.set_cons_zero, List.set_cons_succ])
          refine Fx.WM.nil (by kernel_rfl) ?_
          intro wz hsd
          obtain ⟨bx, h1, h2, h3⟩ := ScD.end_ hsd (z := z) (by rfl) (by rfl)
          exact key x y z wz ⟨bx, h1, h2, hsd.bel, h3⟩
        · intro z
          simp only [Act.put, List.setIfInBounds_toArray, List.set_cons_zero, List.set_cons_succ]
          refine Fx.WM.choose 2 (by rfl) (by kernel_rfl) (by rfl) ?_ ?_
          · skip
            refine Fx.Chooses.make (by rfl) ?_
            intro f w' hD hk
            obtain ⟨y', w2', hrun, hD2⟩ := ScD.app hD hk.1 (hk.2.1 9 (by kernel_rfl)) (by rfl) (((R0_1.out.below hD.bel).more hD.bel.size)) hn1000
            exact ⟨y', w2', exec_append _ _ _ rfl hrun, hD2⟩
          intro y
          simp only [Act.put, List.setIfInBounds_toArray, List.set_cons_zero, List.set_cons_succ]
          refine Fx.WM.call 4 (.tuple #[.agg #[.int .i64 (0), .int .i64 (0), .int .i64 (0), .int .i64 (0)], .int .i64 (2)]) ?_ ?_ (by rfl) (by kernel_rfl) (by kernel_rfl) (by kernel_rfl) (by rfl) ?_ ?_ ?_
          rotate_left 2
          · intro w'
            go_simp
            refine ⟨?_, ?_⟩ <;> rfl
          · intro g f w' hx hD hk
            exact (pcol_rng y.1.1 n y.1.2 l ox oy HE.out HS.out w' (hD.o2 (hk.2.1 9 (by kernel_rfl)) y (hx 2 _ (by rfl))) (by omega)).mono fun e w'' ⟨he, hw⟩ => ⟨he, hD.call (by decide) (by decide) hw⟩
          simp only [Act.put, List.setIfInBounds_toArray, List.set_cons_zero, List.set_cons_succ]
          first
          | (refine Fx.WM.skip 5 (by rfl) (by kernel_rfl) (by kernel_rfl) (by kernel_rfl) (by rfl) (fun g f w h => h.same (by decide) (by decide)) ?_; simp only [Act.put, List.setIfInBounds_toArray, List.set_cons_zero, List.set_cons_succ])
          | (refine Fx.WM.val_ 5 ?_ (by rfl) (by kernel_rfl) (by kernel_rfl) (by kernel_rfl) (by rfl) ?_ (fun g f w h => h.same (by decide) (by decide)) ?_
             rotate_left
             · intro g f w' hx hD hk
               obtain hsd := id hD
               clear hx hk hD hsd
               go_simp
               try rfl
             simp only [Act.put, List.setIfInBounds_toArray, List.set_cons_zero, List.set_cons_succ])
          first
          | (refine Fx.WM.skip 6 (by rfl) (by kernel_rfl) (by kernel_rfl) (by kernel_rfl) (by rfl) (fun g f w h => h.same (by decide) (by decide)) ?_; simp only [Act.put, List.setIfInBounds_toArray, List.set_cons_zero, List.set_cons_succ])
          | (refine Fx.WM.val_ 6 ?_ (by rfl) (by kernel_rfl) (by kernel_rfl) (by kernel_rfl) (by rfl) ?_ (fun g f w h => h.same (by decide) (by decide)) ?_
             rotate_left
             · intro g f w' hx hD hk
               obtain hsd := id hD
               clear hx hk hD hsd
               go_simp
               try rfl
             simp only [Act.put, List.setIfInBounds_toArray, List.set_cons_zero, List.set_cons_succ])
          first
          | (refine Fx.WM.skip 7 (by rfl) (by kernel_rfl) (by kernel_rfl) (by kernel_rfl) (by rfl) (fun g f w h => h.same (by decide) (by decide)) ?_; simp only [Act.put, List.setIfInBounds_toArray, List.set_cons_zero, List.set_cons_succ])
          | (refine Fx.WM.val_ 7 ?_ (by rfl) (by kernel_rfl) (by kernel_rfl) (by kernel_rfl) (by rfl) ?_ (fun g f w h => h.same (by decide) (by decide)) ?_
             rotate_left
             · intro g f w' hx hD hk
               obtain hsd := id hD
               clear hx hk hD hsd
               go_simp
               try rfl
             simp only [Act.put, List.setIfInBounds_toArray, List.set_cons_zero, List.set_cons_succ])
          refine Fx.WM.eff 9 undef (by rfl) (by kernel_rfl) (by kernel_rfl) (by kernel_rfl) (by rfl) ?_ ?_
          · intro g f w' hx hD hk
            obtain ⟨bx, c0, c1, c2, c3, r0, r1, r2, r3, r4, r5, r6, r7, r8⟩ := ScD.cells hD (hx 8 _ (by rfl))
            refine Fx.gives_skip (w' := ((((w'.setCell ⟨bx, 0, none⟩ (.int .i64 (0))).setCell ⟨bx, 1, none⟩ (.int .i64 (0))).setCell ⟨bx, 2, none⟩ (.int .i64 (0))).setCell ⟨bx, 3, none⟩ (.int .i64 (0)))) ?_ ?_
            · clear hx hk hD
              go_simp
              try rfl
            · exact ScD.store hD (hx 8 _ (by rfl)) r0 (hk.2.2.1 2 (by kernel_rfl))
          simp only [Act.put, List.setIfInBounds_toArray, List.set_cons_zero, List.set_cons_succ]
          first
          | (refine Fx.WM.skip 10 (by rfl) (by kernel_rfl) (by kernel_rfl) (by kernel_rfl) (by rfl) (fun g f w h => h.same (by decide) (by decide)) ?_; simp only [Act.put, List.setIfInBounds_toArray, List.set_cons_zero, List.set_cons_succ])
          | (refine Fx.WM.val_ 10 ?_ (by rfl) (by kernel_rfl) (by kernel_rfl) (by kernel_rfl) (by rfl) ?_ (fun g f w h => h.same (by decide) (by decide)) ?_
             rotate_left
             · intro g f w' hx hD hk
               obtain hsd := id hD
               clear hx hk hD hsd
               go_simp
               try rfl
             simp only [Act.put, List.setIfInBounds_toArray, List.set_cons_zero, List.set_cons_succ])
          refine Fx.WM.nil (by kernel_rfl) ?_
          intro wz hsd
          obtain ⟨bx, h1, h2, h3⟩ := ScD.end_ hsd (z := z) (by rfl) (by rfl)
          exact key x y z wz ⟨bx, h1, h2, hsd.bel, h3⟩
      · skip
        intro z
        simp only [Act.put, List.setIfInBounds_toArray, List.set_cons_zero, List.set_cons_succ]
        refine Fx.WM.choose 0 (by rfl) (by kernel_rfl) (by rfl) ?_ ?_
        · skip
          refine Fx.Chooses.make (by rfl) ?_
          intro f w' hD hk
          refine ⟨((some ⟨w'.heap.size, 0, none⟩, 0), (none, 0)), w'.alloc (.cells #[] 46), ?_, ?_⟩
          · clear hk hD
            go_simp
            try rfl
          · exact hD.lit (by rfl)
        intro x
        simp only [Act.put, List.setIfInBounds_toArray, List.set_cons_zero, List.set_cons_succ]
        refine Fx.WM.choose 2 (by rfl) (by kernel_rfl) (by rfl) ?_ ?_
        · skip
          refine Fx.Chooses.make (by rfl) ?_
          intro f w' hD hk
          obtain ⟨y', w2', hrun, hD2⟩ := ScD.app hD hk.1 (hk.2.1 9 (by kernel_rfl)) (by rfl) (((R0_1.out.below hD.bel).more hD.bel.size)) hn1000
          exact ⟨y', w2', exec_append _ _ _ rfl hrun, hD2⟩
        intro y
        simp only [Act.put, List.setIfInBounds_toArray, List.set_cons_zero, List.set_cons_succ]
        refine Fx.WM.call 4 (.tuple #[.agg #[.int .i64 (0), .int .i64 (0), .int .i64 (0), .int .i64 (0)], .int .i64 (2)]) ?_ ?_ (by rfl) (by kernel_rfl) (by kernel_rfl) (by kernel_rfl) (by rfl) ?_ ?_ ?_
        rotate_left 2
        · intro w'
          go_simp
          refine ⟨?_, ?_⟩ <;> rfl
        · intro g f w' hx hD hk
          exact (pcol_rng y.1.1 n y.1.2 l ox oy HE.out HS.out w' (hD.o2 (hk.2.1 9 (by kernel_rfl)) y (hx 2 _ (by rfl))) (by omega)).mono fun e w'' ⟨he, hw⟩ => ⟨he, hD.call (by decide) (by decide) hw⟩
        simp only [Act.put, List.setIfInBounds_toArray, List.set_cons_zero, List.set_cons_succ]
        first
        | (refine Fx.WM.skip 5 (by rfl) (by kernel_rfl) (by kernel_rfl) (by kernel_rfl) (by rfl) (fun g f w h => h.same (by decide) (by decide)) ?_; simp only [Act.put, List.setIfInBounds_toArray, List.set_cons_zero, List.set_cons_succ])
        | (refine Fx.WM.val_ 5 ?_ (by rfl) (by kernel_rfl) (by kernel_rfl) (by kernel_rfl) (by rfl) ?_ (fun g f w h => h.same (by decide) (by decide)) ?_
           rotate_left
           · intro g f w' hx hD hk
             obtain hsd := id hD
             clear hx hk hD hsd
             go_simp
             try rfl
           simp only [Act.put, List.setIfInBounds_toArray, List.set_cons_zero, List.set_cons_succ])
        first
        | (refine Fx.WM.skip 6 (by rfl) (by kernel_rfl) (by kernel_rfl) (by kernel_rfl) (by rfl) (fun g f w h => h.same (by decide) (by decide)) ?_; simp only [Act.put, List.setIfInBounds_toArray, List.set_cons_zero, List.set_cons_succ])
        | (refine Fx.WM.val_ 6 ?_ (by rfl) (by kernel_rfl) (by kernel_rfl) (by kernel_rfl) (by rfl) ?_ (fun g f w h => h.same (by decide) (by decide)) ?_
           rotate_left
           · intro g f w' hx hD hk
             obtain hsd := id hD
             clear hx hk hD hsd
             go_simp
             try rfl
           simp only [Act.put, List.setIfInBounds_toArray, List.set_cons_zero, List.set_cons_succ])
        first
        | (refine Fx.WM.skip 7 (by rfl) (by kernel_rfl) (by kernel_rfl) (by kernel_rfl) (by rfl) (fun g f w h => h.same (by decide) (by decide)) ?_; simp only [Act.put, List.setIfInBounds_toArray, List.set_cons_zero, List.set_cons_succ])
        | (refine Fx.WM.val_ 7 ?_ (by rfl) (by kernel_rfl) (by kernel_rfl) (by kernel_rfl) (by rfl) ?_ (fun g f w h => h.same (by decide) (by decide)) ?_
           rotate_left
           · intro g f w' hx hD hk
             obtain hsd := id hD
             clear hx hk hD hsd
             go_simp
             try rfl
           simp only [Act.put, List.setIfInBounds_toArray, List.set_cons_zero, List.set_cons_succ])
        refine Fx.WM.eff 9 undef (by rfl) (by kernel_rfl) (by kernel_rfl) (by kernel_rfl) (by rfl) ?_ ?_
        · intro g f w' hx hD hk
          obtain ⟨bx, c0, c1, c2, c3, r0, r1, r2, r3, r4, r5, r6, r7, r8⟩ := ScD.cells hD (hx 8 _ (by rfl))
          refine Fx.gives_skip (w' := ((((w'.setCell ⟨bx, 0, none⟩ (.int .i64 (0))).setCell ⟨bx, 1, none⟩ (.int .i64 (0))).setCell ⟨bx, 2, none⟩ (.int .i64 (0))).setCell ⟨bx, 3, none⟩ (.int .i64 (0)))) ?_ ?_
          · clear hx hk hD
            go_simp
            try rfl
          · exact ScD.store hD (hx 8 _ (by rfl)) r0 (hk.2.2.1 2 (by kernel_rfl))
        simp only [Act.put, List.setIfInBounds_toArray, List.set_cons_zero, List.set_cons_succ]
        first
        | (refine Fx.WM.skip 10 (by rfl) (by kernel_rfl) (by kernel_rfl) (by kernel_rfl) (by rfl) (fun g f w h => h.same (by decide) (by decide)) ?_; simp only [Act.put, List.setIfInBounds_toArray, List.set_cons_zero, List.set_cons_succ])
        | (refine Fx.WM.val_ 10 ?_ (by rfl) (by kernel_rfl) (by kernel_rfl) (by kernel_rfl) (by rfl) ?_ (fun g f w h => h.same (by decide) (by decide)) ?_
           rotate_left
           · intro g f w' hx hD hk
             obtain hsd := id hD
             clear hx hk hD hsd
             go_simp
             try rfl
           simp only [Act.put, List.setIfInBounds_toArray, List.set_cons_zero, List.set_cons_succ])
        refine Fx.WM.nil (by kernel_rfl) ?_
        intro wz hsd
        obtain ⟨bx, h1, h2, h3⟩ := ScD.end_ hsd (z := z) (by rfl) (by rfl)
        exact key x y z wz ⟨bx, h1, h2, hsd.bel, h3⟩
    rintro x0 y0 ⟨⟨z1, z2⟩, z3⟩ w2 ⟨bx, hz, hbx, hb, hblk⟩
    simp only at hz
    subst hz
    have HB2 := Lib.hid (show Below w.heap.size w w2 from step_below hb (by repeat' (first | exact Below.refl _ _ | exact HB1.out | refine below_drewN ?_ _ | refine Below.drew ?_ | refine Below.alloc ?_ (by first | omega | (simp; done) | (simp; omega) | (simp [World.setCell]; omega)) _ | refine Below.setCell ?_ (by first | omega | (simp; done) | (simp; omega)) _ | assumption)))
    have K0_2 := Lib.hid (step_blk hb (show Blk _ (w.heap.size) 46 #[.int .i64 (ox), .int .i64 (oy)] by repeat' (first | exact K0_1.out | exact Blk.at_ _ (by first | rfl | (simp; done) | (simp; omega)) _ _ | refine Blk.drewN ?_ _ | refine Blk.drew ?_ | refine Blk.alloc ?_ _ | refine Blk.far ?_ (by first | omega | (simp; done) | (simp; omega)) _ | assumption)))
    have hL2 := Lib.hid (show Below w1.heap.size w1 _ from reads_mid hb (by repeat' (first | exact Below.refl _ _ | refine below_drewN ?_ _ | refine Below.drew ?_ | refine Below.alloc ?_ (by first | omega | (simp; done) | (simp; omega) | (simp [World.setCell]; omega)) _ | refine Below.setCell ?_ (by first | omega | (simp; done) | (simp; omega)) _)))
    have R0_2 := Lib.hid (reads_lay hb hL2.out R0_1.out)
    clear hL2 R0_1
    have hz2 := hb.size
    try simp only [World.size_alloc, World.drewN, World.drew] at hz2
    clear hb K0_1 z0_0_1 z0_1_1 l0_1
    have l0_2 : w.heap.size < w2.heap.size := K0_2.out.lt
    have z0_0_2 : w2.cell? ⟨w.heap.size, 0, none⟩ = some (.int .i64 (ox)) := K0_2.out.cell 0
    have z0_1_2 : w2.cell? ⟨w.heap.size, 1, none⟩ = some (.int .i64 (oy)) := K0_2.out.cell 1
    have K1_2 := Lib.hid (show Blk w2 (bx) 73 #[.int .i64 (0), .int .i64 (0), .int .i64 (0), .int .i64 (0)] from hblk)
    clear hblk
    have l1_2 : bx < w2.heap.size := K1_2.out.lt
    have z1_0_2 : w2.cell? ⟨bx, 0, none⟩ = some (.int .i64 (0)) := K1_2.out.cell 0
    have z1_1_2 : w2.cell? ⟨bx, 1, none⟩ = some (.int .i64 (0)) := K1_2.out.cell 1
    have z1_2_2 : w2.cell? ⟨bx, 2, none⟩ = some (.int .i64 (0)) := K1_2.out.cell 2
    have z1_3_2 : w2.cell? ⟨bx, 3, none⟩ = some (.int .i64 (0)) := K1_2.out.cell 3
    go_wp2_with fail
    refine (rscrews_is A n c l 0 HE.out _ R0_2.out (by omega)).mono ?_
    rintro e w3 ⟨rfl, hb⟩
    have HB3 := Lib.hid (show Below w.heap.size w w3 from step_below hb (by repeat' (first | exact Below.refl _ _ | exact HB2.out | refine below_drewN ?_ _ | refine Below.drew ?_ | refine Below.alloc ?_ (by first | omega | (simp; done) | (simp; omega) | (simp [World.setCell]; omega)) _ | refine Below.setCell ?_ (by first | omega | (simp; done) | (simp; omega)) _ | assumption)))
    have K0_3 := Lib.hid (step_blk hb (show Blk _ (w.heap.size) 46 #[.int .i64 (ox), .int .i64 (oy)] by repeat' (first | exact K0_2.out | exact K1_2.out | exact Blk.at_ _ (by first | rfl | (simp; done) | (simp; omega)) _ _ | refine Blk.drewN ?_ _ | refine Blk.drew ?_ | refine Blk.alloc ?_ _ | refine Blk.far ?_ (by first | omega | (simp; done) | (simp; omega)) _ | assumption)))
    have K1_3 := Lib.hid (step_blk hb (show Blk _ (bx) 73 #[.int .i64 (0), .int .i64 (0), .int .i64 (0), .int .i64 (0)] by repeat' (first | exact K0_2.out | exact K1_2.out | exact Blk.at_ _ (by first | rfl | (simp; done) | (simp; omega)) _ _ | refine Blk.drewN ?_ _ | refine Blk.drew ?_ | refine Blk.alloc ?_ _ | refine Blk.far ?_ (by first | omega | (simp; done) | (simp; omega)) _ | assumption)))
    have hL3 := Lib.hid (show Below w2.heap.size w2 _ from reads_mid hb (by repeat' (first | exact Below.refl _ _ | refine below_drewN ?_ _ | refine Below.drew ?_ | refine Below.alloc ?_ (by first | omega | (simp; done) | (simp; omega) | (simp [World.setCell]; omega)) _ | refine Below.setCell ?_ (by first | omega | (simp; done) | (simp; omega)) _)))
    have R0_3 := Lib.hid (reads_lay hb hL3.out R0_2.out)
    clear hL3 R0_2
    have hz3 := hb.size
    try simp only [World.size_alloc, World.drewN, World.drew] at hz3
    clear hb K0_2 K1_2 z0_0_2 z0_1_2 l0_2 z1_0_2 z1_1_2 z1_2_2 z1_3_2 l1_2
    have l0_3 : w.heap.size < w3.heap.size := K0_3.out.lt
    have z0_0_3 : w3.cell? ⟨w.heap.size, 0, none⟩ = some (.int .i64 (ox)) := K0_3.out.cell 0
    have z0_1_3 : w3.cell? ⟨w.heap.size, 1, none⟩ = some (.int .i64 (oy)) := K0_3.out.cell 1
    have l1_3 : bx < w3.heap.size := K1_3.out.lt
    have z1_0_3 : w3.cell? ⟨bx, 0, none⟩ = some (.int .i64 (0)) := K1_3.out.cell 0
    have z1_1_3 : w3.cell? ⟨bx, 1, none⟩ = some (.int .i64 (0)) := K1_3.out.cell 1
    have z1_2_3 : w3.cell? ⟨bx, 2, none⟩ = some (.int .i64 (0)) := K1_3.out.cell 2
    have z1_3_3 : w3.cell? ⟨bx, 3, none⟩ = some (.int .i64 (0)) := K1_3.out.cell 3
    obtain ⟨v7, W7, hrun7, ho7, hb7⟩ := copy_run (P := Try.prog) 70 70 46 _ 2 16 Try.underlying70 info_arr2 rfl (by omega) w3 w3.heap.size A (n) c (cells2 (l)) R0_3.out (Nat.le_refl _) (one_cells2 _) (by unfold maxLen; omega) (by omega)
    obtain ⟨A7, c7, rfl, hr7⟩ := own_reads ho7
    have HRUN7 := Lib.hid hrun7
    clear hrun7 ho7
    go_wp2_with (first | (at_builtin; refine wpList_app _ W7 _ rfl _ _ _ rfl _ _ rfl rfl HRUN7.out ?_))
    obtain ⟨w4, hnm⟩ : ∃ z : World, z = W7 := ⟨_, rfl⟩
    subst hnm
    have HB4 := Lib.hid (show Below w.heap.size w w4 from step_below hb7 (by repeat' (first | exact Below.refl _ _ | exact HB3.out | refine below_drewN ?_ _ | refine Below.drew ?_ | refine Below.alloc ?_ (by first | omega | (simp; done) | (simp; omega) | (simp [World.setCell]; omega)) _ | refine Below.setCell ?_ (by first | omega | (simp; done) | (simp; omega)) _ | assumption)))
    have K0_4 := Lib.hid (step_blk hb7 (show Blk _ (w.heap.size) 46 #[.int .i64 (ox), .int .i64 (oy)] by repeat' (first | exact K0_3.out | exact K1_3.out | exact Blk.at_ _ (by first | rfl | (simp; done) | (simp; omega)) _ _ | refine Blk.drewN ?_ _ | refine Blk.drew ?_ | refine Blk.alloc ?_ _ | refine Blk.far ?_ (by first | omega | (simp; done) | (simp; omega)) _ | assumption)))
    have K1_4 := Lib.hid (step_blk hb7 (show Blk _ (bx) 73 #[.int .i64 (0), .int .i64 (0), .int .i64 (0), .int .i64 (0)] by repeat' (first | exact K0_3.out | exact K1_3.out | exact Blk.at_ _ (by first | rfl | (simp; done) | (simp; omega)) _ _ | refine Blk.drewN ?_ _ | refine Blk.drew ?_ | refine Blk.alloc ?_ _ | refine Blk.far ?_ (by first | omega | (simp; done) | (simp; omega)) _ | assumption)))
    have hL4 := Lib.hid (show Below w3.heap.size w3 _ from reads_mid hb7 (by repeat' (first | exact Below.refl _ _ | refine below_drewN ?_ _ | refine Below.drew ?_ | refine Below.alloc ?_ (by first | omega | (simp; done) | (simp; omega) | (simp [World.setCell]; omega)) _ | refine Below.setCell ?_ (by first | omega | (simp; done) | (simp; omega)) _)))
    have R0_4 := Lib.hid (reads_lay hb7 hL4.out R0_3.out)
    clear hL4 R0_3
    have hz4 := hb7.size
    try simp only [World.size_alloc, World.drewN, World.drew] at hz4
    clear hb7 K0_3 K1_3 z0_0_3 z0_1_3 l0_3 z1_0_3 z1_1_3 z1_2_3 z1_3_3 l1_3
    have l0_4 : w.heap.size < w4.heap.size := K0_4.out.lt
    have z0_0_4 : w4.cell? ⟨w.heap.size, 0, none⟩ = some (.int .i64 (ox)) := K0_4.out.cell 0
    have z0_1_4 : w4.cell? ⟨w.heap.size, 1, none⟩ = some (.int .i64 (oy)) := K0_4.out.cell 1
    have l1_4 : bx < w4.heap.size := K1_4.out.lt
    have z1_0_4 : w4.cell? ⟨bx, 0, none⟩ = some (.int .i64 (0)) := K1_4.out.cell 0
    have z1_1_4 : w4.cell? ⟨bx, 1, none⟩ = some (.int .i64 (0)) := K1_4.out.cell 1
    have z1_2_4 : w4.cell? ⟨bx, 2, none⟩ = some (.int .i64 (0)) := K1_4.out.cell 2
    have z1_3_4 : w4.cell? ⟨bx, 3, none⟩ = some (.int .i64 (0)) := K1_4.out.cell 3
    have R1_4 := Lib.hid hr7
    clear hr7
    go_wp2_with fail
    refine (pscrews_is A7 n c7 l 0 HE.out _ R1_4.out (by omega)).mono ?_
    rintro e w5 ⟨rfl, hb⟩
    have HB5 := Lib.hid (show Below w.heap.size w w5 from step_below hb (by repeat' (first | exact Below.refl _ _ | exact HB4.out | refine below_drewN ?_ _ | refine Below.drew ?_ | refine Below.alloc ?_ (by first | omega | (simp; done) | (simp; omega) | (simp [World.setCell]; omega)) _ | refine Below.setCell ?_ (by first | omega | (simp; done) | (simp; omega)) _ | assumption)))
    have K0_5 := Lib.hid (step_blk hb (show Blk _ (w.heap.size) 46 #[.int .i64 (ox), .int .i64 (oy)] by repeat' (first | exact K0_4.out | exact K1_4.out | exact Blk.at_ _ (by first | rfl | (simp; done) | (simp; omega)) _ _ | refine Blk.drewN ?_ _ | refine Blk.drew ?_ | refine Blk.alloc ?_ _ | refine Blk.far ?_ (by first | omega | (simp; done) | (simp; omega)) _ | assumption)))
    have K1_5 := Lib.hid (step_blk hb (show Blk _ (bx) 73 #[.int .i64 (0), .int .i64 (0), .int .i64 (0), .int .i64 (0)] by repeat' (first | exact K0_4.out | exact K1_4.out | exact Blk.at_ _ (by first | rfl | (simp; done) | (simp; omega)) _ _ | refine Blk.drewN ?_ _ | refine Blk.drew ?_ | refine Blk.alloc ?_ _ | refine Blk.far ?_ (by first | omega | (simp; done) | (simp; omega)) _ | assumption)))
    have hL5 := Lib.hid (show Below w4.heap.size w4 _ from reads_mid hb (by repeat' (first | exact Below.refl _ _ | refine below_drewN ?_ _ | refine Below.drew ?_ | refine Below.alloc ?_ (by first | omega | (simp; done) | (simp; omega) | (simp [World.setCell]; omega)) _ | refine Below.setCell ?_ (by first | omega | (simp; done) | (simp; omega)) _)))
    have R0_5 := Lib.hid (reads_lay hb hL5.out R0_4.out)
    have R1_5 := Lib.hid (reads_lay hb hL5.out R1_4.out)
    clear hL5 R0_4 R1_4
    have hz5 := hb.size
    try simp only [World.size_alloc, World.drewN, World.drew] at hz5
    clear hb K0_4 K1_4 z0_0_4 z0_1_4 l0_4 z1_0_4 z1_1_4 z1_2_4 z1_3_4 l1_4
    have l0_5 : w.heap.size < w5.heap.size := K0_5.out.lt
    have z0_0_5 : w5.cell? ⟨w.heap.size, 0, none⟩ = some (.int .i64 (ox)) := K0_5.out.cell 0
    have z0_1_5 : w5.cell? ⟨w.heap.size, 1, none⟩ = some (.int .i64 (oy)) := K0_5.out.cell 1
    have l1_5 : bx < w5.heap.size := K1_5.out.lt
    have z1_0_5 : w5.cell? ⟨bx, 0, none⟩ = some (.int .i64 (0)) := K1_5.out.cell 0
    have z1_1_5 : w5.cell? ⟨bx, 1, none⟩ = some (.int .i64 (0)) := K1_5.out.cell 1
    have z1_2_5 : w5.cell? ⟨bx, 2, none⟩ = some (.int .i64 (0)) := K1_5.out.cell 2
    have z1_3_5 : w5.cell? ⟨bx, 3, none⟩ = some (.int .i64 (0)) := K1_5.out.cell 3
    go_wp2_with fail
    refine (isoff_is ox oy false HS.out _).mono ?_
    rintro e w6 ⟨rfl, hb⟩
    have HB6 := Lib.hid (show Below w.heap.size w w6 from step_below hb (by repeat' (first | exact Below.refl _ _ | exact HB5.out | refine below_drewN ?_ _ | refine Below.drew ?_ | refine Below.alloc ?_ (by first | omega | (simp; done) | (simp; omega) | (simp [World.setCell]; omega)) _ | refine Below.setCell ?_ (by first | omega | (simp; done) | (simp; omega)) _ | assumption)))
    have K0_6 := Lib.hid (step_blk hb (show Blk _ (w.heap.size) 46 #[.int .i64 (ox), .int .i64 (oy)] by repeat' (first | exact K0_5.out | exact K1_5.out | exact Blk.at_ _ (by first | rfl | (simp; done) | (simp; omega)) _ _ | refine Blk.drewN ?_ _ | refine Blk.drew ?_ | refine Blk.alloc ?_ _ | refine Blk.far ?_ (by first | omega | (simp; done) | (simp; omega)) _ | assumption)))
    have K1_6 := Lib.hid (step_blk hb (show Blk _ (bx) 73 #[.int .i64 (0), .int .i64 (0), .int .i64 (0), .int .i64 (0)] by repeat' (first | exact K0_5.out | exact K1_5.out | exact Blk.at_ _ (by first | rfl | (simp; done) | (simp; omega)) _ _ | refine Blk.drewN ?_ _ | refine Blk.drew ?_ | refine Blk.alloc ?_ _ | refine Blk.far ?_ (by first | omega | (simp; done) | (simp; omega)) _ | assumption)))
    have hL6 := Lib.hid (show Below w5.heap.size w5 _ from reads_mid hb (by repeat' (first | exact Below.refl _ _ | refine below_drewN ?_ _ | refine Below.drew ?_ | refine Below.alloc ?_ (by first | omega | (simp; done) | (simp; omega) | (simp [World.setCell]; omega)) _ | refine Below.setCell ?_ (by first | omega | (simp; done) | (simp; omega)) _)))
    have R0_6 := Lib.hid (reads_lay hb hL6.out R0_5.out)
    have R1_6 := Lib.hid (reads_lay hb hL6.out R1_5.out)
    clear hL6 R0_5 R1_5
    have hz6 := hb.size
    try simp only [World.size_alloc, World.drewN, World.drew] at hz6
    clear hb K0_5 K1_5 z0_0_5 z0_1_5 l0_5 z1_0_5 z1_1_5 z1_2_5 z1_3_5 l1_5
    have l0_6 : w.heap.size < w6.heap.size := K0_6.out.lt
    have z0_0_6 : w6.cell? ⟨w.heap.size, 0, none⟩ = some (.int .i64 (ox)) := K0_6.out.cell 0
    have z0_1_6 : w6.cell? ⟨w.heap.size, 1, none⟩ = some (.int .i64 (oy)) := K0_6.out.cell 1
    have l1_6 : bx < w6.heap.size := K1_6.out.lt
    have z1_0_6 : w6.cell? ⟨bx, 0, none⟩ = some (.int .i64 (0)) := K1_6.out.cell 0
    have z1_1_6 : w6.cell? ⟨bx, 1, none⟩ = some (.int .i64 (0)) := K1_6.out.cell 1
    have z1_2_6 : w6.cell? ⟨bx, 2, none⟩ = some (.int .i64 (0)) := K1_6.out.cell 2
    have z1_3_6 : w6.cell? ⟨bx, 3, none⟩ = some (.int .i64 (0)) := K1_6.out.cell 3
    go_wp2
    go_ret
    exact ⟨rfl, by repeat' (first | exact Below.refl _ _ | exact HB6.out | refine below_drewN ?_ _ | refine Below.drew ?_ | refine Below.alloc ?_ (by first | omega | (simp; done) | (simp; omega) | (simp [World.setCell]; omega)) _ | refine Below.setCell ?_ (by first | omega | (simp; done) | (simp; omega)) _ | assumption)⟩
  have hl2 : l.length = 2 := by
    have h := HE.out
    unfold scrErr at h
    by_cases h2 : l.length = 2
    · exact h2
    · rw [if_pos h2] at h; exact absurd h (by decide)
  obtain rfl : n = 2 := by omega
  obtain ⟨a0, a1, b0, b1, rfl⟩ := two_of hl2
  obtain ⟨p0, p1, q0, q1, hq⟩ : ∃ p0 p1 q0 q1, colF [(a0, a1), (b0, b1)] ox oy = ((p0, p1), (q0, q1)) := ⟨_, _, _, _, rfl⟩
  obtain ⟨hss, hd0⟩ := scr_right HE.out
  obtain ⟨r1, r2, r3, r4⟩ := small4 hss
  have hxy : (-100000 ≤ ox ∧ ox ≤ 100000) ∧ (-100000 ≤ oy ∧ oy ≤ 100000) := by simpa [smallL, withinB_iff] using hs
  obtain ⟨rx, ry⟩ := hxy
  have hd : scrDet [(a0, a1), (b0, b1)] = a0 * b1 - b0 * a1 := rfl
  have hc1 : lowF (b0 * oy - b1 * ox) (a0 * b1 - b0 * a1) = (p0, p1) := congrArg Prod.fst hq
  have hc2 : lowF (a1 * ox - a0 * oy) (a0 * b1 - b0 * a1) = (q0, q1) := congrArg Prod.snd hq
  rw [hd] at hd0
  obtain ⟨s1, s2, s3, s4⟩ := low_spec hc1 hd0
  obtain ⟨t1, t2, t3, t4⟩ := low_spec hc2 hd0
  have m1 := mulb r3 ry (by decide) (by decide)
  have m2 := mulb r4 rx (by decide) (by decide)
  have m3 := mulb r2 rx (by decide) (by decide)
  have m4 := mulb r1 ry (by decide) (by decide)
  have m5 := mulb r1 r4 (by decide) (by decide)
  have m6 := mulb r3 r2 (by decide) (by decide)
  have bp0 : -200000000 ≤ p0 ∧ p0 ≤ 200000000 := by omega
  have bq0 : -200000000 ≤ q0 ∧ q0 ≤ 200000000 := by omega
  have bp1 : -2000000 ≤ p1 ∧ p1 ≤ 2000000 := by omega
  have bq1 : -2000000 ≤ q1 ∧ q1 ≤ 2000000 := by omega
  have SUM0 := Lib.hid (col_sum hd0 s1 t1 (a := a0) (b := b0) (o := ox) (by grind))
  have SUM1 := Lib.hid (col_sum hd0 s1 t1 (a := a1) (b := b1) (o := oy) (by grind))
  have W0 := Lib.hid (wraps r1 r3 rx bp0 bq0 bp1 bq1)
  have W1 := Lib.hid (wraps r2 r4 ry bp0 bq0 bp1 bq1)
  obtain ⟨xb, xo, rfl, hxb, c0, c1, c2, c3⟩ := hx.four
  have HS := Lib.hid hs
  have HQ := Lib.hid hq
  have qf : decide ((p0, p1, q0, q1) = (p0, p1, q0, q1)) = true := by simp
  clear hs hl hl2 hq hss hd0 r1 r2 r3 r4 rx ry hd hc1 hc2 s1 s2 s3 s4 t1 t2 t3 t4 m1 m2 m3 m4 m5 m6 bp0 bq0 bp1 bq1
  go_enter Try.func7, Try.ntmps7
  have C0_0 := Lib.hid c0
  have C1_0 := Lib.hid c1
  have C2_0 := Lib.hid c2
  have C3_0 := Lib.hid c3
  have R0_0 := Lib.hid hx
  clear hx
  go_wp2_with fail
  refine (awakept_any _).mono ?_
  rintro e w1 ⟨rfl, hb⟩
  have HB1 := Lib.hid (show Below w.heap.size w w1 from step_below hb (by repeat' (first | exact Below.refl _ _ | exact HB0.out | refine below_drewN ?_ _ | refine Below.drew ?_ | refine Below.alloc ?_ (by first | omega | (simp; done) | (simp; omega) | (simp [World.setCell]; omega)) _ | refine Below.setCell ?_ (by first | omega | (simp; done) | (simp; omega)) _ | assumption)))
  have K0_1 := Lib.hid (step_blk hb (show Blk _ (w.heap.size) 46 #[.int .i64 (ox), .int .i64 (oy)] by repeat' (first | exact Blk.at_ _ (by first | rfl | (simp; done) | (simp; omega)) _ _ | refine Blk.drewN ?_ _ | refine Blk.drew ?_ | refine Blk.alloc ?_ _ | refine Blk.far ?_ (by first | omega | (simp; done) | (simp; omega)) _ | assumption)))
  have C0_1 := Lib.hid (step_cell hb (show World.cell? _ ⟨xb, xo, none⟩ = some (.int .i64 (a0)) by first | exact C0_0.out | go_simp) (by have := hxb; first | omega | (simp; omega)))
  have C1_1 := Lib.hid (step_cell hb (show World.cell? _ ⟨xb, xo + 1, none⟩ = some (.int .i64 (a1)) by first | exact C1_0.out | go_simp) (by have := hxb; first | omega | (simp; omega)))
  have C2_1 := Lib.hid (step_cell hb (show World.cell? _ ⟨xb, xo + 2, none⟩ = some (.int .i64 (b0)) by first | exact C2_0.out | go_simp) (by have := hxb; first | omega | (simp; omega)))
  have C3_1 := Lib.hid (step_cell hb (show World.cell? _ ⟨xb, xo + 2 + 1, none⟩ = some (.int .i64 (b1)) by first | exact C3_0.out | go_simp) (by have := hxb; first | omega | (simp; omega)))
  have hL1 := Lib.hid (show Below w.heap.size w _ from reads_mid hb (by repeat' (first | exact Below.refl _ _ | refine below_drewN ?_ _ | refine Below.drew ?_ | refine Below.alloc ?_ (by first | omega | (simp; done) | (simp; omega) | (simp [World.setCell]; omega)) _ | refine Below.setCell ?_ (by first | omega | (simp; done) | (simp; omega)) _)))
  have R0_1 := Lib.hid (reads_lay hb hL1.out R0_0.out)
  clear hL1 R0_0
  have hz1 := hb.size
  try simp only [World.size_alloc, World.drewN, World.drew] at hz1
  clear hb
  have l0_1 : w.heap.size < w1.heap.size := K0_1.out.lt
  have z0_0_1 : w1.cell? ⟨w.heap.size, 0, none⟩ = some (.int .i64 (ox)) := K0_1.out.cell 0
  have z0_1_1 : w1.cell? ⟨w.heap.size, 1, none⟩ = some (.int .i64 (oy)) := K0_1.out.cell 1
  clear c0 c1 c2 c3
  go_wp2
  apply share4 (Fact := fun (_ _ z : Pick2) (wz : World) => ∃ bx, z.1.1 = some ⟨bx, 0, none⟩ ∧ w1.heap.size ≤ bx ∧ Below w1.heap.size w1 wz ∧ Blk wz bx 73 #[.int .i64 (p0), .int .i64 (p1), .int .i64 (q0), .int .i64 (q1)])
  · intro key
    refine Fx.regionM (fun W (g : Nat → Option Pick2) f w' => ScD 46 73 (2) (cells2 ([(a0, a1), (b0, b1)])) #[.int .i64 (p0), .int .i64 (p1), .int .i64 (q0), .int .i64 (q1)] W g f w') (fun i (x : Pick2) => if i = 8 then .pointer x.1.1 else if i = 2 then .slice x.1.1 (2) x.1.2 else .slice x.1.1 0 0) (by kernel_rfl) ?_ ?_
    · intro f hf0
      exact ScD.start
    first
    | (refine Fx.WM.skip 1 (by rfl) (by kernel_rfl) (by kernel_rfl) (by kernel_rfl) (by rfl) (fun g f w h => h.same (by decide) (by decide)) ?_; simp only [Act.put, List.setIfInBounds_toArray, List.set_cons_zero, List.set_cons_succ])
    | (refine Fx.WM.val_ 1 ?_ (by rfl) (by kernel_rfl) (by kernel_rfl) (by kernel_rfl) (by rfl) ?_ (fun g f w h => h.same (by decide) (by decide)) ?_
       rotate_left
       · intro g f w' hx hD hk
         obtain hsd := id hD
         clear hx hk hD hsd
         go_simp
         try rfl
       simp only [Act.put, List.setIfInBounds_toArray, List.set_cons_zero, List.set_cons_succ])
    first
    | (refine Fx.WM.skip 3 (by rfl) (by kernel_rfl) (by kernel_rfl) (by kernel_rfl) (by rfl) (fun g f w h => h.same (by decide) (by decide)) ?_; simp only [Act.put, List.setIfInBounds_toArray, List.set_cons_zero, List.set_cons_succ])
    | (refine Fx.WM.val_ 3 ?_ (by rfl) (by kernel_rfl) (by kernel_rfl) (by kernel_rfl) (by rfl) ?_ (fun g f w h => h.same (by decide) (by decide)) ?_
       rotate_left
       · intro g f w' hx hD hk
         obtain hsd := id hD
         have y0 := (K0_1.out.below hsd.bel l0_1).cell 0
         have y1 := (K0_1.out.below hsd.bel l0_1).cell 1
         clear hx hk hD hsd
         go_simp
         try rfl
       simp only [Act.put, List.setIfInBounds_toArray, List.set_cons_zero, List.set_cons_succ])
    refine Fx.WM.choose2 0 8 (by rfl) (by rfl) (by kernel_rfl) (by rfl) (by rfl) ?_ ?_ ?_ ?_
    · skip
      refine Fx.Chooses.make (by rfl) ?_
      intro f w' hD hk
      refine ⟨((some ⟨w'.heap.size, 0, none⟩, 0), (none, 0)), w'.alloc (.cells #[] 46), ?_, ?_⟩
      · clear hk hD
        go_simp
        try rfl
      · exact hD.lit (by rfl)
    · skip
      refine Fx.Chooses.make (by rfl) ?_
      intro f w' hD hk
      refine ⟨((some ⟨w'.heap.size, 0, none⟩, 0), (none, 0)), w'.alloc (.cells #[.int .i64 0, .int .i64 0, .int .i64 0, .int .i64 0] 73), ?_, ?_⟩
      · clear hk hD
        go_simp
        try rfl
      · exact hD.make (hk.2.1 9 (by kernel_rfl))
    · skip
      intro x
      simp only [Act.put, List.setIfInBounds_toArray, List.set_cons_zero, List.set_cons_succ]
      refine Fx.WM.choose2 2 8 (by rfl) (by rfl) (by kernel_rfl) (by rfl) (by rfl) ?_ ?_ ?_ ?_
      · skip
        refine Fx.Chooses.make (by rfl) ?_
        intro f w' hD hk
        obtain ⟨y', w2', hrun, hD2⟩ := ScD.app hD hk.1 (hk.2.1 9 (by kernel_rfl)) (by rfl) (((R0_1.out.below hD.bel).more hD.bel.size)) hn1000
        exact ⟨y', w2', exec_append _ _ _ rfl hrun, hD2⟩
      · skip
        refine Fx.Chooses.make (by rfl) ?_
        intro f w' hD hk
        refine ⟨((some ⟨w'.heap.size, 0, none⟩, 0), (none, 0)), w'.alloc (.cells #[.int .i64 0, .int .i64 0, .int .i64 0, .int .i64 0] 73), ?_, ?_⟩
        · clear hk hD
          go_simp
          try rfl
        · exact hD.make (hk.2.1 9 (by kernel_rfl))
      · intro y
        simp only [Act.put, List.setIfInBounds_toArray, List.set_cons_zero, List.set_cons_succ]
        refine Fx.WM.call 4 (.tuple #[.agg #[.int .i64 (p0), .int .i64 (p1), .int .i64 (q0), .int .i64 (q1)], .int .i64 (0)]) ?_ ?_ (by rfl) (by kernel_rfl) (by kernel_rfl) (by kernel_rfl) (by rfl) ?_ ?_ ?_
        rotate_left 2
        · intro w'
          go_simp
          refine ⟨?_, ?_⟩ <;> rfl
        · intro g f w' hx hD hk
          exact (pcol_ok y.1.1 y.1.2 a0 a1 b0 b1 ox oy p0 p1 q0 q1 HE.out HS.out HQ.out w' (hD.o2 (hk.2.1 9 (by kernel_rfl)) y (hx 2 _ (by rfl)))).mono fun e w'' ⟨he, hw⟩ => ⟨he, hD.call (by decide) (by decide) hw⟩
        simp only [Act.put, List.setIfInBounds_toArray, List.set_cons_zero, List.set_cons_succ]
        first
        | (refine Fx.WM.skip 5 (by rfl) (by kernel_rfl) (by kernel_rfl) (by kernel_rfl) (by rfl) (fun g f w h => h.same (by decide) (by decide)) ?_; simp only [Act.put, List.setIfInBounds_toArray, List.set_cons_zero, List.set_cons_succ])
        | (refine Fx.WM.val_ 5 ?_ (by rfl) (by kernel_rfl) (by kernel_rfl) (by kernel_rfl) (by rfl) ?_ (fun g f w h => h.same (by decide) (by decide)) ?_
           rotate_left
           · intro g f w' hx hD hk
             obtain hsd := id hD
             clear hx hk hD hsd
             go_simp
             try rfl
           simp only [Act.put, List.setIfInBounds_toArray, List.set_cons_zero, List.set_cons_succ])
        first
        | (refine Fx.WM.skip 6 (by rfl) (by kernel_rfl) (by kernel_rfl) (by kernel_rfl) (by rfl) (fun g f w h => h.same (by decide) (by decide)) ?_; simp only [Act.put, List.setIfInBounds_toArray, List.set_cons_zero, List.set_cons_succ])
        | (refine Fx.WM.val_ 6 ?_ (by rfl) (by kernel_rfl) (by kernel_rfl) (by kernel_rfl) (by rfl) ?_ (fun g f w h => h.same (by decide) (by decide)) ?_
           rotate_left
           · intro g f w' hx hD hk
             obtain hsd := id hD
             clear hx hk hD hsd
             go_simp
             try rfl
           simp only [Act.put, List.setIfInBounds_toArray, List.set_cons_zero, List.set_cons_succ])
        first
        | (refine Fx.WM.skip 7 (by rfl) (by kernel_rfl) (by kernel_rfl) (by kernel_rfl) (by rfl) (fun g f w h => h.same (by decide) (by decide)) ?_; simp only [Act.put, List.setIfInBounds_toArray, List.set_cons_zero, List.set_cons_succ])
        | (refine Fx.WM.val_ 7 ?_ (by rfl) (by kernel_rfl) (by kernel_rfl) (by kernel_rfl) (by rfl) ?_ (fun g f w h => h.same (by decide) (by decide)) ?_
           rotate_left
           · intro g f w' hx hD hk
             obtain hsd := id hD
             clear hx hk hD hsd
             go_simp
             try rfl
           simp only [Act.put, List.setIfInBounds_toArray, List.set_cons_zero, List.set_cons_succ])
        refine Fx.WM.choose 8 (by rfl) (by kernel_rfl) (by rfl) ?_ ?_
        · skip
          refine Fx.Chooses.make (by rfl) ?_
          intro f w' hD hk
          refine ⟨((some ⟨w'.heap.size, 0, none⟩, 0), (none, 0)), w'.alloc (.cells #[.int .i64 0, .int .i64 0, .int .i64 0, .int .i64 0] 73), ?_, ?_⟩
          · clear hk hD
            go_simp
            try rfl
          · exact hD.make (hk.2.1 9 (by kernel_rfl))
        intro z
        simp only [Act.put, List.setIfInBounds_toArray, List.set_cons_zero, List.set_cons_succ]
        refine Fx.WM.eff 9 undef (by rfl) (by kernel_rfl) (by kernel_rfl) (by kernel_rfl) (by rfl) ?_ ?_
        · intro g f w' hx hD hk
          obtain ⟨bx, c0, c1, c2, c3, r0, r1, r2, r3, r4, r5, r6, r7, r8⟩ := ScD.cells hD (hx 8 _ (by rfl))
          refine Fx.gives_skip (w' := ((((w'.setCell ⟨bx, 0, none⟩ (.int .i64 (p0))).setCell ⟨bx, 1, none⟩ (.int .i64 (p1))).setCell ⟨bx, 2, none⟩ (.int .i64 (q0))).setCell ⟨bx, 3, none⟩ (.int .i64 (q1)))) ?_ ?_
          · clear hx hk hD
            go_simp
            try rfl
          · exact ScD.store hD (hx 8 _ (by rfl)) r0 (hk.2.2.1 2 (by kernel_rfl))
        simp only [Act.put, List.setIfInBounds_toArray, List.set_cons_zero, List.set_cons_succ]
        first
        | (refine Fx.WM.skip 10 (by rfl) (by kernel_rfl) (by kernel_rfl) (by kernel_rfl) (by rfl) (fun g f w h => h.same (by decide) (by decide)) ?_; simp only [Act.put, List.setIfInBounds_toArray, List.set_cons_zero, List.set_cons_succ])
        | (refine Fx.WM.val_ 10 ?_ (by rfl) (by kernel_rfl) (by kernel_rfl) (by kernel_rfl) (by rfl) ?_ (fun g f w h => h.same (by decide) (by decide)) ?_
           rotate_left
           · intro g f w' hx hD hk
             obtain hsd := id hD
             clear hx hk hD hsd
             go_simp
             try rfl
           simp only [Act.put, List.setIfInBounds_toArray, List.set_cons_zero, List.set_cons_succ])
        refine Fx.WM.nil (by kernel_rfl) ?_
        intro wz hsd
        obtain ⟨bx, h1, h2, h3⟩ := ScD.end_ hsd (z := z) (by rfl) (by rfl)
        exact key x y z wz ⟨bx, h1, h2, hsd.bel, h3⟩
      · intro z
        simp only [Act.put, List.setIfInBounds_toArray, List.set_cons_zero, List.set_cons_succ]
        refine Fx.WM.choose 2 (by rfl) (by kernel_rfl) (by rfl) ?_ ?_
        · skip
          refine Fx.Chooses.make (by rfl) ?_
          intro f w' hD hk
          obtain ⟨y', w2', hrun, hD2⟩ := ScD.app hD hk.1 (hk.2.1 9 (by kernel_rfl)) (by rfl) (((R0_1.out.below hD.bel).more hD.bel.size)) hn1000
          exact ⟨y', w2', exec_append _ _ _ rfl hrun, hD2⟩
        intro y
        simp only [Act.put, List.setIfInBounds_toArray, List.set_cons_zero, List.set_cons_succ]
        refine Fx.WM.call 4 (.tuple #[.agg #[.int .i64 (p0), .int .i64 (p1), .int .i64 (q0), .int .i64 (q1)], .int .i64 (0)]) ?_ ?_ (by rfl) (by kernel_rfl) (by kernel_rfl) (by kernel_rfl) (by rfl) ?_ ?_ ?_
        rotate_left 2
        · intro w'
          go_simp
          refine ⟨?_, ?_⟩ <;> rfl
        · intro g f w' hx hD hk
          exact (pcol_ok y.1.1 y.1.2 a0 a1 b0 b1 ox oy p0 p1 q0 q1 HE.out HS.out HQ.out w' (hD.o2 (hk.2.1 9 (by kernel_rfl)) y (hx 2 _ (by rfl)))).mono fun e w'' ⟨he, hw⟩ => ⟨he, hD.call (by decide) (by decide) hw⟩
        simp only [Act.put, List.setIfInBounds_toArray, List.set_cons_zero, List.set_cons_succ]
        first
        | (refine Fx.WM.skip 5 (by rfl) (by kernel_rfl) (by kernel_rfl) (by kernel_rfl) (by rfl) (fun g f w h => h.same (by decide) (by decide)) ?_; simp only [Act.put, List.setIfInBounds_toArray, List.set_cons_zero, List.set_cons_succ])
        | (refine Fx.WM.val_ 5 ?_ (by rfl) (by kernel_rfl) (by kernel_rfl) (by kernel_rfl) (by rfl) ?_ (fun g f w h => h.same (by decide) (by decide)) ?_
           rotate_left
           · intro g f w' hx hD hk
             obtain hsd := id hD
             clear hx hk hD hsd
             go_simp
             try rfl
           simp only [Act.put, List.setIfInBounds_toArray, List.set_cons_zero, List.set_cons_succ])
        first
        | (refine Fx.WM.skip 6 (by rfl) (by kernel_rfl) (by kernel_rfl) (by kernel_rfl) (by rfl) (fun g f w h => h.same (by decide) (by decide)) ?_; simp only [Act.put, List.setIfInBounds_toArray, List.set_cons_zero, List.set_cons_succ])
        | (refine Fx.WM.val_ 6 ?_ (by rfl) (by kernel_rfl) (by kernel_rfl) (by kernel_rfl) (by rfl) ?_ (fun g f w h => h.same (by decide) (by decide)) ?_
           rotate_left
           · intro g f w' hx hD hk
             obtain hsd := id hD
             clear hx hk hD hsd
             go_simp
             try rfl
           simp only [Act.put, List.setIfInBounds_toArray, List.set_cons_zero, List.set_cons_succ])
        first
        | (refine Fx.WM.skip 7 (by rfl) (by kernel_rfl) (by kernel_rfl) (by kernel_rfl) (by rfl) (fun g f w h => h.same (by decide) (by decide)) ?_; simp only [Act.put, List.setIfInBounds_toArray, List.set_cons_zero, List.set_cons_succ])
        | (refine Fx.WM.val_ 7 ?_ (by rfl) (by kernel_rfl) (by kernel_rfl) (by kernel_rfl) (by rfl) ?_ (fun g f w h => h.same (by decide) (by decide)) ?_
           rotate_left
           · intro g f w' hx hD hk
             obtain hsd := id hD
             clear hx hk hD hsd
             go_simp
             try rfl
           simp only [Act.put, List.setIfInBounds_toArray, List.set_cons_zero, List.set_cons_succ])
        refine Fx.WM.eff 9 undef (by rfl) (by kernel_rfl) (by kernel_rfl) (by kernel_rfl) (by rfl) ?_ ?_
        · intro g f w' hx hD hk
          obtain ⟨bx, c0, c1, c2, c3, r0, r1, r2, r3, r4, r5, r6, r7, r8⟩ := ScD.cells hD (hx 8 _ (by rfl))
          refine Fx.gives_skip (w' := ((((w'.setCell ⟨bx, 0, none⟩ (.int .i64 (p0))).setCell ⟨bx, 1, none⟩ (.int .i64 (p1))).setCell ⟨bx, 2, none⟩ (.int .i64 (q0))).setCell ⟨bx, 3, none⟩ (.int .i64 (q1)))) ?_ ?_
          · clear hx hk hD
            go_simp
            try rfl
          · exact ScD.store hD (hx 8 _ (by rfl)) r0 (hk.2.2.1 2 (by kernel_rfl))
        simp only [Act.put, List.setIfInBounds_toArray, List.set_cons_zero, List.set_cons_succ]
        first
        | (refine Fx.WM.skip 10 (by rfl) (by kernel_rfl) (by kernel_rfl) (by kernel_rfl) (by rfl) (fun g f w h => h.same (by decide) (by decide)) ?_; simp only [Act.put, List.setIfInBounds_toArray, List.set_cons_zero, List.set_cons_succ])
        | (refine Fx.WM.val_ 10 ?_ (by rfl) (by kernel_rfl) (by kernel_rfl) (by kernel_rfl) (by rfl) ?_ (fun g f w h => h.same (by decide) (by decide)) ?_
           rotate_left
           · intro g f w' hx hD hk
             obtain hsd := id hD
             clear hx hk hD hsd
             go_simp
             try rfl
           simp only [Act.put, List.setIfInBounds_toArray, List.set_cons_zero, List.set_cons_succ])
        refine Fx.WM.nil (by kernel_rfl) ?_
        intro wz hsd
        obtain ⟨bx, h1, h2, h3⟩ := ScD.end_ hsd (z := z) (by rfl) (by rfl)
        exact key x y z wz ⟨bx, h1, h2, hsd.bel, h3⟩
    · skip
      intro z
      simp only [Act.put, List.setIfInBounds_toArray, List.set_cons_zero, List.set_cons_succ]
      refine Fx.WM.choose 0 (by rfl) (by kernel_rfl) (by rfl) ?_ ?_
      · skip
        refine Fx.Chooses.make (by rfl) ?_
        intro f w' hD hk
        refine ⟨((some ⟨w'.heap.size, 0, none⟩, 0), (none, 0)), w'.alloc (.cells #[] 46), ?_, ?_⟩
        · clear hk hD
          go_simp
          try rfl
        · exact hD.lit (by rfl)
      intro x
      simp only [Act.put, List.setIfInBounds_toArray, List.set_cons_zero, List.set_cons_succ]
      refine Fx.WM.choose 2 (by rfl) (by kernel_rfl) (by rfl) ?_ ?_
      · skip
        refine Fx.Chooses.make (by rfl) ?_
        intro f w' hD hk
        obtain ⟨y', w2', hrun, hD2⟩ := ScD.app hD hk.1 (hk.2.1 9 (by kernel_rfl)) (by rfl) (((R0_1.out.below hD.bel).more hD.bel.size)) hn1000
        exact ⟨y', w2', exec_append _ _ _ rfl hrun, hD2⟩
      intro y
      simp only [Act.put, List.setIfInBounds_toArray, List.set_cons_zero, List.set_cons_succ]
      refine Fx.WM.call 4 (.tuple #[.agg #[.int .i64 (p0), .int .i64 (p1), .int .i64 (q0), .int .i64 (q1)], .int .i64 (0)]) ?_ ?_ (by rfl) (by kernel_rfl) (by kernel_rfl) (by kernel_rfl) (by rfl) ?_ ?_ ?_
      rotate_left 2
      · intro w'
        go_simp
        refine ⟨?_, ?_⟩ <;> rfl
      · intro g f w' hx hD hk
        exact (pcol_ok y.1.1 y.1.2 a0 a1 b0 b1 ox oy p0 p1 q0 q1 HE.out HS.out HQ.out w' (hD.o2 (hk.2.1 9 (by kernel_rfl)) y (hx 2 _ (by rfl)))).mono fun e w'' ⟨he, hw⟩ => ⟨he, hD.call (by decide) (by decide) hw⟩
      simp only [Act.put, List.setIfInBounds_toArray, List.set_cons_zero, List.set_cons_succ]
      first
      | (refine Fx.WM.skip 5 (by rfl) (by kernel_rfl) (by kernel_rfl) (by kernel_rfl) (by rfl) (fun g f w h => h.same (by decide) (by decide)) ?_; simp only [Act.put, List.setIfInBounds_toArray, List.set_cons_zero, List.set_cons_succ])
      | (refine Fx.WM.val_ 5 ?_ (by rfl) (by kernel_rfl) (by kernel_rfl) (by kernel_rfl) (by rfl) ?_ (fun g f w h => h.same (by decide) (by decide)) ?_
         rotate_left
         · intro g f w' hx hD hk
           obtain hsd := id hD
           clear hx hk hD hsd
           go_simp
           try rfl
         simp only [Act.put, List.setIfInBounds_toArray, List.set_cons_zero, List.set_cons_succ])
      first
      | (refine Fx.WM.skip 6 (by rfl) (by kernel_rfl) (by kernel_rfl) (by kernel_rfl) (by rfl) (fun g f w h => h.same (by decide) (by decide)) ?_; simp only [Act.put, List.setIfInBounds_toArray, List.set_cons_zero, List.set_cons_succ])
      | (refine Fx.WM.val_ 6 ?_ (by rfl) (by kernel_rfl) (by kernel_rfl) (by kernel_rfl) (by rfl) ?_ (fun g f w h => h.same (by decide) (by decide)) ?_
         rotate_left
         · intro g f w' hx hD hk
           obtain hsd := id hD
           clear hx hk hD hsd
           go_simp
           try rfl
         simp only [Act.put, List.setIfInBounds_toArray, List.set_cons_zero, List.set_cons_succ])
      first
      | (refine Fx.WM.skip 7 (by rfl) (by kernel_rfl) (by kernel_rfl) (by kernel_rfl) (by rfl) (fun g f w h => h.same (by decide) (by decide)) ?_; simp only [Act.put, List.setIfInBounds_toArray, List.set_cons_zero, List.set_cons_succ])
      | (refine Fx.WM.val_ 7 ?_ (by rfl) (by kernel_rfl) (by kernel_rfl) (by kernel_rfl) (by rfl) ?_ (fun g f w h => h.same (by decide) (by decide)) ?_
         rotate_left
         · intro g f w' hx hD hk
           obtain hsd := id hD
           clear hx hk hD hsd
           go_simp
           try rfl
         simp only [Act.put, List.setIfInBounds_toArray, List.set_cons_zero, List.set_cons_succ])
      refine Fx.WM.eff 9 undef (by rfl) (by kernel_rfl) (by kernel_rfl) (by kernel_rfl) (by rfl) ?_ ?_
      · intro g f w' hx hD hk
        obtain ⟨bx, c0, c1, c2, c3, r0, r1, r2, r3, r4, r5, r6, r7, r8⟩ := ScD.cells hD (hx 8 _ (by rfl))
        refine Fx.gives_skip (w' := ((((w'.setCell ⟨bx, 0, none⟩ (.int .i64 (p0))).setCell ⟨bx, 1, none⟩ (.int .i64 (p1))).setCell ⟨bx, 2, none⟩ (.int .i64 (q0))).setCell ⟨bx, 3, none⟩ (.int .i64 (q1)))) ?_ ?_
        · clear hx hk hD
          go_simp
          try rfl
        · exact ScD.store hD (hx 8 _ (by rfl)) r0 (hk.2.2.1 2 (by kernel_rfl))
      simp only [Act.put, List.setIfInBounds_toArray, List.set_cons_zero, List.set_cons_succ]
      first
      | (refine Fx.WM.skip 10 (by rfl) (by kernel_rfl) (by kernel_rfl) (by kernel_rfl) (by rfl) (fun g f w h => h.same (by decide) (by decide)) ?_; simp only [Act.put, List.setIfInBounds_toArray, List.set_cons_zero, List.set_cons_succ])
      | (refine Fx.WM.val_ 10 ?_ (by rfl) (by kernel_rfl) (by kernel_rfl) (by kernel_rfl) (by rfl) ?_ (fun g f w h => h.same (by decide) (by decide)) ?_
         rotate_left
         · intro g f w' hx hD hk
           obtain hsd := id hD
           clear hx hk hD hsd
           go_simp
           try rfl
         simp only [Act.put, List.setIfInBounds_toArray, List.set_cons_zero, List.set_cons_succ])
      refine Fx.WM.nil (by kernel_rfl) ?_
      intro wz hsd
      obtain ⟨bx, h1, h2, h3⟩ := ScD.end_ hsd (z := z) (by rfl) (by rfl)
      exact key x y z wz ⟨bx, h1, h2, hsd.bel, h3⟩
  rintro x0 y0 ⟨⟨z1, z2⟩, z3⟩ w2 ⟨bx, hz, hbx, hb, hblk⟩
  simp only at hz
  subst hz
  have HB2 := Lib.hid (show Below w.heap.size w w2 from step_below hb (by repeat' (first | exact Below.refl _ _ | exact HB1.out | refine below_drewN ?_ _ | refine Below.drew ?_ | refine Below.alloc ?_ (by first | omega | (simp; done) | (simp; omega) | (simp [World.setCell]; omega)) _ | refine Below.setCell ?_ (by first | omega | (simp; done) | (simp; omega)) _ | assumption)))
  have K0_2 := Lib.hid (step_blk hb (show Blk _ (w.heap.size) 46 #[.int .i64 (ox), .int .i64 (oy)] by repeat' (first | exact K0_1.out | exact Blk.at_ _ (by first | rfl | (simp; done) | (simp; omega)) _ _ | refine Blk.drewN ?_ _ | refine Blk.drew ?_ | refine Blk.alloc ?_ _ | refine Blk.far ?_ (by first | omega | (simp; done) | (simp; omega)) _ | assumption)))
  have C0_2 := Lib.hid (step_cell hb (show World.cell? _ ⟨xb, xo, none⟩ = some (.int .i64 (a0)) by first | exact C0_1.out | go_simp) (by have := hxb; first | omega | (simp; omega)))
  have C1_2 := Lib.hid (step_cell hb (show World.cell? _ ⟨xb, xo + 1, none⟩ = some (.int .i64 (a1)) by first | exact C1_1.out | go_simp) (by have := hxb; first | omega | (simp; omega)))
  have C2_2 := Lib.hid (step_cell hb (show World.cell? _ ⟨xb, xo + 2, none⟩ = some (.int .i64 (b0)) by first | exact C2_1.out | go_simp) (by have := hxb; first | omega | (simp; omega)))
  have C3_2 := Lib.hid (step_cell hb (show World.cell? _ ⟨xb, xo + 2 + 1, none⟩ = some (.int .i64 (b1)) by first | exact C3_1.out | go_simp) (by have := hxb; first | omega | (simp; omega)))
  have hL2 := Lib.hid (show Below w1.heap.size w1 _ from reads_mid hb (by repeat' (first | exact Below.refl _ _ | refine below_drewN ?_ _ | refine Below.drew ?_ | refine Below.alloc ?_ (by first | omega | (simp; done) | (simp; omega) | (simp [World.setCell]; omega)) _ | refine Below.setCell ?_ (by first | omega | (simp; done) | (simp; omega)) _)))
  have R0_2 := Lib.hid (reads_lay hb hL2.out R0_1.out)
  clear hL2 R0_1
  have hz2 := hb.size
  try simp only [World.size_alloc, World.drewN, World.drew] at hz2
  clear hb K0_1 z0_0_1 z0_1_1 l0_1
  have l0_2 : w.heap.size < w2.heap.size := K0_2.out.lt
  have z0_0_2 : w2.cell? ⟨w.heap.size, 0, none⟩ = some (.int .i64 (ox)) := K0_2.out.cell 0
  have z0_1_2 : w2.cell? ⟨w.heap.size, 1, none⟩ = some (.int .i64 (oy)) := K0_2.out.cell 1
  have K1_2 := Lib.hid (show Blk w2 (bx) 73 #[.int .i64 (p0), .int .i64 (p1), .int .i64 (q0), .int .i64 (q1)] from hblk)
  clear hblk
  have l1_2 : bx < w2.heap.size := K1_2.out.lt
  have z1_0_2 : w2.cell? ⟨bx, 0, none⟩ = some (.int .i64 (p0)) := K1_2.out.cell 0
  have z1_1_2 : w2.cell? ⟨bx, 1, none⟩ = some (.int .i64 (p1)) := K1_2.out.cell 1
  have z1_2_2 : w2.cell? ⟨bx, 2, none⟩ = some (.int .i64 (q0)) := K1_2.out.cell 2
  have z1_3_2 : w2.cell? ⟨bx, 3, none⟩ = some (.int .i64 (q1)) := K1_2.out.cell 3
  go_wp2_with fail
  refine (rscrews_is _ 2 c _ 0 HE.out _ R0_2.out (by omega)).mono ?_
  rintro e w3 ⟨rfl, hb⟩
  have HB3 := Lib.hid (show Below w.heap.size w w3 from step_below hb (by repeat' (first | exact Below.refl _ _ | exact HB2.out | refine below_drewN ?_ _ | refine Below.drew ?_ | refine Below.alloc ?_ (by first | omega | (simp; done) | (simp; omega) | (simp [World.setCell]; omega)) _ | refine Below.setCell ?_ (by first | omega | (simp; done) | (simp; omega)) _ | assumption)))
  have K0_3 := Lib.hid (step_blk hb (show Blk _ (w.heap.size) 46 #[.int .i64 (ox), .int .i64 (oy)] by repeat' (first | exact K0_2.out | exact K1_2.out | exact Blk.at_ _ (by first | rfl | (simp; done) | (simp; omega)) _ _ | refine Blk.drewN ?_ _ | refine Blk.drew ?_ | refine Blk.alloc ?_ _ | refine Blk.far ?_ (by first | omega | (simp; done) | (simp; omega)) _ | assumption)))
  have K1_3 := Lib.hid (step_blk hb (show Blk _ (bx) 73 #[.int .i64 (p0), .int .i64 (p1), .int .i64 (q0), .int .i64 (q1)] by repeat' (first | exact K0_2.out | exact K1_2.out | exact Blk.at_ _ (by first | rfl | (simp; done) | (simp; omega)) _ _ | refine Blk.drewN ?_ _ | refine Blk.drew ?_ | refine Blk.alloc ?_ _ | refine Blk.far ?_ (by first | omega | (simp; done) | (simp; omega)) _ | assumption)))
  have C0_3 := Lib.hid (step_cell hb (show World.cell? _ ⟨xb, xo, none⟩ = some (.int .i64 (a0)) by first | exact C0_2.out | go_simp) (by have := hxb; first | omega | (simp; omega)))
  have C1_3 := Lib.hid (step_cell hb (show World.cell? _ ⟨xb, xo + 1, none⟩ = some (.int .i64 (a1)) by first | exact C1_2.out | go_simp) (by have := hxb; first | omega | (simp; omega)))
  have C2_3 := Lib.hid (step_cell hb (show World.cell? _ ⟨xb, xo + 2, none⟩ = some (.int .i64 (b0)) by first | exact C2_2.out | go_simp) (by have := hxb; first | omega | (simp; omega)))
  have C3_3 := Lib.hid (step_cell hb (show World.cell? _ ⟨xb, xo + 2 + 1, none⟩ = some (.int .i64 (b1)) by first | exact C3_2.out | go_simp) (by have := hxb; first | omega | (simp; omega)))
  have hL3 := Lib.hid (show Below w2.heap.size w2 _ from reads_mid hb (by repeat' (first | exact Below.refl _ _ | refine below_drewN ?_ _ | refine Below.drew ?_ | refine Below.alloc ?_ (by first | omega | (simp; done) | (simp; omega) | (simp [World.setCell]; omega)) _ | refine Below.setCell ?_ (by first | omega | (simp; done) | (simp; omega)) _)))
  have R0_3 := Lib.hid (reads_lay hb hL3.out R0_2.out)
  clear hL3 R0_2
  have hz3 := hb.size
  try simp only [World.size_alloc, World.drewN, World.drew] at hz3
  clear hb K0_2 K1_2 z0_0_2 z0_1_2 l0_2 z1_0_2 z1_1_2 z1_2_2 z1_3_2 l1_2
  have l0_3 : w.heap.size < w3.heap.size := K0_3.out.lt
  have z0_0_3 : w3.cell? ⟨w.heap.size, 0, none⟩ = some (.int .i64 (ox)) := K0_3.out.cell 0
  have z0_1_3 : w3.cell? ⟨w.heap.size, 1, none⟩ = some (.int .i64 (oy)) := K0_3.out.cell 1
  have l1_3 : bx < w3.heap.size := K1_3.out.lt
  have z1_0_3 : w3.cell? ⟨bx, 0, none⟩ = some (.int .i64 (p0)) := K1_3.out.cell 0
  have z1_1_3 : w3.cell? ⟨bx, 1, none⟩ = some (.int .i64 (p1)) := K1_3.out.cell 1
  have z1_2_3 : w3.cell? ⟨bx, 2, none⟩ = some (.int .i64 (q0)) := K1_3.out.cell 2
  have z1_3_3 : w3.cell? ⟨bx, 3, none⟩ = some (.int .i64 (q1)) := K1_3.out.cell 3
  obtain ⟨v7, W7, hrun7, ho7, hb7⟩ := copy_run (P := Try.prog) 70 70 46 _ 2 16 Try.underlying70 info_arr2 rfl (by omega) w3 w3.heap.size (some ⟨xb, xo, none⟩) (2) c (cells2 ([(a0, a1), (b0, b1)])) R0_3.out (Nat.le_refl _) (one_cells2 _) (by unfold maxLen; omega) (by omega)
  obtain ⟨A7, c7, rfl, hr7⟩ := own_reads ho7
  have HRUN7 := Lib.hid hrun7
  clear hrun7 ho7
  go_wp2_with (first | (at_builtin; refine wpList_app _ W7 _ rfl _ _ _ rfl _ _ rfl rfl HRUN7.out ?_))
  obtain ⟨w4, hnm⟩ : ∃ z : World, z = W7 := ⟨_, rfl⟩
  subst hnm
  have HB4 := Lib.hid (show Below w.heap.size w w4 from step_below hb7 (by repeat' (first | exact Below.refl _ _ | exact HB3.out | refine below_drewN ?_ _ | refine Below.drew ?_ | refine Below.alloc ?_ (by first | omega | (simp; done) | (simp; omega) | (simp [World.setCell]; omega)) _ | refine Below.setCell ?_ (by first | omega | (simp; done) | (simp; omega)) _ | assumption)))
  have K0_4 := Lib.hid (step_blk hb7 (show Blk _ (w.heap.size) 46 #[.int .i64 (ox), .int .i64 (oy)] by repeat' (first | exact K0_3.out | exact K1_3.out | exact Blk.at_ _ (by first | rfl | (simp; done) | (simp; omega)) _ _ | refine Blk.drewN ?_ _ | refine Blk.drew ?_ | refine Blk.alloc ?_ _ | refine Blk.far ?_ (by first | omega | (simp; done) | (simp; omega)) _ | assumption)))
  have K1_4 := Lib.hid (step_blk hb7 (show Blk _ (bx) 73 #[.int .i64 (p0), .int .i64 (p1), .int .i64 (q0), .int .i64 (q1)] by repeat' (first | exact K0_3.out | exact K1_3.out | exact Blk.at_ _ (by first | rfl | (simp; done) | (simp; omega)) _ _ | refine Blk.drewN ?_ _ | refine Blk.drew ?_ | refine Blk.alloc ?_ _ | refine Blk.far ?_ (by first | omega | (simp; done) | (simp; omega)) _ | assumption)))
  have C0_4 := Lib.hid (step_cell hb7 (show World.cell? _ ⟨xb, xo, none⟩ = some (.int .i64 (a0)) by first | exact C0_3.out | go_simp) (by have := hxb; first | omega | (simp; omega)))
  have C1_4 := Lib.hid (step_cell hb7 (show World.cell? _ ⟨xb, xo + 1, none⟩ = some (.int .i64 (a1)) by first | exact C1_3.out | go_simp) (by have := hxb; first | omega | (simp; omega)))
  have C2_4 := Lib.hid (step_cell hb7 (show World.cell? _ ⟨xb, xo + 2, none⟩ = some (.int .i64 (b0)) by first | exact C2_3.out | go_simp) (by have := hxb; first | omega | (simp; omega)))
  have C3_4 := Lib.hid (step_cell hb7 (show World.cell? _ ⟨xb, xo + 2 + 1, none⟩ = some (.int .i64 (b1)) by first | exact C3_3.out | go_simp) (by have := hxb; first | omega | (simp; omega)))
  have hL4 := Lib.hid (show Below w3.heap.size w3 _ from reads_mid hb7 (by repeat' (first | exact Below.refl _ _ | refine below_drewN ?_ _ | refine Below.drew ?_ | refine Below.alloc ?_ (by first | omega | (simp; done) | (simp; omega) | (simp [World.setCell]; omega)) _ | refine Below.setCell ?_ (by first | omega | (simp; done) | (simp; omega)) _)))
  have R0_4 := Lib.hid (reads_lay hb7 hL4.out R0_3.out)
  clear hL4 R0_3
  have hz4 := hb7.size
  try simp only [World.size_alloc, World.drewN, World.drew] at hz4
  clear hb7 K0_3 K1_3 z0_0_3 z0_1_3 l0_3 z1_0_3 z1_1_3 z1_2_3 z1_3_3 l1_3
  have l0_4 : w.heap.size < w4.heap.size := K0_4.out.lt
  have z0_0_4 : w4.cell? ⟨w.heap.size, 0, none⟩ = some (.int .i64 (ox)) := K0_4.out.cell 0
  have z0_1_4 : w4.cell? ⟨w.heap.size, 1, none⟩ = some (.int .i64 (oy)) := K0_4.out.cell 1
  have l1_4 : bx < w4.heap.size := K1_4.out.lt
  have z1_0_4 : w4.cell? ⟨bx, 0, none⟩ = some (.int .i64 (p0)) := K1_4.out.cell 0
  have z1_1_4 : w4.cell? ⟨bx, 1, none⟩ = some (.int .i64 (p1)) := K1_4.out.cell 1
  have z1_2_4 : w4.cell? ⟨bx, 2, none⟩ = some (.int .i64 (q0)) := K1_4.out.cell 2
  have z1_3_4 : w4.cell? ⟨bx, 3, none⟩ = some (.int .i64 (q1)) := K1_4.out.cell 3
  have R1_4 := Lib.hid hr7
  clear hr7
  go_wp2_with fail
  refine (pscrews_is A7 2 c7 _ 0 HE.out _ R1_4.out (by omega)).mono ?_
  rintro e w5 ⟨rfl, hb⟩
  have HB5 := Lib.hid (show Below w.heap.size w w5 from step_below hb (by repeat' (first | exact Below.refl _ _ | exact HB4.out | refine below_drewN ?_ _ | refine Below.drew ?_ | refine Below.alloc ?_ (by first | omega | (simp; done) | (simp; omega) | (simp [World.setCell]; omega)) _ | refine Below.setCell ?_ (by first | omega | (simp; done) | (simp; omega)) _ | assumption)))
  have K0_5 := Lib.hid (step_blk hb (show Blk _ (w.heap.size) 46 #[.int .i64 (ox), .int .i64 (oy)] by repeat' (first | exact K0_4.out | exact K1_4.out | exact Blk.at_ _ (by first | rfl | (simp; done) | (simp; omega)) _ _ | refine Blk.drewN ?_ _ | refine Blk.drew ?_ | refine Blk.alloc ?_ _ | refine Blk.far ?_ (by first | omega | (simp; done) | (simp; omega)) _ | assumption)))
  have K1_5 := Lib.hid (step_blk hb (show Blk _ (bx) 73 #[.int .i64 (p0), .int .i64 (p1), .int .i64 (q0), .int .i64 (q1)] by repeat' (first | exact K0_4.out | exact K1_4.out | exact Blk.at_ _ (by first | rfl | (simp; done) | (simp; omega)) _ _ | refine Blk.drewN ?_ _ | refine Blk.drew ?_ | refine Blk.alloc ?_ _ | refine Blk.far ?_ (by first | omega | (simp; done) | (simp; omega)) _ | assumption)))
  have C0_5 := Lib.hid (step_cell hb (show World.cell? _ ⟨xb, xo, none⟩ = some (.int .i64 (a0)) by first | exact C0_4.out | go_simp) (by have := hxb; first | omega | (simp; omega)))
  have C1_5 := Lib.hid (step_cell hb (show World.cell? _ ⟨xb, xo + 1, none⟩ = some (.int .i64 (a1)) by first | exact C1_4.out | go_simp) (by have := hxb; first | omega | (simp; omega)))
  have C2_5 := Lib.hid (step_cell hb (show World.cell? _ ⟨xb, xo + 2, none⟩ = some (.int .i64 (b0)) by first | exact C2_4.out | go_simp) (by have := hxb; first | omega | (simp; omega)))
  have C3_5 := Lib.hid (step_cell hb (show World.cell? _ ⟨xb, xo + 2 + 1, none⟩ = some (.int .i64 (b1)) by first | exact C3_4.out | go_simp) (by have := hxb; first | omega | (simp; omega)))
  have hL5 := Lib.hid (show Below w4.heap.size w4 _ from reads_mid hb (by repeat' (first | exact Below.refl _ _ | refine below_drewN ?_ _ | refine Below.drew ?_ | refine Below.alloc ?_ (by first | omega | (simp; done) | (simp; omega) | (simp [World.setCell]; omega)) _ | refine Below.setCell ?_ (by first | omega | (simp; done) | (simp; omega)) _)))
  have R0_5 := Lib.hid (reads_lay hb hL5.out R0_4.out)
  have R1_5 := Lib.hid (reads_lay hb hL5.out R1_4.out)
  clear hL5 R0_4 R1_4
  have hz5 := hb.size
  try simp only [World.size_alloc, World.drewN, World.drew] at hz5
  clear hb K0_4 K1_4 z0_0_4 z0_1_4 l0_4 z1_0_4 z1_1_4 z1_2_4 z1_3_4 l1_4
  have l0_5 : w.heap.size < w5.heap.size := K0_5.out.lt
  have z0_0_5 : w5.cell? ⟨w.heap.size, 0, none⟩ = some (.int .i64 (ox)) := K0_5.out.cell 0
  have z0_1_5 : w5.cell? ⟨w.heap.size, 1, none⟩ = some (.int .i64 (oy)) := K0_5.out.cell 1
  have l1_5 : bx < w5.heap.size := K1_5.out.lt
  have z1_0_5 : w5.cell? ⟨bx, 0, none⟩ = some (.int .i64 (p0)) := K1_5.out.cell 0
  have z1_1_5 : w5.cell? ⟨bx, 1, none⟩ = some (.int .i64 (p1)) := K1_5.out.cell 1
  have z1_2_5 : w5.cell? ⟨bx, 2, none⟩ = some (.int .i64 (q0)) := K1_5.out.cell 2
  have z1_3_5 : w5.cell? ⟨bx, 3, none⟩ = some (.int .i64 (q1)) := K1_5.out.cell 3
  go_wp2_with fail
  refine (isoff_is ox oy true HS.out _).mono ?_
  rintro e w6 ⟨rfl, hb⟩
  have HB6 := Lib.hid (show Below w.heap.size w w6 from step_below hb (by repeat' (first | exact Below.refl _ _ | exact HB5.out | refine below_drewN ?_ _ | refine Below.drew ?_ | refine Below.alloc ?_ (by first | omega | (simp; done) | (simp; omega) | (simp [World.setCell]; omega)) _ | refine Below.setCell ?_ (by first | omega | (simp; done) | (simp; omega)) _ | assumption)))
  have K0_6 := Lib.hid (step_blk hb (show Blk _ (w.heap.size) 46 #[.int .i64 (ox), .int .i64 (oy)] by repeat' (first | exact K0_5.out | exact K1_5.out | exact Blk.at_ _ (by first | rfl | (simp; done) | (simp; omega)) _ _ | refine Blk.drewN ?_ _ | refine Blk.drew ?_ | refine Blk.alloc ?_ _ | refine Blk.far ?_ (by first | omega | (simp; done) | (simp; omega)) _ | assumption)))
  have K1_6 := Lib.hid (step_blk hb (show Blk _ (bx) 73 #[.int .i64 (p0), .int .i64 (p1), .int .i64 (q0), .int .i64 (q1)] by repeat' (first | exact K0_5.out | exact K1_5.out | exact Blk.at_ _ (by first | rfl | (simp; done) | (simp; omega)) _ _ | refine Blk.drewN ?_ _ | refine Blk.drew ?_ | refine Blk.alloc ?_ _ | refine Blk.far ?_ (by first | omega | (simp; done) | (simp; omega)) _ | assumption)))
  have C0_6 := Lib.hid (step_cell hb (show World.cell? _ ⟨xb, xo, none⟩ = some (.int .i64 (a0)) by first | exact C0_5.out | go_simp) (by have := hxb; first | omega | (simp; omega)))
  have C1_6 := Lib.hid (step_cell hb (show World.cell? _ ⟨xb, xo + 1, none⟩ = some (.int .i64 (a1)) by first | exact C1_5.out | go_simp) (by have := hxb; first | omega | (simp; omega)))
  have C2_6 := Lib.hid (step_cell hb (show World.cell? _ ⟨xb, xo + 2, none⟩ = some (.int .i64 (b0)) by first | exact C2_5.out | go_simp) (by have := hxb; first | omega | (simp; omega)))
  have C3_6 := Lib.hid (step_cell hb (show World.cell? _ ⟨xb, xo + 2 + 1, none⟩ = some (.int .i64 (b1)) by first | exact C3_5.out | go_simp) (by have := hxb; first | omega | (simp; omega)))
  have hL6 := Lib.hid (show Below w5.heap.size w5 _ from reads_mid hb (by repeat' (first | exact Below.refl _ _ | refine below_drewN ?_ _ | refine Below.drew ?_ | refine Below.alloc ?_ (by first | omega | (simp; done) | (simp; omega) | (simp [World.setCell]; omega)) _ | refine Below.setCell ?_ (by first | omega | (simp; done) | (simp; omega)) _)))
  have R0_6 := Lib.hid (reads_lay hb hL6.out R0_5.out)
  have R1_6 := Lib.hid (reads_lay hb hL6.out R1_5.out)
  clear hL6 R0_5 R1_5
  have hz6 := hb.size
  try simp only [World.size_alloc, World.drewN, World.drew] at hz6
  clear hb K0_5 K1_5 z0_0_5 z0_1_5 l0_5 z1_0_5 z1_1_5 z1_2_5 z1_3_5 l1_5
  have l0_6 : w.heap.size < w6.heap.size := K0_6.out.lt
  have z0_0_6 : w6.cell? ⟨w.heap.size, 0, none⟩ = some (.int .i64 (ox)) := K0_6.out.cell 0
  have z0_1_6 : w6.cell? ⟨w.heap.size, 1, none⟩ = some (.int .i64 (oy)) := K0_6.out.cell 1
  have l1_6 : bx < w6.heap.size := K1_6.out.lt
  have z1_0_6 : w6.cell? ⟨bx, 0, none⟩ = some (.int .i64 (p0)) := K1_6.out.cell 0
  have z1_1_6 : w6.cell? ⟨bx, 1, none⟩ = some (.int .i64 (p1)) := K1_6.out.cell 1
  have z1_2_6 : w6.cell? ⟨bx, 2, none⟩ = some (.int .i64 (q0)) := K1_6.out.cell 2
  have z1_3_6 : w6.cell? ⟨bx, 3, none⟩ = some (.int .i64 (q1)) := K1_6.out.cell 3
  go_wp2
  refine Fx.regionM (fun W g f w' => Kp (PfT ⟨0, 0, 0, 0, 0, none, 0, 0, [], none, 0, 0, []⟩ 0 [] 0 [] 97 99 98) W g w') (fun i (x : Pick2) => undef) (by kernel_rfl) ?_ ?_
  · intro f hf0
    exact Kp.start
  first
  | (refine Fx.WM.skip 0 (by rfl) (by kernel_rfl) (by kernel_rfl) (by kernel_rfl) (by rfl) (fun g f w h => h) ?_; simp only [Act.put, List.setIfInBounds_toArray, List.set_cons_zero, List.set_cons_succ])
  | (refine Fx.WM.val_ 0 ?_ (by rfl) (by kernel_rfl) (by kernel_rfl) (by kernel_rfl) (by rfl) ?_ (fun g f w h => h) ?_
     rotate_left
     · intro g f w' hx hD hk
       obtain hkp := id hD
       clear hx hk hD hkp
       go_simp
       try rfl
     simp only [Act.put, List.setIfInBounds_toArray, List.set_cons_zero, List.set_cons_succ])
  first
  | (refine Fx.WM.skip 1 (by rfl) (by kernel_rfl) (by kernel_rfl) (by kernel_rfl) (by rfl) (fun g f w h => h) ?_; simp only [Act.put, List.setIfInBounds_toArray, List.set_cons_zero, List.set_cons_succ])
  | (refine Fx.WM.val_ 1 ?_ (by rfl) (by kernel_rfl) (by kernel_rfl) (by kernel_rfl) (by rfl) ?_ (fun g f w h => h) ?_
     rotate_left
     · intro g f w' hx hD hk
       obtain hkp := id hD
       clear hx hk hD hkp
       go_simp
       try rfl
     simp only [Act.put, List.setIfInBounds_toArray, List.set_cons_zero, List.set_cons_succ])
  first
  | (refine Fx.WM.skip 2 (by rfl) (by kernel_rfl) (by kernel_rfl) (by kernel_rfl) (by rfl) (fun g f w h => h) ?_; simp only [Act.put, List.setIfInBounds_toArray, List.set_cons_zero, List.set_cons_succ])
  | (refine Fx.WM.val_ 2 ?_ (by rfl) (by kernel_rfl) (by kernel_rfl) (by kernel_rfl) (by rfl) ?_ (fun g f w h => h) ?_
     rotate_left
     · intro g f w' hx hD hk
       obtain hkp := id hD
       clear hx hk hD hkp
       go_simp
       try rfl
     simp only [Act.put, List.setIfInBounds_toArray, List.set_cons_zero, List.set_cons_succ])
  first
  | (refine Fx.WM.skip 3 (by rfl) (by kernel_rfl) (by kernel_rfl) (by kernel_rfl) (by rfl) (fun g f w h => h) ?_; simp only [Act.put, List.setIfInBounds_toArray, List.set_cons_zero, List.set_cons_succ])
  | (refine Fx.WM.val_ 3 ?_ (by rfl) (by kernel_rfl) (by kernel_rfl) (by kernel_rfl) (by rfl) ?_ (fun g f w h => h) ?_
     rotate_left
     · intro g f w' hx hD hk
       obtain hkp := id hD
       have y1_0 := (K1_6.out.below hkp.bel l1_6).cell 0
       have y1_1 := (K1_6.out.below hkp.bel l1_6).cell 1
       have y1_2 := (K1_6.out.below hkp.bel l1_6).cell 2
       have y1_3 := (K1_6.out.below hkp.bel l1_6).cell 3
       clear hx hk hD hkp
       go_simp
       try rfl
     simp only [Act.put, List.setIfInBounds_toArray, List.set_cons_zero, List.set_cons_succ])
  first
  | (refine Fx.WM.skip 4 (by rfl) (by kernel_rfl) (by kernel_rfl) (by kernel_rfl) (by rfl) (fun g f w h => h) ?_; simp only [Act.put, List.setIfInBounds_toArray, List.set_cons_zero, List.set_cons_succ])
  | (refine Fx.WM.val_ 4 ?_ (by rfl) (by kernel_rfl) (by kernel_rfl) (by kernel_rfl) (by rfl) ?_ (fun g f w h => h) ?_
     rotate_left
     · intro g f w' hx hD hk
       obtain hkp := id hD
       clear hx hk hD hkp
       go_simp
       try rfl
     simp only [Act.put, List.setIfInBounds_toArray, List.set_cons_zero, List.set_cons_succ])
  first
  | (refine Fx.WM.skip 5 (by rfl) (by kernel_rfl) (by kernel_rfl) (by kernel_rfl) (by rfl) (fun g f w h => h) ?_; simp only [Act.put, List.setIfInBounds_toArray, List.set_cons_zero, List.set_cons_succ])
  | (refine Fx.WM.val_ 5 ?_ (by rfl) (by kernel_rfl) (by kernel_rfl) (by kernel_rfl) (by rfl) ?_ (fun g f w h => h) ?_
     rotate_left
     · intro g f w' hx hD hk
       obtain hkp := id hD
       have y0_0 := (K0_6.out.below hkp.bel l0_6).cell 0
       have y0_1 := (K0_6.out.below hkp.bel l0_6).cell 1
       clear hx hk hD hkp
       go_simp
       try rfl
     simp only [Act.put, List.setIfInBounds_toArray, List.set_cons_zero, List.set_cons_succ])
  refine Fx.WM.call 6 (.agg #[.int .i64 p0, .int .i64 p1, .int .i64 q0, .int .i64 q1]) ?_ ?_ (by rfl) (by kernel_rfl) (by kernel_rfl) (by kernel_rfl) (by rfl) ?_ ?_ ?_
  rotate_left 2
  · intro w'
    go_simp
    refine ⟨?_, ?_⟩ <;> rfl
  · intro g f w' hx hD hk
    exact (rcol_ok _ c a0 a1 b0 b1 ox oy p0 p1 q0 q1 HE.out HS.out HQ.out w' ((R0_6.out.below hD.bel).more hD.bel.size)).mono fun e w'' ⟨he, hw⟩ => ⟨he, hD.call PfT.stb hw⟩
  simp only [Act.put, List.setIfInBounds_toArray, List.set_cons_zero, List.set_cons_succ]
  first
  | (refine Fx.WM.skip 7 (by rfl) (by kernel_rfl) (by kernel_rfl) (by kernel_rfl) (by rfl) (fun g f w h => h) ?_; simp only [Act.put, List.setIfInBounds_toArray, List.set_cons_zero, List.set_cons_succ])
  | (refine Fx.WM.val_ 7 ?_ (by rfl) (by kernel_rfl) (by kernel_rfl) (by kernel_rfl) (by rfl) ?_ (fun g f w h => h) ?_
     rotate_left
     · intro g f w' hx hD hk
       obtain hkp := id hD
       clear hx hk hD hkp
       go_simp
       try rfl
     simp only [Act.put, List.setIfInBounds_toArray, List.set_cons_zero, List.set_cons_succ])
  first
  | (refine Fx.WM.skip 8 (by rfl) (by kernel_rfl) (by kernel_rfl) (by kernel_rfl) (by rfl) (fun g f w h => h) ?_; simp only [Act.put, List.setIfInBounds_toArray, List.set_cons_zero, List.set_cons_succ])
  | (refine Fx.WM.val_ 8 ?_ (by rfl) (by kernel_rfl) (by kernel_rfl) (by kernel_rfl) (by rfl) ?_ (fun g f w h => h) ?_
     rotate_left
     · intro g f w' hx hD hk
       obtain hkp := id hD
       clear hx hk hD hkp
       go_simp
       try rfl
     simp only [Act.put, List.setIfInBounds_toArray, List.set_cons_zero, List.set_cons_succ])
  refine Fx.WM.nil (by kernel_rfl) ?_
  intro wz hkp
  have hb := hkp.bel
  clear hkp
  obtain ⟨w7, hnm⟩ : ∃ z : World, z = wz := ⟨_, rfl⟩
  subst hnm
  have HB7 := Lib.hid (show Below w.heap.size w w7 from step_below hb (by repeat' (first | exact Below.refl _ _ | exact HB6.out | refine below_drewN ?_ _ | refine Below.drew ?_ | refine Below.alloc ?_ (by first | omega | (simp; done) | (simp; omega) | (simp [World.setCell]; omega)) _ | refine Below.setCell ?_ (by first | omega | (simp; done) | (simp; omega)) _ | assumption)))
  have K0_7 := Lib.hid (step_blk hb (show Blk _ (w.heap.size) 46 #[.int .i64 (ox), .int .i64 (oy)] by repeat' (first | exact K0_6.out | exact K1_6.out | exact Blk.at_ _ (by first | rfl | (simp; done) | (simp; omega)) _ _ | refine Blk.drewN ?_ _ | refine Blk.drew ?_ | refine Blk.alloc ?_ _ | refine Blk.far ?_ (by first | omega | (simp; done) | (simp; omega)) _ | assumption)))
  have K1_7 := Lib.hid (step_blk hb (show Blk _ (bx) 73 #[.int .i64 (p0), .int .i64 (p1), .int .i64 (q0), .int .i64 (q1)] by repeat' (first | exact K0_6.out | exact K1_6.out | exact Blk.at_ _ (by first | rfl | (simp; done) | (simp; omega)) _ _ | refine Blk.drewN ?_ _ | refine Blk.drew ?_ | refine Blk.alloc ?_ _ | refine Blk.far ?_ (by first | omega | (simp; done) | (simp; omega)) _ | assumption)))
  have C0_7 := Lib.hid (step_cell hb (show World.cell? _ ⟨xb, xo, none⟩ = some (.int .i64 (a0)) by first | exact C0_6.out | go_simp) (by have := hxb; first | omega | (simp; omega)))
  have C1_7 := Lib.hid (step_cell hb (show World.cell? _ ⟨xb, xo + 1, none⟩ = some (.int .i64 (a1)) by first | exact C1_6.out | go_simp) (by have := hxb; first | omega | (simp; omega)))
  have C2_7 := Lib.hid (step_cell hb (show World.cell? _ ⟨xb, xo + 2, none⟩ = some (.int .i64 (b0)) by first | exact C2_6.out | go_simp) (by have := hxb; first | omega | (simp; omega)))
  have C3_7 := Lib.hid (step_cell hb (show World.cell? _ ⟨xb, xo + 2 + 1, none⟩ = some (.int .i64 (b1)) by first | exact C3_6.out | go_simp) (by have := hxb; first | omega | (simp; omega)))
  have hL7 := Lib.hid (show Below w6.heap.size w6 _ from reads_mid hb (by repeat' (first | exact Below.refl _ _ | refine below_drewN ?_ _ | refine Below.drew ?_ | refine Below.alloc ?_ (by first | omega | (simp; done) | (simp; omega) | (simp [World.setCell]; omega)) _ | refine Below.setCell ?_ (by first | omega | (simp; done) | (simp; omega)) _)))
  have R0_7 := Lib.hid (reads_lay hb hL7.out R0_6.out)
  have R1_7 := Lib.hid (reads_lay hb hL7.out R1_6.out)
  clear hL7 R0_6 R1_6
  have hz7 := hb.size
  try simp only [World.size_alloc, World.drewN, World.drew] at hz7
  clear hb K0_6 K1_6 z0_0_6 z0_1_6 l0_6 z1_0_6 z1_1_6 z1_2_6 z1_3_6 l1_6
  have l0_7 : w.heap.size < w7.heap.size := K0_7.out.lt
  have z0_0_7 : w7.cell? ⟨w.heap.size, 0, none⟩ = some (.int .i64 (ox)) := K0_7.out.cell 0
  have z0_1_7 : w7.cell? ⟨w.heap.size, 1, none⟩ = some (.int .i64 (oy)) := K0_7.out.cell 1
  have l1_7 : bx < w7.heap.size := K1_7.out.lt
  have z1_0_7 : w7.cell? ⟨bx, 0, none⟩ = some (.int .i64 (p0)) := K1_7.out.cell 0
  have z1_1_7 : w7.cell? ⟨bx, 1, none⟩ = some (.int .i64 (p1)) := K1_7.out.cell 1
  have z1_2_7 : w7.cell? ⟨bx, 2, none⟩ = some (.int .i64 (q0)) := K1_7.out.cell 2
  have z1_3_7 : w7.cell? ⟨bx, 3, none⟩ = some (.int .i64 (q1)) := K1_7.out.cell 3
  go_wp2
  refine wp_loop_rounds 3 ?_
  rw [rounds_succ]
  go_wp2
  obtain ⟨v1, v2, v3, v4, v5, v6, v7, v8⟩ := W0.out
  refine Fx.regionM (fun W g f w' => Kp (PfT ⟨0, 0, 0, 0, 0, none, 0, 0, [], none, 0, 0, []⟩ 0 [] 0 [] 97 99 98) W g w') (fun i (x : Pick2) => undef) (by kernel_rfl) ?_ ?_
  · intro f hf0
    exact Kp.start
  first
  | (refine Fx.WM.skip 0 (by rfl) (by kernel_rfl) (by kernel_rfl) (by kernel_rfl) (by rfl) (fun g f w h => h) ?_; simp only [Act.put, List.setIfInBounds_toArray, List.set_cons_zero, List.set_cons_succ])
  | (refine Fx.WM.val_ 0 ?_ (by rfl) (by kernel_rfl) (by kernel_rfl) (by kernel_rfl) (by rfl) ?_ (fun g f w h => h) ?_
     rotate_left
     · intro g f w' hx hD hk
       obtain hkp := id hD
       clear hx hk hD hkp
       go_simp
       try rfl
     simp only [Act.put, List.setIfInBounds_toArray, List.set_cons_zero, List.set_cons_succ])
  first
  | (refine Fx.WM.skip 1 (by rfl) (by kernel_rfl) (by kernel_rfl) (by kernel_rfl) (by rfl) (fun g f w h => h) ?_; simp only [Act.put, List.setIfInBounds_toArray, List.set_cons_zero, List.set_cons_succ])
  | (refine Fx.WM.val_ 1 ?_ (by rfl) (by kernel_rfl) (by kernel_rfl) (by kernel_rfl) (by rfl) ?_ (fun g f w h => h) ?_
     rotate_left
     · intro g f w' hx hD hk
       obtain hkp := id hD
       clear hx hk hD hkp
       go_simp
       try rfl
     simp only [Act.put, List.setIfInBounds_toArray, List.set_cons_zero, List.set_cons_succ])
  first
  | (refine Fx.WM.skip 2 (by rfl) (by kernel_rfl) (by kernel_rfl) (by kernel_rfl) (by rfl) (fun g f w h => h) ?_; simp only [Act.put, List.setIfInBounds_toArray, List.set_cons_zero, List.set_cons_succ])
  | (refine Fx.WM.val_ 2 ?_ (by rfl) (by kernel_rfl) (by kernel_rfl) (by kernel_rfl) (by rfl) ?_ (fun g f w h => h) ?_
     rotate_left
     · intro g f w' hx hD hk
       obtain hkp := id hD
       clear hx hk hD hkp
       go_simp
       try rfl
     simp only [Act.put, List.setIfInBounds_toArray, List.set_cons_zero, List.set_cons_succ])
  first
  | (refine Fx.WM.skip 3 (by rfl) (by kernel_rfl) (by kernel_rfl) (by kernel_rfl) (by rfl) (fun g f w h => h) ?_; simp only [Act.put, List.setIfInBounds_toArray, List.set_cons_zero, List.set_cons_succ])
  | (refine Fx.WM.val_ 3 ?_ (by rfl) (by kernel_rfl) (by kernel_rfl) (by kernel_rfl) (by rfl) ?_ (fun g f w h => h) ?_
     rotate_left
     · intro g f w' hx hD hk
       obtain hkp := id hD
       clear hx hk hD hkp
       go_simp
       try rfl
     simp only [Act.put, List.setIfInBounds_toArray, List.set_cons_zero, List.set_cons_succ])
  first
  | (refine Fx.WM.skip 4 (by rfl) (by kernel_rfl) (by kernel_rfl) (by kernel_rfl) (by rfl) (fun g f w h => h) ?_; simp only [Act.put, List.setIfInBounds_toArray, List.set_cons_zero, List.set_cons_succ])
  | (refine Fx.WM.val_ 4 ?_ (by rfl) (by kernel_rfl) (by kernel_rfl) (by kernel_rfl) (by rfl) ?_ (fun g f w h => h) ?_
     rotate_left
     · intro g f w' hx hD hk
       obtain hkp := id hD
       have yc0 := (hkp.bel.cell (p := ⟨xb, xo, none⟩) (by have := hxb; show xb < _; omega)).trans C0_7.out
       have yc1 := (hkp.bel.cell (p := ⟨xb, xo + 1, none⟩) (by have := hxb; show xb < _; omega)).trans C1_7.out
       have yc2 := (hkp.bel.cell (p := ⟨xb, xo + 2, none⟩) (by have := hxb; show xb < _; omega)).trans C2_7.out
       have yc3 := (hkp.bel.cell (p := ⟨xb, xo + 2 + 1, none⟩) (by have := hxb; show xb < _; omega)).trans C3_7.out
       clear hx hk hD hkp
       go_simp
       try rfl
     simp only [Act.put, List.setIfInBounds_toArray, List.set_cons_zero, List.set_cons_succ])
  first
  | (refine Fx.WM.skip 5 (by rfl) (by kernel_rfl) (by kernel_rfl) (by kernel_rfl) (by rfl) (fun g f w h => h) ?_; simp only [Act.put, List.setIfInBounds_toArray, List.set_cons_zero, List.set_cons_succ])
  | (refine Fx.WM.val_ 5 ?_ (by rfl) (by kernel_rfl) (by kernel_rfl) (by kernel_rfl) (by rfl) ?_ (fun g f w h => h) ?_
     rotate_left
     · intro g f w' hx hD hk
       obtain hkp := id hD
       clear hx hk hD hkp
       go_simp
       try rfl
     simp only [Act.put, List.setIfInBounds_toArray, List.set_cons_zero, List.set_cons_succ])
  first
  | (refine Fx.WM.skip 6 (by rfl) (by kernel_rfl) (by kernel_rfl) (by kernel_rfl) (by rfl) (fun g f w h => h) ?_; simp only [Act.put, List.setIfInBounds_toArray, List.set_cons_zero, List.set_cons_succ])
  | (refine Fx.WM.val_ 6 ?_ (by rfl) (by kernel_rfl) (by kernel_rfl) (by kernel_rfl) (by rfl) ?_ (fun g f w h => h) ?_
     rotate_left
     · intro g f w' hx hD hk
       obtain hkp := id hD
       clear hx hk hD hkp
       go_simp
       try rfl
     simp only [Act.put, List.setIfInBounds_toArray, List.set_cons_zero, List.set_cons_succ])
  first
  | (refine Fx.WM.skip 7 (by rfl) (by kernel_rfl) (by kernel_rfl) (by kernel_rfl) (by rfl) (fun g f w h => h) ?_; simp only [Act.put, List.setIfInBounds_toArray, List.set_cons_zero, List.set_cons_succ])
  | (refine Fx.WM.val_ 7 ?_ (by rfl) (by kernel_rfl) (by kernel_rfl) (by kernel_rfl) (by rfl) ?_ (fun g f w h => h) ?_
     rotate_left
     · intro g f w' hx hD hk
       obtain hkp := id hD
       have y1_0 := (K1_7.out.below hkp.bel l1_7).cell 0
       have y1_1 := (K1_7.out.below hkp.bel l1_7).cell 1
       have y1_2 := (K1_7.out.below hkp.bel l1_7).cell 2
       have y1_3 := (K1_7.out.below hkp.bel l1_7).cell 3
       clear hx hk hD hkp
       go_simp
       try rfl
     simp only [Act.put, List.setIfInBounds_toArray, List.set_cons_zero, List.set_cons_succ])
  first
  | (refine Fx.WM.skip 8 (by rfl) (by kernel_rfl) (by kernel_rfl) (by kernel_rfl) (by rfl) (fun g f w h => h) ?_; simp only [Act.put, List.setIfInBounds_toArray, List.set_cons_zero, List.set_cons_succ])
  | (refine Fx.WM.val_ 8 ?_ (by rfl) (by kernel_rfl) (by kernel_rfl) (by kernel_rfl) (by rfl) ?_ (fun g f w h => h) ?_
     rotate_left
     · intro g f w' hx hD hk
       obtain hkp := id hD
       clear hx hk hD hkp
       go_simp
       try rfl
     simp only [Act.put, List.setIfInBounds_toArray, List.set_cons_zero, List.set_cons_succ])
  first
  | (refine Fx.WM.skip 9 (by rfl) (by kernel_rfl) (by kernel_rfl) (by kernel_rfl) (by rfl) (fun g f w h => h) ?_; simp only [Act.put, List.setIfInBounds_toArray, List.set_cons_zero, List.set_cons_succ])
  | (refine Fx.WM.val_ 9 ?_ (by rfl) (by kernel_rfl) (by kernel_rfl) (by kernel_rfl) (by rfl) ?_ (fun g f w h => h) ?_
     rotate_left
     · intro g f w' hx hD hk
       obtain hkp := id hD
       clear hx hk hD hkp
       go_simp
       try rfl
     simp only [Act.put, List.setIfInBounds_toArray, List.set_cons_zero, List.set_cons_succ])
  first
  | (refine Fx.WM.skip 10 (by rfl) (by kernel_rfl) (by kernel_rfl) (by kernel_rfl) (by rfl) (fun g f w h => h) ?_; simp only [Act.put, List.setIfInBounds_toArray, List.set_cons_zero, List.set_cons_succ])
  | (refine Fx.WM.val_ 10 ?_ (by rfl) (by kernel_rfl) (by kernel_rfl) (by kernel_rfl) (by rfl) ?_ (fun g f w h => h) ?_
     rotate_left
     · intro g f w' hx hD hk
       obtain hkp := id hD
       clear hx hk hD hkp
       go_simp
       try rfl
     simp only [Act.put, List.setIfInBounds_toArray, List.set_cons_zero, List.set_cons_succ])
  first
  | (refine Fx.WM.skip 11 (by rfl) (by kernel_rfl) (by kernel_rfl) (by kernel_rfl) (by rfl) (fun g f w h => h) ?_; simp only [Act.put, List.setIfInBounds_toArray, List.set_cons_zero, List.set_cons_succ])
  | (refine Fx.WM.val_ 11 ?_ (by rfl) (by kernel_rfl) (by kernel_rfl) (by kernel_rfl) (by rfl) ?_ (fun g f w h => h) ?_
     rotate_left
     · intro g f w' hx hD hk
       obtain hkp := id hD
       have y1_0 := (K1_7.out.below hkp.bel l1_7).cell 0
       have y1_1 := (K1_7.out.below hkp.bel l1_7).cell 1
       have y1_2 := (K1_7.out.below hkp.bel l1_7).cell 2
       have y1_3 := (K1_7.out.below hkp.bel l1_7).cell 3
       clear hx hk hD hkp
       go_simp
       try rfl
     simp only [Act.put, List.setIfInBounds_toArray, List.set_cons_zero, List.set_cons_succ])
  first
  | (refine Fx.WM.skip 12 (by rfl) (by kernel_rfl) (by kernel_rfl) (by kernel_rfl) (by rfl) (fun g f w h => h) ?_; simp only [Act.put, List.setIfInBounds_toArray, List.set_cons_zero, List.set_cons_succ])
  | (refine Fx.WM.val_ 12 ?_ (by rfl) (by kernel_rfl) (by kernel_rfl) (by kernel_rfl) (by rfl) ?_ (fun g f w h => h) ?_
     rotate_left
     · intro g f w' hx hD hk
       obtain hkp := id hD
       clear hx hk hD hkp
       go_simp
       try rfl
     simp only [Act.put, List.setIfInBounds_toArray, List.set_cons_zero, List.set_cons_succ])
  first
  | (refine Fx.WM.skip 13 (by rfl) (by kernel_rfl) (by kernel_rfl) (by kernel_rfl) (by rfl) (fun g f w h => h) ?_; simp only [Act.put, List.setIfInBounds_toArray, List.set_cons_zero, List.set_cons_succ])
  | (refine Fx.WM.val_ 13 ?_ (by rfl) (by kernel_rfl) (by kernel_rfl) (by kernel_rfl) (by rfl) ?_ (fun g f w h => h) ?_
     rotate_left
     · intro g f w' hx hD hk
       obtain hkp := id hD
       clear hx hk hD hkp
       go_simp
       try rfl
     simp only [Act.put, List.setIfInBounds_toArray, List.set_cons_zero, List.set_cons_succ])
  first
  | (refine Fx.WM.skip 14 (by rfl) (by kernel_rfl) (by kernel_rfl) (by kernel_rfl) (by rfl) (fun g f w h => h) ?_; simp only [Act.put, List.setIfInBounds_toArray, List.set_cons_zero, List.set_cons_succ])
  | (refine Fx.WM.val_ 14 ?_ (by rfl) (by kernel_rfl) (by kernel_rfl) (by kernel_rfl) (by rfl) ?_ (fun g f w h => h) ?_
     rotate_left
     · intro g f w' hx hD hk
       obtain hkp := id hD
       clear hx hk hD hkp
       go_simp
       try rfl
     simp only [Act.put, List.setIfInBounds_toArray, List.set_cons_zero, List.set_cons_succ])
  first
  | (refine Fx.WM.skip 15 (by rfl) (by kernel_rfl) (by kernel_rfl) (by kernel_rfl) (by rfl) (fun g f w h => h) ?_; simp only [Act.put, List.setIfInBounds_toArray, List.set_cons_zero, List.set_cons_succ])
  | (refine Fx.WM.val_ 15 ?_ (by rfl) (by kernel_rfl) (by kernel_rfl) (by kernel_rfl) (by rfl) ?_ (fun g f w h => h) ?_
     rotate_left
     · intro g f w' hx hD hk
       obtain hkp := id hD
       clear hx hk hD hkp
       go_simp
       try rfl
     simp only [Act.put, List.setIfInBounds_toArray, List.set_cons_zero, List.set_cons_succ])
  first
  | (refine Fx.WM.skip 16 (by rfl) (by kernel_rfl) (by kernel_rfl) (by kernel_rfl) (by rfl) (fun g f w h => h) ?_; simp only [Act.put, List.setIfInBounds_toArray, List.set_cons_zero, List.set_cons_succ])
  | (refine Fx.WM.val_ 16 ?_ (by rfl) (by kernel_rfl) (by kernel_rfl) (by kernel_rfl) (by rfl) ?_ (fun g f w h => h) ?_
     rotate_left
     · intro g f w' hx hD hk
       obtain hkp := id hD
       clear hx hk hD hkp
       go_simp
       try rfl
     simp only [Act.put, List.setIfInBounds_toArray, List.set_cons_zero, List.set_cons_succ])
  first
  | (refine Fx.WM.skip 17 (by rfl) (by kernel_rfl) (by kernel_rfl) (by kernel_rfl) (by rfl) (fun g f w h => h) ?_; simp only [Act.put, List.setIfInBounds_toArray, List.set_cons_zero, List.set_cons_succ])
  | (refine Fx.WM.val_ 17 ?_ (by rfl) (by kernel_rfl) (by kernel_rfl) (by kernel_rfl) (by rfl) ?_ (fun g f w h => h) ?_
     rotate_left
     · intro g f w' hx hD hk
       obtain hkp := id hD
       have yc0 := (hkp.bel.cell (p := ⟨xb, xo, none⟩) (by have := hxb; show xb < _; omega)).trans C0_7.out
       have yc1 := (hkp.bel.cell (p := ⟨xb, xo + 1, none⟩) (by have := hxb; show xb < _; omega)).trans C1_7.out
       have yc2 := (hkp.bel.cell (p := ⟨xb, xo + 2, none⟩) (by have := hxb; show xb < _; omega)).trans C2_7.out
       have yc3 := (hkp.bel.cell (p := ⟨xb, xo + 2 + 1, none⟩) (by have := hxb; show xb < _; omega)).trans C3_7.out
       clear hx hk hD hkp
       go_simp
       try rfl
     simp only [Act.put, List.setIfInBounds_toArray, List.set_cons_zero, List.set_cons_succ])
  first
  | (refine Fx.WM.skip 18 (by rfl) (by kernel_rfl) (by kernel_rfl) (by kernel_rfl) (by rfl) (fun g f w h => h) ?_; simp only [Act.put, List.setIfInBounds_toArray, List.set_cons_zero, List.set_cons_succ])
  | (refine Fx.WM.val_ 18 ?_ (by rfl) (by kernel_rfl) (by kernel_rfl) (by kernel_rfl) (by rfl) ?_ (fun g f w h => h) ?_
     rotate_left
     · intro g f w' hx hD hk
       obtain hkp := id hD
       clear hx hk hD hkp
       go_simp
       try rfl
     simp only [Act.put, List.setIfInBounds_toArray, List.set_cons_zero, List.set_cons_succ])
  first
  | (refine Fx.WM.skip 19 (by rfl) (by kernel_rfl) (by kernel_rfl) (by kernel_rfl) (by rfl) (fun g f w h => h) ?_; simp only [Act.put, List.setIfInBounds_toArray, List.set_cons_zero, List.set_cons_succ])
  | (refine Fx.WM.val_ 19 ?_ (by rfl) (by kernel_rfl) (by kernel_rfl) (by kernel_rfl) (by rfl) ?_ (fun g f w h => h) ?_
     rotate_left
     · intro g f w' hx hD hk
       obtain hkp := id hD
       clear hx hk hD hkp
       go_simp
       try rfl
     simp only [Act.put, List.setIfInBounds_toArray, List.set_cons_zero, List.set_cons_succ])
  first
  | (refine Fx.WM.skip 20 (by rfl) (by kernel_rfl) (by kernel_rfl) (by kernel_rfl) (by rfl) (fun g f w h => h) ?_; simp only [Act.put, List.setIfInBounds_toArray, List.set_cons_zero, List.set_cons_succ])
  | (refine Fx.WM.val_ 20 ?_ (by rfl) (by kernel_rfl) (by kernel_rfl) (by kernel_rfl) (by rfl) ?_ (fun g f w h => h) ?_
     rotate_left
     · intro g f w' hx hD hk
       obtain hkp := id hD
       have y1_0 := (K1_7.out.below hkp.bel l1_7).cell 0
       have y1_1 := (K1_7.out.below hkp.bel l1_7).cell 1
       have y1_2 := (K1_7.out.below hkp.bel l1_7).cell 2
       have y1_3 := (K1_7.out.below hkp.bel l1_7).cell 3
       clear hx hk hD hkp
       go_simp
       try rfl
     simp only [Act.put, List.setIfInBounds_toArray, List.set_cons_zero, List.set_cons_succ])
  first
  | (refine Fx.WM.skip 21 (by rfl) (by kernel_rfl) (by kernel_rfl) (by kernel_rfl) (by rfl) (fun g f w h => h) ?_; simp only [Act.put, List.setIfInBounds_toArray, List.set_cons_zero, List.set_cons_succ])
  | (refine Fx.WM.val_ 21 ?_ (by rfl) (by kernel_rfl) (by kernel_rfl) (by kernel_rfl) (by rfl) ?_ (fun g f w h => h) ?_
     rotate_left
     · intro g f w' hx hD hk
       obtain hkp := id hD
       clear hx hk hD hkp
       go_simp
       try rfl
     simp only [Act.put, List.setIfInBounds_toArray, List.set_cons_zero, List.set_cons_succ])
  first
  | (refine Fx.WM.skip 22 (by rfl) (by kernel_rfl) (by kernel_rfl) (by kernel_rfl) (by rfl) (fun g f w h => h) ?_; simp only [Act.put, List.setIfInBounds_toArray, List.set_cons_zero, List.set_cons_succ])
  | (refine Fx.WM.val_ 22 ?_ (by rfl) (by kernel_rfl) (by kernel_rfl) (by kernel_rfl) (by rfl) ?_ (fun g f w h => h) ?_
     rotate_left
     · intro g f w' hx hD hk
       obtain hkp := id hD
       clear hx hk hD hkp
       go_simp
       try rfl
     simp only [Act.put, List.setIfInBounds_toArray, List.set_cons_zero, List.set_cons_succ])
  first
  | (refine Fx.WM.skip 23 (by rfl) (by kernel_rfl) (by kernel_rfl) (by kernel_rfl) (by rfl) (fun g f w h => h) ?_; simp only [Act.put, List.setIfInBounds_toArray, List.set_cons_zero, List.set_cons_succ])
  | (refine Fx.WM.val_ 23 ?_ (by rfl) (by kernel_rfl) (by kernel_rfl) (by kernel_rfl) (by rfl) ?_ (fun g f w h => h) ?_
     rotate_left
     · intro g f w' hx hD hk
       obtain hkp := id hD
       clear hx hk hD hkp
       go_simp
       try rfl
     simp only [Act.put, List.setIfInBounds_toArray, List.set_cons_zero, List.set_cons_succ])
  first
  | (refine Fx.WM.skip 24 (by rfl) (by kernel_rfl) (by kernel_rfl) (by kernel_rfl) (by rfl) (fun g f w h => h) ?_; simp only [Act.put, List.setIfInBounds_toArray, List.set_cons_zero, List.set_cons_succ])
  | (refine Fx.WM.val_ 24 ?_ (by rfl) (by kernel_rfl) (by kernel_rfl) (by kernel_rfl) (by rfl) ?_ (fun g f w h => h) ?_
     rotate_left
     · intro g f w' hx hD hk
       obtain hkp := id hD
       have y1_0 := (K1_7.out.below hkp.bel l1_7).cell 0
       have y1_1 := (K1_7.out.below hkp.bel l1_7).cell 1
       have y1_2 := (K1_7.out.below hkp.bel l1_7).cell 2
       have y1_3 := (K1_7.out.below hkp.bel l1_7).cell 3
       clear hx hk hD hkp
       go_simp
       try rfl
     simp only [Act.put, List.setIfInBounds_toArray, List.set_cons_zero, List.set_cons_succ])
  first
  | (refine Fx.WM.skip 25 (by rfl) (by kernel_rfl) (by kernel_rfl) (by kernel_rfl) (by rfl) (fun g f w h => h) ?_; simp only [Act.put, List.setIfInBounds_toArray, List.set_cons_zero, List.set_cons_succ])
  | (refine Fx.WM.val_ 25 ?_ (by rfl) (by kernel_rfl) (by kernel_rfl) (by kernel_rfl) (by rfl) ?_ (fun g f w h => h) ?_
     rotate_left
     · intro g f w' hx hD hk
       obtain hkp := id hD
       clear hx hk hD hkp
       go_simp
       try rfl
     simp only [Act.put, List.setIfInBounds_toArray, List.set_cons_zero, List.set_cons_succ])
  first
  | (refine Fx.WM.skip 26 (by rfl) (by kernel_rfl) (by kernel_rfl) (by kernel_rfl) (by rfl) (fun g f w h => h) ?_; simp only [Act.put, List.setIfInBounds_toArray, List.set_cons_zero, List.set_cons_succ])
  | (refine Fx.WM.val_ 26 ?_ (by rfl) (by kernel_rfl) (by kernel_rfl) (by kernel_rfl) (by rfl) ?_ (fun g f w h => h) ?_
     rotate_left
     · intro g f w' hx hD hk
       obtain hkp := id hD
       clear hx hk hD hkp
       go_simp
       try rfl
     simp only [Act.put, List.setIfInBounds_toArray, List.set_cons_zero, List.set_cons_succ])
  first
  | (refine Fx.WM.skip 27 (by rfl) (by kernel_rfl) (by kernel_rfl) (by kernel_rfl) (by rfl) (fun g f w h => h) ?_; simp only [Act.put, List.setIfInBounds_toArray, List.set_cons_zero, List.set_cons_succ])
  | (refine Fx.WM.val_ 27 ?_ (by rfl) (by kernel_rfl) (by kernel_rfl) (by kernel_rfl) (by rfl) ?_ (fun g f w h => h) ?_
     rotate_left
     · intro g f w' hx hD hk
       obtain hkp := id hD
       clear hx hk hD hkp
       go_simp
       try rfl
     simp only [Act.put, List.setIfInBounds_toArray, List.set_cons_zero, List.set_cons_succ])
  first
  | (refine Fx.WM.skip 28 (by rfl) (by kernel_rfl) (by kernel_rfl) (by kernel_rfl) (by rfl) (fun g f w h => h) ?_; simp only [Act.put, List.setIfInBounds_toArray, List.set_cons_zero, List.set_cons_succ])
  | (refine Fx.WM.val_ 28 ?_ (by rfl) (by kernel_rfl) (by kernel_rfl) (by kernel_rfl) (by rfl) ?_ (fun g f w h => h) ?_
     rotate_left
     · intro g f w' hx hD hk
       obtain hkp := id hD
       clear hx hk hD hkp
       go_simp
       try rfl
     simp only [Act.put, List.setIfInBounds_toArray, List.set_cons_zero, List.set_cons_succ])
  first
  | (refine Fx.WM.skip 29 (by rfl) (by kernel_rfl) (by kernel_rfl) (by kernel_rfl) (by rfl) (fun g f w h => h) ?_; simp only [Act.put, List.setIfInBounds_toArray, List.set_cons_zero, List.set_cons_succ])
  | (refine Fx.WM.val_ 29 ?_ (by rfl) (by kernel_rfl) (by kernel_rfl) (by kernel_rfl) (by rfl) ?_ (fun g f w h => h) ?_
     rotate_left
     · intro g f w' hx hD hk
       obtain hkp := id hD
       have y0_0 := (K0_7.out.below hkp.bel l0_7).cell 0
       have y0_1 := (K0_7.out.below hkp.bel l0_7).cell 1
       clear hx hk hD hkp
       go_simp
       try rfl
     simp only [Act.put, List.setIfInBounds_toArray, List.set_cons_zero, List.set_cons_succ])
  first
  | (refine Fx.WM.skip 30 (by rfl) (by kernel_rfl) (by kernel_rfl) (by kernel_rfl) (by rfl) (fun g f w h => h) ?_; simp only [Act.put, List.setIfInBounds_toArray, List.set_cons_zero, List.set_cons_succ])
  | (refine Fx.WM.val_ 30 ?_ (by rfl) (by kernel_rfl) (by kernel_rfl) (by kernel_rfl) (by rfl) ?_ (fun g f w h => h) ?_
     rotate_left
     · intro g f w' hx hD hk
       obtain hkp := id hD
       clear hx hk hD hkp
       go_simp
       try rfl
     simp only [Act.put, List.setIfInBounds_toArray, List.set_cons_zero, List.set_cons_succ])
  first
  | (refine Fx.WM.skip 31 (by rfl) (by kernel_rfl) (by kernel_rfl) (by kernel_rfl) (by rfl) (fun g f w h => h) ?_; simp only [Act.put, List.setIfInBounds_toArray, List.set_cons_zero, List.set_cons_succ])
  | (refine Fx.WM.val_ 31 ?_ (by rfl) (by kernel_rfl) (by kernel_rfl) (by kernel_rfl) (by rfl) ?_ (fun g f w h => h) ?_
     rotate_left
     · intro g f w' hx hD hk
       obtain hkp := id hD
       clear hx hk hD hkp
       go_simp
       try rfl
     simp only [Act.put, List.setIfInBounds_toArray, List.set_cons_zero, List.set_cons_succ])
  first
  | (refine Fx.WM.skip 32 (by rfl) (by kernel_rfl) (by kernel_rfl) (by kernel_rfl) (by rfl) (fun g f w h => h) ?_; simp only [Act.put, List.setIfInBounds_toArray, List.set_cons_zero, List.set_cons_succ])
  | (refine Fx.WM.val_ 32 ?_ (by rfl) (by kernel_rfl) (by kernel_rfl) (by kernel_rfl) (by rfl) ?_ (fun g f w h => h) ?_
     rotate_left
     · intro g f w' hx hD hk
       obtain hkp := id hD
       have y1_0 := (K1_7.out.below hkp.bel l1_7).cell 0
       have y1_1 := (K1_7.out.below hkp.bel l1_7).cell 1
       have y1_2 := (K1_7.out.below hkp.bel l1_7).cell 2
       have y1_3 := (K1_7.out.below hkp.bel l1_7).cell 3
       clear hx hk hD hkp
       go_simp
       try rfl
     simp only [Act.put, List.setIfInBounds_toArray, List.set_cons_zero, List.set_cons_succ])
  first
  | (refine Fx.WM.skip 33 (by rfl) (by kernel_rfl) (by kernel_rfl) (by kernel_rfl) (by rfl) (fun g f w h => h) ?_; simp only [Act.put, List.setIfInBounds_toArray, List.set_cons_zero, List.set_cons_succ])
  | (refine Fx.WM.val_ 33 ?_ (by rfl) (by kernel_rfl) (by kernel_rfl) (by kernel_rfl) (by rfl) ?_ (fun g f w h => h) ?_
     rotate_left
     · intro g f w' hx hD hk
       obtain hkp := id hD
       clear hx hk hD hkp
       go_simp
       try rfl
     simp only [Act.put, List.setIfInBounds_toArray, List.set_cons_zero, List.set_cons_succ])
  first
  | (refine Fx.WM.skip 34 (by rfl) (by kernel_rfl) (by kernel_rfl) (by kernel_rfl) (by rfl) (fun g f w h => h) ?_; simp only [Act.put, List.setIfInBounds_toArray, List.set_cons_zero, List.set_cons_succ])
  | (refine Fx.WM.val_ 34 ?_ (by rfl) (by kernel_rfl) (by kernel_rfl) (by kernel_rfl) (by rfl) ?_ (fun g f w h => h) ?_
     rotate_left
     · intro g f w' hx hD hk
       obtain hkp := id hD
       clear hx hk hD hkp
       go_simp
       try rfl
     simp only [Act.put, List.setIfInBounds_toArray, List.set_cons_zero, List.set_cons_succ])
  first
  | (refine Fx.WM.skip 35 (by rfl) (by kernel_rfl) (by kernel_rfl) (by kernel_rfl) (by rfl) (fun g f w h => h) ?_; simp only [Act.put, List.setIfInBounds_toArray, List.set_cons_zero, List.set_cons_succ])
  | (refine Fx.WM.val_ 35 ?_ (by rfl) (by kernel_rfl) (by kernel_rfl) (by kernel_rfl) (by rfl) ?_ (fun g f w h => h) ?_
     rotate_left
     · intro g f w' hx hD hk
       obtain hkp := id hD
       clear hx hk hD hkp
       go_simp
       try rfl
     simp only [Act.put, List.setIfInBounds_toArray, List.set_cons_zero, List.set_cons_succ])
  first
  | (refine Fx.WM.skip 36 (by rfl) (by kernel_rfl) (by kernel_rfl) (by kernel_rfl) (by rfl) (fun g f w h => h) ?_; simp only [Act.put, List.setIfInBounds_toArray, List.set_cons_zero, List.set_cons_succ])
  | (refine Fx.WM.val_ 36 ?_ (by rfl) (by kernel_rfl) (by kernel_rfl) (by kernel_rfl) (by rfl) ?_ (fun g f w h => h) ?_
     rotate_left
     · intro g f w' hx hD hk
       obtain hkp := id hD
       have y1_0 := (K1_7.out.below hkp.bel l1_7).cell 0
       have y1_1 := (K1_7.out.below hkp.bel l1_7).cell 1
       have y1_2 := (K1_7.out.below hkp.bel l1_7).cell 2
       have y1_3 := (K1_7.out.below hkp.bel l1_7).cell 3
       clear hx hk hD hkp
       go_simp
       try rfl
     simp only [Act.put, List.setIfInBounds_toArray, List.set_cons_zero, List.set_cons_succ])
  first
  | (refine Fx.WM.skip 37 (by rfl) (by kernel_rfl) (by kernel_rfl) (by kernel_rfl) (by rfl) (fun g f w h => h) ?_; simp only [Act.put, List.setIfInBounds_toArray, List.set_cons_zero, List.set_cons_succ])
  | (refine Fx.WM.val_ 37 ?_ (by rfl) (by kernel_rfl) (by kernel_rfl) (by kernel_rfl) (by rfl) ?_ (fun g f w h => h) ?_
     rotate_left
     · intro g f w' hx hD hk
       obtain hkp := id hD
       clear hx hk hD hkp
       go_simp
       try rfl
     simp only [Act.put, List.setIfInBounds_toArray, List.set_cons_zero, List.set_cons_succ])
  first
  | (refine Fx.WM.skip 38 (by rfl) (by kernel_rfl) (by kernel_rfl) (by kernel_rfl) (by rfl) (fun g f w h => h) ?_; simp only [Act.put, List.setIfInBounds_toArray, List.set_cons_zero, List.set_cons_succ])
  | (refine Fx.WM.val_ 38 ?_ (by rfl) (by kernel_rfl) (by kernel_rfl) (by kernel_rfl) (by rfl) ?_ (fun g f w h => h) ?_
     rotate_left
     · intro g f w' hx hD hk
       obtain hkp := id hD
       have e9 := SUM0.out
       clear hx hk hD hkp
       go_simp
       try rfl
     simp only [Act.put, List.setIfInBounds_toArray, List.set_cons_zero, List.set_cons_succ])
  first
  | (refine Fx.WM.skip 39 (by rfl) (by kernel_rfl) (by kernel_rfl) (by kernel_rfl) (by rfl) (fun g f w h => h) ?_; simp only [Act.put, List.setIfInBounds_toArray, List.set_cons_zero, List.set_cons_succ])
  | (refine Fx.WM.val_ 39 ?_ (by rfl) (by kernel_rfl) (by kernel_rfl) (by kernel_rfl) (by rfl) ?_ (fun g f w h => h) ?_
     rotate_left
     · intro g f w' hx hD hk
       obtain hkp := id hD
       clear hx hk hD hkp
       go_simp
       try rfl
     simp only [Act.put, List.setIfInBounds_toArray, List.set_cons_zero, List.set_cons_succ])
  refine Fx.WM.nil (by kernel_rfl) ?_
  intro wz hkp
  have hb := hkp.bel
  clear hkp v1 v2 v3 v4 v5 v6 v7 v8
  obtain ⟨w8, hnm⟩ : ∃ z : World, z = wz := ⟨_, rfl⟩
  subst hnm
  have HB8 := Lib.hid (show Below w.heap.size w w8 from step_below hb (by repeat' (first | exact Below.refl _ _ | exact HB7.out | refine below_drewN ?_ _ | refine Below.drew ?_ | refine Below.alloc ?_ (by first | omega | (simp; done) | (simp; omega) | (simp [World.setCell]; omega)) _ | refine Below.setCell ?_ (by first | omega | (simp; done) | (simp; omega)) _ | assumption)))
  have K0_8 := Lib.hid (step_blk hb (show Blk _ (w.heap.size) 46 #[.int .i64 (ox), .int .i64 (oy)] by repeat' (first | exact K0_7.out | exact K1_7.out | exact Blk.at_ _ (by first | rfl | (simp; done) | (simp; omega)) _ _ | refine Blk.drewN ?_ _ | refine Blk.drew ?_ | refine Blk.alloc ?_ _ | refine Blk.far ?_ (by first | omega | (simp; done) | (simp; omega)) _ | assumption)))
  have K1_8 := Lib.hid (step_blk hb (show Blk _ (bx) 73 #[.int .i64 (p0), .int .i64 (p1), .int .i64 (q0), .int .i64 (q1)] by repeat' (first | exact K0_7.out | exact K1_7.out | exact Blk.at_ _ (by first | rfl | (simp; done) | (simp; omega)) _ _ | refine Blk.drewN ?_ _ | refine Blk.drew ?_ | refine Blk.alloc ?_ _ | refine Blk.far ?_ (by first | omega | (simp; done) | (simp; omega)) _ | assumption)))
  have C0_8 := Lib.hid (step_cell hb (show World.cell? _ ⟨xb, xo, none⟩ = some (.int .i64 (a0)) by first | exact C0_7.out | go_simp) (by have := hxb; first | omega | (simp; omega)))
  have C1_8 := Lib.hid (step_cell hb (show World.cell? _ ⟨xb, xo + 1, none⟩ = some (.int .i64 (a1)) by first | exact C1_7.out | go_simp) (by have := hxb; first | omega | (simp; omega)))
  have C2_8 := Lib.hid (step_cell hb (show World.cell? _ ⟨xb, xo + 2, none⟩ = some (.int .i64 (b0)) by first | exact C2_7.out | go_simp) (by have := hxb; first | omega | (simp; omega)))
  have C3_8 := Lib.hid (step_cell hb (show World.cell? _ ⟨xb, xo + 2 + 1, none⟩ = some (.int .i64 (b1)) by first | exact C3_7.out | go_simp) (by have := hxb; first | omega | (simp; omega)))
  have hL8 := Lib.hid (show Below w7.heap.size w7 _ from reads_mid hb (by repeat' (first | exact Below.refl _ _ | refine below_drewN ?_ _ | refine Below.drew ?_ | refine Below.alloc ?_ (by first | omega | (simp; done) | (simp; omega) | (simp [World.setCell]; omega)) _ | refine Below.setCell ?_ (by first | omega | (simp; done) | (simp; omega)) _)))
  have R0_8 := Lib.hid (reads_lay hb hL8.out R0_7.out)
  have R1_8 := Lib.hid (reads_lay hb hL8.out R1_7.out)
  clear hL8 R0_7 R1_7
  have hz8 := hb.size
  try simp only [World.size_alloc, World.drewN, World.drew] at hz8
  clear hb K0_7 K1_7 z0_0_7 z0_1_7 l0_7 z1_0_7 z1_1_7 z1_2_7 z1_3_7 l1_7
  have l0_8 : w.heap.size < w8.heap.size := K0_8.out.lt
  have z0_0_8 : w8.cell? ⟨w.heap.size, 0, none⟩ = some (.int .i64 (ox)) := K0_8.out.cell 0
  have z0_1_8 : w8.cell? ⟨w.heap.size, 1, none⟩ = some (.int .i64 (oy)) := K0_8.out.cell 1
  have l1_8 : bx < w8.heap.size := K1_8.out.lt
  have z1_0_8 : w8.cell? ⟨bx, 0, none⟩ = some (.int .i64 (p0)) := K1_8.out.cell 0
  have z1_1_8 : w8.cell? ⟨bx, 1, none⟩ = some (.int .i64 (p1)) := K1_8.out.cell 1
  have z1_2_8 : w8.cell? ⟨bx, 2, none⟩ = some (.int .i64 (q0)) := K1_8.out.cell 2
  have z1_3_8 : w8.cell? ⟨bx, 3, none⟩ = some (.int .i64 (q1)) := K1_8.out.cell 3
  go_wp2
  rw [rounds_succ]
  go_wp2
  obtain ⟨v1, v2, v3, v4, v5, v6, v7, v8⟩ := W1.out
  refine Fx.regionM (fun W g f w' => Kp (PfT ⟨0, 0, 0, 0, 0, none, 0, 0, [], none, 0, 0, []⟩ 0 [] 0 [] 97 99 98) W g w') (fun i (x : Pick2) => undef) (by kernel_rfl) ?_ ?_
  · intro f hf0
    exact Kp.start
  first
  | (refine Fx.WM.skip 0 (by rfl) (by kernel_rfl) (by kernel_rfl) (by kernel_rfl) (by rfl) (fun g f w h => h) ?_; simp only [Act.put, List.setIfInBounds_toArray, List.set_cons_zero, List.set_cons_succ])
  | (refine Fx.WM.val_ 0 ?_ (by rfl) (by kernel_rfl) (by kernel_rfl) (by kernel_rfl) (by rfl) ?_ (fun g f w h => h) ?_
     rotate_left
     · intro g f w' hx hD hk
       obtain hkp := id hD
       clear hx hk hD hkp
       go_simp
       try rfl
     simp only [Act.put, List.setIfInBounds_toArray, List.set_cons_zero, List.set_cons_succ])
  first
  | (refine Fx.WM.skip 1 (by rfl) (by kernel_rfl) (by kernel_rfl) (by kernel_rfl) (by rfl) (fun g f w h => h) ?_; simp only [Act.put, List.setIfInBounds_toArray, List.set_cons_zero, List.set_cons_succ])
  | (refine Fx.WM.val_ 1 ?_ (by rfl) (by kernel_rfl) (by kernel_rfl) (by kernel_rfl) (by rfl) ?_ (fun g f w h => h) ?_
     rotate_left
     · intro g f w' hx hD hk
       obtain hkp := id hD
       clear hx hk hD hkp
       go_simp
       try rfl
     simp only [Act.put, List.setIfInBounds_toArray, List.set_cons_zero, List.set_cons_succ])
  first
  | (refine Fx.WM.skip 2 (by rfl) (by kernel_rfl) (by kernel_rfl) (by kernel_rfl) (by rfl) (fun g f w h => h) ?_; simp only [Act.put, List.setIfInBounds_toArray, List.set_cons_zero, List.set_cons_succ])
  | (refine Fx.WM.val_ 2 ?_ (by rfl) (by kernel_rfl) (by kernel_rfl) (by kernel_rfl) (by rfl) ?_ (fun g f w h => h) ?_
     rotate_left
     · intro g f w' hx hD hk
       obtain hkp := id hD
       clear hx hk hD hkp
       go_simp
       try rfl
     simp only [Act.put, List.setIfInBounds_toArray, List.set_cons_zero, List.set_cons_succ])
  first
  | (refine Fx.WM.skip 3 (by rfl) (by kernel_rfl) (by kernel_rfl) (by kernel_rfl) (by rfl) (fun g f w h => h) ?_; simp only [Act.put, List.setIfInBounds_toArray, List.set_cons_zero, List.set_cons_succ])
  | (refine Fx.WM.val_ 3 ?_ (by rfl) (by kernel_rfl) (by kernel_rfl) (by kernel_rfl) (by rfl) ?_ (fun g f w h => h) ?_
     rotate_left
     · intro g f w' hx hD hk
       obtain hkp := id hD
       clear hx hk hD hkp
       go_simp
       try rfl
     simp only [Act.put, List.setIfInBounds_toArray, List.set_cons_zero, List.set_cons_succ])
  first
  | (refine Fx.WM.skip 4 (by rfl) (by kernel_rfl) (by kernel_rfl) (by kernel_rfl) (by rfl) (fun g f w h => h) ?_; simp only [Act.put, List.setIfInBounds_toArray, List.set_cons_zero, List.set_cons_succ])
  | (refine Fx.WM.val_ 4 ?_ (by rfl) (by kernel_rfl) (by kernel_rfl) (by kernel_rfl) (by rfl) ?_ (fun g f w h => h) ?_
     rotate_left
     · intro g f w' hx hD hk
       obtain hkp := id hD
       have yc0 := (hkp.bel.cell (p := ⟨xb, xo, none⟩) (by have := hxb; show xb < _; omega)).trans C0_8.out
       have yc1 := (hkp.bel.cell (p := ⟨xb, xo + 1, none⟩) (by have := hxb; show xb < _; omega)).trans C1_8.out
       have yc2 := (hkp.bel.cell (p := ⟨xb, xo + 2, none⟩) (by have := hxb; show xb < _; omega)).trans C2_8.out
       have yc3 := (hkp.bel.cell (p := ⟨xb, xo + 2 + 1, none⟩) (by have := hxb; show xb < _; omega)).trans C3_8.out
       clear hx hk hD hkp
       go_simp
       try rfl
     simp only [Act.put, List.setIfInBounds_toArray, List.set_cons_zero, List.set_cons_succ])
  first
  | (refine Fx.WM.skip 5 (by rfl) (by kernel_rfl) (by kernel_rfl) (by kernel_rfl) (by rfl) (fun g f w h => h) ?_; simp only [Act.put, List.setIfInBounds_toArray, List.set_cons_zero, List.set_cons_succ])
  | (refine Fx.WM.val_ 5 ?_ (by rfl) (by kernel_rfl) (by kernel_rfl) (by kernel_rfl) (by rfl) ?_ (fun g f w h => h) ?_
     rotate_left
     · intro g f w' hx hD hk
       obtain hkp := id hD
       clear hx hk hD hkp
       go_simp
       try rfl
     simp only [Act.put, List.setIfInBounds_toArray, List.set_cons_zero, List.set_cons_succ])
  first
  | (refine Fx.WM.skip 6 (by rfl) (by kernel_rfl) (by kernel_rfl) (by kernel_rfl) (by rfl) (fun g f w h => h) ?_; simp only [Act.put, List.setIfInBounds_toArray, List.set_cons_zero, List.set_cons_succ])
  | (refine Fx.WM.val_ 6 ?_ (by rfl) (by kernel_rfl) (by kernel_rfl) (by kernel_rfl) (by rfl) ?_ (fun g f w h => h) ?_
     rotate_left
     · intro g f w' hx hD hk
       obtain hkp := id hD
       clear hx hk hD hkp
       go_simp
       try rfl
     simp only [Act.put, List.setIfInBounds_toArray, List.set_cons_zero, List.set_cons_succ])
  first
  | (refine Fx.WM.skip 7 (by rfl) (by kernel_rfl) (by kernel_rfl) (by kernel_rfl) (by rfl) (fun g f w h => h) ?_; simp only [Act.put, List.setIfInBounds_toArray, List.set_cons_zero, List.set_cons_succ])
  | (refine Fx.WM.val_ 7 ?_ (by rfl) (by kernel_rfl) (by kernel_rfl) (by kernel_rfl) (by rfl) ?_ (fun g f w h => h) ?_
     rotate_left
     · intro g f w' hx hD hk
       obtain hkp := id hD
       have y1_0 := (K1_8.out.below hkp.bel l1_8).cell 0
       have y1_1 := (K1_8.out.below hkp.bel l1_8).cell 1
       have y1_2 := (K1_8.out.below hkp.bel l1_8).cell 2
       have y1_3 := (K1_8.out.below hkp.bel l1_8).cell 3
       clear hx hk hD hkp
       go_simp
       try rfl
     simp only [Act.put, List.setIfInBounds_toArray, List.set_cons_zero, List.set_cons_succ])
  first
  | (refine Fx.WM.skip 8 (by rfl) (by kernel_rfl) (by kernel_rfl) (by kernel_rfl) (by rfl) (fun g f w h => h) ?_; simp only [Act.put, List.setIfInBounds_toArray, List.set_cons_zero, List.set_cons_succ])
  | (refine Fx.WM.val_ 8 ?_ (by rfl) (by kernel_rfl) (by kernel_rfl) (by kernel_rfl) (by rfl) ?_ (fun g f w h => h) ?_
     rotate_left
     · intro g f w' hx hD hk
       obtain hkp := id hD
       clear hx hk hD hkp
       go_simp
       try rfl
     simp only [Act.put, List.setIfInBounds_toArray, List.set_cons_zero, List.set_cons_succ])
  first
  | (refine Fx.WM.skip 9 (by rfl) (by kernel_rfl) (by kernel_rfl) (by kernel_rfl) (by rfl) (fun g f w h => h) ?_; simp only [Act.put, List.setIfInBounds_toArray, List.set_cons_zero, List.set_cons_succ])
  | (refine Fx.WM.val_ 9 ?_ (by rfl) (by kernel_rfl) (by kernel_rfl) (by kernel_rfl) (by rfl) ?_ (fun g f w h => h) ?_
     rotate_left
     · intro g f w' hx hD hk
       obtain hkp := id hD
       clear hx hk hD hkp
       go_simp
       try rfl
     simp only [Act.put, List.setIfInBounds_toArray, List.set_cons_zero, List.set_cons_succ])
  first
  | (refine Fx.WM.skip 10 (by rfl) (by kernel_rfl) (by kernel_rfl) (by kernel_rfl) (by rfl) (fun g f w h => h) ?_; simp only [Act.put, List.setIfInBounds_toArray, List.set_cons_zero, List.set_cons_succ])
  | (refine Fx.WM.val_ 10 ?_ (by rfl) (by kernel_rfl) (by kernel_rfl) (by kernel_rfl) (by rfl) ?_ (fun g f w h => h) ?_
     rotate_left
     · intro g f w' hx hD hk
       obtain hkp := id hD
       clear hx hk hD hkp
       go_simp
       try rfl
     simp only [Act.put, List.setIfInBounds_toArray, List.set_cons_zero, List.set_cons_succ])
  first
  | (refine Fx.WM.skip 11 (by rfl) (by kernel_rfl) (by kernel_rfl) (by kernel_rfl) (by rfl) (fun g f w h => h) ?_; simp only [Act.put, List.setIfInBounds_toArray, List.set_cons_zero, List.set_cons_succ])
  | (refine Fx.WM.val_ 11 ?_ (by rfl) (by kernel_rfl) (by kernel_rfl) (by kernel_rfl) (by rfl) ?_ (fun g f w h => h) ?_
     rotate_left
     · intro g f w' hx hD hk
       obtain hkp := id hD
       have y1_0 := (K1_8.out.below hkp.bel l1_8).cell 0
       have y1_1 := (K1_8.out.below hkp.bel l1_8).cell 1
       have y1_2 := (K1_8.out.below hkp.bel l1_8).cell 2
       have y1_3 := (K1_8.out.below hkp.bel l1_8).cell 3
       clear hx hk hD hkp
       go_simp
       try rfl
     simp only [Act.put, List.setIfInBounds_toArray, List.set_cons_zero, List.set_cons_succ])
  first
  | (refine Fx.WM.skip 12 (by rfl) (by kernel_rfl) (by kernel_rfl) (by kernel_rfl) (by rfl) (fun g f w h => h) ?_; simp only [Act.put, List.setIfInBounds_toArray, List.set_cons_zero, List.set_cons_succ])
  | (refine Fx.WM.val_ 12 ?_ (by rfl) (by kernel_rfl) (by kernel_rfl) (by kernel_rfl) (by rfl) ?_ (fun g f w h => h) ?_
     rotate_left
     · intro g f w' hx hD hk
       obtain hkp := id hD
       clear hx hk hD hkp
       go_simp
       try rfl
     simp only [Act.put, List.setIfInBounds_toArray, List.set_cons_zero, List.set_cons_succ])
  first
  | (refine Fx.WM.skip 13 (by rfl) (by kernel_rfl) (by kernel_rfl) (by kernel_rfl) (by rfl) (fun g f w h => h) ?_; simp only [Act.put, List.setIfInBounds_toArray, List.set_cons_zero, List.set_cons_succ])
  | (refine Fx.WM.val_ 13 ?_ (by rfl) (by kernel_rfl) (by kernel_rfl) (by kernel_rfl) (by rfl) ?_ (fun g f w h => h) ?_
     rotate_left
     · intro g f w' hx hD hk
       obtain hkp := id hD
       clear hx hk hD hkp
       go_simp
       try rfl
     simp only [Act.put, List.setIfInBounds_toArray, List.set_cons_zero, List.set_cons_succ])
  first
  | (refine Fx.WM.skip 14 (by rfl) (by kernel_rfl) (by kernel_rfl) (by kernel_rfl) (by rfl) (fun g f w h => h) ?_; simp only [Act.put, List.setIfInBounds_toArray, List.set_cons_zero, List.set_cons_succ])
  | (refine Fx.WM.val_ 14 ?_ (by rfl) (by kernel_rfl) (by kernel_rfl) (by kernel_rfl) (by rfl) ?_ (fun g f w h => h) ?_
     rotate_left
     · intro g f w' hx hD hk
       obtain hkp := id hD
       clear hx hk hD hkp
       go_simp
       try rfl
     simp only [Act.put, List.setIfInBounds_toArray, List.set_cons_zero, List.set_cons_succ])
  first
  | (refine Fx.WM.skip 15 (by rfl) (by kernel_rfl) (by kernel_rfl) (by kernel_rfl) (by rfl) (fun g f w h => h) ?_; simp only [Act.put, List.setIfInBounds_toArray, List.set_cons_zero, List.set_cons_succ])
  | (refine Fx.WM.val_ 15 ?_ (by rfl) (by kernel_rfl) (by kernel_rfl) (by kernel_rfl) (by rfl) ?_ (fun g f w h => h) ?_
     rotate_left
     · intro g f w' hx hD hk
       obtain hkp := id hD
       clear hx hk hD hkp
       go_simp
       try rfl
     simp only [Act.put, List.setIfInBounds_toArray, List.set_cons_zero, List.set_cons_succ])
  first
  | (refine Fx.WM.skip 16 (by rfl) (by kernel_rfl) (by kernel_rfl) (by kernel_rfl) (by rfl) (fun g f w h => h) ?_; simp only [Act.put, List.setIfInBounds_toArray, List.set_cons_zero, List.set_cons_succ])
  | (refine Fx.WM.val_ 16 ?_ (by rfl) (by kernel_rfl) (by kernel_rfl) (by kernel_rfl) (by rfl) ?_ (fun g f w h => h) ?_
     rotate_left
     · intro g f w' hx hD hk
       obtain hkp := id hD
       clear hx hk hD hkp
       go_simp
       try rfl
     simp only [Act.put, List.setIfInBounds_toArray, List.set_cons_zero, List.set_cons_succ])
  first
  | (refine Fx.WM.skip 17 (by rfl) (by kernel_rfl) (by kernel_rfl) (by kernel_rfl) (by rfl) (fun g f w h => h) ?_; simp only [Act.put, List.setIfInBounds_toArray, List.set_cons_zero, List.set_cons_succ])
  | (refine Fx.WM.val_ 17 ?_ (by rfl) (by kernel_rfl) (by kernel_rfl) (by kernel_rfl) (by rfl) ?_ (fun g f w h => h) ?_
     rotate_left
     · intro g f w' hx hD hk
       obtain hkp := id hD
       have yc0 := (hkp.bel.cell (p := ⟨xb, xo, none⟩) (by have := hxb; show xb < _; omega)).trans C0_8.out
       have yc1 := (hkp.bel.cell (p := ⟨xb, xo + 1, none⟩) (by have := hxb; show xb < _; omega)).trans C1_8.out
       have yc2 := (hkp.bel.cell (p := ⟨xb, xo + 2, none⟩) (by have := hxb; show xb < _; omega)).trans C2_8.out
       have yc3 := (hkp.bel.cell (p := ⟨xb, xo + 2 + 1, none⟩) (by have := hxb; show xb < _; omega)).trans C3_8.out
       clear hx hk hD hkp
       go_simp
       try rfl
     simp only [Act.put, List.setIfInBounds_toArray, List.set_cons_zero, List.set_cons_succ])
  first
  | (refine Fx.WM.skip 18 (by rfl) (by kernel_rfl) (by kernel_rfl) (by kernel_rfl) (by rfl) (fun g f w h => h) ?_; simp only [Act.put, List.setIfInBounds_toArray, List.set_cons_zero, List.set_cons_succ])
  | (refine Fx.WM.val_ 18 ?_ (by rfl) (by kernel_rfl) (by kernel_rfl) (by kernel_rfl) (by rfl) ?_ (fun g f w h => h) ?_
     rotate_left
     · intro g f w' hx hD hk
       obtain hkp := id hD
       clear hx hk hD hkp
       go_simp
       try rfl
     simp only [Act.put, List.setIfInBounds_toArray, List.set_cons_zero, List.set_cons_succ])
  first
  | (refine Fx.WM.skip 19 (by rfl) (by kernel_rfl) (by kernel_rfl) (by kernel_rfl) (by rfl) (fun g f w h => h) ?_; simp only [Act.put, List.setIfInBounds_toArray, List.set_cons_zero, List.set_cons_succ])
  | (refine Fx.WM.val_ 19 ?_ (by rfl) (by kernel_rfl) (by kernel_rfl) (by kernel_rfl) (by rfl) ?_ (fun g f w h => h) ?_
     rotate_left
     · intro g f w' hx hD hk
       obtain hkp := id hD
       clear hx hk hD hkp
       go_simp
       try rfl
     simp only [Act.put, List.setIfInBounds_toArray, List.set_cons_zero, List.set_cons_succ])
  first
  | (refine Fx.WM.skip 20 (by rfl) (by kernel_rfl) (by kernel_rfl) (by kernel_rfl) (by rfl) (fun g f w h => h) ?_; simp only [Act.put, List.setIfInBounds_toArray, List.set_cons_zero, List.set_cons_succ])
  | (refine Fx.WM.val_ 20 ?_ (by rfl) (by kernel_rfl) (by kernel_rfl) (by kernel_rfl) (by rfl) ?_ (fun g f w h => h) ?_
     rotate_left
     · intro g f w' hx hD hk
       obtain hkp := id hD
       have y1_0 := (K1_8.out.below hkp.bel l1_8).cell 0
       have y1_1 := (K1_8.out.below hkp.bel l1_8).cell 1
       have y1_2 := (K1_8.out.below hkp.bel l1_8).cell 2
       have y1_3 := (K1_8.out.below hkp.bel l1_8).cell 3
       clear hx hk hD hkp
       go_simp
       try rfl
     simp only [Act.put, List.setIfInBounds_toArray, List.set_cons_zero, List.set_cons_succ])
  first
  | (refine Fx.WM.skip 21 (by rfl) (by kernel_rfl) (by kernel_rfl) (by kernel_rfl) (by rfl) (fun g f w h => h) ?_; simp only [Act.put, List.setIfInBounds_toArray, List.set_cons_zero, List.set_cons_succ])
  | (refine Fx.WM.val_ 21 ?_ (by rfl) (by kernel_rfl) (by kernel_rfl) (by kernel_rfl) (by rfl) ?_ (fun g f w h => h) ?_
     rotate_left
     · intro g f w' hx hD hk
       obtain hkp := id hD
       clear hx hk hD hkp
       go_simp
       try rfl
     simp only [Act.put, List.setIfInBounds_toArray, List.set_cons_zero, List.set_cons_succ])
  first
  | (refine Fx.WM.skip 22 (by rfl) (by kernel_rfl) (by kernel_rfl) (by kernel_rfl) (by rfl) (fun g f w h => h) ?_; simp only [Act.put, List.setIfInBounds_toArray, List.set_cons_zero, List.set_cons_succ])
  | (refine Fx.WM.val_ 22 ?_ (by rfl) (by kernel_rfl) (by kernel_rfl) (by kernel_rfl) (by rfl) ?_ (fun g f w h => h) ?_
     rotate_left
     · intro g f w' hx hD hk
       obtain hkp := id hD
       clear hx hk hD hkp
       go_simp
       try rfl
     simp only [Act.put, List.setIfInBounds_toArray, List.set_cons_zero, List.set_cons_succ])
  first
  | (refine Fx.WM.skip 23 (by rfl) (by kernel_rfl) (by kernel_rfl) (by kernel_rfl) (by rfl) (fun g f w h => h) ?_; simp only [Act.put, List.setIfInBounds_toArray, List.set_cons_zero, List.set_cons_succ])
  | (refine Fx.WM.val_ 23 ?_ (by rfl) (by kernel_rfl) (by kernel_rfl) (by kernel_rfl) (by rfl) ?_ (fun g f w h => h) ?_
     rotate_left
     · intro g f w' hx hD hk
       obtain hkp := id hD
       clear hx hk hD hkp
       go_simp
       try rfl
     simp only [Act.put, List.setIfInBounds_toArray, List.set_cons_zero, List.set_cons_succ])
  first
  | (refine Fx.WM.skip 24 (by rfl) (by kernel_rfl) (by kernel_rfl) (by kernel_rfl) (by rfl) (fun g f w h => h) ?_; simp only [Act.put, List.setIfInBounds_toArray, List.set_cons_zero, List.set_cons_succ])
  | (refine Fx.WM.val_ 24 ?_ (by rfl) (by kernel_rfl) (by kernel_rfl) (by kernel_rfl) (by rfl) ?_ (fun g f w h => h) ?_
     rotate_left
     · intro g f w' hx hD hk
       obtain hkp := id hD
       have y1_0 := (K1_8.out.below hkp.bel l1_8).cell 0
       have y1_1 := (K1_8.out.below hkp.bel l1_8).cell 1
       have y1_2 := (K1_8.out.below hkp.bel l1_8).cell 2
       have y1_3 := (K1_8.out.below hkp.bel l1_8).cell 3
       clear hx hk hD hkp
       go_simp
       try rfl
     simp only [Act.put, List.setIfInBounds_toArray, List.set_cons_zero, List.set_cons_succ])
  first
  | (refine Fx.WM.skip 25 (by rfl) (by kernel_rfl) (by kernel_rfl) (by kernel_rfl) (by rfl) (fun g f w h => h) ?_; simp only [Act.put, List.setIfInBounds_toArray, List.set_cons_zero, List.set_cons_succ])
  | (refine Fx.WM.val_ 25 ?_ (by rfl) (by kernel_rfl) (by kernel_rfl) (by kernel_rfl) (by rfl) ?_ (fun g f w h => h) ?_
     rotate_left
     · intro g f w' hx hD hk
       obtain hkp := id hD
       clear hx hk hD hkp
       go_simp
       try rfl
     simp only [Act.put, List.setIfInBounds_toArray, List.set_cons_zero, List.set_cons_succ])
  first
  | (refine Fx.WM.skip 26 (by rfl) (by kernel_rfl) (by kernel_rfl) (by kernel_rfl) (by rfl) (fun g f w h => h) ?_; simp only [Act.put, List.setIfInBounds_toArray, List.set_cons_zero, List.set_cons_succ])
  | (refine Fx.WM.val_ 26 ?_ (by rfl) (by kernel_rfl) (by kernel_rfl) (by kernel_rfl) (by rfl) ?_ (fun g f w h => h) ?_
     rotate_left
     · intro g f w' hx hD hk
       obtain hkp := id hD
       clear hx hk hD hkp
       go_simp
       try rfl
     simp only [Act.put, List.setIfInBounds_toArray, List.set_cons_zero, List.set_cons_succ])
  first
  | (refine Fx.WM.skip 27 (by rfl) (by kernel_rfl) (by kernel_rfl) (by kernel_rfl) (by rfl) (fun g f w h => h) ?_; simp only [Act.put, List.setIfInBounds_toArray, List.set_cons_zero, List.set_cons_succ])
  | (refine Fx.WM.val_ 27 ?_ (by rfl) (by kernel_rfl) (by kernel_rfl) (by kernel_rfl) (by rfl) ?_ (fun g f w h => h) ?_
     rotate_left
     · intro g f w' hx hD hk
       obtain hkp := id hD
       clear hx hk hD hkp
       go_simp
       try rfl
     simp only [Act.put, List.setIfInBounds_toArray, List.set_cons_zero, List.set_cons_succ])
  first
  | (refine Fx.WM.skip 28 (by rfl) (by kernel_rfl) (by kernel_rfl) (by kernel_rfl) (by rfl) (fun g f w h => h) ?_; simp only [Act.put, List.setIfInBounds_toArray, List.set_cons_zero, List.set_cons_succ])
  | (refine Fx.WM.val_ 28 ?_ (by rfl) (by kernel_rfl) (by kernel_rfl) (by kernel_rfl) (by rfl) ?_ (fun g f w h => h) ?_
     rotate_left
     · intro g f w' hx hD hk
       obtain hkp := id hD
       clear hx hk hD hkp
       go_simp
       try rfl
     simp only [Act.put, List.setIfInBounds_toArray, List.set_cons_zero, List.set_cons_succ])
  first
  | (refine Fx.WM.skip 29 (by rfl) (by kernel_rfl) (by kernel_rfl) (by kernel_rfl) (by rfl) (fun g f w h => h) ?_; simp only [Act.put, List.setIfInBounds_toArray, List.set_cons_zero, List.set_cons_succ])
  | (refine Fx.WM.val_ 29 ?_ (by rfl) (by kernel_rfl) (by kernel_rfl) (by kernel_rfl) (by rfl) ?_ (fun g f w h => h) ?_
     rotate_left
     · intro g f w' hx hD hk
       obtain hkp := id hD
       have y0_0 := (K0_8.out.below hkp.bel l0_8).cell 0
       have y0_1 := (K0_8.out.below hkp.bel l0_8).cell 1
       clear hx hk hD hkp
       go_simp
       try rfl
     simp only [Act.put, List.setIfInBounds_toArray, List.set_cons_zero, List.set_cons_succ])
  first
  | (refine Fx.WM.skip 30 (by rfl) (by kernel_rfl) (by kernel_rfl) (by kernel_rfl) (by rfl) (fun g f w h => h) ?_; simp only [Act.put, List.setIfInBounds_toArray, List.set_cons_zero, List.set_cons_succ])
  | (refine Fx.WM.val_ 30 ?_ (by rfl) (by kernel_rfl) (by kernel_rfl) (by kernel_rfl) (by rfl) ?_ (fun g f w h => h) ?_
     rotate_left
     · intro g f w' hx hD hk
       obtain hkp := id hD
       clear hx hk hD hkp
       go_simp
       try rfl
     simp only [Act.put, List.setIfInBounds_toArray, List.set_cons_zero, List.set_cons_succ])
  first
  | (refine Fx.WM.skip 31 (by rfl) (by kernel_rfl) (by kernel_rfl) (by kernel_rfl) (by rfl) (fun g f w h => h) ?_; simp only [Act.put, List.setIfInBounds_toArray, List.set_cons_zero, List.set_cons_succ])
  | (refine Fx.WM.val_ 31 ?_ (by rfl) (by kernel_rfl) (by kernel_rfl) (by kernel_rfl) (by rfl) ?_ (fun g f w h => h) ?_
     rotate_left
     · intro g f w' hx hD hk
       obtain hkp := id hD
       clear hx hk hD hkp
       go_simp
       try rfl
     simp only [Act.put, List.setIfInBounds_toArray, List.set_cons_zero, List.set_cons_succ])
  first
  | (refine Fx.WM.skip 32 (by rfl) (by kernel_rfl) (by kernel_rfl) (by kernel_rfl) (by rfl) (fun g f w h => h) ?_; simp only [Act.put, List.setIfInBounds_toArray, List.set_cons_zero, List.set_cons_succ])
  | (refine Fx.WM.val_ 32 ?_ (by rfl) (by kernel_rfl) (by kernel_rfl) (by kernel_rfl) (by rfl) ?_ (fun g f w h => h) ?_
     rotate_left
     · intro g f w' hx hD hk
       obtain hkp := id hD
       have y1_0 := (K1_8.out.below hkp.bel l1_8).cell 0
       have y1_1 := (K1_8.out.below hkp.bel l1_8).cell 1
       have y1_2 := (K1_8.out.below hkp.bel l1_8).cell 2
       have y1_3 := (K1_8.out.below hkp.bel l1_8).cell 3
       clear hx hk hD hkp
       go_simp
       try rfl
     simp only [Act.put, List.setIfInBounds_toArray, List.set_cons_zero, List.set_cons_succ])
  first
  | (refine Fx.WM.skip 33 (by rfl) (by kernel_rfl) (by kernel_rfl) (by kernel_rfl) (by rfl) (fun g f w h => h) ?_; simp only [Act.put, List.setIfInBounds_toArray, List.set_cons_zero, List.set_cons_succ])
  | (refine Fx.WM.val_ 33 ?_ (by rfl) (by kernel_rfl) (by kernel_rfl) (by kernel_rfl) (by rfl) ?_ (fun g f w h => h) ?_
     rotate_left
     · intro g f w' hx hD hk
       obtain hkp := id hD
       clear hx hk hD hkp
       go_simp
       try rfl
     simp only [Act.put, List.setIfInBounds_toArray, List.set_cons_zero, List.set_cons_succ])
  first
  | (refine Fx.WM.skip 34 (by rfl) (by kernel_rfl) (by kernel_rfl) (by kernel_rfl) (by rfl) (fun g f w h => h) ?_; simp only [Act.put, List.setIfInBounds_toArray, List.set_cons_zero, List.set_cons_succ])
  | (refine Fx.WM.val_ 34 ?_ (by rfl) (by kernel_rfl) (by kernel_rfl) (by kernel_rfl) (by rfl) ?_ (fun g f w h => h) ?_
     rotate_left
     · intro g f w' hx hD hk
       obtain hkp := id hD
       clear hx hk hD hkp
       go_simp
       try rfl
     simp only [Act.put, List.setIfInBounds_toArray, List.set_cons_zero, List.set_cons_succ])
  first
  | (refine Fx.WM.skip 35 (by rfl) (by kernel_rfl) (by kernel_rfl) (by kernel_rfl) (by rfl) (fun g f w h => h) ?_; simp only [Act.put, List.setIfInBounds_toArray, List.set_cons_zero, List.set_cons_succ])
  | (refine Fx.WM.val_ 35 ?_ (by rfl) (by kernel_rfl) (by kernel_rfl) (by kernel_rfl) (by rfl) ?_ (fun g f w h => h) ?_
     rotate_left
     · intro g f w' hx hD hk
       obtain hkp := id hD
       clear hx hk hD hkp
       go_simp
       try rfl
     simp only [Act.put, List.setIfInBounds_toArray, List.set_cons_zero, List.set_cons_succ])
  first
  | (refine Fx.WM.skip 36 (by rfl) (by kernel_rfl) (by kernel_rfl) (by kernel_rfl) (by rfl) (fun g f w h => h) ?_; simp only [Act.put, List.setIfInBounds_toArray, List.set_cons_zero, List.set_cons_succ])
  | (refine Fx.WM.val_ 36 ?_ (by rfl) (by kernel_rfl) (by kernel_rfl) (by kernel_rfl) (by rfl) ?_ (fun g f w h => h) ?_
     rotate_left
     · intro g f w' hx hD hk
       obtain hkp := id hD
       have y1_0 := (K1_8.out.below hkp.bel l1_8).cell 0
       have y1_1 := (K1_8.out.below hkp.bel l1_8).cell 1
       have y1_2 := (K1_8.out.below hkp.bel l1_8).cell 2
       have y1_3 := (K1_8.out.below hkp.bel l1_8).cell 3
       clear hx hk hD hkp
       go_simp
       try rfl
     simp only [Act.put, List.setIfInBounds_toArray, List.set_cons_zero, List.set_cons_succ])
  first
  | (refine Fx.WM.skip 37 (by rfl) (by kernel_rfl) (by kernel_rfl) (by kernel_rfl) (by rfl) (fun g f w h => h) ?_; simp only [Act.put, List.setIfInBounds_toArray, List.set_cons_zero, List.set_cons_succ])
  | (refine Fx.WM.val_ 37 ?_ (by rfl) (by kernel_rfl) (by kernel_rfl) (by kernel_rfl) (by rfl) ?_ (fun g f w h => h) ?_
     rotate_left
     · intro g f w' hx hD hk
       obtain hkp := id hD
       clear hx hk hD hkp
       go_simp
       try rfl
     simp only [Act.put, List.setIfInBounds_toArray, List.set_cons_zero, List.set_cons_succ])
  first
  | (refine Fx.WM.skip 38 (by rfl) (by kernel_rfl) (by kernel_rfl) (by kernel_rfl) (by rfl) (fun g f w h => h) ?_; simp only [Act.put, List.setIfInBounds_toArray, List.set_cons_zero, List.set_cons_succ])
  | (refine Fx.WM.val_ 38 ?_ (by rfl) (by kernel_rfl) (by kernel_rfl) (by kernel_rfl) (by rfl) ?_ (fun g f w h => h) ?_
     rotate_left
     · intro g f w' hx hD hk
       obtain hkp := id hD
       have e9 := SUM1.out
       clear hx hk hD hkp
       go_simp
       try rfl
     simp only [Act.put, List.setIfInBounds_toArray, List.set_cons_zero, List.set_cons_succ])
  first
  | (refine Fx.WM.skip 39 (by rfl) (by kernel_rfl) (by kernel_rfl) (by kernel_rfl) (by rfl) (fun g f w h => h) ?_; simp only [Act.put, List.setIfInBounds_toArray, List.set_cons_zero, List.set_cons_succ])
  | (refine Fx.WM.val_ 39 ?_ (by rfl) (by kernel_rfl) (by kernel_rfl) (by kernel_rfl) (by rfl) ?_ (fun g f w h => h) ?_
     rotate_left
     · intro g f w' hx hD hk
       obtain hkp := id hD
       clear hx hk hD hkp
       go_simp
       try rfl
     simp only [Act.put, List.setIfInBounds_toArray, List.set_cons_zero, List.set_cons_succ])
  refine Fx.WM.nil (by kernel_rfl) ?_
  intro wz hkp
  have hb := hkp.bel
  clear hkp v1 v2 v3 v4 v5 v6 v7 v8
  obtain ⟨w9, hnm⟩ : ∃ z : World, z = wz := ⟨_, rfl⟩
  subst hnm
  have HB9 := Lib.hid (show Below w.heap.size w w9 from step_below hb (by repeat' (first | exact Below.refl _ _ | exact HB8.out | refine below_drewN ?_ _ | refine Below.drew ?_ | refine Below.alloc ?_ (by first | omega | (simp; done) | (simp; omega) | (simp [World.setCell]; omega)) _ | refine Below.setCell ?_ (by first | omega | (simp; done) | (simp; omega)) _ | assumption)))
  have K0_9 := Lib.hid (step_blk hb (show Blk _ (w.heap.size) 46 #[.int .i64 (ox), .int .i64 (oy)] by repeat' (first | exact K0_8.out | exact K1_8.out | exact Blk.at_ _ (by first | rfl | (simp; done) | (simp; omega)) _ _ | refine Blk.drewN ?_ _ | refine Blk.drew ?_ | refine Blk.alloc ?_ _ | refine Blk.far ?_ (by first | omega | (simp; done) | (simp; omega)) _ | assumption)))
  have K1_9 := Lib.hid (step_blk hb (show Blk _ (bx) 73 #[.int .i64 (p0), .int .i64 (p1), .int .i64 (q0), .int .i64 (q1)] by repeat' (first | exact K0_8.out | exact K1_8.out | exact Blk.at_ _ (by first | rfl | (simp; done) | (simp; omega)) _ _ | refine Blk.drewN ?_ _ | refine Blk.drew ?_ | refine Blk.alloc ?_ _ | refine Blk.far ?_ (by first | omega | (simp; done) | (simp; omega)) _ | assumption)))
  have C0_9 := Lib.hid (step_cell hb (show World.cell? _ ⟨xb, xo, none⟩ = some (.int .i64 (a0)) by first | exact C0_8.out | go_simp) (by have := hxb; first | omega | (simp; omega)))
  have C1_9 := Lib.hid (step_cell hb (show World.cell? _ ⟨xb, xo + 1, none⟩ = some (.int .i64 (a1)) by first | exact C1_8.out | go_simp) (by have := hxb; first | omega | (simp; omega)))
  have C2_9 := Lib.hid (step_cell hb (show World.cell? _ ⟨xb, xo + 2, none⟩ = some (.int .i64 (b0)) by first | exact C2_8.out | go_simp) (by have := hxb; first | omega | (simp; omega)))
  have C3_9 := Lib.hid (step_cell hb (show World.cell? _ ⟨xb, xo + 2 + 1, none⟩ = some (.int .i64 (b1)) by first | exact C3_8.out | go_simp) (by have := hxb; first | omega | (simp; omega)))
  have hL9 := Lib.hid (show Below w8.heap.size w8 _ from reads_mid hb (by repeat' (first | exact Below.refl _ _ | refine below_drewN ?_ _ | refine Below.drew ?_ | refine Below.alloc ?_ (by first | omega | (simp; done) | (simp; omega) | (simp [World.setCell]; omega)) _ | refine Below.setCell ?_ (by first | omega | (simp; done) | (simp; omega)) _)))
  have R0_9 := Lib.hid (reads_lay hb hL9.out R0_8.out)
  have R1_9 := Lib.hid (reads_lay hb hL9.out R1_8.out)
  clear hL9 R0_8 R1_8
  have hz9 := hb.size
  try simp only [World.size_alloc, World.drewN, World.drew] at hz9
  clear hb K0_8 K1_8 z0_0_8 z0_1_8 l0_8 z1_0_8 z1_1_8 z1_2_8 z1_3_8 l1_8
  have l0_9 : w.heap.size < w9.heap.size := K0_9.out.lt
  have z0_0_9 : w9.cell? ⟨w.heap.size, 0, none⟩ = some (.int .i64 (ox)) := K0_9.out.cell 0
  have z0_1_9 : w9.cell? ⟨w.heap.size, 1, none⟩ = some (.int .i64 (oy)) := K0_9.out.cell 1
  have l1_9 : bx < w9.heap.size := K1_9.out.lt
  have z1_0_9 : w9.cell? ⟨bx, 0, none⟩ = some (.int .i64 (p0)) := K1_9.out.cell 0
  have z1_1_9 : w9.cell? ⟨bx, 1, none⟩ = some (.int .i64 (p1)) := K1_9.out.cell 1
  have z1_2_9 : w9.cell? ⟨bx, 2, none⟩ = some (.int .i64 (q0)) := K1_9.out.cell 2
  have z1_3_9 : w9.cell? ⟨bx, 3, none⟩ = some (.int .i64 (q1)) := K1_9.out.cell 3
  go_wp2
  rw [rounds_succ]
  go_wp2
  go_ret
  exact ⟨rfl, by repeat' (first | exact Below.refl _ _ | exact HB9.out | refine below_drewN ?_ _ | refine Below.drew ?_ | refine Below.alloc ?_ (by first | omega | (simp; done) | (simp; omega) | (simp [World.setCell]; omega)) _ | refine Below.setCell ?_ (by first | omega | (simp; done) | (simp; omega)) _ | assumption)⟩
end Go.Proofs.Ytgamepmipoociaa

end
