/- The walk of the statement on drives. -/
import Derived.Test.YtmioamcgbihhjaaDrift
import Derived.Test.YtmioamcgbihhjaaLaw4
namespace Go.Proofs.Ytmioamcgbihhjaa
open Go.RowKit

@[go_sem] theorem held_range : Try.prog.stoodInHeld 64 = false := by kernel_rfl
@[go_sem] theorem guard_range : Try.prog.eqGuardType Try.prog.depth 64 = false := by kernel_rfl
theorem eq_range (a b c d : Int) (w : World) : (Op.equalIn 10000 64 (.agg #[.int .i64 a, .int .i64 b]) (.agg #[.int .i64 c, .int .i64 d])).run Try.prog w = .ok (decide ((a, b) = (c, d))) w := by
  simp [go_sem]
  by_cases h1 : a = c <;> by_cases h2 : b = d <;> simp [h1, h2]
@[go_sem ↓ high] theorem eql_range (a b c d : Int) (w : World) : (binOp .eql 64 (.agg #[.int .i64 a, .int .i64 b]) (.agg #[.int .i64 c, .int .i64 d])).run Try.prog w = .ok (.bool (decide ((a, b) = (c, d)))) w := by
  rw [run_eql_struct, eq_range]; rfl

theorem rateF_bad {l : List (Int × Int)} {s p : Int} (h : trainErr l ≠ 0) : rateF l s p = ((0, 0), trainErr l) := by unfold rateF; rw [ratioF_bad h, if_pos h]
theorem driftF_bad {l : List (Int × Int)} {s p sec : Int} (h : trainErr l ≠ 0) : driftF l s p sec = ((0, 0), trainErr l) := by unfold driftF; rw [rateF_bad h, if_pos h]

set_option maxRecDepth 100000 in
set_option maxHeartbeats 4000000 in
theorem law10_any (A : Option Addr) (n c : Nat) (l : List (Int × Int)) (s p sec : Int) (w : World) (hnc : n ≤ c ∧ c ≤ 9223372036854775807) (hl : l.length = n) (_ : ∀ p ∈ l, I64 p.1 ∧ I64 p.2) (hx : Reads w w.heap.size 2 A n (cells2 l))
    (_ : -9223372036854775808 ≤ s) (_ : s ≤ 9223372036854775807) (_ : -9223372036854775808 ≤ p) (_ : p ≤ 9223372036854775807) (_ : -9223372036854775808 ≤ sec) (_ : sec ≤ 9223372036854775807) :
    Calls Try.prog 10 #[.slice A n c, .agg #[.int .i64 s, .int .i64 p], .int .i64 sec] w fun e w' => e = .returned (.bool true) ∧ Below w.heap.size w w' := by
  obtain ⟨hnc1, hnc2⟩ := hnc
  have hn : n ≤ 9223372036854775807 := by omega
  have HX := Lib.hid hx
  have HL := Lib.hid hl
  clear hx hl
  cases hs : shortB n with
  | false =>
    have HS := Lib.hid hs
    clear hs
    go_enter Try.func10, Try.ntmps10
    go_wp2_with fail
    refine (awake_any _).mono ?_
    rintro e w1 ⟨rfl, hb⟩
    have HB1 := Lib.hid (show Below w.heap.size w w1 from step_below hb (by repeat' (first | exact Below.refl _ _ | exact HB0.out | refine below_drewN ?_ _ | refine Below.drew ?_ | refine Below.alloc ?_ (by first | omega | (simp; done) | (simp; omega) | (simp [World.setCell]; omega)) _ | refine Below.setCell ?_ (by first | omega | (simp; done) | (simp; omega)) _ | assumption)))
    have K0_1 := Lib.hid (step_blk hb (show Blk _ (w.heap.size) 51 #[.int .i64 (s), .int .i64 (p)] by repeat' (first | exact Blk.at_ _ (by first | rfl | (simp; done) | (simp; omega)) _ _ | refine Blk.drewN ?_ _ | refine Blk.drew ?_ | refine Blk.alloc ?_ _ | refine Blk.far ?_ (by first | omega | (simp; done) | (simp; omega)) _ | assumption)))
    have hz1 := hb.size
    try simp only [World.size_alloc, World.drewN, World.drew] at hz1
    clear hb
    have l0_1 : w.heap.size < w1.heap.size := K0_1.out.lt
    have z0_0_1 : w1.cell? ⟨w.heap.size, 0, none⟩ = some (.int .i64 (s)) := K0_1.out.cell 0
    have z0_1_1 : w1.cell? ⟨w.heap.size, 1, none⟩ = some (.int .i64 (p)) := K0_1.out.cell 1
    go_wp2_with (go_at_call 21; refine (short_is _ _ _ _ HS.out _ hn).mono ?_; rintro e w' ⟨rfl, rfl⟩)
    go_ret
    exact ⟨rfl, by repeat' (first | exact Below.refl _ _ | exact HB1.out | refine below_drewN ?_ _ | refine Below.drew ?_ | refine Below.alloc ?_ (by first | omega | (simp; done) | (simp; omega) | (simp [World.setCell]; omega)) _ | refine Below.setCell ?_ (by first | omega | (simp; done) | (simp; omega)) _ | assumption)⟩
  | true =>
    have hn15 : n ≤ 15 := by unfold shortB at hs; simp at hs; omega
    obtain ⟨E, hE⟩ : ∃ E, trainErr l = E := ⟨_, rfl⟩
    obtain ⟨R, hR⟩ : ∃ R, rateF l s p = R := ⟨_, rfl⟩
    obtain ⟨⟨u, v⟩, e⟩ := R
    obtain ⟨T, hT⟩ : ∃ T, driftF l s p sec = T := ⟨_, rfl⟩
    obtain ⟨⟨x', y'⟩, g'⟩ := T
    have HS := Lib.hid hs
    have HE := Lib.hid hE
    have HR := Lib.hid hR
    have HT := Lib.hid hT
    clear hs hE hR hT
    go_enter Try.func10, Try.ntmps10
    go_wp2_with fail
    refine (awake_any _).mono ?_
    rintro e w1 ⟨rfl, hb⟩
    have HB1 := Lib.hid (show Below w.heap.size w w1 from step_below hb (by repeat' (first | exact Below.refl _ _ | exact HB0.out | refine below_drewN ?_ _ | refine Below.drew ?_ | refine Below.alloc ?_ (by first | omega | (simp; done) | (simp; omega) | (simp [World.setCell]; omega)) _ | refine Below.setCell ?_ (by first | omega | (simp; done) | (simp; omega)) _ | assumption)))
    have K0_1 := Lib.hid (step_blk hb (show Blk _ (w.heap.size) 51 #[.int .i64 (s), .int .i64 (p)] by repeat' (first | exact Blk.at_ _ (by first | rfl | (simp; done) | (simp; omega)) _ _ | refine Blk.drewN ?_ _ | refine Blk.drew ?_ | refine Blk.alloc ?_ _ | refine Blk.far ?_ (by first | omega | (simp; done) | (simp; omega)) _ | assumption)))
    have hz1 := hb.size
    try simp only [World.size_alloc, World.drewN, World.drew] at hz1
    clear hb
    have l0_1 : w.heap.size < w1.heap.size := K0_1.out.lt
    have z0_0_1 : w1.cell? ⟨w.heap.size, 0, none⟩ = some (.int .i64 (s)) := K0_1.out.cell 0
    have z0_1_1 : w1.cell? ⟨w.heap.size, 1, none⟩ = some (.int .i64 (p)) := K0_1.out.cell 1
    go_wp2_with fail
    refine (short_is _ _ _ _ HS.out _ hn).mono ?_
    rintro en w' ⟨rfl, rfl⟩
    go_wp2
    apply share (Fact := fun (x z : Pick) (wz : World) => ∃ bx, z.1 = some ⟨bx, 0, none⟩ ∧ w1.heap.size ≤ bx ∧ Below w1.heap.size w1 wz ∧ Blk wz bx 23 #[.int .i64 u, .int .i64 v])
    · intro key
      refine Fx.regionM (fun W g f w' => Below W.heap.size W w' ∧ RdM 2 n (cells2 l) 1 11 g f w' ∧ MkM 23 (.int .i64 u) (.int .i64 v) 10 11 W g f w') (fun i (x : Pick) => if i = 10 then .pointer x.1 else .slice x.1 n x.2) (by kernel_rfl) ?_ ?_
      · intro f hf0
        exact ⟨below_drewN (Below.refl _ _) 1, RdM.start, MkM.start⟩
      first
      | (refine Fx.WM.skip 0 (by rfl) (by kernel_rfl) (by kernel_rfl) (by kernel_rfl) (by rfl) (fun g f w h => h) ?_; simp only [Act.put, List.setIfInBounds_toArray, List.set_cons_zero, List.set_cons_succ])
      | (refine Fx.WM.val_ 0 ?_ (by rfl) (by kernel_rfl) (by kernel_rfl) (by kernel_rfl) (by rfl) ?_ (fun g f w h => h) ?_
         rotate_left
         · intro g f w' hx hD hk
           obtain ⟨hb, hr, hm1⟩ := id hD
           have y0 : w'.cell? ⟨w.heap.size, 0, none⟩ = some (.int .i64 s) := (step_blk hb K0_1.out).cell 0
           have y1 : w'.cell? ⟨w.heap.size, 1, none⟩ = some (.int .i64 p) := (step_blk hb K0_1.out).cell 1
           clear hx hk hD hb hr hm1
           go_simp
           try rfl
         simp only [Act.put, List.setIfInBounds_toArray, List.set_cons_zero, List.set_cons_succ])
      first
      | (refine Fx.WM.skip 2 (by rfl) (by kernel_rfl) (by kernel_rfl) (by kernel_rfl) (by rfl) (fun g f w h => h) ?_; simp only [Act.put, List.setIfInBounds_toArray, List.set_cons_zero, List.set_cons_succ])
      | (refine Fx.WM.val_ 2 ?_ (by rfl) (by kernel_rfl) (by kernel_rfl) (by kernel_rfl) (by rfl) ?_ (fun g f w h => h) ?_
         rotate_left
         · intro g f w' hx hD hk
           obtain ⟨hb, hr, hm1⟩ := id hD
           have y0 : w'.cell? ⟨w.heap.size, 0, none⟩ = some (.int .i64 s) := (step_blk hb K0_1.out).cell 0
           have y1 : w'.cell? ⟨w.heap.size, 1, none⟩ = some (.int .i64 p) := (step_blk hb K0_1.out).cell 1
           clear hx hk hD hb hr hm1
           go_simp
           try rfl
         simp only [Act.put, List.setIfInBounds_toArray, List.set_cons_zero, List.set_cons_succ])
      first
      | (refine Fx.WM.skip 3 (by rfl) (by kernel_rfl) (by kernel_rfl) (by kernel_rfl) (by rfl) (fun g f w h => h) ?_; simp only [Act.put, List.setIfInBounds_toArray, List.set_cons_zero, List.set_cons_succ])
      | (refine Fx.WM.val_ 3 ?_ (by rfl) (by kernel_rfl) (by kernel_rfl) (by kernel_rfl) (by rfl) ?_ (fun g f w h => h) ?_
         rotate_left
         · intro g f w' hx hD hk
           obtain ⟨hb, hr, hm1⟩ := id hD
           have y0 : w'.cell? ⟨w.heap.size, 0, none⟩ = some (.int .i64 s) := (step_blk hb K0_1.out).cell 0
           have y1 : w'.cell? ⟨w.heap.size, 1, none⟩ = some (.int .i64 p) := (step_blk hb K0_1.out).cell 1
           clear hx hk hD hb hr hm1
           go_simp
           try rfl
         simp only [Act.put, List.setIfInBounds_toArray, List.set_cons_zero, List.set_cons_succ])
      first
      | (refine Fx.WM.skip 4 (by rfl) (by kernel_rfl) (by kernel_rfl) (by kernel_rfl) (by rfl) (fun g f w h => h) ?_; simp only [Act.put, List.setIfInBounds_toArray, List.set_cons_zero, List.set_cons_succ])
      | (refine Fx.WM.val_ 4 ?_ (by rfl) (by kernel_rfl) (by kernel_rfl) (by kernel_rfl) (by rfl) ?_ (fun g f w h => h) ?_
         rotate_left
         · intro g f w' hx hD hk
           obtain ⟨hb, hr, hm1⟩ := id hD
           have y0 : w'.cell? ⟨w.heap.size, 0, none⟩ = some (.int .i64 s) := (step_blk hb K0_1.out).cell 0
           have y1 : w'.cell? ⟨w.heap.size, 1, none⟩ = some (.int .i64 p) := (step_blk hb K0_1.out).cell 1
           clear hx hk hD hb hr hm1
           go_simp
           try rfl
         simp only [Act.put, List.setIfInBounds_toArray, List.set_cons_zero, List.set_cons_succ])
      first
      | (refine Fx.WM.skip 5 (by rfl) (by kernel_rfl) (by kernel_rfl) (by kernel_rfl) (by rfl) (fun g f w h => h) ?_; simp only [Act.put, List.setIfInBounds_toArray, List.set_cons_zero, List.set_cons_succ])
      | (refine Fx.WM.val_ 5 ?_ (by rfl) (by kernel_rfl) (by kernel_rfl) (by kernel_rfl) (by rfl) ?_ (fun g f w h => h) ?_
         rotate_left
         · intro g f w' hx hD hk
           obtain ⟨hb, hr, hm1⟩ := id hD
           have y0 : w'.cell? ⟨w.heap.size, 0, none⟩ = some (.int .i64 s) := (step_blk hb K0_1.out).cell 0
           have y1 : w'.cell? ⟨w.heap.size, 1, none⟩ = some (.int .i64 p) := (step_blk hb K0_1.out).cell 1
           clear hx hk hD hb hr hm1
           go_simp
           try rfl
         simp only [Act.put, List.setIfInBounds_toArray, List.set_cons_zero, List.set_cons_succ])
      refine Fx.WM.choose2 1 10 (by rfl) (by rfl) (by kernel_rfl) (by rfl) (by rfl) ?_ ?_ ?_ ?_
      · skip
        refine Fx.Chooses.call ?_ ?_ (by rfl) ?_ ?_
        rotate_left 2
        · intro w'
          go_simp
          refine ⟨?_, ?_⟩ <;> rfl
        · intro f w' hD hk
          exact (copytrain_any A n c w.heap.size l w' (HX.out.belowLe (HB1.out.trans (hD.1.mono HB1.out.size)) (Nat.le_refl _)) (HB1.out.trans (hD.1.mono HB1.out.size)).size (by omega)).mono fun e w'' ⟨A', c', he, hb, hr, _⟩ => ⟨(A', c'), he, step_below hb hD.1, RdM.new hr, (hD.2.2.step hb (by decide)).other (by decide)⟩
      · skip
        refine Fx.Chooses.make (by rfl) ?_
        intro f w' hD hk
        obtain ⟨hb, hr, hm1⟩ := id hD
        refine ⟨(some ⟨w'.heap.size, 0, none⟩, 0), w'.alloc (.cells #[.int .i64 0, .int .i64 0] 23), ?_, ?_⟩
        · clear hk hD
          go_simp
          try rfl
        · exact ⟨hb.alloc hb.size _, (hr.step ((Below.refl _ _).alloc (Nat.le_refl _) _) (by decide)).other (by decide), MkM.make hb.size (hk.2.1 11 (by kernel_rfl)) (by decide)⟩
      · intro x
        simp only [Act.put, List.setIfInBounds_toArray, List.set_cons_zero, List.set_cons_succ]
        refine Fx.WM.call 6 (.tuple #[.agg #[.int .i64 u, .int .i64 v], .int .i64 e]) ?_ ?_ (by rfl) (by kernel_rfl) (by kernel_rfl) (by kernel_rfl) (by rfl) ?_ ?_ ?_
        rotate_left 2
        · intro w'
          go_simp
          refine ⟨?_, ?_⟩ <;> rfl
        · intro g f w' hx hD hk
          exact (rate_any x.1 n x.2 w'.heap.size l s p w' (hD.2.1 x (hx 1 _ rfl) (hk.2.1 11 (by kernel_rfl))) (Nat.le_refl _) hn u v e HR.out).mono fun e w'' ⟨he, hw⟩ => ⟨he, step_below hw hD.1, hD.2.1.step hw (by decide), hD.2.2.step hw (by decide)⟩
        simp only [Act.put, List.setIfInBounds_toArray, List.set_cons_zero, List.set_cons_succ]
        first
        | (refine Fx.WM.skip 7 (by rfl) (by kernel_rfl) (by kernel_rfl) (by kernel_rfl) (by rfl) (fun g f w h => h) ?_; simp only [Act.put, List.setIfInBounds_toArray, List.set_cons_zero, List.set_cons_succ])
        | (refine Fx.WM.val_ 7 ?_ (by rfl) (by kernel_rfl) (by kernel_rfl) (by kernel_rfl) (by rfl) ?_ (fun g f w h => h) ?_
           rotate_left
           · intro g f w' hx hD hk
             obtain ⟨hb, hr, hm1⟩ := id hD
             have y0 : w'.cell? ⟨w.heap.size, 0, none⟩ = some (.int .i64 s) := (step_blk hb K0_1.out).cell 0
             have y1 : w'.cell? ⟨w.heap.size, 1, none⟩ = some (.int .i64 p) := (step_blk hb K0_1.out).cell 1
             clear hx hk hD hb hr hm1
             go_simp
             try rfl
           simp only [Act.put, List.setIfInBounds_toArray, List.set_cons_zero, List.set_cons_succ])
        first
        | (refine Fx.WM.skip 8 (by rfl) (by kernel_rfl) (by kernel_rfl) (by kernel_rfl) (by rfl) (fun g f w h => h) ?_; simp only [Act.put, List.setIfInBounds_toArray, List.set_cons_zero, List.set_cons_succ])
        | (refine Fx.WM.val_ 8 ?_ (by rfl) (by kernel_rfl) (by kernel_rfl) (by kernel_rfl) (by rfl) ?_ (fun g f w h => h) ?_
           rotate_left
           · intro g f w' hx hD hk
             obtain ⟨hb, hr, hm1⟩ := id hD
             have y0 : w'.cell? ⟨w.heap.size, 0, none⟩ = some (.int .i64 s) := (step_blk hb K0_1.out).cell 0
             have y1 : w'.cell? ⟨w.heap.size, 1, none⟩ = some (.int .i64 p) := (step_blk hb K0_1.out).cell 1
             clear hx hk hD hb hr hm1
             go_simp
             try rfl
           simp only [Act.put, List.setIfInBounds_toArray, List.set_cons_zero, List.set_cons_succ])
        first
        | (refine Fx.WM.skip 9 (by rfl) (by kernel_rfl) (by kernel_rfl) (by kernel_rfl) (by rfl) (fun g f w h => h) ?_; simp only [Act.put, List.setIfInBounds_toArray, List.set_cons_zero, List.set_cons_succ])
        | (refine Fx.WM.val_ 9 ?_ (by rfl) (by kernel_rfl) (by kernel_rfl) (by kernel_rfl) (by rfl) ?_ (fun g f w h => h) ?_
           rotate_left
           · intro g f w' hx hD hk
             obtain ⟨hb, hr, hm1⟩ := id hD
             have y0 : w'.cell? ⟨w.heap.size, 0, none⟩ = some (.int .i64 s) := (step_blk hb K0_1.out).cell 0
             have y1 : w'.cell? ⟨w.heap.size, 1, none⟩ = some (.int .i64 p) := (step_blk hb K0_1.out).cell 1
             clear hx hk hD hb hr hm1
             go_simp
             try rfl
           simp only [Act.put, List.setIfInBounds_toArray, List.set_cons_zero, List.set_cons_succ])
        refine Fx.WM.choose 10 (by rfl) (by kernel_rfl) (by rfl) ?_ ?_
        · skip
          refine Fx.Chooses.make (by rfl) ?_
          intro f w' hD hk
          obtain ⟨hb, hr, hm1⟩ := id hD
          refine ⟨(some ⟨w'.heap.size, 0, none⟩, 0), w'.alloc (.cells #[.int .i64 0, .int .i64 0] 23), ?_, ?_⟩
          · clear hk hD
            go_simp
            try rfl
          · exact ⟨hb.alloc hb.size _, (hr.step ((Below.refl _ _).alloc (Nat.le_refl _) _) (by decide)).other (by decide), MkM.make hb.size (hk.2.1 11 (by kernel_rfl)) (by decide)⟩
        intro z
        simp only [Act.put, List.setIfInBounds_toArray, List.set_cons_zero, List.set_cons_succ]
        refine Fx.WM.eff 11 undef (by rfl) (by kernel_rfl) (by kernel_rfl) (by kernel_rfl) (by rfl) ?_ ?_
        · intro g f w' hx hD hk
          obtain ⟨hb, hr, hm1⟩ := id hD
          obtain ⟨bx, e0, e1, r0, r1, r2, r3, r4, r5⟩ := MkM.cells hm1 (hx 10 _ rfl)
          refine Fx.gives_skip (w' := (w'.setCell ⟨bx, 0, none⟩ (.int .i64 u)).setCell ⟨bx, 1, none⟩ (.int .i64 v)) ?_ ?_
          · clear hx hk hD hb hr hm1
            go_simp
            try rfl
          · exact ⟨below_store hb r1, RdM.stored, hm1.store (hx 10 _ rfl) r0⟩
        simp only [Act.put, List.setIfInBounds_toArray, List.set_cons_zero, List.set_cons_succ]
        first
        | (refine Fx.WM.skip 12 (by rfl) (by kernel_rfl) (by kernel_rfl) (by kernel_rfl) (by rfl) (fun g f w h => h) ?_; simp only [Act.put, List.setIfInBounds_toArray, List.set_cons_zero, List.set_cons_succ])
        | (refine Fx.WM.val_ 12 ?_ (by rfl) (by kernel_rfl) (by kernel_rfl) (by kernel_rfl) (by rfl) ?_ (fun g f w h => h) ?_
           rotate_left
           · intro g f w' hx hD hk
             obtain ⟨hb, hr, hm1⟩ := id hD
             have y0 : w'.cell? ⟨w.heap.size, 0, none⟩ = some (.int .i64 s) := (step_blk hb K0_1.out).cell 0
             have y1 : w'.cell? ⟨w.heap.size, 1, none⟩ = some (.int .i64 p) := (step_blk hb K0_1.out).cell 1
             clear hx hk hD hb hr hm1
             go_simp
             try rfl
           simp only [Act.put, List.setIfInBounds_toArray, List.set_cons_zero, List.set_cons_succ])
        refine Fx.WM.nil (by kernel_rfl) ?_
        intro wz hD
        obtain ⟨hb, -, hm1⟩ := hD
        obtain ⟨bx, hx1, hx2, hxb⟩ := hm1.end_ (x := z) (by rfl) (by rfl)
        exact key x z wz ⟨bx, hx1, hx2, hb, hxb⟩
      · intro z
        simp only [Act.put, List.setIfInBounds_toArray, List.set_cons_zero, List.set_cons_succ]
        refine Fx.WM.choose 1 (by rfl) (by kernel_rfl) (by rfl) ?_ ?_
        · skip
          refine Fx.Chooses.call ?_ ?_ (by rfl) ?_ ?_
          rotate_left 2
          · intro w'
            go_simp
            refine ⟨?_, ?_⟩ <;> rfl
          · intro f w' hD hk
            exact (copytrain_any A n c w.heap.size l w' (HX.out.belowLe (HB1.out.trans (hD.1.mono HB1.out.size)) (Nat.le_refl _)) (HB1.out.trans (hD.1.mono HB1.out.size)).size (by omega)).mono fun e w'' ⟨A', c', he, hb, hr, _⟩ => ⟨(A', c'), he, step_below hb hD.1, RdM.new hr, (hD.2.2.step hb (by decide)).other (by decide)⟩
        intro x
        simp only [Act.put, List.setIfInBounds_toArray, List.set_cons_zero, List.set_cons_succ]
        refine Fx.WM.call 6 (.tuple #[.agg #[.int .i64 u, .int .i64 v], .int .i64 e]) ?_ ?_ (by rfl) (by kernel_rfl) (by kernel_rfl) (by kernel_rfl) (by rfl) ?_ ?_ ?_
        rotate_left 2
        · intro w'
          go_simp
          refine ⟨?_, ?_⟩ <;> rfl
        · intro g f w' hx hD hk
          exact (rate_any x.1 n x.2 w'.heap.size l s p w' (hD.2.1 x (hx 1 _ rfl) (hk.2.1 11 (by kernel_rfl))) (Nat.le_refl _) hn u v e HR.out).mono fun e w'' ⟨he, hw⟩ => ⟨he, step_below hw hD.1, hD.2.1.step hw (by decide), hD.2.2.step hw (by decide)⟩
        simp only [Act.put, List.setIfInBounds_toArray, List.set_cons_zero, List.set_cons_succ]
        first
        | (refine Fx.WM.skip 7 (by rfl) (by kernel_rfl) (by kernel_rfl) (by kernel_rfl) (by rfl) (fun g f w h => h) ?_; simp only [Act.put, List.setIfInBounds_toArray, List.set_cons_zero, List.set_cons_succ])
        | (refine Fx.WM.val_ 7 ?_ (by rfl) (by kernel_rfl) (by kernel_rfl) (by kernel_rfl) (by rfl) ?_ (fun g f w h => h) ?_
           rotate_left
           · intro g f w' hx hD hk
             obtain ⟨hb, hr, hm1⟩ := id hD
             have y0 : w'.cell? ⟨w.heap.size, 0, none⟩ = some (.int .i64 s) := (step_blk hb K0_1.out).cell 0
             have y1 : w'.cell? ⟨w.heap.size, 1, none⟩ = some (.int .i64 p) := (step_blk hb K0_1.out).cell 1
             clear hx hk hD hb hr hm1
             go_simp
             try rfl
           simp only [Act.put, List.setIfInBounds_toArray, List.set_cons_zero, List.set_cons_succ])
        first
        | (refine Fx.WM.skip 8 (by rfl) (by kernel_rfl) (by kernel_rfl) (by kernel_rfl) (by rfl) (fun g f w h => h) ?_; simp only [Act.put, List.setIfInBounds_toArray, List.set_cons_zero, List.set_cons_succ])
        | (refine Fx.WM.val_ 8 ?_ (by rfl) (by kernel_rfl) (by kernel_rfl) (by kernel_rfl) (by rfl) ?_ (fun g f w h => h) ?_
           rotate_left
           · intro g f w' hx hD hk
             obtain ⟨hb, hr, hm1⟩ := id hD
             have y0 : w'.cell? ⟨w.heap.size, 0, none⟩ = some (.int .i64 s) := (step_blk hb K0_1.out).cell 0
             have y1 : w'.cell? ⟨w.heap.size, 1, none⟩ = some (.int .i64 p) := (step_blk hb K0_1.out).cell 1
             clear hx hk hD hb hr hm1
             go_simp
             try rfl
           simp only [Act.put, List.setIfInBounds_toArray, List.set_cons_zero, List.set_cons_succ])
        first
        | (refine Fx.WM.skip 9 (by rfl) (by kernel_rfl) (by kernel_rfl) (by kernel_rfl) (by rfl) (fun g f w h => h) ?_; simp only [Act.put, List.setIfInBounds_toArray, List.set_cons_zero, List.set_cons_succ])
        | (refine Fx.WM.val_ 9 ?_ (by rfl) (by kernel_rfl) (by kernel_rfl) (by kernel_rfl) (by rfl) ?_ (fun g f w h => h) ?_
           rotate_left
           · intro g f w' hx hD hk
             obtain ⟨hb, hr, hm1⟩ := id hD
             have y0 : w'.cell? ⟨w.heap.size, 0, none⟩ = some (.int .i64 s) := (step_blk hb K0_1.out).cell 0
             have y1 : w'.cell? ⟨w.heap.size, 1, none⟩ = some (.int .i64 p) := (step_blk hb K0_1.out).cell 1
             clear hx hk hD hb hr hm1
             go_simp
             try rfl
           simp only [Act.put, List.setIfInBounds_toArray, List.set_cons_zero, List.set_cons_succ])
        refine Fx.WM.eff 11 undef (by rfl) (by kernel_rfl) (by kernel_rfl) (by kernel_rfl) (by rfl) ?_ ?_
        · intro g f w' hx hD hk
          obtain ⟨hb, hr, hm1⟩ := id hD
          obtain ⟨bx, e0, e1, r0, r1, r2, r3, r4, r5⟩ := MkM.cells hm1 (hx 10 _ rfl)
          refine Fx.gives_skip (w' := (w'.setCell ⟨bx, 0, none⟩ (.int .i64 u)).setCell ⟨bx, 1, none⟩ (.int .i64 v)) ?_ ?_
          · clear hx hk hD hb hr hm1
            go_simp
            try rfl
          · exact ⟨below_store hb r1, RdM.stored, hm1.store (hx 10 _ rfl) r0⟩
        simp only [Act.put, List.setIfInBounds_toArray, List.set_cons_zero, List.set_cons_succ]
        first
        | (refine Fx.WM.skip 12 (by rfl) (by kernel_rfl) (by kernel_rfl) (by kernel_rfl) (by rfl) (fun g f w h => h) ?_; simp only [Act.put, List.setIfInBounds_toArray, List.set_cons_zero, List.set_cons_succ])
        | (refine Fx.WM.val_ 12 ?_ (by rfl) (by kernel_rfl) (by kernel_rfl) (by kernel_rfl) (by rfl) ?_ (fun g f w h => h) ?_
           rotate_left
           · intro g f w' hx hD hk
             obtain ⟨hb, hr, hm1⟩ := id hD
             have y0 : w'.cell? ⟨w.heap.size, 0, none⟩ = some (.int .i64 s) := (step_blk hb K0_1.out).cell 0
             have y1 : w'.cell? ⟨w.heap.size, 1, none⟩ = some (.int .i64 p) := (step_blk hb K0_1.out).cell 1
             clear hx hk hD hb hr hm1
             go_simp
             try rfl
           simp only [Act.put, List.setIfInBounds_toArray, List.set_cons_zero, List.set_cons_succ])
        refine Fx.WM.nil (by kernel_rfl) ?_
        intro wz hD
        obtain ⟨hb, -, hm1⟩ := hD
        obtain ⟨bx, hx1, hx2, hxb⟩ := hm1.end_ (x := z) (by rfl) (by rfl)
        exact key x z wz ⟨bx, hx1, hx2, hb, hxb⟩
    intro x z w2 ⟨bx, hz, hzb, hb, hxb⟩
    obtain ⟨z1, z2⟩ := z
    simp only at hz
    subst hz
    have hlt1 := hxb.lt
    have HB2 := Lib.hid (show Below w.heap.size w w2 from step_below hb (by repeat' (first | exact Below.refl _ _ | exact HB1.out | refine below_drewN ?_ _ | refine Below.drew ?_ | refine Below.alloc ?_ (by first | omega | (simp; done) | (simp; omega) | (simp [World.setCell]; omega)) _ | refine Below.setCell ?_ (by first | omega | (simp; done) | (simp; omega)) _ | assumption)))
    have K0_2 := Lib.hid (step_blk hb (show Blk _ (w.heap.size) 51 #[.int .i64 (s), .int .i64 (p)] by repeat' (first | exact K0_1.out | exact Blk.at_ _ (by first | rfl | (simp; done) | (simp; omega)) _ _ | refine Blk.drewN ?_ _ | refine Blk.drew ?_ | refine Blk.alloc ?_ _ | refine Blk.far ?_ (by first | omega | (simp; done) | (simp; omega)) _ | assumption)))
    have hz2 := hb.size
    try simp only [World.size_alloc, World.drewN, World.drew] at hz2
    clear hb K0_1 z0_0_1 z0_1_1 l0_1
    have l0_2 : w.heap.size < w2.heap.size := K0_2.out.lt
    have z0_0_2 : w2.cell? ⟨w.heap.size, 0, none⟩ = some (.int .i64 (s)) := K0_2.out.cell 0
    have z0_1_2 : w2.cell? ⟨w.heap.size, 1, none⟩ = some (.int .i64 (p)) := K0_2.out.cell 1
    go_wp2
    apply share (Fact := fun (x z : Pick) (wz : World) => ∃ bx, z.1 = some ⟨bx, 0, none⟩ ∧ w2.heap.size ≤ bx ∧ Below w2.heap.size w2 wz ∧ Blk wz bx 64 #[.int .i64 x', .int .i64 y'])
    · intro key
      refine Fx.regionM (fun W g f w' => Below W.heap.size W w' ∧ RdM 2 n (cells2 l) 1 9 g f w' ∧ MkM 64 (.int .i64 x') (.int .i64 y') 8 9 W g f w') (fun i (x : Pick) => if i = 8 then .pointer x.1 else .slice x.1 n x.2) (by kernel_rfl) ?_ ?_
      · intro f hf0
        exact ⟨below_drewN (Below.refl _ _) 1, RdM.start, MkM.start⟩
      first
      | (refine Fx.WM.skip 0 (by rfl) (by kernel_rfl) (by kernel_rfl) (by kernel_rfl) (by rfl) (fun g f w h => h) ?_; simp only [Act.put, List.setIfInBounds_toArray, List.set_cons_zero, List.set_cons_succ])
      | (refine Fx.WM.val_ 0 ?_ (by rfl) (by kernel_rfl) (by kernel_rfl) (by kernel_rfl) (by rfl) ?_ (fun g f w h => h) ?_
         rotate_left
         · intro g f w' hx hD hk
           obtain ⟨hb, hr, hm1⟩ := id hD
           have y0 : w'.cell? ⟨w.heap.size, 0, none⟩ = some (.int .i64 s) := (step_blk hb K0_2.out).cell 0
           have y1 : w'.cell? ⟨w.heap.size, 1, none⟩ = some (.int .i64 p) := (step_blk hb K0_2.out).cell 1
           clear hx hk hD hb hr hm1
           go_simp
           try rfl
         simp only [Act.put, List.setIfInBounds_toArray, List.set_cons_zero, List.set_cons_succ])
      first
      | (refine Fx.WM.skip 2 (by rfl) (by kernel_rfl) (by kernel_rfl) (by kernel_rfl) (by rfl) (fun g f w h => h) ?_; simp only [Act.put, List.setIfInBounds_toArray, List.set_cons_zero, List.set_cons_succ])
      | (refine Fx.WM.val_ 2 ?_ (by rfl) (by kernel_rfl) (by kernel_rfl) (by kernel_rfl) (by rfl) ?_ (fun g f w h => h) ?_
         rotate_left
         · intro g f w' hx hD hk
           obtain ⟨hb, hr, hm1⟩ := id hD
           have y0 : w'.cell? ⟨w.heap.size, 0, none⟩ = some (.int .i64 s) := (step_blk hb K0_2.out).cell 0
           have y1 : w'.cell? ⟨w.heap.size, 1, none⟩ = some (.int .i64 p) := (step_blk hb K0_2.out).cell 1
           clear hx hk hD hb hr hm1
           go_simp
           try rfl
         simp only [Act.put, List.setIfInBounds_toArray, List.set_cons_zero, List.set_cons_succ])
      first
      | (refine Fx.WM.skip 3 (by rfl) (by kernel_rfl) (by kernel_rfl) (by kernel_rfl) (by rfl) (fun g f w h => h) ?_; simp only [Act.put, List.setIfInBounds_toArray, List.set_cons_zero, List.set_cons_succ])
      | (refine Fx.WM.val_ 3 ?_ (by rfl) (by kernel_rfl) (by kernel_rfl) (by kernel_rfl) (by rfl) ?_ (fun g f w h => h) ?_
         rotate_left
         · intro g f w' hx hD hk
           obtain ⟨hb, hr, hm1⟩ := id hD
           have y0 : w'.cell? ⟨w.heap.size, 0, none⟩ = some (.int .i64 s) := (step_blk hb K0_2.out).cell 0
           have y1 : w'.cell? ⟨w.heap.size, 1, none⟩ = some (.int .i64 p) := (step_blk hb K0_2.out).cell 1
           clear hx hk hD hb hr hm1
           go_simp
           try rfl
         simp only [Act.put, List.setIfInBounds_toArray, List.set_cons_zero, List.set_cons_succ])
      refine Fx.WM.choose2 1 8 (by rfl) (by rfl) (by kernel_rfl) (by rfl) (by rfl) ?_ ?_ ?_ ?_
      · skip
        refine Fx.Chooses.call ?_ ?_ (by rfl) ?_ ?_
        rotate_left 2
        · intro w'
          go_simp
          refine ⟨?_, ?_⟩ <;> rfl
        · intro f w' hD hk
          exact (copytrain_any A n c w.heap.size l w' (HX.out.belowLe (HB2.out.trans (hD.1.mono HB2.out.size)) (Nat.le_refl _)) (HB2.out.trans (hD.1.mono HB2.out.size)).size (by omega)).mono fun e w'' ⟨A', c', he, hb, hr, _⟩ => ⟨(A', c'), he, step_below hb hD.1, RdM.new hr, (hD.2.2.step hb (by decide)).other (by decide)⟩
      · skip
        refine Fx.Chooses.make (by rfl) ?_
        intro f w' hD hk
        obtain ⟨hb, hr, hm1⟩ := id hD
        refine ⟨(some ⟨w'.heap.size, 0, none⟩, 0), w'.alloc (.cells #[.int .i64 0, .int .i64 0] 64), ?_, ?_⟩
        · clear hk hD
          go_simp
          try rfl
        · exact ⟨hb.alloc hb.size _, (hr.step ((Below.refl _ _).alloc (Nat.le_refl _) _) (by decide)).other (by decide), MkM.make hb.size (hk.2.1 9 (by kernel_rfl)) (by decide)⟩
      · intro x
        simp only [Act.put, List.setIfInBounds_toArray, List.set_cons_zero, List.set_cons_succ]
        refine Fx.WM.call 4 (.tuple #[.agg #[.int .i64 x', .int .i64 y'], .int .i64 g']) ?_ ?_ (by rfl) (by kernel_rfl) (by kernel_rfl) (by kernel_rfl) (by rfl) ?_ ?_ ?_
        rotate_left 2
        · intro w'
          go_simp
          refine ⟨?_, ?_⟩ <;> rfl
        · intro g f w' hx hD hk
          exact (drift_any x.1 n x.2 w'.heap.size l s p sec w' (hD.2.1 x (hx 1 _ rfl) (hk.2.1 9 (by kernel_rfl))) (Nat.le_refl _) hn x' y' g' HT.out).mono fun e w'' ⟨he, hw⟩ => ⟨he, step_below hw hD.1, hD.2.1.step hw (by decide), hD.2.2.step hw (by decide)⟩
        simp only [Act.put, List.setIfInBounds_toArray, List.set_cons_zero, List.set_cons_succ]
        first
        | (refine Fx.WM.skip 5 (by rfl) (by kernel_rfl) (by kernel_rfl) (by kernel_rfl) (by rfl) (fun g f w h => h) ?_; simp only [Act.put, List.setIfInBounds_toArray, List.set_cons_zero, List.set_cons_succ])
        | (refine Fx.WM.val_ 5 ?_ (by rfl) (by kernel_rfl) (by kernel_rfl) (by kernel_rfl) (by rfl) ?_ (fun g f w h => h) ?_
           rotate_left
           · intro g f w' hx hD hk
             obtain ⟨hb, hr, hm1⟩ := id hD
             have y0 : w'.cell? ⟨w.heap.size, 0, none⟩ = some (.int .i64 s) := (step_blk hb K0_2.out).cell 0
             have y1 : w'.cell? ⟨w.heap.size, 1, none⟩ = some (.int .i64 p) := (step_blk hb K0_2.out).cell 1
             clear hx hk hD hb hr hm1
             go_simp
             try rfl
           simp only [Act.put, List.setIfInBounds_toArray, List.set_cons_zero, List.set_cons_succ])
        first
        | (refine Fx.WM.skip 6 (by rfl) (by kernel_rfl) (by kernel_rfl) (by kernel_rfl) (by rfl) (fun g f w h => h) ?_; simp only [Act.put, List.setIfInBounds_toArray, List.set_cons_zero, List.set_cons_succ])
        | (refine Fx.WM.val_ 6 ?_ (by rfl) (by kernel_rfl) (by kernel_rfl) (by kernel_rfl) (by rfl) ?_ (fun g f w h => h) ?_
           rotate_left
           · intro g f w' hx hD hk
             obtain ⟨hb, hr, hm1⟩ := id hD
             have y0 : w'.cell? ⟨w.heap.size, 0, none⟩ = some (.int .i64 s) := (step_blk hb K0_2.out).cell 0
             have y1 : w'.cell? ⟨w.heap.size, 1, none⟩ = some (.int .i64 p) := (step_blk hb K0_2.out).cell 1
             clear hx hk hD hb hr hm1
             go_simp
             try rfl
           simp only [Act.put, List.setIfInBounds_toArray, List.set_cons_zero, List.set_cons_succ])
        first
        | (refine Fx.WM.skip 7 (by rfl) (by kernel_rfl) (by kernel_rfl) (by kernel_rfl) (by rfl) (fun g f w h => h) ?_; simp only [Act.put, List.setIfInBounds_toArray, List.set_cons_zero, List.set_cons_succ])
        | (refine Fx.WM.val_ 7 ?_ (by rfl) (by kernel_rfl) (by kernel_rfl) (by kernel_rfl) (by rfl) ?_ (fun g f w h => h) ?_
           rotate_left
           · intro g f w' hx hD hk
             obtain ⟨hb, hr, hm1⟩ := id hD
             have y0 : w'.cell? ⟨w.heap.size, 0, none⟩ = some (.int .i64 s) := (step_blk hb K0_2.out).cell 0
             have y1 : w'.cell? ⟨w.heap.size, 1, none⟩ = some (.int .i64 p) := (step_blk hb K0_2.out).cell 1
             clear hx hk hD hb hr hm1
             go_simp
             try rfl
           simp only [Act.put, List.setIfInBounds_toArray, List.set_cons_zero, List.set_cons_succ])
        refine Fx.WM.choose 8 (by rfl) (by kernel_rfl) (by rfl) ?_ ?_
        · skip
          refine Fx.Chooses.make (by rfl) ?_
          intro f w' hD hk
          obtain ⟨hb, hr, hm1⟩ := id hD
          refine ⟨(some ⟨w'.heap.size, 0, none⟩, 0), w'.alloc (.cells #[.int .i64 0, .int .i64 0] 64), ?_, ?_⟩
          · clear hk hD
            go_simp
            try rfl
          · exact ⟨hb.alloc hb.size _, (hr.step ((Below.refl _ _).alloc (Nat.le_refl _) _) (by decide)).other (by decide), MkM.make hb.size (hk.2.1 9 (by kernel_rfl)) (by decide)⟩
        intro z
        simp only [Act.put, List.setIfInBounds_toArray, List.set_cons_zero, List.set_cons_succ]
        refine Fx.WM.eff 9 undef (by rfl) (by kernel_rfl) (by kernel_rfl) (by kernel_rfl) (by rfl) ?_ ?_
        · intro g f w' hx hD hk
          obtain ⟨hb, hr, hm1⟩ := id hD
          obtain ⟨bx, e0, e1, r0, r1, r2, r3, r4, r5⟩ := MkM.cells hm1 (hx 8 _ rfl)
          refine Fx.gives_skip (w' := (w'.setCell ⟨bx, 0, none⟩ (.int .i64 x')).setCell ⟨bx, 1, none⟩ (.int .i64 y')) ?_ ?_
          · clear hx hk hD hb hr hm1
            go_simp
            try rfl
          · exact ⟨below_store hb r1, RdM.stored, hm1.store (hx 8 _ rfl) r0⟩
        simp only [Act.put, List.setIfInBounds_toArray, List.set_cons_zero, List.set_cons_succ]
        first
        | (refine Fx.WM.skip 10 (by rfl) (by kernel_rfl) (by kernel_rfl) (by kernel_rfl) (by rfl) (fun g f w h => h) ?_; simp only [Act.put, List.setIfInBounds_toArray, List.set_cons_zero, List.set_cons_succ])
        | (refine Fx.WM.val_ 10 ?_ (by rfl) (by kernel_rfl) (by kernel_rfl) (by kernel_rfl) (by rfl) ?_ (fun g f w h => h) ?_
           rotate_left
           · intro g f w' hx hD hk
             obtain ⟨hb, hr, hm1⟩ := id hD
             have y0 : w'.cell? ⟨w.heap.size, 0, none⟩ = some (.int .i64 s) := (step_blk hb K0_2.out).cell 0
             have y1 : w'.cell? ⟨w.heap.size, 1, none⟩ = some (.int .i64 p) := (step_blk hb K0_2.out).cell 1
             clear hx hk hD hb hr hm1
             go_simp
             try rfl
           simp only [Act.put, List.setIfInBounds_toArray, List.set_cons_zero, List.set_cons_succ])
        refine Fx.WM.nil (by kernel_rfl) ?_
        intro wz hD
        obtain ⟨hb, -, hm1⟩ := hD
        obtain ⟨bx, hx1, hx2, hxb⟩ := hm1.end_ (x := z) (by rfl) (by rfl)
        exact key x z wz ⟨bx, hx1, hx2, hb, hxb⟩
      · intro z
        simp only [Act.put, List.setIfInBounds_toArray, List.set_cons_zero, List.set_cons_succ]
        refine Fx.WM.choose 1 (by rfl) (by kernel_rfl) (by rfl) ?_ ?_
        · skip
          refine Fx.Chooses.call ?_ ?_ (by rfl) ?_ ?_
          rotate_left 2
          · intro w'
            go_simp
            refine ⟨?_, ?_⟩ <;> rfl
          · intro f w' hD hk
            exact (copytrain_any A n c w.heap.size l w' (HX.out.belowLe (HB2.out.trans (hD.1.mono HB2.out.size)) (Nat.le_refl _)) (HB2.out.trans (hD.1.mono HB2.out.size)).size (by omega)).mono fun e w'' ⟨A', c', he, hb, hr, _⟩ => ⟨(A', c'), he, step_below hb hD.1, RdM.new hr, (hD.2.2.step hb (by decide)).other (by decide)⟩
        intro x
        simp only [Act.put, List.setIfInBounds_toArray, List.set_cons_zero, List.set_cons_succ]
        refine Fx.WM.call 4 (.tuple #[.agg #[.int .i64 x', .int .i64 y'], .int .i64 g']) ?_ ?_ (by rfl) (by kernel_rfl) (by kernel_rfl) (by kernel_rfl) (by rfl) ?_ ?_ ?_
        rotate_left 2
        · intro w'
          go_simp
          refine ⟨?_, ?_⟩ <;> rfl
        · intro g f w' hx hD hk
          exact (drift_any x.1 n x.2 w'.heap.size l s p sec w' (hD.2.1 x (hx 1 _ rfl) (hk.2.1 9 (by kernel_rfl))) (Nat.le_refl _) hn x' y' g' HT.out).mono fun e w'' ⟨he, hw⟩ => ⟨he, step_below hw hD.1, hD.2.1.step hw (by decide), hD.2.2.step hw (by decide)⟩
        simp only [Act.put, List.setIfInBounds_toArray, List.set_cons_zero, List.set_cons_succ]
        first
        | (refine Fx.WM.skip 5 (by rfl) (by kernel_rfl) (by kernel_rfl) (by kernel_rfl) (by rfl) (fun g f w h => h) ?_; simp only [Act.put, List.setIfInBounds_toArray, List.set_cons_zero, List.set_cons_succ])
        | (refine Fx.WM.val_ 5 ?_ (by rfl) (by kernel_rfl) (by kernel_rfl) (by kernel_rfl) (by rfl) ?_ (fun g f w h => h) ?_
           rotate_left
           · intro g f w' hx hD hk
             obtain ⟨hb, hr, hm1⟩ := id hD
             have y0 : w'.cell? ⟨w.heap.size, 0, none⟩ = some (.int .i64 s) := (step_blk hb K0_2.out).cell 0
             have y1 : w'.cell? ⟨w.heap.size, 1, none⟩ = some (.int .i64 p) := (step_blk hb K0_2.out).cell 1
             clear hx hk hD hb hr hm1
             go_simp
             try rfl
           simp only [Act.put, List.setIfInBounds_toArray, List.set_cons_zero, List.set_cons_succ])
        first
        | (refine Fx.WM.skip 6 (by rfl) (by kernel_rfl) (by kernel_rfl) (by kernel_rfl) (by rfl) (fun g f w h => h) ?_; simp only [Act.put, List.setIfInBounds_toArray, List.set_cons_zero, List.set_cons_succ])
        | (refine Fx.WM.val_ 6 ?_ (by rfl) (by kernel_rfl) (by kernel_rfl) (by kernel_rfl) (by rfl) ?_ (fun g f w h => h) ?_
           rotate_left
           · intro g f w' hx hD hk
             obtain ⟨hb, hr, hm1⟩ := id hD
             have y0 : w'.cell? ⟨w.heap.size, 0, none⟩ = some (.int .i64 s) := (step_blk hb K0_2.out).cell 0
             have y1 : w'.cell? ⟨w.heap.size, 1, none⟩ = some (.int .i64 p) := (step_blk hb K0_2.out).cell 1
             clear hx hk hD hb hr hm1
             go_simp
             try rfl
           simp only [Act.put, List.setIfInBounds_toArray, List.set_cons_zero, List.set_cons_succ])
        first
        | (refine Fx.WM.skip 7 (by rfl) (by kernel_rfl) (by kernel_rfl) (by kernel_rfl) (by rfl) (fun g f w h => h) ?_; simp only [Act.put, List.setIfInBounds_toArray, List.set_cons_zero, List.set_cons_succ])
        | (refine Fx.WM.val_ 7 ?_ (by rfl) (by kernel_rfl) (by kernel_rfl) (by kernel_rfl) (by rfl) ?_ (fun g f w h => h) ?_
           rotate_left
           · intro g f w' hx hD hk
             obtain ⟨hb, hr, hm1⟩ := id hD
             have y0 : w'.cell? ⟨w.heap.size, 0, none⟩ = some (.int .i64 s) := (step_blk hb K0_2.out).cell 0
             have y1 : w'.cell? ⟨w.heap.size, 1, none⟩ = some (.int .i64 p) := (step_blk hb K0_2.out).cell 1
             clear hx hk hD hb hr hm1
             go_simp
             try rfl
           simp only [Act.put, List.setIfInBounds_toArray, List.set_cons_zero, List.set_cons_succ])
        refine Fx.WM.eff 9 undef (by rfl) (by kernel_rfl) (by kernel_rfl) (by kernel_rfl) (by rfl) ?_ ?_
        · intro g f w' hx hD hk
          obtain ⟨hb, hr, hm1⟩ := id hD
          obtain ⟨bx, e0, e1, r0, r1, r2, r3, r4, r5⟩ := MkM.cells hm1 (hx 8 _ rfl)
          refine Fx.gives_skip (w' := (w'.setCell ⟨bx, 0, none⟩ (.int .i64 x')).setCell ⟨bx, 1, none⟩ (.int .i64 y')) ?_ ?_
          · clear hx hk hD hb hr hm1
            go_simp
            try rfl
          · exact ⟨below_store hb r1, RdM.stored, hm1.store (hx 8 _ rfl) r0⟩
        simp only [Act.put, List.setIfInBounds_toArray, List.set_cons_zero, List.set_cons_succ]
        first
        | (refine Fx.WM.skip 10 (by rfl) (by kernel_rfl) (by kernel_rfl) (by kernel_rfl) (by rfl) (fun g f w h => h) ?_; simp only [Act.put, List.setIfInBounds_toArray, List.set_cons_zero, List.set_cons_succ])
        | (refine Fx.WM.val_ 10 ?_ (by rfl) (by kernel_rfl) (by kernel_rfl) (by kernel_rfl) (by rfl) ?_ (fun g f w h => h) ?_
           rotate_left
           · intro g f w' hx hD hk
             obtain ⟨hb, hr, hm1⟩ := id hD
             have y0 : w'.cell? ⟨w.heap.size, 0, none⟩ = some (.int .i64 s) := (step_blk hb K0_2.out).cell 0
             have y1 : w'.cell? ⟨w.heap.size, 1, none⟩ = some (.int .i64 p) := (step_blk hb K0_2.out).cell 1
             clear hx hk hD hb hr hm1
             go_simp
             try rfl
           simp only [Act.put, List.setIfInBounds_toArray, List.set_cons_zero, List.set_cons_succ])
        refine Fx.WM.nil (by kernel_rfl) ?_
        intro wz hD
        obtain ⟨hb, -, hm1⟩ := hD
        obtain ⟨bx, hx1, hx2, hxb⟩ := hm1.end_ (x := z) (by rfl) (by rfl)
        exact key x z wz ⟨bx, hx1, hx2, hb, hxb⟩
    intro x3 z w3 ⟨by_, hz, hzb2, hb, hyb⟩
    obtain ⟨z3, z4⟩ := z
    simp only at hz
    subst hz
    have hxb3 := step_blk hb hxb
    have hlt2 := hyb.lt
    have HBx := HB2.out.trans (hb.mono HB2.out.size)
    have K0x := step_blk hb K0_2.out
    clear hxb hb
    have HB3 := Lib.hid HBx
    have K0_3 := Lib.hid (show Blk w3 (w.heap.size) 51 #[.int .i64 (s), .int .i64 (p)] from K0x)
    have K1_3 := Lib.hid (show Blk w3 (bx) 23 #[.int .i64 (u), .int .i64 (v)] from hxb3)
    have K2_3 := Lib.hid (show Blk w3 (by_) 64 #[.int .i64 (x'), .int .i64 (y')] from hyb)
    clear HBx K0x hxb3 hyb
    have l0_3 : w.heap.size < w3.heap.size := K0_3.out.lt
    have z0_0_3 : w3.cell? ⟨w.heap.size, 0, none⟩ = some (.int .i64 (s)) := K0_3.out.cell 0
    have z0_1_3 : w3.cell? ⟨w.heap.size, 1, none⟩ = some (.int .i64 (p)) := K0_3.out.cell 1
    have l1_3 : bx < w3.heap.size := K1_3.out.lt
    have z1_0_3 : w3.cell? ⟨bx, 0, none⟩ = some (.int .i64 (u)) := K1_3.out.cell 0
    have z1_1_3 : w3.cell? ⟨bx, 1, none⟩ = some (.int .i64 (v)) := K1_3.out.cell 1
    have l2_3 : by_ < w3.heap.size := K2_3.out.lt
    have z2_0_3 : w3.cell? ⟨by_, 0, none⟩ = some (.int .i64 (x')) := K2_3.out.cell 0
    have z2_1_3 : w3.cell? ⟨by_, 1, none⟩ = some (.int .i64 (y')) := K2_3.out.cell 1
    go_wp2_with fail
    refine (rchecktrain_is A n c w.heap.size l E HE.out _ (HX.out.belowLe HB3.out (Nat.le_refl _)) HB3.out.size hn).mono ?_
    rintro e w4 ⟨rfl, hb⟩
    have HB4 := Lib.hid (show Below w.heap.size w w4 from step_below hb (by repeat' (first | exact Below.refl _ _ | exact HB3.out | refine below_drewN ?_ _ | refine Below.drew ?_ | refine Below.alloc ?_ (by first | omega | (simp; done) | (simp; omega) | (simp [World.setCell]; omega)) _ | refine Below.setCell ?_ (by first | omega | (simp; done) | (simp; omega)) _ | assumption)))
    have K0_4 := Lib.hid (step_blk hb (show Blk _ (w.heap.size) 51 #[.int .i64 (s), .int .i64 (p)] by repeat' (first | exact K0_3.out | exact K1_3.out | exact K2_3.out | exact Blk.at_ _ (by first | rfl | (simp; done) | (simp; omega)) _ _ | refine Blk.drewN ?_ _ | refine Blk.drew ?_ | refine Blk.alloc ?_ _ | refine Blk.far ?_ (by first | omega | (simp; done) | (simp; omega)) _ | assumption)))
    have K1_4 := Lib.hid (step_blk hb (show Blk _ (bx) 23 #[.int .i64 (u), .int .i64 (v)] by repeat' (first | exact K0_3.out | exact K1_3.out | exact K2_3.out | exact Blk.at_ _ (by first | rfl | (simp; done) | (simp; omega)) _ _ | refine Blk.drewN ?_ _ | refine Blk.drew ?_ | refine Blk.alloc ?_ _ | refine Blk.far ?_ (by first | omega | (simp; done) | (simp; omega)) _ | assumption)))
    have K2_4 := Lib.hid (step_blk hb (show Blk _ (by_) 64 #[.int .i64 (x'), .int .i64 (y')] by repeat' (first | exact K0_3.out | exact K1_3.out | exact K2_3.out | exact Blk.at_ _ (by first | rfl | (simp; done) | (simp; omega)) _ _ | refine Blk.drewN ?_ _ | refine Blk.drew ?_ | refine Blk.alloc ?_ _ | refine Blk.far ?_ (by first | omega | (simp; done) | (simp; omega)) _ | assumption)))
    have hz4 := hb.size
    try simp only [World.size_alloc, World.drewN, World.drew] at hz4
    clear hb K0_3 K1_3 K2_3 z0_0_3 z0_1_3 l0_3 z1_0_3 z1_1_3 l1_3 z2_0_3 z2_1_3 l2_3
    have l0_4 : w.heap.size < w4.heap.size := K0_4.out.lt
    have z0_0_4 : w4.cell? ⟨w.heap.size, 0, none⟩ = some (.int .i64 (s)) := K0_4.out.cell 0
    have z0_1_4 : w4.cell? ⟨w.heap.size, 1, none⟩ = some (.int .i64 (p)) := K0_4.out.cell 1
    have l1_4 : bx < w4.heap.size := K1_4.out.lt
    have z1_0_4 : w4.cell? ⟨bx, 0, none⟩ = some (.int .i64 (u)) := K1_4.out.cell 0
    have z1_1_4 : w4.cell? ⟨bx, 1, none⟩ = some (.int .i64 (v)) := K1_4.out.cell 1
    have l2_4 : by_ < w4.heap.size := K2_4.out.lt
    have z2_0_4 : w4.cell? ⟨by_, 0, none⟩ = some (.int .i64 (x')) := K2_4.out.cell 0
    have z2_1_4 : w4.cell? ⟨by_, 1, none⟩ = some (.int .i64 (y')) := K2_4.out.cell 1
    by_cases h0 : E = 0
    rotate_left
    · have e0 : (E != 0) = true := by simpa using h0
      have hr : ((u, v), e) = ((0, 0), E) := by rw [← HR.out, ← HE.out]; exact rateF_bad (by rw [HE.out]; exact h0)
      have ht : ((x', y'), g') = ((0, 0), E) := by rw [← HT.out, ← HE.out]; exact driftF_bad (by rw [HE.out]; exact h0)
      cases hr
      cases ht
      go_wp2
      go_ret
      exact ⟨rfl, by repeat' (first | exact Below.refl _ _ | exact HB4.out | refine below_drewN ?_ _ | refine Below.drew ?_ | refine Below.alloc ?_ (by first | omega | (simp; done) | (simp; omega) | (simp [World.setCell]; omega)) _ | refine Below.setCell ?_ (by first | omega | (simp; done) | (simp; omega)) _ | assumption)⟩
    subst h0
    go_wp2_with fail
    refine (rrate_any A n c w.heap.size l s p HE.out _ (HX.out.belowLe HB4.out (Nat.le_refl _)) HB4.out.size u v e HR.out).mono ?_
    rintro e w5 ⟨rfl, hb⟩
    have HB5 := Lib.hid (show Below w.heap.size w w5 from step_below hb (by repeat' (first | exact Below.refl _ _ | exact HB4.out | refine below_drewN ?_ _ | refine Below.drew ?_ | refine Below.alloc ?_ (by first | omega | (simp; done) | (simp; omega) | (simp [World.setCell]; omega)) _ | refine Below.setCell ?_ (by first | omega | (simp; done) | (simp; omega)) _ | assumption)))
    have K0_5 := Lib.hid (step_blk hb (show Blk _ (w.heap.size) 51 #[.int .i64 (s), .int .i64 (p)] by repeat' (first | exact K0_4.out | exact K1_4.out | exact K2_4.out | exact Blk.at_ _ (by first | rfl | (simp; done) | (simp; omega)) _ _ | refine Blk.drewN ?_ _ | refine Blk.drew ?_ | refine Blk.alloc ?_ _ | refine Blk.far ?_ (by first | omega | (simp; done) | (simp; omega)) _ | assumption)))
    have K1_5 := Lib.hid (step_blk hb (show Blk _ (bx) 23 #[.int .i64 (u), .int .i64 (v)] by repeat' (first | exact K0_4.out | exact K1_4.out | exact K2_4.out | exact Blk.at_ _ (by first | rfl | (simp; done) | (simp; omega)) _ _ | refine Blk.drewN ?_ _ | refine Blk.drew ?_ | refine Blk.alloc ?_ _ | refine Blk.far ?_ (by first | omega | (simp; done) | (simp; omega)) _ | assumption)))
    have K2_5 := Lib.hid (step_blk hb (show Blk _ (by_) 64 #[.int .i64 (x'), .int .i64 (y')] by repeat' (first | exact K0_4.out | exact K1_4.out | exact K2_4.out | exact Blk.at_ _ (by first | rfl | (simp; done) | (simp; omega)) _ _ | refine Blk.drewN ?_ _ | refine Blk.drew ?_ | refine Blk.alloc ?_ _ | refine Blk.far ?_ (by first | omega | (simp; done) | (simp; omega)) _ | assumption)))
    have hz5 := hb.size
    try simp only [World.size_alloc, World.drewN, World.drew] at hz5
    clear hb K0_4 K1_4 K2_4 z0_0_4 z0_1_4 l0_4 z1_0_4 z1_1_4 l1_4 z2_0_4 z2_1_4 l2_4
    have l0_5 : w.heap.size < w5.heap.size := K0_5.out.lt
    have z0_0_5 : w5.cell? ⟨w.heap.size, 0, none⟩ = some (.int .i64 (s)) := K0_5.out.cell 0
    have z0_1_5 : w5.cell? ⟨w.heap.size, 1, none⟩ = some (.int .i64 (p)) := K0_5.out.cell 1
    have l1_5 : bx < w5.heap.size := K1_5.out.lt
    have z1_0_5 : w5.cell? ⟨bx, 0, none⟩ = some (.int .i64 (u)) := K1_5.out.cell 0
    have z1_1_5 : w5.cell? ⟨bx, 1, none⟩ = some (.int .i64 (v)) := K1_5.out.cell 1
    have l2_5 : by_ < w5.heap.size := K2_5.out.lt
    have z2_0_5 : w5.cell? ⟨by_, 0, none⟩ = some (.int .i64 (x')) := K2_5.out.cell 0
    have z2_1_5 : w5.cell? ⟨by_, 1, none⟩ = some (.int .i64 (y')) := K2_5.out.cell 1
    go_wp2_with fail
    refine (rdrift_any A n c w.heap.size l s p sec HE.out _ (HX.out.belowLe (HB5.out.alloc HB5.out.size _) (Nat.le_refl _)) (HB5.out.alloc HB5.out.size _).size hn x' y' g' HT.out).mono ?_
    rintro e w6 ⟨rfl, hb⟩
    have HB6 := Lib.hid (show Below w.heap.size w w6 from step_below hb (by repeat' (first | exact Below.refl _ _ | exact HB5.out | refine below_drewN ?_ _ | refine Below.drew ?_ | refine Below.alloc ?_ (by first | omega | (simp; done) | (simp; omega) | (simp [World.setCell]; omega)) _ | refine Below.setCell ?_ (by first | omega | (simp; done) | (simp; omega)) _ | assumption)))
    have K0_6 := Lib.hid (step_blk hb (show Blk _ (w.heap.size) 51 #[.int .i64 (s), .int .i64 (p)] by repeat' (first | exact K0_5.out | exact K1_5.out | exact K2_5.out | exact Blk.at_ _ (by first | rfl | (simp; done) | (simp; omega)) _ _ | refine Blk.drewN ?_ _ | refine Blk.drew ?_ | refine Blk.alloc ?_ _ | refine Blk.far ?_ (by first | omega | (simp; done) | (simp; omega)) _ | assumption)))
    have K1_6 := Lib.hid (step_blk hb (show Blk _ (bx) 23 #[.int .i64 (u), .int .i64 (v)] by repeat' (first | exact K0_5.out | exact K1_5.out | exact K2_5.out | exact Blk.at_ _ (by first | rfl | (simp; done) | (simp; omega)) _ _ | refine Blk.drewN ?_ _ | refine Blk.drew ?_ | refine Blk.alloc ?_ _ | refine Blk.far ?_ (by first | omega | (simp; done) | (simp; omega)) _ | assumption)))
    have K2_6 := Lib.hid (step_blk hb (show Blk _ (by_) 64 #[.int .i64 (x'), .int .i64 (y')] by repeat' (first | exact K0_5.out | exact K1_5.out | exact K2_5.out | exact Blk.at_ _ (by first | rfl | (simp; done) | (simp; omega)) _ _ | refine Blk.drewN ?_ _ | refine Blk.drew ?_ | refine Blk.alloc ?_ _ | refine Blk.far ?_ (by first | omega | (simp; done) | (simp; omega)) _ | assumption)))
    have K3_6 := Lib.hid (step_blk hb (show Blk _ (w5.heap.size) 23 #[.int .i64 (u), .int .i64 (v)] by repeat' (first | exact K0_5.out | exact K1_5.out | exact K2_5.out | exact Blk.at_ _ (by first | rfl | (simp; done) | (simp; omega)) _ _ | refine Blk.drewN ?_ _ | refine Blk.drew ?_ | refine Blk.alloc ?_ _ | refine Blk.far ?_ (by first | omega | (simp; done) | (simp; omega)) _ | assumption)))
    have hz6 := hb.size
    try simp only [World.size_alloc, World.drewN, World.drew] at hz6
    clear hb K0_5 K1_5 K2_5 z0_0_5 z0_1_5 l0_5 z1_0_5 z1_1_5 l1_5 z2_0_5 z2_1_5 l2_5
    have l0_6 : w.heap.size < w6.heap.size := K0_6.out.lt
    have z0_0_6 : w6.cell? ⟨w.heap.size, 0, none⟩ = some (.int .i64 (s)) := K0_6.out.cell 0
    have z0_1_6 : w6.cell? ⟨w.heap.size, 1, none⟩ = some (.int .i64 (p)) := K0_6.out.cell 1
    have l1_6 : bx < w6.heap.size := K1_6.out.lt
    have z1_0_6 : w6.cell? ⟨bx, 0, none⟩ = some (.int .i64 (u)) := K1_6.out.cell 0
    have z1_1_6 : w6.cell? ⟨bx, 1, none⟩ = some (.int .i64 (v)) := K1_6.out.cell 1
    have l2_6 : by_ < w6.heap.size := K2_6.out.lt
    have z2_0_6 : w6.cell? ⟨by_, 0, none⟩ = some (.int .i64 (x')) := K2_6.out.cell 0
    have z2_1_6 : w6.cell? ⟨by_, 1, none⟩ = some (.int .i64 (y')) := K2_6.out.cell 1
    have l3_6 : w5.heap.size < w6.heap.size := K3_6.out.lt
    have z3_0_6 : w6.cell? ⟨w5.heap.size, 0, none⟩ = some (.int .i64 (u)) := K3_6.out.cell 0
    have z3_1_6 : w6.cell? ⟨w5.heap.size, 1, none⟩ = some (.int .i64 (v)) := K3_6.out.cell 1
    go_wp2
    go_ret
    exact ⟨rfl, by repeat' (first | exact Below.refl _ _ | exact HB6.out | refine below_drewN ?_ _ | refine Below.drew ?_ | refine Below.alloc ?_ (by first | omega | (simp; done) | (simp; omega) | (simp [World.setCell]; omega)) _ | refine Below.setCell ?_ (by first | omega | (simp; done) | (simp; omega)) _ | assumption)⟩

end Go.Proofs.Ytmioamcgbihhjaa
