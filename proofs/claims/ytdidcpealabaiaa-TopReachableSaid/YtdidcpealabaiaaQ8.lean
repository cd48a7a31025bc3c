import Derived.Test.YtdidcpealabaiaaQ7
import Derived.Test.YtdidcpealabaiaaQ3

section
/- Contracts of the checks of mountings, targets and days, the package's and the reference's. -/
namespace Go.Proofs.Ytdidcpealabaiaa
open Go Go.RowKit

/-- A mounting in memory. -/
structure Mnt where
  ls : Int
  ms : Int
  lo : Int
  hi : Int
  sp : Int
  A1 : Option Addr
  n1 : Nat
  c1 : Nat
  l1 : List (Int × Int)
  A2 : Option Addr
  n2 : Nat
  c2 : Nat
  l2 : List (Int × Int)
def Mnt.val (m : Mnt) : Value := .agg #[.int .i64 m.ls, .int .i64 m.ms, .int .i64 m.lo, .int .i64 m.hi, .int .i64 m.sp, .slice m.A1 m.n1 m.c1, .slice m.A2 m.n2 m.c2]
structure MntAt (m : Mnt) (w : World) : Prop where
  r1 : Reads w w.heap.size 2 m.A1 m.n1 (cells2 m.l1)
  r2 : Reads w w.heap.size 2 m.A2 m.n2 (cells2 m.l2)
  b1 : m.n1 ≤ 9223372036854775807
  b2 : m.n2 ≤ 9223372036854775807
theorem MntAt.lay {m : Mnt} {w w' : World} (h : MntAt m w) (hb : Below w.heap.size w w') : MntAt m w' := ⟨(h.r1.below hb).more hb.size, (h.r2.below hb).more hb.size, h.b1, h.b2⟩
def Mnt.rng (m : Mnt) : Bool := smallL 25920000 [m.ls, m.ms] && withinB m.lo 0 324000 && withinB m.hi 0 324000 && withinB m.sp 1 1000000
/-- The error of a mounting. -/
def mntErr (m : Mnt) : Int := if m.rng = false then 2 else if m.ms < m.ls ∨ m.hi < m.lo then 9 else orE [tabErr m.l1, tabErr m.l2]

theorem chain4 {a b c d : Bool} (h : (a && b && c && d) = false) : a = false ∨ (a = true ∧ b = false) ∨ (a = true ∧ b = true ∧ c = false) ∨ (a = true ∧ b = true ∧ c = true ∧ d = false) := by
  cases a <;> cases b <;> cases c <;> cases d <;> simp_all
theorem chain4t {a b c d : Bool} (h : (a && b && c && d) = true) : a = true ∧ b = true ∧ c = true ∧ d = true := by
  cases a <;> cases b <;> cases c <;> cases d <;> simp_all
theorem chain5 {a b c d e : Bool} (h : (a && b && c && d && e) = false) : a = false ∨ (a = true ∧ b = false) ∨ (a = true ∧ b = true ∧ c = false) ∨ (a = true ∧ b = true ∧ c = true ∧ d = false) ∨ (a = true ∧ b = true ∧ c = true ∧ d = true ∧ e = false) := by
  cases a <;> cases b <;> cases c <;> cases d <;> cases e <;> simp_all
theorem chain5t {a b c d e : Bool} (h : (a && b && c && d && e) = true) : a = true ∧ b = true ∧ c = true ∧ d = true ∧ e = true := by
  cases a <;> cases b <;> cases c <;> cases d <;> cases e <;> simp_all

set_option maxRecDepth 100000 in
set_option maxHeartbeats 2000000 in
theorem pmount_is (m : Mnt) (E : Int) (hE : mntErr m = E) (w : World) (hx : MntAt m w) :
    Calls Try.prog 92 #[m.val] w fun e w' => e = .returned (.int .i64 E) ∧ Below w.heap.size w w' := by
  obtain ⟨ls, ms, lo, hi, sp, A1, n1, c1, l1, A2, n2, c2, l2⟩ := m
  obtain ⟨hx1, hx2, hb1, hb2⟩ := hx
  simp only at hx1 hx2 hb1 hb2
  unfold Mnt.val
  dsimp only
  unfold mntErr at hE
  cases hr : Mnt.rng ⟨ls, ms, lo, hi, sp, A1, n1, c1, l1, A2, n2, c2, l2⟩ with
  | false =>
    rw [if_pos hr] at hE
    subst hE
    unfold Mnt.rng at hr
    simp only at hr
    rcases chain4 hr with h1 | ⟨h1, h2⟩ | ⟨h1, h2, h3⟩ | ⟨h1, h2, h3, h4⟩
    all_goals
      clear hr hx1 hx2
      go_enter Try.func92, Try.ntmps92
      go_wp2_with fail
      refine (smallpt_lit 25920000 [ls, ms] 2 _ _ _ (by assumption) _ (by first | rfl | simp) rfl (by omega) (by omega) (by omega)).mono ?_
      rintro e w1 ⟨rfl, hb⟩
      have HB1 := Lib.hid (show Below w.heap.size w w1 from step_below hb (by repeat' (first | exact Below.refl _ _ | exact HB0.out | refine below_drewN ?_ _ | refine Below.drew ?_ | refine Below.alloc ?_ (by first | omega | (simp; done) | (simp; omega) | (simp [World.setCell]; omega)) _ | refine Below.setCell ?_ (by first | omega | (simp; done) | (simp; omega)) _ | assumption)))
      have K0_1 := Lib.hid (step_blk hb (show Blk _ (w.heap.size) 58 #[.int .i64 (ls), .int .i64 (ms), .int .i64 (lo), .int .i64 (hi), .int .i64 (sp), .slice A1 n1 c1, .slice A2 n2 c2] by repeat' (first | exact Blk.at_ _ (by first | rfl | (simp; done) | (simp; omega)) _ _ | refine Blk.drewN ?_ _ | refine Blk.drew ?_ | refine Blk.alloc ?_ _ | refine Blk.far ?_ (by first | omega | (simp; done) | (simp; omega)) _ | assumption)))
      have hz1 := hb.size
      try simp only [World.size_alloc, World.drewN, World.drew] at hz1
      clear hb
      have l0_1 : w.heap.size < w1.heap.size := K0_1.out.lt
      have z0_0_1 : w1.cell? ⟨w.heap.size, 0, none⟩ = some (.int .i64 (ls)) := K0_1.out.cell 0
      have z0_1_1 : w1.cell? ⟨w.heap.size, 1, none⟩ = some (.int .i64 (ms)) := K0_1.out.cell 1
      have z0_2_1 : w1.cell? ⟨w.heap.size, 2, none⟩ = some (.int .i64 (lo)) := K0_1.out.cell 2
      have z0_3_1 : w1.cell? ⟨w.heap.size, 3, none⟩ = some (.int .i64 (hi)) := K0_1.out.cell 3
      have z0_4_1 : w1.cell? ⟨w.heap.size, 4, none⟩ = some (.int .i64 (sp)) := K0_1.out.cell 4
      have z0_5_1 : w1.cell? ⟨w.heap.size, 5, none⟩ = some (.slice A1 n1 c1) := K0_1.out.cell 5
      have z0_6_1 : w1.cell? ⟨w.heap.size, 6, none⟩ = some (.slice A2 n2 c2) := K0_1.out.cell 6
      go_wp2_with (first | (go_at_call 77; refine (withinpt_is _ _ _ _ (by assumption) _).mono ?_; rintro e w' ⟨rfl, rfl⟩))
      go_ret
      exact ⟨rfl, HB1.out⟩
  | true =>
    rw [if_neg (by rw [hr]; simp)] at hE
    unfold Mnt.rng at hr
    simp only at hr hE
    obtain ⟨h1, h2, h3, h4⟩ := chain4t hr
    by_cases ho : ms < ls ∨ hi < lo
    · rw [if_pos ho] at hE
      subst hE
      rcases Decidable.em (ms < ls) with o1 | o1
      all_goals
        have o2 : ms < ls ∨ (¬ ms < ls ∧ hi < lo) := by omega
        first | (have o3 : hi < lo := by omega) | skip
        clear hr ho o2 hx1 hx2
        go_enter Try.func92, Try.ntmps92
        go_wp2_with fail
        refine (smallpt_lit 25920000 [ls, ms] 2 _ _ _ (by assumption) _ (by first | rfl | simp) rfl (by omega) (by omega) (by omega)).mono ?_
        rintro e w1 ⟨rfl, hb⟩
        have HB1 := Lib.hid (show Below w.heap.size w w1 from step_below hb (by repeat' (first | exact Below.refl _ _ | exact HB0.out | refine below_drewN ?_ _ | refine Below.drew ?_ | refine Below.alloc ?_ (by first | omega | (simp; done) | (simp; omega) | (simp [World.setCell]; omega)) _ | refine Below.setCell ?_ (by first | omega | (simp; done) | (simp; omega)) _ | assumption)))
        have K0_1 := Lib.hid (step_blk hb (show Blk _ (w.heap.size) 58 #[.int .i64 (ls), .int .i64 (ms), .int .i64 (lo), .int .i64 (hi), .int .i64 (sp), .slice A1 n1 c1, .slice A2 n2 c2] by repeat' (first | exact Blk.at_ _ (by first | rfl | (simp; done) | (simp; omega)) _ _ | refine Blk.drewN ?_ _ | refine Blk.drew ?_ | refine Blk.alloc ?_ _ | refine Blk.far ?_ (by first | omega | (simp; done) | (simp; omega)) _ | assumption)))
        have hz1 := hb.size
        try simp only [World.size_alloc, World.drewN, World.drew] at hz1
        clear hb
        have l0_1 : w.heap.size < w1.heap.size := K0_1.out.lt
        have z0_0_1 : w1.cell? ⟨w.heap.size, 0, none⟩ = some (.int .i64 (ls)) := K0_1.out.cell 0
        have z0_1_1 : w1.cell? ⟨w.heap.size, 1, none⟩ = some (.int .i64 (ms)) := K0_1.out.cell 1
        have z0_2_1 : w1.cell? ⟨w.heap.size, 2, none⟩ = some (.int .i64 (lo)) := K0_1.out.cell 2
        have z0_3_1 : w1.cell? ⟨w.heap.size, 3, none⟩ = some (.int .i64 (hi)) := K0_1.out.cell 3
        have z0_4_1 : w1.cell? ⟨w.heap.size, 4, none⟩ = some (.int .i64 (sp)) := K0_1.out.cell 4
        have z0_5_1 : w1.cell? ⟨w.heap.size, 5, none⟩ = some (.slice A1 n1 c1) := K0_1.out.cell 5
        have z0_6_1 : w1.cell? ⟨w.heap.size, 6, none⟩ = some (.slice A2 n2 c2) := K0_1.out.cell 6
        go_wp2_with (first | (go_at_call 77; refine (withinpt_is _ _ _ _ (by assumption) _).mono ?_; rintro e w' ⟨rfl, rfl⟩))
        go_ret
        exact ⟨rfl, HB1.out⟩
    · rw [if_neg ho] at hE
      obtain ⟨o1, o2⟩ : ¬ ms < ls ∧ ¬ hi < lo := by omega
      obtain ⟨t1, ht1⟩ : ∃ t, tabErr l1 = t := ⟨_, rfl⟩
      obtain ⟨t2, ht2⟩ : ∃ t, tabErr l2 = t := ⟨_, rfl⟩
      rw [ht1, ht2] at hE
      have HT1 := Lib.hid ht1
      have HT2 := Lib.hid ht2
      have HE := Lib.hid hE
      clear hr ho ht1 ht2 hE
      go_enter Try.func92, Try.ntmps92
      have R0_0 := Lib.hid hx1
      clear hx1
      have R1_0 := Lib.hid hx2
      clear hx2
      go_wp2_with fail
      refine (smallpt_lit 25920000 [ls, ms] 2 _ _ _ (by assumption) _ (by first | rfl | simp) rfl (by omega) (by omega) (by omega)).mono ?_
      rintro e w1 ⟨rfl, hb⟩
      have HB1 := Lib.hid (show Below w.heap.size w w1 from step_below hb (by repeat' (first | exact Below.refl _ _ | exact HB0.out | refine below_drewN ?_ _ | refine Below.drew ?_ | refine Below.alloc ?_ (by first | omega | (simp; done) | (simp; omega) | (simp [World.setCell]; omega)) _ | refine Below.setCell ?_ (by first | omega | (simp; done) | (simp; omega)) _ | assumption)))
      have K0_1 := Lib.hid (step_blk hb (show Blk _ (w.heap.size) 58 #[.int .i64 (ls), .int .i64 (ms), .int .i64 (lo), .int .i64 (hi), .int .i64 (sp), .slice A1 n1 c1, .slice A2 n2 c2] by repeat' (first | exact Blk.at_ _ (by first | rfl | (simp; done) | (simp; omega)) _ _ | refine Blk.drewN ?_ _ | refine Blk.drew ?_ | refine Blk.alloc ?_ _ | refine Blk.far ?_ (by first | omega | (simp; done) | (simp; omega)) _ | assumption)))
      have hL1 := Lib.hid (show Below w.heap.size w _ from reads_mid hb (by repeat' (first | exact Below.refl _ _ | refine below_drewN ?_ _ | refine Below.drew ?_ | refine Below.alloc ?_ (by first | omega | (simp; done) | (simp; omega) | (simp [World.setCell]; omega)) _ | refine Below.setCell ?_ (by first | omega | (simp; done) | (simp; omega)) _)))
      have R0_1 := Lib.hid (reads_lay hb hL1.out R0_0.out)
      have R1_1 := Lib.hid (reads_lay hb hL1.out R1_0.out)
      clear hL1 R0_0 R1_0
      have hz1 := hb.size
      try simp only [World.size_alloc, World.drewN, World.drew] at hz1
      clear hb
      have l0_1 : w.heap.size < w1.heap.size := K0_1.out.lt
      have z0_0_1 : w1.cell? ⟨w.heap.size, 0, none⟩ = some (.int .i64 (ls)) := K0_1.out.cell 0
      have z0_1_1 : w1.cell? ⟨w.heap.size, 1, none⟩ = some (.int .i64 (ms)) := K0_1.out.cell 1
      have z0_2_1 : w1.cell? ⟨w.heap.size, 2, none⟩ = some (.int .i64 (lo)) := K0_1.out.cell 2
      have z0_3_1 : w1.cell? ⟨w.heap.size, 3, none⟩ = some (.int .i64 (hi)) := K0_1.out.cell 3
      have z0_4_1 : w1.cell? ⟨w.heap.size, 4, none⟩ = some (.int .i64 (sp)) := K0_1.out.cell 4
      have z0_5_1 : w1.cell? ⟨w.heap.size, 5, none⟩ = some (.slice A1 n1 c1) := K0_1.out.cell 5
      have z0_6_1 : w1.cell? ⟨w.heap.size, 6, none⟩ = some (.slice A2 n2 c2) := K0_1.out.cell 6
      go_wp2_with (first | (go_at_call 77; refine (withinpt_is _ _ _ _ (by assumption) _).mono ?_; rintro e w' ⟨rfl, rfl⟩))
      refine Fx.regionG (fun W g f w' => Below W.heap.size W w' ∧ ∀ x, g = some x → Reads w' w'.heap.size 1 (some ⟨x, 0, none⟩) 2 (([t1, t2] : List Int).map (.int .i64))) (fun x : Nat => .slice (some ⟨x, 0, none⟩) 2 2) 6 (by kernel_rfl) (by kernel_rfl) (by kernel_rfl) ?_ ?_
      · intro f hf0
        exact ⟨below_drewN (Below.refl _ _) 1, fun x h => by cases h⟩
      repeat (first
        | (refine Fx.skipE_ (by rfl) (fun g f w h => h) ?_; simp only [Act.put, List.setIfInBounds_toArray, List.set_cons_zero, List.set_cons_succ])
        | (refine Fx.valE_ ?_ (by rfl) ?_ (fun g f w h => h) ?_
           rotate_left
           · intro g f w' hD hk
             obtain ⟨hb, hg⟩ := id hD
             have kb0 := step_blk hb (show Blk _ (w.heap.size) 58 #[.int .i64 (ls), .int .i64 (ms), .int .i64 (lo), .int .i64 (hi), .int .i64 (sp), .slice A1 n1 c1, .slice A2 n2 c2] by repeat' (first | exact K0_1.out | exact Blk.at_ _ (by first | rfl | (simp; done) | (simp; omega)) _ _ | refine Blk.drewN ?_ _ | refine Blk.drew ?_ | refine Blk.alloc ?_ _ | refine Blk.far ?_ (by first | omega | (simp; done) | (simp; omega)) _ | assumption))
             have y0_0 : w'.cell? ⟨w.heap.size, 0, none⟩ = some (.int .i64 (ls)) := kb0.cell 0
             have y0_1 : w'.cell? ⟨w.heap.size, 1, none⟩ = some (.int .i64 (ms)) := kb0.cell 1
             have y0_2 : w'.cell? ⟨w.heap.size, 2, none⟩ = some (.int .i64 (lo)) := kb0.cell 2
             have y0_3 : w'.cell? ⟨w.heap.size, 3, none⟩ = some (.int .i64 (hi)) := kb0.cell 3
             have y0_4 : w'.cell? ⟨w.heap.size, 4, none⟩ = some (.int .i64 (sp)) := kb0.cell 4
             have y0_5 : w'.cell? ⟨w.heap.size, 5, none⟩ = some (.slice A1 n1 c1) := kb0.cell 5
             have y0_6 : w'.cell? ⟨w.heap.size, 6, none⟩ = some (.slice A2 n2 c2) := kb0.cell 6
             clear kb0
             clear hk hD hb hg
             go_simp
             try rfl
           simp only [Act.put, List.setIfInBounds_toArray, List.set_cons_zero, List.set_cons_succ]))
      refine Fx.callvE_ (.int .i64 t1) ?_ ?_ (by rfl) ?_ ?_ ?_
      rotate_left 2
      · intro w'
        go_simp
        refine ⟨?_, ?_⟩ <;> rfl
      · intro g f w' hD hk
        exact (pchecktab_is A1 n1 c1 _ l1 t1 HT1.out _ ((R0_1.out.below hD.1).more hD.1.size) (Nat.le_refl _) hb1).mono fun e w'' ⟨he, hw⟩ => ⟨he, step_below hw hD.1, fun y hy => ((hD.2 y hy).below hw).more hw.size⟩
      simp only [Act.put, List.setIfInBounds_toArray, List.set_cons_zero, List.set_cons_succ]
      repeat (first
        | (refine Fx.skipE_ (by rfl) (fun g f w h => h) ?_; simp only [Act.put, List.setIfInBounds_toArray, List.set_cons_zero, List.set_cons_succ])
        | (refine Fx.valE_ ?_ (by rfl) ?_ (fun g f w h => h) ?_
           rotate_left
           · intro g f w' hD hk
             obtain ⟨hb, hg⟩ := id hD
             have kb0 := step_blk hb (show Blk _ (w.heap.size) 58 #[.int .i64 (ls), .int .i64 (ms), .int .i64 (lo), .int .i64 (hi), .int .i64 (sp), .slice A1 n1 c1, .slice A2 n2 c2] by repeat' (first | exact K0_1.out | exact Blk.at_ _ (by first | rfl | (simp; done) | (simp; omega)) _ _ | refine Blk.drewN ?_ _ | refine Blk.drew ?_ | refine Blk.alloc ?_ _ | refine Blk.far ?_ (by first | omega | (simp; done) | (simp; omega)) _ | assumption))
             have y0_0 : w'.cell? ⟨w.heap.size, 0, none⟩ = some (.int .i64 (ls)) := kb0.cell 0
             have y0_1 : w'.cell? ⟨w.heap.size, 1, none⟩ = some (.int .i64 (ms)) := kb0.cell 1
             have y0_2 : w'.cell? ⟨w.heap.size, 2, none⟩ = some (.int .i64 (lo)) := kb0.cell 2
             have y0_3 : w'.cell? ⟨w.heap.size, 3, none⟩ = some (.int .i64 (hi)) := kb0.cell 3
             have y0_4 : w'.cell? ⟨w.heap.size, 4, none⟩ = some (.int .i64 (sp)) := kb0.cell 4
             have y0_5 : w'.cell? ⟨w.heap.size, 5, none⟩ = some (.slice A1 n1 c1) := kb0.cell 5
             have y0_6 : w'.cell? ⟨w.heap.size, 6, none⟩ = some (.slice A2 n2 c2) := kb0.cell 6
             clear kb0
             clear hk hD hb hg
             go_simp
             try rfl
           simp only [Act.put, List.setIfInBounds_toArray, List.set_cons_zero, List.set_cons_succ]))
      refine Fx.callvE_ (.int .i64 t2) ?_ ?_ (by rfl) ?_ ?_ ?_
      rotate_left 2
      · intro w'
        go_simp
        refine ⟨?_, ?_⟩ <;> rfl
      · intro g f w' hD hk
        exact (pchecktab_is A2 n2 c2 _ l2 t2 HT2.out _ ((R1_1.out.below hD.1).more hD.1.size) (Nat.le_refl _) hb2).mono fun e w'' ⟨he, hw⟩ => ⟨he, step_below hw hD.1, fun y hy => ((hD.2 y hy).below hw).more hw.size⟩
      simp only [Act.put, List.setIfInBounds_toArray, List.set_cons_zero, List.set_cons_succ]
      repeat (first
        | (refine Fx.skipE_ (by rfl) (fun g f w h => h) ?_; simp only [Act.put, List.setIfInBounds_toArray, List.set_cons_zero, List.set_cons_succ])
        | (refine Fx.valE_ ?_ (by rfl) ?_ (fun g f w h => h) ?_
           rotate_left
           · intro g f w' hD hk
             obtain ⟨hb, hg⟩ := id hD
             have kb0 := step_blk hb (show Blk _ (w.heap.size) 58 #[.int .i64 (ls), .int .i64 (ms), .int .i64 (lo), .int .i64 (hi), .int .i64 (sp), .slice A1 n1 c1, .slice A2 n2 c2] by repeat' (first | exact K0_1.out | exact Blk.at_ _ (by first | rfl | (simp; done) | (simp; omega)) _ _ | refine Blk.drewN ?_ _ | refine Blk.drew ?_ | refine Blk.alloc ?_ _ | refine Blk.far ?_ (by first | omega | (simp; done) | (simp; omega)) _ | assumption))
             have y0_0 : w'.cell? ⟨w.heap.size, 0, none⟩ = some (.int .i64 (ls)) := kb0.cell 0
             have y0_1 : w'.cell? ⟨w.heap.size, 1, none⟩ = some (.int .i64 (ms)) := kb0.cell 1
             have y0_2 : w'.cell? ⟨w.heap.size, 2, none⟩ = some (.int .i64 (lo)) := kb0.cell 2
             have y0_3 : w'.cell? ⟨w.heap.size, 3, none⟩ = some (.int .i64 (hi)) := kb0.cell 3
             have y0_4 : w'.cell? ⟨w.heap.size, 4, none⟩ = some (.int .i64 (sp)) := kb0.cell 4
             have y0_5 : w'.cell? ⟨w.heap.size, 5, none⟩ = some (.slice A1 n1 c1) := kb0.cell 5
             have y0_6 : w'.cell? ⟨w.heap.size, 6, none⟩ = some (.slice A2 n2 c2) := kb0.cell 6
             clear kb0
             clear hk hD hb hg
             go_simp
             try rfl
           simp only [Act.put, List.setIfInBounds_toArray, List.set_cons_zero, List.set_cons_succ]))
      refine Fx.makeE_ (by rfl) (by rfl) ?_ ?_
      · intro f w' hD hk
        refine ⟨w'.heap.size, w'.alloc (.cells #[.int .i64 (t1), .int .i64 (t2)] 27), ?_, ?_⟩
        · clear hD hk
          go_simp
          try rfl
        · exact ⟨hD.1.alloc hD.1.size _, fun y hy => by cases hy; exact Blk.reads (Blk.new _ _ _) rfl⟩
      intro x
      simp only [Act.put, List.setIfInBounds_toArray, List.set_cons_zero, List.set_cons_succ]
      repeat (first
        | (refine Fx.skip_ (by rfl) (fun f w h => h) ?_; simp only [Act.put, List.setIfInBounds_toArray, List.set_cons_zero, List.set_cons_succ])
        | (refine Fx.val_ ?_ (by rfl) ?_ (fun f w h => h) ?_
           rotate_left
           · intro f w' hD hk
             obtain ⟨hb, hg⟩ := id hD
             have kb0 := step_blk hb (show Blk _ (w.heap.size) 58 #[.int .i64 (ls), .int .i64 (ms), .int .i64 (lo), .int .i64 (hi), .int .i64 (sp), .slice A1 n1 c1, .slice A2 n2 c2] by repeat' (first | exact K0_1.out | exact Blk.at_ _ (by first | rfl | (simp; done) | (simp; omega)) _ _ | refine Blk.drewN ?_ _ | refine Blk.drew ?_ | refine Blk.alloc ?_ _ | refine Blk.far ?_ (by first | omega | (simp; done) | (simp; omega)) _ | assumption))
             have y0_0 : w'.cell? ⟨w.heap.size, 0, none⟩ = some (.int .i64 (ls)) := kb0.cell 0
             have y0_1 : w'.cell? ⟨w.heap.size, 1, none⟩ = some (.int .i64 (ms)) := kb0.cell 1
             have y0_2 : w'.cell? ⟨w.heap.size, 2, none⟩ = some (.int .i64 (lo)) := kb0.cell 2
             have y0_3 : w'.cell? ⟨w.heap.size, 3, none⟩ = some (.int .i64 (hi)) := kb0.cell 3
             have y0_4 : w'.cell? ⟨w.heap.size, 4, none⟩ = some (.int .i64 (sp)) := kb0.cell 4
             have y0_5 : w'.cell? ⟨w.heap.size, 5, none⟩ = some (.slice A1 n1 c1) := kb0.cell 5
             have y0_6 : w'.cell? ⟨w.heap.size, 6, none⟩ = some (.slice A2 n2 c2) := kb0.cell 6
             clear kb0
             clear hk hD hb hg
             go_simp
             try rfl
           simp only [Act.put, List.setIfInBounds_toArray, List.set_cons_zero, List.set_cons_succ]))
      refine Fx.call_ (.int .i64 (E)) ?_ ?_ (by rfl) ?_ ?_ ?_
      rotate_left 2
      · intro w'
        go_simp
        refine ⟨?_, ?_⟩ <;> rfl
      · intro f w' hD hk
        exact (orerr_is (some ⟨x, 0, none⟩) 2 2 _ [t1, t2] E HE.out _ (hD.2 x rfl) (Nat.le_refl _) (by omega)).mono fun e w'' ⟨he, hw⟩ => ⟨he, hw ▸ hD⟩
      simp only [Act.put, List.setIfInBounds_toArray, List.set_cons_zero, List.set_cons_succ]
      repeat (first
        | (refine Fx.skip_ (by rfl) (fun f w h => h) ?_; simp only [Act.put, List.setIfInBounds_toArray, List.set_cons_zero, List.set_cons_succ])
        | (refine Fx.val_ ?_ (by rfl) ?_ (fun f w h => h) ?_
           rotate_left
           · intro f w' hD hk
             obtain ⟨hb, hg⟩ := id hD
             have kb0 := step_blk hb (show Blk _ (w.heap.size) 58 #[.int .i64 (ls), .int .i64 (ms), .int .i64 (lo), .int .i64 (hi), .int .i64 (sp), .slice A1 n1 c1, .slice A2 n2 c2] by repeat' (first | exact K0_1.out | exact Blk.at_ _ (by first | rfl | (simp; done) | (simp; omega)) _ _ | refine Blk.drewN ?_ _ | refine Blk.drew ?_ | refine Blk.alloc ?_ _ | refine Blk.far ?_ (by first | omega | (simp; done) | (simp; omega)) _ | assumption))
             have y0_0 : w'.cell? ⟨w.heap.size, 0, none⟩ = some (.int .i64 (ls)) := kb0.cell 0
             have y0_1 : w'.cell? ⟨w.heap.size, 1, none⟩ = some (.int .i64 (ms)) := kb0.cell 1
             have y0_2 : w'.cell? ⟨w.heap.size, 2, none⟩ = some (.int .i64 (lo)) := kb0.cell 2
             have y0_3 : w'.cell? ⟨w.heap.size, 3, none⟩ = some (.int .i64 (hi)) := kb0.cell 3
             have y0_4 : w'.cell? ⟨w.heap.size, 4, none⟩ = some (.int .i64 (sp)) := kb0.cell 4
             have y0_5 : w'.cell? ⟨w.heap.size, 5, none⟩ = some (.slice A1 n1 c1) := kb0.cell 5
             have y0_6 : w'.cell? ⟨w.heap.size, 6, none⟩ = some (.slice A2 n2 c2) := kb0.cell 6
             clear kb0
             clear hk hD hb hg
             go_simp
             try rfl
           simp only [Act.put, List.setIfInBounds_toArray, List.set_cons_zero, List.set_cons_succ]))
      refine Fx.nil_ ?_
      intro f w2 hall hD
      have hb := hD.1
      clear hall hD
      have HB2 := Lib.hid (show Below w.heap.size w w2 from step_below hb (by repeat' (first | exact Below.refl _ _ | exact HB1.out | refine below_drewN ?_ _ | refine Below.drew ?_ | refine Below.alloc ?_ (by first | omega | (simp; done) | (simp; omega) | (simp [World.setCell]; omega)) _ | refine Below.setCell ?_ (by first | omega | (simp; done) | (simp; omega)) _ | assumption)))
      have K0_2 := Lib.hid (step_blk hb (show Blk _ (w.heap.size) 58 #[.int .i64 (ls), .int .i64 (ms), .int .i64 (lo), .int .i64 (hi), .int .i64 (sp), .slice A1 n1 c1, .slice A2 n2 c2] by repeat' (first | exact K0_1.out | exact Blk.at_ _ (by first | rfl | (simp; done) | (simp; omega)) _ _ | refine Blk.drewN ?_ _ | refine Blk.drew ?_ | refine Blk.alloc ?_ _ | refine Blk.far ?_ (by first | omega | (simp; done) | (simp; omega)) _ | assumption)))
      have hL2 := Lib.hid (show Below w1.heap.size w1 _ from reads_mid hb (by repeat' (first | exact Below.refl _ _ | refine below_drewN ?_ _ | refine Below.drew ?_ | refine Below.alloc ?_ (by first | omega | (simp; done) | (simp; omega) | (simp [World.setCell]; omega)) _ | refine Below.setCell ?_ (by first | omega | (simp; done) | (simp; omega)) _)))
      have R0_2 := Lib.hid (reads_lay hb hL2.out R0_1.out)
      have R1_2 := Lib.hid (reads_lay hb hL2.out R1_1.out)
      clear hL2 R0_1 R1_1
      have hz2 := hb.size
      try simp only [World.size_alloc, World.drewN, World.drew] at hz2
      clear hb K0_1 z0_0_1 z0_1_1 z0_2_1 z0_3_1 z0_4_1 z0_5_1 z0_6_1 l0_1
      have l0_2 : w.heap.size < w2.heap.size := K0_2.out.lt
      have z0_0_2 : w2.cell? ⟨w.heap.size, 0, none⟩ = some (.int .i64 (ls)) := K0_2.out.cell 0
      have z0_1_2 : w2.cell? ⟨w.heap.size, 1, none⟩ = some (.int .i64 (ms)) := K0_2.out.cell 1
      have z0_2_2 : w2.cell? ⟨w.heap.size, 2, none⟩ = some (.int .i64 (lo)) := K0_2.out.cell 2
      have z0_3_2 : w2.cell? ⟨w.heap.size, 3, none⟩ = some (.int .i64 (hi)) := K0_2.out.cell 3
      have z0_4_2 : w2.cell? ⟨w.heap.size, 4, none⟩ = some (.int .i64 (sp)) := K0_2.out.cell 4
      have z0_5_2 : w2.cell? ⟨w.heap.size, 5, none⟩ = some (.slice A1 n1 c1) := K0_2.out.cell 5
      have z0_6_2 : w2.cell? ⟨w.heap.size, 6, none⟩ = some (.slice A2 n2 c2) := K0_2.out.cell 6
      go_wp2
      go_ret
      exact ⟨rfl, HB2.out⟩

end Go.Proofs.Ytdidcpealabaiaa

end

section
/- Contracts of the checks of targets and days, and of the reference's checks of mountings and targets. -/
namespace Go.Proofs.Ytdidcpealabaiaa
open Go Go.RowKit

theorem isnamept_is (s : ByteArray) (t : Bool) (h : nameB s = t) (w : World) (hs : s.size ≤ maxLen) :
    Calls Try.prog 148 #[.string s] w fun e w' => e = .returned (.bool t) ∧ w = w' := h ▸ isnamept_any s w hs

/-- A target. -/
structure Tgt where
  name : ByteArray
  az : Int
  ht : Int
  fr : Int
  to : Int
  dw : Int
def Tgt.val (t : Tgt) : Value := .agg #[.string t.name, .int .i64 t.az, .int .i64 t.ht, .int .i64 t.fr, .int .i64 t.to, .int .i64 t.dw]
def Tgt.rng (t : Tgt) : Bool := withinB t.az 0 1295999 && withinB t.ht 0 324000 && withinB t.fr 0 10000000 && withinB t.to 0 10000000 && withinB t.dw 1 10000
/-- The error of a target. -/
def tgtErr (t : Tgt) : Int := if nameB t.name = false then 4 else if t.rng = false then 2 else if t.to ≤ t.fr then 9 else 0

set_option maxRecDepth 100000 in
set_option maxHeartbeats 2000000 in
theorem ptarget_is (t : Tgt) (E : Int) (hE : tgtErr t = E) (w : World) (hs : t.name.size ≤ maxLen) :
    Calls Try.prog 93 #[t.val] w fun e w' => e = .returned (.int .i64 E) ∧ Below w.heap.size w w' := by
  obtain ⟨nm, az, ht, fr, to, dw⟩ := t
  simp only at hs
  unfold Tgt.val
  dsimp only
  unfold tgtErr at hE
  simp only at hE
  cases hnm : nameB nm with
  | false =>
    rw [if_pos hnm] at hE
    subst hE
    go_enter Try.func93, Try.ntmps93
    go_wp2_with fail
    refine (isnamept_is _ _ (by assumption) _ hs).mono ?_
    rintro e w' ⟨rfl, rfl⟩
    go_wp2
    go_ret
    exact ⟨rfl, (Below.refl _ _).alloc (Nat.le_refl _) _⟩
  | true =>
  rw [if_neg (by rw [hnm]; simp)] at hE
  cases hr : Tgt.rng ⟨nm, az, ht, fr, to, dw⟩ with
  | false =>
    rw [if_pos hr] at hE
    subst hE
    unfold Tgt.rng at hr
    simp only at hr
    rcases chain5 hr with h1 | ⟨h1, h2⟩ | ⟨h1, h2, h3⟩ | ⟨h1, h2, h3, h4⟩ | ⟨h1, h2, h3, h4, h5⟩
    all_goals
      clear hr
      go_enter Try.func93, Try.ntmps93
      go_wp2_with fail
      refine (isnamept_is _ _ (by assumption) _ hs).mono ?_
      rintro e w' ⟨rfl, rfl⟩
      go_wp2_with (first | (go_at_call 77; refine (withinpt_is _ _ _ _ (by assumption) _).mono ?_; rintro e w' ⟨rfl, rfl⟩))
      go_ret
      exact ⟨rfl, (Below.refl _ _).alloc (Nat.le_refl _) _⟩
  | true =>
    rw [if_neg (by rw [hr]; simp)] at hE
    unfold Tgt.rng at hr
    simp only at hr
    obtain ⟨h1, h2, h3, h4, h5⟩ := chain5t hr
    clear hr
    by_cases ho : to ≤ fr
    all_goals
      first | rw [if_pos ho] at hE | rw [if_neg ho] at hE
      subst hE
      go_enter Try.func93, Try.ntmps93
      go_wp2_with fail
      refine (isnamept_is _ _ (by assumption) _ hs).mono ?_
      rintro e w' ⟨rfl, rfl⟩
      go_wp2_with (first | (go_at_call 77; refine (withinpt_is _ _ _ _ (by assumption) _).mono ?_; rintro e w' ⟨rfl, rfl⟩))
      go_ret
      exact ⟨rfl, (Below.refl _ _).alloc (Nat.le_refl _) _⟩

def dayErr (n : Int) : Int := if withinB n 0 100000 then 0 else 2
theorem checkday_is (n : Int) (E : Int) (h : dayErr n = E) (w : World) : Calls Try.prog 94 #[.int .i64 n] w fun e w' => e = .returned (.int .i64 E) ∧ w = w' := by
  unfold dayErr at h
  cases hw : withinB n 0 100000 with
  | false =>
    rw [hw, if_neg (by simp)] at h
    subst h
    have H := Lib.hid hw
    clear hw
    go_enter Try.func94, Try.ntmps94
    go_wp2_with fail
    refine (withinpt_is _ _ _ _ H.out _).mono ?_
    rintro e w' ⟨rfl, rfl⟩
    go_wp2
    go_ret
    exact ⟨rfl, rfl⟩
  | true =>
    rw [hw, if_pos rfl] at h
    subst h
    have H := Lib.hid hw
    clear hw
    go_enter Try.func94, Try.ntmps94
    go_wp2_with fail
    refine (withinpt_is _ _ _ _ H.out _).mono ?_
    rintro e w' ⟨rfl, rfl⟩
    go_wp2
    go_ret
    exact ⟨rfl, rfl⟩

theorem small_two (a b : Int) : smallL 25920000 [a, b] = (withinB a (-25920000) 25920000 && withinB b (-25920000) 25920000) := by unfold smallL; simp

end Go.Proofs.Ytdidcpealabaiaa

end
