import Derived.Test.YtnepjgnnppfibaaQ21
import Derived.Test.YtnepjgnnppfibaaQ9

section
/- The walk of the statement on the lowest surfaces. -/
namespace Go.Proofs.Ytnepjgnnppfibaa
open Go Go.RowKit

theorem ints_same6 (A B : Option Addr) (ca cb n : Nat) (xs : List Int) (w : World) (N M : Nat) (hx : Reads w N 1 A n (xs.map (.int .i64))) (hy : Reads w M 1 B n (xs.map (.int .i64))) (h1 : n ≤ 9223372036854775807) :
    Calls Try.prog 47 #[.slice A n ca, .slice B n cb] w fun e w' => e = .returned (.bool true) ∧ Below w.heap.size w w' :=
  (ints_eqd A B ca cb n n xs xs true (by simp) w N M hx hy h1 h1).mono fun e w' ⟨he, q, hw⟩ => ⟨he, by rw [hw]; exact below_drewN (Below.refl _ _) q⟩

theorem surf_known (n : Nat) (l : List (Int × Int)) (p s R : Int) (h : (judgeErr l p s = R ∧ R ≠ 0) ∨ (judgeErr l p s = 0 ∧ R = 12 ∧ ∃ i k, firstP n (refB l p s) = some (i, k))) (A : Option Addr) (c : Nat) (w : World) (hx : Reads w w.heap.size 2 A n (cells2 l)) :
    Calls Try.prog 32 #[.slice A n c, .agg #[.int .i64 p, .int .i64 s]] w fun e w' => e = .returned (.tuple #[.slice none 0 0, .int .i64 R]) ∧ Below w.heap.size w w' := by
  rcases h with ⟨hE, h0⟩ | ⟨hE, rfl, i, k, ho⟩
  · exact surface_bad A n c l p s R hE h0 w hx
  · refine surface_no A n c l p s hE i k ?_ w hx
    unfold judgeF
    rw [hx.len2, ho]

/-- What the drawn region chooses: the copy of the enclosure, the surface. -/
def PfS6 (l : List (Int × Int)) (xs : List Int) (n : Nat) (i : Nat) (x : Pick2) (w : World) : Prop := (i = 1 → Reads w w.heap.size 2 x.1.1 n (cells2 l)) ∧ (i = 3 → Reads w w.heap.size 1 x.1.1 n (xs.map (.int .i64)))
theorem PfS6.stb {l : List (Int × Int)} {xs : List Int} {n : Nat} : Stb (PfS6 l xs n) := fun _ _ _ _ hb h => ⟨fun e => ((h.1 e).below hb).more hb.size, fun e => ((h.2 e).below hb).more hb.size⟩

set_option maxRecDepth 100000 in
set_option maxHeartbeats 4000000 in
theorem lawFS_any (A : Option Addr) (n c : Nat) (l : List (Int × Int)) (p s : Int) (w : World) (hnc : n ≤ c ∧ c ≤ 9223372036854775807) (_ : l.length = n) (_ : ∀ q ∈ l, I64 q.1 ∧ I64 q.2) (hx : Reads w w.heap.size 2 A n (cells2 l)) (_ : -9223372036854775808 ≤ p) (_ : p ≤ 9223372036854775807) (_ : -9223372036854775808 ≤ s) (_ : s ≤ 9223372036854775807) :
    Calls Try.prog 8 #[.slice A n c, .agg #[.int .i64 p, .int .i64 s]] w fun e w' => e = .returned (.bool true) ∧ Below w.heap.size w w' := by
  by_cases hn45 : n ≤ 45
  rotate_left
  · have hd : 45 < n := by omega
    have hd2 : decide ((45 : Int) < (n : Int)) = true := by simp; omega
    clear hx
    go_enter Try.func8, Try.ntmps8
    go_wp2_with fail
    generalize hwn : (w.alloc (.cells #[.int .i64 (p), .int .i64 (s)] 38)) = w1
    have hbn : Below w.heap.size w w1 := by rw [← hwn]; repeat' (first | exact Below.refl _ _ | refine below_drewN ?_ _ | refine Below.drew ?_ | refine Below.alloc ?_ (by first | omega | (simp; done) | (simp; omega) | (simp [World.setCell]; omega)) _ | refine Below.setCell ?_ (by first | omega | (simp; done) | (simp; omega)) _)
    have HB1 := Lib.hid (show Below w.heap.size w w1 from hbn)
    have K0_1 := Lib.hid (show Blk w1 (w.heap.size) 38 #[.int .i64 (p), .int .i64 (s)] by rw [← hwn]; repeat' (first | exact Blk.at_ _ (by first | rfl | (simp; done) | (simp; omega)) _ _ | refine Blk.drewN ?_ _ | refine Blk.drew ?_ | refine Blk.alloc ?_ _ | refine Blk.far ?_ (by first | omega | (simp; done) | (simp; omega)) _ | assumption))
    have HN1 := Lib.hid hbn
    have hz1 := hbn.size
    clear hwn hbn
    have l0_1 : w.heap.size < w1.heap.size := K0_1.out.lt
    have z0_0_1 : w1.cell? ⟨w.heap.size, 0, none⟩ = some (.int .i64 (p)) := K0_1.out.cell 0
    have z0_1_1 : w1.cell? ⟨w.heap.size, 1, none⟩ = some (.int .i64 (s)) := K0_1.out.cell 1
    refine (awake6_any _).mono ?_
    rintro e w2 ⟨rfl, hb⟩
    have HB2 := Lib.hid (show Below w.heap.size w w2 from step_below hb (by repeat' (first | exact Below.refl _ _ | exact HB1.out | refine below_drewN ?_ _ | refine Below.drew ?_ | refine Below.alloc ?_ (by first | omega | (simp; done) | (simp; omega) | (simp [World.setCell]; omega)) _ | refine Below.setCell ?_ (by first | omega | (simp; done) | (simp; omega)) _ | assumption)))
    have K0_2 := Lib.hid (step_blk hb (show Blk _ (w.heap.size) 38 #[.int .i64 (p), .int .i64 (s)] by repeat' (first | exact K0_1.out | exact Blk.at_ _ (by first | rfl | (simp; done) | (simp; omega)) _ _ | refine Blk.drewN ?_ _ | refine Blk.drew ?_ | refine Blk.alloc ?_ _ | refine Blk.far ?_ (by first | omega | (simp; done) | (simp; omega)) _ | assumption)))
    have hz2 := hb.size
    try simp only [World.size_alloc, World.drewN, World.drew] at hz2
    clear hb K0_1 z0_0_1 z0_1_1 l0_1
    have l0_2 : w.heap.size < w2.heap.size := K0_2.out.lt
    have z0_0_2 : w2.cell? ⟨w.heap.size, 0, none⟩ = some (.int .i64 (p)) := K0_2.out.cell 0
    have z0_1_2 : w2.cell? ⟨w.heap.size, 1, none⟩ = some (.int .i64 (s)) := K0_2.out.cell 1
    go_wp2
    go_ret
    exact ⟨rfl, by repeat' (first | exact Below.refl _ _ | exact HB2.out | refine below_drewN ?_ _ | refine Below.drew ?_ | refine Below.alloc ?_ (by first | omega | (simp; done) | (simp; omega) | (simp [World.setCell]; omega)) _ | refine Below.setCell ?_ (by first | omega | (simp; done) | (simp; omega)) _ | assumption)⟩
  have hd : ¬ 45 < n := by omega
  have hd2 : decide ((45 : Int) < (n : Int)) = false := by simp; omega
  obtain ⟨E, hE⟩ : ∃ E, judgeErr l p s = E := ⟨_, rfl⟩
  have HE := Lib.hid hE
  have HX := Lib.hid hx
  have hl := hx.len2
  by_cases hkn : ∃ R, (judgeErr l p s = R ∧ R ≠ 0) ∨ (judgeErr l p s = 0 ∧ R = 12 ∧ ∃ i k, firstP n (refB l p s) = some (i, k))
  · obtain ⟨R, hR⟩ := hkn
    have HR := Lib.hid hR
    clear hE hR hl hx
    go_enter Try.func8, Try.ntmps8
    go_wp2_with fail
    generalize hwn : (w.alloc (.cells #[.int .i64 (p), .int .i64 (s)] 38)) = w1
    have hbn : Below w.heap.size w w1 := by rw [← hwn]; repeat' (first | exact Below.refl _ _ | refine below_drewN ?_ _ | refine Below.drew ?_ | refine Below.alloc ?_ (by first | omega | (simp; done) | (simp; omega) | (simp [World.setCell]; omega)) _ | refine Below.setCell ?_ (by first | omega | (simp; done) | (simp; omega)) _)
    have HB1 := Lib.hid (show Below w.heap.size w w1 from hbn)
    have K0_1 := Lib.hid (show Blk w1 (w.heap.size) 38 #[.int .i64 (p), .int .i64 (s)] by rw [← hwn]; repeat' (first | exact Blk.at_ _ (by first | rfl | (simp; done) | (simp; omega)) _ _ | refine Blk.drewN ?_ _ | refine Blk.drew ?_ | refine Blk.alloc ?_ _ | refine Blk.far ?_ (by first | omega | (simp; done) | (simp; omega)) _ | assumption))
    have HN1 := Lib.hid hbn
    have hz1 := hbn.size
    clear hwn hbn
    have l0_1 : w.heap.size < w1.heap.size := K0_1.out.lt
    have z0_0_1 : w1.cell? ⟨w.heap.size, 0, none⟩ = some (.int .i64 (p)) := K0_1.out.cell 0
    have z0_1_1 : w1.cell? ⟨w.heap.size, 1, none⟩ = some (.int .i64 (s)) := K0_1.out.cell 1
    refine (awake6_any _).mono ?_
    rintro e w2 ⟨rfl, hb⟩
    have HB2 := Lib.hid (show Below w.heap.size w w2 from step_below hb (by repeat' (first | exact Below.refl _ _ | exact HB1.out | refine below_drewN ?_ _ | refine Below.drew ?_ | refine Below.alloc ?_ (by first | omega | (simp; done) | (simp; omega) | (simp [World.setCell]; omega)) _ | refine Below.setCell ?_ (by first | omega | (simp; done) | (simp; omega)) _ | assumption)))
    have K0_2 := Lib.hid (step_blk hb (show Blk _ (w.heap.size) 38 #[.int .i64 (p), .int .i64 (s)] by repeat' (first | exact K0_1.out | exact Blk.at_ _ (by first | rfl | (simp; done) | (simp; omega)) _ _ | refine Blk.drewN ?_ _ | refine Blk.drew ?_ | refine Blk.alloc ?_ _ | refine Blk.far ?_ (by first | omega | (simp; done) | (simp; omega)) _ | assumption)))
    have hz2 := hb.size
    try simp only [World.size_alloc, World.drewN, World.drew] at hz2
    clear hb K0_1 z0_0_1 z0_1_1 l0_1
    have l0_2 : w.heap.size < w2.heap.size := K0_2.out.lt
    have z0_0_2 : w2.cell? ⟨w.heap.size, 0, none⟩ = some (.int .i64 (p)) := K0_2.out.cell 0
    have z0_1_2 : w2.cell? ⟨w.heap.size, 1, none⟩ = some (.int .i64 (s)) := K0_2.out.cell 1
    go_wp2
    have hx := (HX.out.below HB2.out).more HB2.out.size
    have R0_2 := Lib.hid hx
    clear hx
    refine Fx.regionM (fun W g f w' => Kp (PfR l n 1) W g w') (fun i (x : Pick2) => .slice x.1.1 n x.1.2) (by kernel_rfl) ?_ ?_
    · intro f hf0
      exact Kp.start
    first
    | (refine Fx.WM.skip 0 (by rfl) (by kernel_rfl) (by kernel_rfl) (by kernel_rfl) (by rfl) (fun g f w h => h) ?_; simp only [Act.put, List.setIfInBounds_toArray, List.set_cons_zero, List.set_cons_succ])
    | (refine Fx.WM.val_ 0 ?_ (by rfl) (by kernel_rfl) (by kernel_rfl) (by kernel_rfl) (by rfl) ?_ (fun g f w h => h) ?_
       rotate_left
       · intro g f w' hx hD hk
         obtain hkp := id hD
         clear hx hk hD hkp
         go_simp
         try rfl
       simp only [Act.put, List.setIfInBounds_toArray, List.set_cons_zero, List.set_cons_succ])
    first
    | (refine Fx.WM.skip 2 (by rfl) (by kernel_rfl) (by kernel_rfl) (by kernel_rfl) (by rfl) (fun g f w h => h) ?_; simp only [Act.put, List.setIfInBounds_toArray, List.set_cons_zero, List.set_cons_succ])
    | (refine Fx.WM.val_ 2 ?_ (by rfl) (by kernel_rfl) (by kernel_rfl) (by kernel_rfl) (by rfl) ?_ (fun g f w h => h) ?_
       rotate_left
       · intro g f w' hx hD hk
         obtain hkp := id hD
         have y0_0 := (K0_2.out.below hkp.bel l0_2).cell 0
         have y0_1 := (K0_2.out.below hkp.bel l0_2).cell 1
         clear hx hk hD hkp
         go_simp
         try rfl
       simp only [Act.put, List.setIfInBounds_toArray, List.set_cons_zero, List.set_cons_succ])
    refine Fx.WM.choose 1 (by rfl) (by kernel_rfl) (by rfl) ?_ ?_
    · skip
      refine Fx.Chooses.call ?_ ?_ (by rfl) ?_ ?_
      rotate_left 2
      · intro w'
        go_simp
        refine ⟨?_, ?_⟩ <;> rfl
      · intro f w' hD hk
        exact (cranges_any A n c l w' ((R0_2.out.below hD.bel).more hD.bel.size) (by omega)).mono fun e w'' ⟨A', c', he, hb, hr⟩ => ⟨((A', c'), (none, 0)), he, hD.choose PfR.stb hb 1 _ (fun _ => hr)⟩
    intro x
    simp only [Act.put, List.setIfInBounds_toArray, List.set_cons_zero, List.set_cons_succ]
    refine Fx.WM.call 3 (.tuple #[.slice none 0 0, .int .i64 R]) ?_ ?_ (by rfl) (by kernel_rfl) (by kernel_rfl) (by kernel_rfl) (by rfl) ?_ ?_ ?_
    rotate_left 2
    · intro w'
      go_simp
      refine ⟨?_, ?_⟩ <;> rfl
    · intro g f w' hx hD hk
      exact (surf_known n l p s R HR.out _ _ w' ((hD.has 1 x (hx 1 _ (by rfl))) rfl)).mono fun e w'' ⟨he, hw⟩ => ⟨he, hD.call PfR.stb hw⟩
    simp only [Act.put, List.setIfInBounds_toArray, List.set_cons_zero, List.set_cons_succ]
    first
    | (refine Fx.WM.skip 4 (by rfl) (by kernel_rfl) (by kernel_rfl) (by kernel_rfl) (by rfl) (fun g f w h => h) ?_; simp only [Act.put, List.setIfInBounds_toArray, List.set_cons_zero, List.set_cons_succ])
    | (refine Fx.WM.val_ 4 ?_ (by rfl) (by kernel_rfl) (by kernel_rfl) (by kernel_rfl) (by rfl) ?_ (fun g f w h => h) ?_
       rotate_left
       · intro g f w' hx hD hk
         obtain hkp := id hD
         clear hx hk hD hkp
         go_simp
         try rfl
       simp only [Act.put, List.setIfInBounds_toArray, List.set_cons_zero, List.set_cons_succ])
    first
    | (refine Fx.WM.skip 5 (by rfl) (by kernel_rfl) (by kernel_rfl) (by kernel_rfl) (by rfl) (fun g f w h => h) ?_; simp only [Act.put, List.setIfInBounds_toArray, List.set_cons_zero, List.set_cons_succ])
    | (refine Fx.WM.val_ 5 ?_ (by rfl) (by kernel_rfl) (by kernel_rfl) (by kernel_rfl) (by rfl) ?_ (fun g f w h => h) ?_
       rotate_left
       · intro g f w' hx hD hk
         obtain hkp := id hD
         clear hx hk hD hkp
         go_simp
         try rfl
       simp only [Act.put, List.setIfInBounds_toArray, List.set_cons_zero, List.set_cons_succ])
    first
    | (refine Fx.WM.skip 6 (by rfl) (by kernel_rfl) (by kernel_rfl) (by kernel_rfl) (by rfl) (fun g f w h => h) ?_; simp only [Act.put, List.setIfInBounds_toArray, List.set_cons_zero, List.set_cons_succ])
    | (refine Fx.WM.val_ 6 ?_ (by rfl) (by kernel_rfl) (by kernel_rfl) (by kernel_rfl) (by rfl) ?_ (fun g f w h => h) ?_
       rotate_left
       · intro g f w' hx hD hk
         obtain hkp := id hD
         clear hx hk hD hkp
         go_simp
         try rfl
       simp only [Act.put, List.setIfInBounds_toArray, List.set_cons_zero, List.set_cons_succ])
    first
    | (refine Fx.WM.skip 7 (by rfl) (by kernel_rfl) (by kernel_rfl) (by kernel_rfl) (by rfl) (fun g f w h => h) ?_; simp only [Act.put, List.setIfInBounds_toArray, List.set_cons_zero, List.set_cons_succ])
    | (refine Fx.WM.val_ 7 ?_ (by rfl) (by kernel_rfl) (by kernel_rfl) (by kernel_rfl) (by rfl) ?_ (fun g f w h => h) ?_
       rotate_left
       · intro g f w' hx hD hk
         obtain hkp := id hD
         clear hx hk hD hkp
         go_simp
         try rfl
       simp only [Act.put, List.setIfInBounds_toArray, List.set_cons_zero, List.set_cons_succ])
    first
    | (refine Fx.WM.skip 8 (by rfl) (by kernel_rfl) (by kernel_rfl) (by kernel_rfl) (by rfl) (fun g f w h => h) ?_; simp only [Act.put, List.setIfInBounds_toArray, List.set_cons_zero, List.set_cons_succ])
    | (refine Fx.WM.val_ 8 ?_ (by rfl) (by kernel_rfl) (by kernel_rfl) (by kernel_rfl) (by rfl) ?_ (fun g f w h => h) ?_
       rotate_left
       · intro g f w' hx hD hk
         obtain hkp := id hD
         clear hx hk hD hkp
         go_simp
         try rfl
       simp only [Act.put, List.setIfInBounds_toArray, List.set_cons_zero, List.set_cons_succ])
    refine Fx.WM.nil (by kernel_rfl) ?_
    intro wz hkp
    have hb := hkp.bel
    clear hkp
    obtain ⟨w3, hnm⟩ : ∃ z : World, z = wz := ⟨_, rfl⟩
    subst hnm
    have HB3 := Lib.hid (show Below w.heap.size w w3 from step_below hb (by repeat' (first | exact Below.refl _ _ | exact HB2.out | refine below_drewN ?_ _ | refine Below.drew ?_ | refine Below.alloc ?_ (by first | omega | (simp; done) | (simp; omega) | (simp [World.setCell]; omega)) _ | refine Below.setCell ?_ (by first | omega | (simp; done) | (simp; omega)) _ | assumption)))
    have K0_3 := Lib.hid (step_blk hb (show Blk _ (w.heap.size) 38 #[.int .i64 (p), .int .i64 (s)] by repeat' (first | exact K0_2.out | exact Blk.at_ _ (by first | rfl | (simp; done) | (simp; omega)) _ _ | refine Blk.drewN ?_ _ | refine Blk.drew ?_ | refine Blk.alloc ?_ _ | refine Blk.far ?_ (by first | omega | (simp; done) | (simp; omega)) _ | assumption)))
    have hL3 := Lib.hid (show Below w2.heap.size w2 _ from reads_mid hb (by repeat' (first | exact Below.refl _ _ | refine below_drewN ?_ _ | refine Below.drew ?_ | refine Below.alloc ?_ (by first | omega | (simp; done) | (simp; omega) | (simp [World.setCell]; omega)) _ | refine Below.setCell ?_ (by first | omega | (simp; done) | (simp; omega)) _)))
    have R0_3 := Lib.hid (reads_lay hb hL3.out R0_2.out)
    clear hL3 R0_2
    have hz3 := hb.size
    try simp only [World.size_alloc, World.drewN, World.drew] at hz3
    clear hb K0_2 z0_0_2 z0_1_2 l0_2
    have l0_3 : w.heap.size < w3.heap.size := K0_3.out.lt
    have z0_0_3 : w3.cell? ⟨w.heap.size, 0, none⟩ = some (.int .i64 (p)) := K0_3.out.cell 0
    have z0_1_3 : w3.cell? ⟨w.heap.size, 1, none⟩ = some (.int .i64 (s)) := K0_3.out.cell 1
    go_wp2_with fail
    refine (figjudgeerr_is A n c l p s E HE.out _ R0_3.out).mono ?_
    rintro e w4 ⟨rfl, hb⟩
    have HB4 := Lib.hid (show Below w.heap.size w w4 from step_below hb (by repeat' (first | exact Below.refl _ _ | exact HB3.out | refine below_drewN ?_ _ | refine Below.drew ?_ | refine Below.alloc ?_ (by first | omega | (simp; done) | (simp; omega) | (simp [World.setCell]; omega)) _ | refine Below.setCell ?_ (by first | omega | (simp; done) | (simp; omega)) _ | assumption)))
    have K0_4 := Lib.hid (step_blk hb (show Blk _ (w.heap.size) 38 #[.int .i64 (p), .int .i64 (s)] by repeat' (first | exact K0_3.out | exact Blk.at_ _ (by first | rfl | (simp; done) | (simp; omega)) _ _ | refine Blk.drewN ?_ _ | refine Blk.drew ?_ | refine Blk.alloc ?_ _ | refine Blk.far ?_ (by first | omega | (simp; done) | (simp; omega)) _ | assumption)))
    have hL4 := Lib.hid (show Below w3.heap.size w3 _ from reads_mid hb (by repeat' (first | exact Below.refl _ _ | refine below_drewN ?_ _ | refine Below.drew ?_ | refine Below.alloc ?_ (by first | omega | (simp; done) | (simp; omega) | (simp [World.setCell]; omega)) _ | refine Below.setCell ?_ (by first | omega | (simp; done) | (simp; omega)) _)))
    have R0_4 := Lib.hid (reads_lay hb hL4.out R0_3.out)
    clear hL4 R0_3
    have hz4 := hb.size
    try simp only [World.size_alloc, World.drewN, World.drew] at hz4
    clear hb K0_3 z0_0_3 z0_1_3 l0_3
    have l0_4 : w.heap.size < w4.heap.size := K0_4.out.lt
    have z0_0_4 : w4.cell? ⟨w.heap.size, 0, none⟩ = some (.int .i64 (p)) := K0_4.out.cell 0
    have z0_1_4 : w4.cell? ⟨w.heap.size, 1, none⟩ = some (.int .i64 (s)) := K0_4.out.cell 1
    by_cases h0 : E = 0
    rotate_left
    · obtain rfl : R = E := by
        rcases HR.out with ⟨h1, -⟩ | ⟨h1, -⟩
        · exact h1.symm.trans HE.out
        · exact absurd (HE.out.symm.trans h1) h0
      have e1 : (R != 0) = true := by simpa using h0
      have e3 : (R == R) = true := by simp
      clear h0
      go_wp2
      go_ret
      exact ⟨rfl, by repeat' (first | exact Below.refl _ _ | exact HB4.out | refine below_drewN ?_ _ | refine Below.drew ?_ | refine Below.alloc ?_ (by first | omega | (simp; done) | (simp; omega) | (simp [World.setCell]; omega)) _ | refine Below.setCell ?_ (by first | omega | (simp; done) | (simp; omega)) _ | assumption)⟩
    subst h0
    obtain ⟨rfl, i, k, ho⟩ : R = 12 ∧ ∃ i k, firstP n (refB l p s) = some (i, k) := by
      rcases HR.out with ⟨h1, h2⟩ | ⟨-, h1, h2⟩
      · exact absurd (h1.symm.trans HE.out) h2
      · exact ⟨h1, h2⟩
    have HO := Lib.hid ho
    clear ho
    go_wp2_with fail
    refine (rsurface_no A n c l p s HE.out i k HO.out _ R0_4.out).mono ?_
    rintro e w5 ⟨rfl, hb⟩
    have HB5 := Lib.hid (show Below w.heap.size w w5 from step_below hb (by repeat' (first | exact Below.refl _ _ | exact HB4.out | refine below_drewN ?_ _ | refine Below.drew ?_ | refine Below.alloc ?_ (by first | omega | (simp; done) | (simp; omega) | (simp [World.setCell]; omega)) _ | refine Below.setCell ?_ (by first | omega | (simp; done) | (simp; omega)) _ | assumption)))
    have K0_5 := Lib.hid (step_blk hb (show Blk _ (w.heap.size) 38 #[.int .i64 (p), .int .i64 (s)] by repeat' (first | exact K0_4.out | exact Blk.at_ _ (by first | rfl | (simp; done) | (simp; omega)) _ _ | refine Blk.drewN ?_ _ | refine Blk.drew ?_ | refine Blk.alloc ?_ _ | refine Blk.far ?_ (by first | omega | (simp; done) | (simp; omega)) _ | assumption)))
    have hL5 := Lib.hid (show Below w4.heap.size w4 _ from reads_mid hb (by repeat' (first | exact Below.refl _ _ | refine below_drewN ?_ _ | refine Below.drew ?_ | refine Below.alloc ?_ (by first | omega | (simp; done) | (simp; omega) | (simp [World.setCell]; omega)) _ | refine Below.setCell ?_ (by first | omega | (simp; done) | (simp; omega)) _)))
    have R0_5 := Lib.hid (reads_lay hb hL5.out R0_4.out)
    clear hL5 R0_4
    have hz5 := hb.size
    try simp only [World.size_alloc, World.drewN, World.drew] at hz5
    clear hb K0_4 z0_0_4 z0_1_4 l0_4
    have l0_5 : w.heap.size < w5.heap.size := K0_5.out.lt
    have z0_0_5 : w5.cell? ⟨w.heap.size, 0, none⟩ = some (.int .i64 (p)) := K0_5.out.cell 0
    have z0_1_5 : w5.cell? ⟨w.heap.size, 1, none⟩ = some (.int .i64 (s)) := K0_5.out.cell 1
    go_wp2
    go_ret
    exact ⟨rfl, by repeat' (first | exact Below.refl _ _ | exact HB5.out | refine below_drewN ?_ _ | refine Below.drew ?_ | refine Below.alloc ?_ (by first | omega | (simp; done) | (simp; omega) | (simp [World.setCell]; omega)) _ | refine Below.setCell ?_ (by first | omega | (simp; done) | (simp; omega)) _ | assumption)⟩
  have hE0 : judgeErr l p s = 0 := Decidable.not_not.1 fun h => hkn ⟨_, .inl ⟨rfl, h⟩⟩
  have hno : firstP n (refB l p s) = none := by
    cases h : firstP n (refB l p s) with
    | none => rfl
    | some x => exact absurd ⟨12, .inr ⟨hE0, rfl, x.1, x.2, h⟩⟩ hkn
  obtain ⟨v, i, k, hv, hv1⟩ : ∃ v i k, judgeF l p s = (v, (i, k)) ∧ v ≠ -1 := by
    obtain ⟨⟨v, i, k⟩, h⟩ : ∃ x, judgeF l p s = x := ⟨_, rfl⟩
    refine ⟨v, i, k, h, fun e => ?_⟩
    rcases judge_first h with ⟨h1, -⟩ | ⟨-, -, -, h1⟩
    · rw [hl, hno] at h1; cases h1
    · unfold ansV at h1
      split at h1 <;> omega
  obtain ⟨hE1, hE2⟩ := judgeErr_ok hE0
  obtain ⟨n1, n2, hr⟩ := encl_ok hE1
  obtain ⟨t1, t2, t3, t4⟩ := tol_ok hE2
  rw [hl] at n1 n2
  obtain ⟨hm1, hm2⟩ := surf_meets hl hE0
  have HE0 := Lib.hid hE0
  have HO := Lib.hid hno
  have HV := Lib.hid hv
  have HV1 := Lib.hid hv1
  have HRG := Lib.hid hr
  have HM1 := Lib.hid hm1
  have HM2 := Lib.hid (show firstP n (meetB (surfF l p s n) p s) = if false then some (0, 0) else none from hm2)
  have HL := Lib.hid hl
  have hE00 := hE0.symm.trans hE
  subst hE00
  obtain ⟨xs, hxs⟩ : ∃ xs, surfF l p s n = xs := ⟨_, rfl⟩
  have HXS := Lib.hid hxs
  clear hE hE0 hno hv hv1 hr hm1 hm2 hl hx hkn hE1 hE2 hxs
  go_enter Try.func8, Try.ntmps8
  go_wp2_with fail
  generalize hwn : (w.alloc (.cells #[.int .i64 (p), .int .i64 (s)] 38)) = w1
  have hbn : Below w.heap.size w w1 := by rw [← hwn]; repeat' (first | exact Below.refl _ _ | refine below_drewN ?_ _ | refine Below.drew ?_ | refine Below.alloc ?_ (by first | omega | (simp; done) | (simp; omega) | (simp [World.setCell]; omega)) _ | refine Below.setCell ?_ (by first | omega | (simp; done) | (simp; omega)) _)
  have HB1 := Lib.hid (show Below w.heap.size w w1 from hbn)
  have K0_1 := Lib.hid (show Blk w1 (w.heap.size) 38 #[.int .i64 (p), .int .i64 (s)] by rw [← hwn]; repeat' (first | exact Blk.at_ _ (by first | rfl | (simp; done) | (simp; omega)) _ _ | refine Blk.drewN ?_ _ | refine Blk.drew ?_ | refine Blk.alloc ?_ _ | refine Blk.far ?_ (by first | omega | (simp; done) | (simp; omega)) _ | assumption))
  have HN1 := Lib.hid hbn
  have hz1 := hbn.size
  clear hwn hbn
  have l0_1 : w.heap.size < w1.heap.size := K0_1.out.lt
  have z0_0_1 : w1.cell? ⟨w.heap.size, 0, none⟩ = some (.int .i64 (p)) := K0_1.out.cell 0
  have z0_1_1 : w1.cell? ⟨w.heap.size, 1, none⟩ = some (.int .i64 (s)) := K0_1.out.cell 1
  refine (awake6_any _).mono ?_
  rintro e w2 ⟨rfl, hb⟩
  have HB2 := Lib.hid (show Below w.heap.size w w2 from step_below hb (by repeat' (first | exact Below.refl _ _ | exact HB1.out | refine below_drewN ?_ _ | refine Below.drew ?_ | refine Below.alloc ?_ (by first | omega | (simp; done) | (simp; omega) | (simp [World.setCell]; omega)) _ | refine Below.setCell ?_ (by first | omega | (simp; done) | (simp; omega)) _ | assumption)))
  have K0_2 := Lib.hid (step_blk hb (show Blk _ (w.heap.size) 38 #[.int .i64 (p), .int .i64 (s)] by repeat' (first | exact K0_1.out | exact Blk.at_ _ (by first | rfl | (simp; done) | (simp; omega)) _ _ | refine Blk.drewN ?_ _ | refine Blk.drew ?_ | refine Blk.alloc ?_ _ | refine Blk.far ?_ (by first | omega | (simp; done) | (simp; omega)) _ | assumption)))
  have hz2 := hb.size
  try simp only [World.size_alloc, World.drewN, World.drew] at hz2
  clear hb K0_1 z0_0_1 z0_1_1 l0_1
  have l0_2 : w.heap.size < w2.heap.size := K0_2.out.lt
  have z0_0_2 : w2.cell? ⟨w.heap.size, 0, none⟩ = some (.int .i64 (p)) := K0_2.out.cell 0
  have z0_1_2 : w2.cell? ⟨w.heap.size, 1, none⟩ = some (.int .i64 (s)) := K0_2.out.cell 1
  go_wp2
  have hx := (HX.out.below HB2.out).more HB2.out.size
  have R0_2 := Lib.hid hx
  clear hx
  refine Fx.regionM (fun W g f w' => Kp (PfS6 l xs n) W g w') (fun i (x : Pick2) => if i = 1 then .slice x.1.1 n x.1.2 else .tuple #[.slice x.1.1 n x.1.2, .int .i64 0]) (by kernel_rfl) ?_ ?_
  · intro f hf0
    exact Kp.start
  first
  | (refine Fx.WM.skip 0 (by rfl) (by kernel_rfl) (by kernel_rfl) (by kernel_rfl) (by rfl) (fun g f w h => h) ?_; simp only [Act.put, List.setIfInBounds_toArray, List.set_cons_zero, List.set_cons_succ])
  | (refine Fx.WM.val_ 0 ?_ (by rfl) (by kernel_rfl) (by kernel_rfl) (by kernel_rfl) (by rfl) ?_ (fun g f w h => h) ?_
     rotate_left
     · intro g f w' hx hD hk
       obtain hkp := id hD
       clear hx hk hD hkp
       go_simp
       try rfl
     simp only [Act.put, List.setIfInBounds_toArray, List.set_cons_zero, List.set_cons_succ])
  first
  | (refine Fx.WM.skip 2 (by rfl) (by kernel_rfl) (by kernel_rfl) (by kernel_rfl) (by rfl) (fun g f w h => h) ?_; simp only [Act.put, List.setIfInBounds_toArray, List.set_cons_zero, List.set_cons_succ])
  | (refine Fx.WM.val_ 2 ?_ (by rfl) (by kernel_rfl) (by kernel_rfl) (by kernel_rfl) (by rfl) ?_ (fun g f w h => h) ?_
     rotate_left
     · intro g f w' hx hD hk
       obtain hkp := id hD
       have y0_0 := (K0_2.out.below hkp.bel l0_2).cell 0
       have y0_1 := (K0_2.out.below hkp.bel l0_2).cell 1
       clear hx hk hD hkp
       go_simp
       try rfl
     simp only [Act.put, List.setIfInBounds_toArray, List.set_cons_zero, List.set_cons_succ])
  refine Fx.WM.choose 1 (by rfl) (by kernel_rfl) (by rfl) ?_ ?_
  · skip
    refine Fx.Chooses.call ?_ ?_ (by rfl) ?_ ?_
    rotate_left 2
    · intro w'
      go_simp
      refine ⟨?_, ?_⟩ <;> rfl
    · intro f w' hD hk
      exact (cranges_any A n c l w' ((R0_2.out.below hD.bel).more hD.bel.size) (by omega)).mono fun e w'' ⟨A', c', he, hb, hr⟩ => ⟨((A', c'), (none, 0)), he, hD.choose PfS6.stb hb 1 _ ⟨fun _ => hr, fun e => absurd e (by decide)⟩⟩
  intro x
  simp only [Act.put, List.setIfInBounds_toArray, List.set_cons_zero, List.set_cons_succ]
  refine Fx.WM.choose 3 (by rfl) (by kernel_rfl) (by rfl) ?_ ?_
  · skip
    refine Fx.Chooses.call ?_ ?_ (by rfl) ?_ ?_
    rotate_left 2
    · intro w'
      go_simp
      refine ⟨?_, ?_⟩ <;> rfl
    · intro f w' hD hk
      exact (surface_ok x.1.1 n x.1.2 l p s HE0.out v i k HV.out HV1.out w' ((hD.has 1 x (by rfl)).1 rfl)).mono fun e w'' ⟨A', c', he, hb, hr⟩ => ⟨((A', c'), (none, 0)), he, hD.choose PfS6.stb hb 3 _ ⟨fun e => absurd e (by decide), fun _ => by rw [← HXS.out]; exact hr⟩⟩
  intro y
  simp only [Act.put, List.setIfInBounds_toArray, List.set_cons_zero, List.set_cons_succ]
  simp only [show ((3 : Nat) = 1) = False from by simp, if_false]
  first
  | (refine Fx.WM.skip 4 (by rfl) (by kernel_rfl) (by kernel_rfl) (by kernel_rfl) (by rfl) (fun g f w h => h) ?_; simp only [Act.put, List.setIfInBounds_toArray, List.set_cons_zero, List.set_cons_succ])
  | (refine Fx.WM.val_ 4 ?_ (by rfl) (by kernel_rfl) (by kernel_rfl) (by kernel_rfl) (by rfl) ?_ (fun g f w h => h) ?_
     rotate_left
     · intro g f w' hx hD hk
       obtain hkp := id hD
       clear hx hk hD hkp
       go_simp
       try rfl
     simp only [Act.put, List.setIfInBounds_toArray, List.set_cons_zero, List.set_cons_succ])
  first
  | (refine Fx.WM.skip 5 (by rfl) (by kernel_rfl) (by kernel_rfl) (by kernel_rfl) (by rfl) (fun g f w h => h) ?_; simp only [Act.put, List.setIfInBounds_toArray, List.set_cons_zero, List.set_cons_succ])
  | (refine Fx.WM.val_ 5 ?_ (by rfl) (by kernel_rfl) (by kernel_rfl) (by kernel_rfl) (by rfl) ?_ (fun g f w h => h) ?_
     rotate_left
     · intro g f w' hx hD hk
       obtain hkp := id hD
       clear hx hk hD hkp
       go_simp
       try rfl
     simp only [Act.put, List.setIfInBounds_toArray, List.set_cons_zero, List.set_cons_succ])
  first
  | (refine Fx.WM.skip 6 (by rfl) (by kernel_rfl) (by kernel_rfl) (by kernel_rfl) (by rfl) (fun g f w h => h) ?_; simp only [Act.put, List.setIfInBounds_toArray, List.set_cons_zero, List.set_cons_succ])
  | (refine Fx.WM.val_ 6 ?_ (by rfl) (by kernel_rfl) (by kernel_rfl) (by kernel_rfl) (by rfl) ?_ (fun g f w h => h) ?_
     rotate_left
     · intro g f w' hx hD hk
       obtain hkp := id hD
       clear hx hk hD hkp
       go_simp
       try rfl
     simp only [Act.put, List.setIfInBounds_toArray, List.set_cons_zero, List.set_cons_succ])
  first
  | (refine Fx.WM.skip 7 (by rfl) (by kernel_rfl) (by kernel_rfl) (by kernel_rfl) (by rfl) (fun g f w h => h) ?_; simp only [Act.put, List.setIfInBounds_toArray, List.set_cons_zero, List.set_cons_succ])
  | (refine Fx.WM.val_ 7 ?_ (by rfl) (by kernel_rfl) (by kernel_rfl) (by kernel_rfl) (by rfl) ?_ (fun g f w h => h) ?_
     rotate_left
     · intro g f w' hx hD hk
       obtain hkp := id hD
       clear hx hk hD hkp
       go_simp
       try rfl
     simp only [Act.put, List.setIfInBounds_toArray, List.set_cons_zero, List.set_cons_succ])
  first
  | (refine Fx.WM.skip 8 (by rfl) (by kernel_rfl) (by kernel_rfl) (by kernel_rfl) (by rfl) (fun g f w h => h) ?_; simp only [Act.put, List.setIfInBounds_toArray, List.set_cons_zero, List.set_cons_succ])
  | (refine Fx.WM.val_ 8 ?_ (by rfl) (by kernel_rfl) (by kernel_rfl) (by kernel_rfl) (by rfl) ?_ (fun g f w h => h) ?_
     rotate_left
     · intro g f w' hx hD hk
       obtain hkp := id hD
       clear hx hk hD hkp
       go_simp
       try rfl
     simp only [Act.put, List.setIfInBounds_toArray, List.set_cons_zero, List.set_cons_succ])
  refine Fx.WM.nil (by kernel_rfl) ?_
  intro wz hkp
  obtain ⟨A5, c5, hy5⟩ : ∃ A5 c5, y.1 = (A5, c5) := ⟨_, _, rfl⟩
  have hs : Reads wz wz.heap.size 1 y.1.1 n (xs.map (.int .i64)) := (hkp.has 3 y (by rfl)).2 rfl
  rw [hy5] at hs
  simp only [hy5]
  have hb := hkp.bel
  clear hkp
  obtain ⟨w3, hnm⟩ : ∃ z : World, z = wz := ⟨_, rfl⟩
  subst hnm
  have HB3 := Lib.hid (show Below w.heap.size w w3 from step_below hb (by repeat' (first | exact Below.refl _ _ | exact HB2.out | refine below_drewN ?_ _ | refine Below.drew ?_ | refine Below.alloc ?_ (by first | omega | (simp; done) | (simp; omega) | (simp [World.setCell]; omega)) _ | refine Below.setCell ?_ (by first | omega | (simp; done) | (simp; omega)) _ | assumption)))
  have K0_3 := Lib.hid (step_blk hb (show Blk _ (w.heap.size) 38 #[.int .i64 (p), .int .i64 (s)] by repeat' (first | exact K0_2.out | exact Blk.at_ _ (by first | rfl | (simp; done) | (simp; omega)) _ _ | refine Blk.drewN ?_ _ | refine Blk.drew ?_ | refine Blk.alloc ?_ _ | refine Blk.far ?_ (by first | omega | (simp; done) | (simp; omega)) _ | assumption)))
  have hL3 := Lib.hid (show Below w2.heap.size w2 _ from reads_mid hb (by repeat' (first | exact Below.refl _ _ | refine below_drewN ?_ _ | refine Below.drew ?_ | refine Below.alloc ?_ (by first | omega | (simp; done) | (simp; omega) | (simp [World.setCell]; omega)) _ | refine Below.setCell ?_ (by first | omega | (simp; done) | (simp; omega)) _)))
  have R0_3 := Lib.hid (reads_lay hb hL3.out R0_2.out)
  clear hL3 R0_2
  have hz3 := hb.size
  try simp only [World.size_alloc, World.drewN, World.drew] at hz3
  clear hb K0_2 z0_0_2 z0_1_2 l0_2
  have l0_3 : w.heap.size < w3.heap.size := K0_3.out.lt
  have z0_0_3 : w3.cell? ⟨w.heap.size, 0, none⟩ = some (.int .i64 (p)) := K0_3.out.cell 0
  have z0_1_3 : w3.cell? ⟨w.heap.size, 1, none⟩ = some (.int .i64 (s)) := K0_3.out.cell 1
  have R1_3 := Lib.hid hs
  clear hs
  go_wp2_with fail
  refine (figjudgeerr_is A n c l p s 0 HE.out _ R0_3.out).mono ?_
  rintro e w4 ⟨rfl, hb⟩
  have HB4 := Lib.hid (show Below w.heap.size w w4 from step_below hb (by repeat' (first | exact Below.refl _ _ | exact HB3.out | refine below_drewN ?_ _ | refine Below.drew ?_ | refine Below.alloc ?_ (by first | omega | (simp; done) | (simp; omega) | (simp [World.setCell]; omega)) _ | refine Below.setCell ?_ (by first | omega | (simp; done) | (simp; omega)) _ | assumption)))
  have K0_4 := Lib.hid (step_blk hb (show Blk _ (w.heap.size) 38 #[.int .i64 (p), .int .i64 (s)] by repeat' (first | exact K0_3.out | exact Blk.at_ _ (by first | rfl | (simp; done) | (simp; omega)) _ _ | refine Blk.drewN ?_ _ | refine Blk.drew ?_ | refine Blk.alloc ?_ _ | refine Blk.far ?_ (by first | omega | (simp; done) | (simp; omega)) _ | assumption)))
  have hL4 := Lib.hid (show Below w3.heap.size w3 _ from reads_mid hb (by repeat' (first | exact Below.refl _ _ | refine below_drewN ?_ _ | refine Below.drew ?_ | refine Below.alloc ?_ (by first | omega | (simp; done) | (simp; omega) | (simp [World.setCell]; omega)) _ | refine Below.setCell ?_ (by first | omega | (simp; done) | (simp; omega)) _)))
  have R0_4 := Lib.hid (reads_lay hb hL4.out R0_3.out)
  have R1_4 := Lib.hid (reads_lay hb hL4.out R1_3.out)
  clear hL4 R0_3 R1_3
  have hz4 := hb.size
  try simp only [World.size_alloc, World.drewN, World.drew] at hz4
  clear hb K0_3 z0_0_3 z0_1_3 l0_3
  have l0_4 : w.heap.size < w4.heap.size := K0_4.out.lt
  have z0_0_4 : w4.cell? ⟨w.heap.size, 0, none⟩ = some (.int .i64 (p)) := K0_4.out.cell 0
  have z0_1_4 : w4.cell? ⟨w.heap.size, 1, none⟩ = some (.int .i64 (s)) := K0_4.out.cell 1
  go_wp2_with fail
  refine (rsurface_ok A n c l p s HE0.out HO.out _ R0_4.out).mono ?_
  rintro e w5 ⟨A6, c6, rfl, hb, hr6⟩
  have HB5 := Lib.hid (show Below w.heap.size w w5 from step_below hb (by repeat' (first | exact Below.refl _ _ | exact HB4.out | refine below_drewN ?_ _ | refine Below.drew ?_ | refine Below.alloc ?_ (by first | omega | (simp; done) | (simp; omega) | (simp [World.setCell]; omega)) _ | refine Below.setCell ?_ (by first | omega | (simp; done) | (simp; omega)) _ | assumption)))
  have K0_5 := Lib.hid (step_blk hb (show Blk _ (w.heap.size) 38 #[.int .i64 (p), .int .i64 (s)] by repeat' (first | exact K0_4.out | exact Blk.at_ _ (by first | rfl | (simp; done) | (simp; omega)) _ _ | refine Blk.drewN ?_ _ | refine Blk.drew ?_ | refine Blk.alloc ?_ _ | refine Blk.far ?_ (by first | omega | (simp; done) | (simp; omega)) _ | assumption)))
  have hL5 := Lib.hid (show Below w4.heap.size w4 _ from reads_mid hb (by repeat' (first | exact Below.refl _ _ | refine below_drewN ?_ _ | refine Below.drew ?_ | refine Below.alloc ?_ (by first | omega | (simp; done) | (simp; omega) | (simp [World.setCell]; omega)) _ | refine Below.setCell ?_ (by first | omega | (simp; done) | (simp; omega)) _)))
  have R0_5 := Lib.hid (reads_lay hb hL5.out R0_4.out)
  have R1_5 := Lib.hid (reads_lay hb hL5.out R1_4.out)
  clear hL5 R0_4 R1_4
  have hz5 := hb.size
  try simp only [World.size_alloc, World.drewN, World.drew] at hz5
  clear hb K0_4 z0_0_4 z0_1_4 l0_4
  have l0_5 : w.heap.size < w5.heap.size := K0_5.out.lt
  have z0_0_5 : w5.cell? ⟨w.heap.size, 0, none⟩ = some (.int .i64 (p)) := K0_5.out.cell 0
  have z0_1_5 : w5.cell? ⟨w.heap.size, 1, none⟩ = some (.int .i64 (s)) := K0_5.out.cell 1
  rw [HXS.out] at hr6
  have R2_5 := Lib.hid hr6
  clear hr6
  go_wp2_with fail
  refine (ints_same6 A5 A6 c5 c6 n xs _ _ _ R1_5.out R2_5.out (by omega)).mono ?_
  rintro e w6 ⟨rfl, hb⟩
  have HB6 := Lib.hid (show Below w.heap.size w w6 from step_below hb (by repeat' (first | exact Below.refl _ _ | exact HB5.out | refine below_drewN ?_ _ | refine Below.drew ?_ | refine Below.alloc ?_ (by first | omega | (simp; done) | (simp; omega) | (simp [World.setCell]; omega)) _ | refine Below.setCell ?_ (by first | omega | (simp; done) | (simp; omega)) _ | assumption)))
  have K0_6 := Lib.hid (step_blk hb (show Blk _ (w.heap.size) 38 #[.int .i64 (p), .int .i64 (s)] by repeat' (first | exact K0_5.out | exact Blk.at_ _ (by first | rfl | (simp; done) | (simp; omega)) _ _ | refine Blk.drewN ?_ _ | refine Blk.drew ?_ | refine Blk.alloc ?_ _ | refine Blk.far ?_ (by first | omega | (simp; done) | (simp; omega)) _ | assumption)))
  have hL6 := Lib.hid (show Below w5.heap.size w5 _ from reads_mid hb (by repeat' (first | exact Below.refl _ _ | refine below_drewN ?_ _ | refine Below.drew ?_ | refine Below.alloc ?_ (by first | omega | (simp; done) | (simp; omega) | (simp [World.setCell]; omega)) _ | refine Below.setCell ?_ (by first | omega | (simp; done) | (simp; omega)) _)))
  have R0_6 := Lib.hid (reads_lay hb hL6.out R0_5.out)
  have R1_6 := Lib.hid (reads_lay hb hL6.out R1_5.out)
  have R2_6 := Lib.hid (reads_lay hb hL6.out R2_5.out)
  clear hL6 R0_5 R1_5 R2_5
  have hz6 := hb.size
  try simp only [World.size_alloc, World.drewN, World.drew] at hz6
  clear hb K0_5 z0_0_5 z0_1_5 l0_5
  have l0_6 : w.heap.size < w6.heap.size := K0_6.out.lt
  have z0_0_6 : w6.cell? ⟨w.heap.size, 0, none⟩ = some (.int .i64 (p)) := K0_6.out.cell 0
  have z0_1_6 : w6.cell? ⟨w.heap.size, 1, none⟩ = some (.int .i64 (s)) := K0_6.out.cell 1
  go_wp2
  have RS := R1_6
  have RL := R0_6
  have KT := K0_6
  clear R0_6 R1_6 R2_6
  go_loopw [10] (fun v wr => ∃ j : Nat, j ≤ n ∧ v = .int .i64 j ∧ Below w6.heap.size w6 wr) (fun v _ => n - (intOf v).toNat)
  case atStart => exact ⟨0, by omega, rfl, Below.refl _ _⟩
  case round =>
    obtain ⟨j, hj, rfl, hbj⟩ := hrel
    obtain ⟨w7, hnm⟩ : ∃ z : World, z = wr := ⟨_, rfl⟩
    subst hnm
    have HBJ := Lib.hid hbj
    have hk0 := Blk.below KT.out hbj KT.out.lt
    have hb' := HB6.out.trans (hbj.mono HB6.out.size)
    have hrd := RL.out.below hbj
    have hsd := RS.out.below hbj
    clear hbj
    have HB7 := Lib.hid hb'
    have K0_7 := Lib.hid (show Blk w7 (w.heap.size) 38 #[.int .i64 (p), .int .i64 (s)] from hk0)
    clear hb' hk0
    have l0_7 : w.heap.size < w7.heap.size := K0_7.out.lt
    have z0_0_7 : w7.cell? ⟨w.heap.size, 0, none⟩ = some (.int .i64 (p)) := K0_7.out.cell 0
    have z0_1_7 : w7.cell? ⟨w.heap.size, 1, none⟩ = some (.int .i64 (s)) := K0_7.out.cell 1
    by_cases hjt : j < n
    · skip
      obtain ⟨xb, xo, pq, rfl, hxb, hpq, c0, c1⟩ := hrd.pair hjt
      obtain ⟨yb, yo, z, rfl, hyb, hpz, cz⟩ := hsd.int_ hjt
      obtain ⟨pa, pv⟩ := pq
      simp only at c0 c1
      have hjj : (j : Int) < (n : Int) := by omega
      have hzz : z = lowF l p s j n := by
        have h1 := surf_getD (p := p) (s := s) HL.out hjt
        rw [HXS.out, getD_of hpz] at h1
        exact h1
      have hin := surf_hi HL.out HRG.out t1 HO.out hjt
      rw [getD_of hpq, ← hzz] at hin
      have HW := Lib.hid (within_mk hin.1 hin.2)
      have hz7 := HBJ.out.size
      have l7x : xb < w7.heap.size := by omega
      have l7y : yb < w7.heap.size := by omega
      clear hpq hpz hzz hin hrd hsd
      have C0_7 := Lib.hid c0
      have C1_7 := Lib.hid c1
      have C2_7 := Lib.hid cz
      clear c0 c1 cz
      go_wp2
      refine Fx.regionW (fun W f w' => Below W.heap.size W w') (by kernel_rfl) (by kernel_rfl) ?_ ?_
      · intro f hf0
        exact below_drewN (Below.refl _ _) 1
      repeat (first
        | (refine Fx.skip_ (by rfl) (fun f w h => h) ?_; simp only [Act.put, List.setIfInBounds_toArray, List.set_cons_zero, List.set_cons_succ])
        | (refine Fx.val_ ?_ (by rfl) ?_ (fun f w h => h) ?_
           rotate_left
           · intro f w' hD hk
             have hb := hD
             have kb0 := step_blk hb (show Blk _ (w.heap.size) 38 #[.int .i64 (p), .int .i64 (s)] by repeat' (first | exact K0_7.out | exact Blk.at_ _ (by first | rfl | (simp; done) | (simp; omega)) _ _ | refine Blk.drewN ?_ _ | refine Blk.drew ?_ | refine Blk.alloc ?_ _ | refine Blk.far ?_ (by first | omega | (simp; done) | (simp; omega)) _ | assumption))
             have y0_0 : w'.cell? ⟨w.heap.size, 0, none⟩ = some (.int .i64 (p)) := kb0.cell 0
             have y0_1 : w'.cell? ⟨w.heap.size, 1, none⟩ = some (.int .i64 (s)) := kb0.cell 1
             have yc0 : w'.cell? ⟨xb, xo + j * 2, none⟩ = some (.int .i64 (pa)) := step_cell hb (show World.cell? _ ⟨xb, xo + j * 2, none⟩ = some (.int .i64 (pa)) by first | exact C0_7.out | go_simp) (by have := l7x; first | omega | (simp; omega))
             have yc1 : w'.cell? ⟨xb, xo + j * 2 + 1, none⟩ = some (.int .i64 (pv)) := step_cell hb (show World.cell? _ ⟨xb, xo + j * 2 + 1, none⟩ = some (.int .i64 (pv)) by first | exact C1_7.out | go_simp) (by have := l7x; first | omega | (simp; omega))
             have yc2 : w'.cell? ⟨yb, yo + j, none⟩ = some (.int .i64 (z)) := step_cell hb (show World.cell? _ ⟨yb, yo + j, none⟩ = some (.int .i64 (z)) by first | exact C2_7.out | go_simp) (by have := l7y; first | omega | (simp; omega))
             clear kb0
             clear hk hD hb
             go_simp
             try rfl
           simp only [Act.put, List.setIfInBounds_toArray, List.set_cons_zero, List.set_cons_succ]))
      refine Fx.call_ (.bool true) ?_ ?_ (by rfl) ?_ ?_ ?_
      rotate_left 2
      · intro w'
        go_simp
        refine ⟨?_, ?_⟩ <;> rfl
      · intro f w' hD hk
        exact (withinref_is _ _ _ true HW.out w').mono fun e w'' ⟨he, hw⟩ => ⟨he, hw ▸ hD⟩
      simp only [Act.put, List.setIfInBounds_toArray, List.set_cons_zero, List.set_cons_succ]
      repeat (first
        | (refine Fx.skip_ (by rfl) (fun f w h => h) ?_; simp only [Act.put, List.setIfInBounds_toArray, List.set_cons_zero, List.set_cons_succ])
        | (refine Fx.val_ ?_ (by rfl) ?_ (fun f w h => h) ?_
           rotate_left
           · intro f w' hD hk
             have hb := hD
             have kb0 := step_blk hb (show Blk _ (w.heap.size) 38 #[.int .i64 (p), .int .i64 (s)] by repeat' (first | exact K0_7.out | exact Blk.at_ _ (by first | rfl | (simp; done) | (simp; omega)) _ _ | refine Blk.drewN ?_ _ | refine Blk.drew ?_ | refine Blk.alloc ?_ _ | refine Blk.far ?_ (by first | omega | (simp; done) | (simp; omega)) _ | assumption))
             have y0_0 : w'.cell? ⟨w.heap.size, 0, none⟩ = some (.int .i64 (p)) := kb0.cell 0
             have y0_1 : w'.cell? ⟨w.heap.size, 1, none⟩ = some (.int .i64 (s)) := kb0.cell 1
             have yc0 : w'.cell? ⟨xb, xo + j * 2, none⟩ = some (.int .i64 (pa)) := step_cell hb (show World.cell? _ ⟨xb, xo + j * 2, none⟩ = some (.int .i64 (pa)) by first | exact C0_7.out | go_simp) (by have := l7x; first | omega | (simp; omega))
             have yc1 : w'.cell? ⟨xb, xo + j * 2 + 1, none⟩ = some (.int .i64 (pv)) := step_cell hb (show World.cell? _ ⟨xb, xo + j * 2 + 1, none⟩ = some (.int .i64 (pv)) by first | exact C1_7.out | go_simp) (by have := l7x; first | omega | (simp; omega))
             have yc2 : w'.cell? ⟨yb, yo + j, none⟩ = some (.int .i64 (z)) := step_cell hb (show World.cell? _ ⟨yb, yo + j, none⟩ = some (.int .i64 (z)) by first | exact C2_7.out | go_simp) (by have := l7y; first | omega | (simp; omega))
             clear kb0
             clear hk hD hb
             go_simp
             try rfl
           simp only [Act.put, List.setIfInBounds_toArray, List.set_cons_zero, List.set_cons_succ]))
      refine Fx.nil_ ?_
      intro f w8 hall hb
      try clear hall
      have HB78 := Lib.hid hb
      have HB8 := Lib.hid (show Below w.heap.size w w8 from step_below hb (by repeat' (first | exact Below.refl _ _ | exact HB7.out | refine below_drewN ?_ _ | refine Below.drew ?_ | refine Below.alloc ?_ (by first | omega | (simp; done) | (simp; omega) | (simp [World.setCell]; omega)) _ | refine Below.setCell ?_ (by first | omega | (simp; done) | (simp; omega)) _ | assumption)))
      have K0_8 := Lib.hid (step_blk hb (show Blk _ (w.heap.size) 38 #[.int .i64 (p), .int .i64 (s)] by repeat' (first | exact K0_7.out | exact Blk.at_ _ (by first | rfl | (simp; done) | (simp; omega)) _ _ | refine Blk.drewN ?_ _ | refine Blk.drew ?_ | refine Blk.alloc ?_ _ | refine Blk.far ?_ (by first | omega | (simp; done) | (simp; omega)) _ | assumption)))
      have C0_8 := Lib.hid (step_cell hb (show World.cell? _ ⟨xb, xo + j * 2, none⟩ = some (.int .i64 (pa)) by first | exact C0_7.out | go_simp) (by have := l7x; first | omega | (simp; omega)))
      have C1_8 := Lib.hid (step_cell hb (show World.cell? _ ⟨xb, xo + j * 2 + 1, none⟩ = some (.int .i64 (pv)) by first | exact C1_7.out | go_simp) (by have := l7x; first | omega | (simp; omega)))
      have C2_8 := Lib.hid (step_cell hb (show World.cell? _ ⟨yb, yo + j, none⟩ = some (.int .i64 (z)) by first | exact C2_7.out | go_simp) (by have := l7y; first | omega | (simp; omega)))
      have hz8 := hb.size
      try simp only [World.size_alloc, World.drewN, World.drew] at hz8
      clear hb K0_7 z0_0_7 z0_1_7 l0_7
      have l0_8 : w.heap.size < w8.heap.size := K0_8.out.lt
      have z0_0_8 : w8.cell? ⟨w.heap.size, 0, none⟩ = some (.int .i64 (p)) := K0_8.out.cell 0
      have z0_1_8 : w8.cell? ⟨w.heap.size, 1, none⟩ = some (.int .i64 (s)) := K0_8.out.cell 1
      have HBZ := Lib.hid (HBJ.out.trans ((show Below w7.heap.size w7 w8 from HB78.out).mono HBJ.out.size))
      go_wp2
      go_roundw
      case rel => exact ⟨j + 1, by omega, by go_num, HBZ.out⟩
      case measure => simp [intOf]; omega
    · obtain rfl : j = n := by omega
      have hm1 := HM1.out
      have hm2 := HM2.out
      rw [HXS.out] at hm1 hm2
      have HM1' := Lib.hid hm1
      have HM2' := Lib.hid hm2
      have hsm := hsd.more HBJ.out.size
      have HSM := Lib.hid hsm
      clear hm1 hm2 hsm hsd hrd
      go_wp2_with fail
      refine (meets_ok A5 j c5 xs p s HM1'.out 0 0 false HM2'.out (fun _ => ⟨rfl, rfl⟩) _ HSM.out).mono ?_
      rintro e w8 ⟨rfl, hb⟩
      have HB8 := Lib.hid (show Below w.heap.size w w8 from step_below hb (by repeat' (first | exact Below.refl _ _ | exact HB7.out | refine below_drewN ?_ _ | refine Below.drew ?_ | refine Below.alloc ?_ (by first | omega | (simp; done) | (simp; omega) | (simp [World.setCell]; omega)) _ | refine Below.setCell ?_ (by first | omega | (simp; done) | (simp; omega)) _ | assumption)))
      have K0_8 := Lib.hid (step_blk hb (show Blk _ (w.heap.size) 38 #[.int .i64 (p), .int .i64 (s)] by repeat' (first | exact K0_7.out | exact Blk.at_ _ (by first | rfl | (simp; done) | (simp; omega)) _ _ | refine Blk.drewN ?_ _ | refine Blk.drew ?_ | refine Blk.alloc ?_ _ | refine Blk.far ?_ (by first | omega | (simp; done) | (simp; omega)) _ | assumption)))
      have hz8 := hb.size
      try simp only [World.size_alloc, World.drewN, World.drew] at hz8
      clear hb K0_7 z0_0_7 z0_1_7 l0_7
      have l0_8 : w.heap.size < w8.heap.size := K0_8.out.lt
      have z0_0_8 : w8.cell? ⟨w.heap.size, 0, none⟩ = some (.int .i64 (p)) := K0_8.out.cell 0
      have z0_1_8 : w8.cell? ⟨w.heap.size, 1, none⟩ = some (.int .i64 (s)) := K0_8.out.cell 1
      go_wp2
      go_ret
      exact ⟨rfl, by repeat' (first | exact Below.refl _ _ | exact HB8.out | refine below_drewN ?_ _ | refine Below.drew ?_ | refine Below.alloc ?_ (by first | omega | (simp; done) | (simp; omega) | (simp [World.setCell]; omega)) _ | refine Below.setCell ?_ (by first | omega | (simp; done) | (simp; omega)) _ | assumption)⟩
end Go.Proofs.Ytnepjgnnppfibaa

end
