/- The contracts of MeetAgain, of the program and of the reference, and of the reference's Returns. -/
import Derived.Test.YtmioamcgbihhjaaRatio
namespace Go.Proofs.Ytmioamcgbihhjaa
open Go.RowKit

def meetF (d v : Int) : Int := v / (Int.gcd d v : Int)
theorem trainErr_one (p : Int × Int) : trainErr [p] = if okP p then 0 else 2 := by
  unfold trainErr
  rw [if_neg (by simp)]
  simp

theorem gcdref_ret (a b : Int) (w : World) (h1 : 1 ≤ a) (h2 : a ≤ 9223372036854775807) (h3 : 1 ≤ b) (h4 : b ≤ 9223372036854775807) :
    Calls Try.prog 73 #[.int .i64 a, .int .i64 b] w fun e w' => e = .returned (.int .i64 (Int.gcd a b : Int)) ∧ ∃ n, w' = w.drewN n := by
  have hg := gcd_small a b (by omega) h4
  exact (gcdref_any a b w (by omega) h2 (by omega) h4).mono fun e w' ⟨he, hw⟩ => ⟨by rw [he]; exact ret_int hg, hw⟩

theorem meet_bound {d v : Int} (h1 : 1 ≤ d) (h2 : 1 ≤ v) : 1 ≤ (Int.gcd d v : Int) ∧ v.tdiv (Int.gcd d v : Int) = meetF d v ∧ 1 ≤ meetF d v ∧ meetF d v ≤ v := by
  have hp : 0 < Int.gcd d v := Int.gcd_pos_of_ne_zero_right d (by omega)
  have a2 : 0 < v / (Int.gcd d v : Int) := Int.ediv_pos_of_pos_of_dvd (by omega) (by omega) (Int.gcd_dvd_right d v)
  have b2 : v / (Int.gcd d v : Int) ≤ v := Int.ediv_le_self _ (by omega)
  exact ⟨by omega, tdiv_gcd_right d v, by unfold meetF; omega, by unfold meetF; omega⟩

set_option maxRecDepth 100000 in
theorem rmeet_any (d v : Int) (w : World) (h1 : 1 ≤ d) (h2 : d ≤ 500) (h3 : 1 ≤ v) (h4 : v ≤ 500) :
    Calls Try.prog 28 #[.agg #[.int .i64 d, .int .i64 v]] w fun e w' => e = .returned (.int .i64 (meetF d v)) ∧ Below w.heap.size w w' := by
  obtain ⟨g1, g2, g3, g4⟩ := meet_bound h1 h3
  have g0 : ¬ (Int.gcd d v : Int) = 0 := by omega
  have d0 : ¬ d = 0 := by omega
  have v0 : ¬ v = 0 := by omega
  have v1 := IntWalk.i64_in (meetF d v) ⟨by omega, by omega⟩
  go_enter Try.func28, Try.ntmps28
  go_wp2
  refine Fx.regionW (fun W f w' => Below W.heap.size W w') (by kernel_rfl) (by kernel_rfl) ?_ ?_
  · intro f hf0
    exact below_drewN (Below.refl _ _) 1
  repeat (first
    | (refine Fx.skip_ (by rfl) (fun f w h => h) ?_; simp only [Act.put, List.setIfInBounds_toArray, List.set_cons_zero, List.set_cons_succ])
    | (refine Fx.val_ ?_ (by rfl) ?_ (fun f w h => h) ?_
       rotate_left
       · intro f w' hD hk
         have hb := hD
         have y0_0 : w'.cell? ⟨w.heap.size, 0, none⟩ = some (.int .i64 (d)) := (step_blk hb (show Blk _ (w.heap.size) 45 #[.int .i64 (d), .int .i64 (v)] by repeat' (first | assumption | exact Blk.at_ _ (by first | rfl | (simp; done) | (simp; omega)) _ _ | refine Blk.drewN ?_ _ | refine Blk.drew ?_ | refine Blk.alloc ?_ _ | refine Blk.far ?_ (by first | omega | (simp; done) | (simp; omega)) _))).cell 0
         have y0_1 : w'.cell? ⟨w.heap.size, 1, none⟩ = some (.int .i64 (v)) := (step_blk hb (show Blk _ (w.heap.size) 45 #[.int .i64 (d), .int .i64 (v)] by repeat' (first | assumption | exact Blk.at_ _ (by first | rfl | (simp; done) | (simp; omega)) _ _ | refine Blk.drewN ?_ _ | refine Blk.drew ?_ | refine Blk.alloc ?_ _ | refine Blk.far ?_ (by first | omega | (simp; done) | (simp; omega)) _))).cell 1
         clear hk hD hb
         go_simp
         try rfl
       simp only [Act.put, List.setIfInBounds_toArray, List.set_cons_zero, List.set_cons_succ]))
  refine Fx.call_ (.int .i64 (Int.gcd d v : Int)) ?_ ?_ (by rfl) ?_ ?_ ?_
  rotate_left 2
  · intro w'
    go_simp
    refine ⟨?_, ?_⟩ <;> rfl
  · intro f w' hD hk
    exact (gcdref_ret d v _ h1 (by omega) h3 (by omega)).mono fun e w'' ⟨he, q, hw⟩ => ⟨he, by rw [hw]; exact below_drewN hD q⟩
  simp only [Act.put, List.setIfInBounds_toArray, List.set_cons_zero, List.set_cons_succ]
  repeat (first
    | (refine Fx.skip_ (by rfl) (fun f w h => h) ?_; simp only [Act.put, List.setIfInBounds_toArray, List.set_cons_zero, List.set_cons_succ])
    | (refine Fx.val_ ?_ (by rfl) ?_ (fun f w h => h) ?_
       rotate_left
       · intro f w' hD hk
         have hb := hD
         have y0_0 : w'.cell? ⟨w.heap.size, 0, none⟩ = some (.int .i64 (d)) := (step_blk hb (show Blk _ (w.heap.size) 45 #[.int .i64 (d), .int .i64 (v)] by repeat' (first | assumption | exact Blk.at_ _ (by first | rfl | (simp; done) | (simp; omega)) _ _ | refine Blk.drewN ?_ _ | refine Blk.drew ?_ | refine Blk.alloc ?_ _ | refine Blk.far ?_ (by first | omega | (simp; done) | (simp; omega)) _))).cell 0
         have y0_1 : w'.cell? ⟨w.heap.size, 1, none⟩ = some (.int .i64 (v)) := (step_blk hb (show Blk _ (w.heap.size) 45 #[.int .i64 (d), .int .i64 (v)] by repeat' (first | assumption | exact Blk.at_ _ (by first | rfl | (simp; done) | (simp; omega)) _ _ | refine Blk.drewN ?_ _ | refine Blk.drew ?_ | refine Blk.alloc ?_ _ | refine Blk.far ?_ (by first | omega | (simp; done) | (simp; omega)) _))).cell 1
         clear hk hD hb
         go_simp
         try rfl
       simp only [Act.put, List.setIfInBounds_toArray, List.set_cons_zero, List.set_cons_succ]))
  refine Fx.nil_ ?_
  intro f w1 hall hb
  try clear hall
  have HB1 := Lib.hid (show Below w.heap.size w w1 from step_below hb (by repeat' (first | exact Below.refl _ _ | exact HB0.out | assumption | refine below_drewN ?_ _ | refine Below.drew ?_ | refine Below.alloc ?_ (by first | omega | (simp; done) | (simp; omega) | (simp [World.setCell]; omega)) _ | refine Below.setCell ?_ (by first | omega | (simp; done) | (simp; omega)) _)))
  have K0_1 := Lib.hid (step_blk hb (show Blk _ (w.heap.size) 45 #[.int .i64 (d), .int .i64 (v)] by repeat' (first | assumption | exact Blk.at_ _ (by first | rfl | (simp; done) | (simp; omega)) _ _ | refine Blk.drewN ?_ _ | refine Blk.drew ?_ | refine Blk.alloc ?_ _ | refine Blk.far ?_ (by first | omega | (simp; done) | (simp; omega)) _)))
  have hz1 := hb.size
  try simp only [World.size_alloc, World.drewN, World.drew] at hz1
  clear hb
  have l0_1 : w.heap.size < w1.heap.size := K0_1.out.lt
  have z0_0_1 : w1.cell? ⟨w.heap.size, 0, none⟩ = some (.int .i64 (d)) := K0_1.out.cell 0
  have z0_1_1 : w1.cell? ⟨w.heap.size, 1, none⟩ = some (.int .i64 (v)) := K0_1.out.cell 1
  go_wp2
  go_ret
  exact ⟨rfl, by repeat' (first | exact Below.refl _ _ | exact HB1.out | assumption | refine below_drewN ?_ _ | refine Below.drew ?_ | refine Below.alloc ?_ (by first | omega | (simp; done) | (simp; omega) | (simp [World.setCell]; omega)) _ | refine Below.setCell ?_ (by first | omega | (simp; done) | (simp; omega)) _)⟩

set_option maxRecDepth 100000 in
theorem meet_ok (d v : Int) (w : World) (h : okP (d, v) = true) :
    Calls Try.prog 27 #[.agg #[.int .i64 d, .int .i64 v]] w fun e w' => e = .returned (.tuple #[.int .i64 (meetF d v), .int .i64 0]) ∧ Below w.heap.size w w' := by
  obtain ⟨h1, h2, h3, h4⟩ := okP_part h
  simp only at h1 h2 h3 h4
  obtain ⟨g1, g2, g3, g4⟩ := meet_bound h1 h3
  have g0 : ¬ (Int.gcd d v : Int) = 0 := by omega
  have d0 : ¬ d = 0 := by omega
  have v0 : ¬ v = 0 := by omega
  have v1 := IntWalk.i64_in (meetF d v) ⟨by omega, by omega⟩
  have hE : trainErr [(d, v)] = 0 := by rw [trainErr_one, h]; rfl
  have HE := Lib.hid hE
  clear hE h
  go_enter Try.func27, Try.ntmps27
  go_wp2_with fail
  refine (checktrain_is _ 1 1 _ [(d, v)] 0 HE.out _ (Blk.reads (g := w.heap.size + 1) (t := 45) (Blk.at_ _ (by simp) _ _) rfl) (Nat.le_refl _) (by omega)).mono ?_
  rintro e w1 ⟨rfl, hb⟩
  have HB1 := Lib.hid (show Below w.heap.size w w1 from step_below hb (by repeat' (first | exact Below.refl _ _ | exact HB0.out | assumption | refine below_drewN ?_ _ | refine Below.drew ?_ | refine Below.alloc ?_ (by first | omega | (simp; done) | (simp; omega) | (simp [World.setCell]; omega)) _ | refine Below.setCell ?_ (by first | omega | (simp; done) | (simp; omega)) _)))
  have K0_1 := Lib.hid (step_blk hb (show Blk _ (w.heap.size) 45 #[.int .i64 (d), .int .i64 (v)] by repeat' (first | assumption | exact Blk.at_ _ (by first | rfl | (simp; done) | (simp; omega)) _ _ | refine Blk.drewN ?_ _ | refine Blk.drew ?_ | refine Blk.alloc ?_ _ | refine Blk.far ?_ (by first | omega | (simp; done) | (simp; omega)) _)))
  have hz1 := hb.size
  try simp only [World.size_alloc, World.drewN, World.drew] at hz1
  clear hb
  have l0_1 : w.heap.size < w1.heap.size := K0_1.out.lt
  have z0_0_1 : w1.cell? ⟨w.heap.size, 0, none⟩ = some (.int .i64 (d)) := K0_1.out.cell 0
  have z0_1_1 : w1.cell? ⟨w.heap.size, 1, none⟩ = some (.int .i64 (v)) := K0_1.out.cell 1
  go_wp2
  refine Fx.regionW (fun W f w' => Below W.heap.size W w') (by kernel_rfl) (by kernel_rfl) ?_ ?_
  · intro f hf0
    exact below_drewN (Below.refl _ _) 1
  repeat (first
    | (refine Fx.skip_ (by rfl) (fun f w h => h) ?_; simp only [Act.put, List.setIfInBounds_toArray, List.set_cons_zero, List.set_cons_succ])
    | (refine Fx.val_ ?_ (by rfl) ?_ (fun f w h => h) ?_
       rotate_left
       · intro f w' hD hk
         have hb := hD
         have y0_0 : w'.cell? ⟨w.heap.size, 0, none⟩ = some (.int .i64 (d)) := (step_blk hb (show Blk _ (w.heap.size) 45 #[.int .i64 (d), .int .i64 (v)] by repeat' (first | assumption | exact K0_1.out | exact Blk.at_ _ (by first | rfl | (simp; done) | (simp; omega)) _ _ | refine Blk.drewN ?_ _ | refine Blk.drew ?_ | refine Blk.alloc ?_ _ | refine Blk.far ?_ (by first | omega | (simp; done) | (simp; omega)) _))).cell 0
         have y0_1 : w'.cell? ⟨w.heap.size, 1, none⟩ = some (.int .i64 (v)) := (step_blk hb (show Blk _ (w.heap.size) 45 #[.int .i64 (d), .int .i64 (v)] by repeat' (first | assumption | exact K0_1.out | exact Blk.at_ _ (by first | rfl | (simp; done) | (simp; omega)) _ _ | refine Blk.drewN ?_ _ | refine Blk.drew ?_ | refine Blk.alloc ?_ _ | refine Blk.far ?_ (by first | omega | (simp; done) | (simp; omega)) _))).cell 1
         clear hk hD hb
         go_simp
         try rfl
       simp only [Act.put, List.setIfInBounds_toArray, List.set_cons_zero, List.set_cons_succ]))
  refine Fx.call_ (.int .i64 (Int.gcd d v : Int)) ?_ ?_ (by rfl) ?_ ?_ ?_
  rotate_left 2
  · intro w'
    go_simp
    refine ⟨?_, ?_⟩ <;> rfl
  · intro f w' hD hk
    exact (gcd_ret d v _ h1 (by omega) h3 (by omega)).mono fun e w'' ⟨he, q, hw⟩ => ⟨he, by rw [hw]; exact below_drewN hD q⟩
  simp only [Act.put, List.setIfInBounds_toArray, List.set_cons_zero, List.set_cons_succ]
  repeat (first
    | (refine Fx.skip_ (by rfl) (fun f w h => h) ?_; simp only [Act.put, List.setIfInBounds_toArray, List.set_cons_zero, List.set_cons_succ])
    | (refine Fx.val_ ?_ (by rfl) ?_ (fun f w h => h) ?_
       rotate_left
       · intro f w' hD hk
         have hb := hD
         have y0_0 : w'.cell? ⟨w.heap.size, 0, none⟩ = some (.int .i64 (d)) := (step_blk hb (show Blk _ (w.heap.size) 45 #[.int .i64 (d), .int .i64 (v)] by repeat' (first | assumption | exact K0_1.out | exact Blk.at_ _ (by first | rfl | (simp; done) | (simp; omega)) _ _ | refine Blk.drewN ?_ _ | refine Blk.drew ?_ | refine Blk.alloc ?_ _ | refine Blk.far ?_ (by first | omega | (simp; done) | (simp; omega)) _))).cell 0
         have y0_1 : w'.cell? ⟨w.heap.size, 1, none⟩ = some (.int .i64 (v)) := (step_blk hb (show Blk _ (w.heap.size) 45 #[.int .i64 (d), .int .i64 (v)] by repeat' (first | assumption | exact K0_1.out | exact Blk.at_ _ (by first | rfl | (simp; done) | (simp; omega)) _ _ | refine Blk.drewN ?_ _ | refine Blk.drew ?_ | refine Blk.alloc ?_ _ | refine Blk.far ?_ (by first | omega | (simp; done) | (simp; omega)) _))).cell 1
         clear hk hD hb
         go_simp
         try rfl
       simp only [Act.put, List.setIfInBounds_toArray, List.set_cons_zero, List.set_cons_succ]))
  refine Fx.nil_ ?_
  intro f w2 hall hb
  try clear hall
  have HB2 := Lib.hid (show Below w.heap.size w w2 from step_below hb (by repeat' (first | exact Below.refl _ _ | exact HB1.out | assumption | refine below_drewN ?_ _ | refine Below.drew ?_ | refine Below.alloc ?_ (by first | omega | (simp; done) | (simp; omega) | (simp [World.setCell]; omega)) _ | refine Below.setCell ?_ (by first | omega | (simp; done) | (simp; omega)) _)))
  have K0_2 := Lib.hid (step_blk hb (show Blk _ (w.heap.size) 45 #[.int .i64 (d), .int .i64 (v)] by repeat' (first | assumption | exact K0_1.out | exact Blk.at_ _ (by first | rfl | (simp; done) | (simp; omega)) _ _ | refine Blk.drewN ?_ _ | refine Blk.drew ?_ | refine Blk.alloc ?_ _ | refine Blk.far ?_ (by first | omega | (simp; done) | (simp; omega)) _)))
  have hz2 := hb.size
  try simp only [World.size_alloc, World.drewN, World.drew] at hz2
  clear hb K0_1 z0_0_1 z0_1_1 l0_1
  have l0_2 : w.heap.size < w2.heap.size := K0_2.out.lt
  have z0_0_2 : w2.cell? ⟨w.heap.size, 0, none⟩ = some (.int .i64 (d)) := K0_2.out.cell 0
  have z0_1_2 : w2.cell? ⟨w.heap.size, 1, none⟩ = some (.int .i64 (v)) := K0_2.out.cell 1
  go_wp2
  go_ret2
  exact ⟨rfl, by repeat' (first | exact Below.refl _ _ | exact HB2.out | assumption | refine below_drewN ?_ _ | refine Below.drew ?_ | refine Below.alloc ?_ (by first | omega | (simp; done) | (simp; omega) | (simp [World.setCell]; omega)) _ | refine Below.setCell ?_ (by first | omega | (simp; done) | (simp; omega)) _)⟩

set_option maxRecDepth 100000 in
theorem meet_no (d v : Int) (w : World) (h : okP (d, v) = false) :
    Calls Try.prog 27 #[.agg #[.int .i64 d, .int .i64 v]] w fun e w' => e = .returned (.tuple #[.int .i64 0, .int .i64 2]) ∧ Below w.heap.size w w' := by
  have hE : trainErr [(d, v)] = 2 := by rw [trainErr_one, h]; rfl
  have HE := Lib.hid hE
  clear hE h
  go_enter Try.func27, Try.ntmps27
  go_wp2_with fail
  refine (checktrain_is _ 1 1 _ [(d, v)] 2 HE.out _ (Blk.reads (g := w.heap.size + 1) (t := 45) (Blk.at_ _ (by simp) _ _) rfl) (Nat.le_refl _) (by omega)).mono ?_
  rintro e w1 ⟨rfl, hb⟩
  have HB1 := Lib.hid (show Below w.heap.size w w1 from step_below hb (by repeat' (first | exact Below.refl _ _ | exact HB0.out | assumption | refine below_drewN ?_ _ | refine Below.drew ?_ | refine Below.alloc ?_ (by first | omega | (simp; done) | (simp; omega) | (simp [World.setCell]; omega)) _ | refine Below.setCell ?_ (by first | omega | (simp; done) | (simp; omega)) _)))
  have K0_1 := Lib.hid (step_blk hb (show Blk _ (w.heap.size) 45 #[.int .i64 (d), .int .i64 (v)] by repeat' (first | assumption | exact Blk.at_ _ (by first | rfl | (simp; done) | (simp; omega)) _ _ | refine Blk.drewN ?_ _ | refine Blk.drew ?_ | refine Blk.alloc ?_ _ | refine Blk.far ?_ (by first | omega | (simp; done) | (simp; omega)) _)))
  have hz1 := hb.size
  try simp only [World.size_alloc, World.drewN, World.drew] at hz1
  clear hb
  have l0_1 : w.heap.size < w1.heap.size := K0_1.out.lt
  have z0_0_1 : w1.cell? ⟨w.heap.size, 0, none⟩ = some (.int .i64 (d)) := K0_1.out.cell 0
  have z0_1_1 : w1.cell? ⟨w.heap.size, 1, none⟩ = some (.int .i64 (v)) := K0_1.out.cell 1
  go_wp2
  go_ret2
  exact ⟨rfl, by repeat' (first | exact Below.refl _ _ | exact HB1.out | assumption | refine below_drewN ?_ _ | refine Below.drew ?_ | refine Below.alloc ?_ (by first | omega | (simp; done) | (simp; omega) | (simp [World.setCell]; omega)) _ | refine Below.setCell ?_ (by first | omega | (simp; done) | (simp; omega)) _)⟩

/-- The turns by the reference. -/
def retF : Int → List (Int × Int) → Int × Int
  | n, [] => (n, 0)
  | n, f :: l => if 1000000000 < n / (Int.gcd n f.2 : Int) * f.2 then (0, 8) else retF (n / (Int.gcd n f.2 : Int) * f.2) l
theorem fold_large : ∀ (L : List (Int × Int)) (t : Int), (L.foldl stepR (t, true)) = (t, true)
  | [], _ => rfl
  | f :: L, t => by
    simp only [List.foldl_cons]
    rw [show stepR (t, true) f = (t, true) from rfl, fold_large L t]
theorem retF_fold : ∀ (L : List (Int × Int)) (n : Int), retF n L = if (L.foldl stepR (n, false)).2 then (0, 8) else ((L.foldl stepR (n, false)).1, 0)
  | [], _ => rfl
  | f :: L, n => by
    have hf : List.foldl stepR (n, false) (f :: L) = List.foldl stepR (stepR (n, false) f) L := rfl
    rw [hf]
    simp only [retF]
    by_cases h : 1000000000 < n / (Int.gcd n f.2 : Int) * f.2
    · rw [if_pos h, show stepR (n, false) f = (n / (Int.gcd n f.2 : Int) * f.2, true) by simp [stepR, h], fold_large]
      rfl
    · rw [if_neg h, show stepR (n, false) f = (n / (Int.gcd n f.2 : Int) * f.2, false) by simp [stepR, h], retF_fold L]
theorem returnsF_eq {l : List (Int × Int)} (h0 : trainErr l = 0) : returnsF l = if (begF (1, 1) l).2 = false then (0, 8) else retF 1 (begF (1, 1) l).1 := by
  unfold returnsF
  rw [if_neg (show ¬ trainErr l ≠ 0 by rw [h0]; simp)]
  unfold trainR
  rw [trainF_beg, retF_fold]
  simp only
  cases (begF (1, 1) l).2 <;> cases (List.foldl stepR (1, false) (begF (1, 1) l).1).2 <;> simp

theorem retF_step {n : Int} {f : Int × Int} {L : List (Int × Int)} : retF n (f :: L) = if 1000000000 < n / (Int.gcd n f.2 : Int) * f.2 then (0, 8) else retF (n / (Int.gcd n f.2 : Int) * f.2) L := rfl

set_option maxRecDepth 100000 in
set_option maxHeartbeats 1000000 in
theorem rreturns_any (A : Option Addr) (n c N : Nat) (l : List (Int × Int)) (h0 : trainErr l = 0) (x e : Int) (h : returnsF l = (x, e)) (w : World) (hx : Reads w N 2 A n (cells2 l)) (hN : N ≤ w.heap.size) :
    Calls Try.prog 30 #[.slice A n c] w fun en w' => en = .returned (.tuple #[.int .i64 x, .int .i64 e]) ∧ Below w.heap.size w w' := by
  obtain ⟨hlen, hok⟩ := trainErr_ok h0
  have hxl := hx.len2
  have HXL := Lib.hid hxl
  have hn12 : n ≤ 12 := by omega
  rw [returnsF_eq h0] at h
  have HX := Lib.hid hx
  have HH := Lib.hid h
  have HBG := Lib.hid (begin_any A n c N l)
  have HOK := Lib.hid hok
  clear hx h h0 hok hxl
  go_enter Try.func30, Try.ntmps30
  go_wp2_with fail
  refine (HBG.out _ HX.out hN hn12 HOK.out).mono ?_
  rintro en wb ⟨hb, hyes, hno⟩
  have HYES := Lib.hid hyes
  have HNO := Lib.hid hno
  have HB := Lib.hid hb
  clear hyes hno hb
  cases hB : (begF (1, 1) l).2 with
  | false =>
    obtain rfl := HNO.out hB
    have hF := HH.out
    rw [if_pos hB] at hF
    cases hF
    clear hB
    go_wp2
    go_ret2
    exact ⟨rfl, HB.out⟩
  | true =>
    obtain ⟨AO, CO, rfl, hro⟩ := HYES.out hB
    have hF := HH.out
    rw [if_neg (by rw [hB]; simp)] at hF
    have hl := begF_len l (1, 1) hB
    have hpt := begF_part l (1, 1) HOK.out ⟨by decide, by decide⟩ ⟨by decide, by decide⟩
    obtain ⟨L, hL⟩ : ∃ L, (begF (1, 1) l).1 = L := ⟨_, rfl⟩
    rw [hL] at hro hF hl hpt
    rw [HXL.out] at hro hl ⊢
    have HRO := Lib.hid hro
    have HF := Lib.hid hF
    have HL := Lib.hid hl
    have HP := Lib.hid hpt
    clear hB hF hl hro hL hpt HYES HNO HH
    go_wp2
    go_loopw [6, 7] (fun m i wr => ∃ (q : Nat) (t : Int), q ≤ n + 1 ∧ i = .int .i64 q ∧ m = .int .i64 t ∧ 1 ≤ t ∧ t ≤ 1000000000 ∧ Hid (retF 1 L = retF t (L.drop q)) ∧ Below wb.heap.size wb wr) (fun _ i _ => n + 1 - (intOf i).toNat)
    case atStart => exact ⟨0, 1, by omega, rfl, rfl, by omega, by omega, rfl, Below.refl _ _⟩
    case round =>
      obtain ⟨q, t, hq, rfl, rfl, ht1, ht2, HT, hb⟩ := hrel
      have hzr := hb.size
      have HB2 := Lib.hid hb
      clear hb
      by_cases hlt : q < n + 1
      · obtain ⟨ob, oo, p, hA, hob, hp, d0, d1⟩ := (HRO.out.belowLe HB2.out (Nat.le_refl _)).pair hlt
        have hpt := HP.out p (List.mem_of_getElem? hp)
        have hlb := lcm_bound ht1 ht2 hpt.2
        have hd : L.drop q = p :: L.drop (q + 1) := by
          obtain ⟨h1, h2⟩ := List.getElem?_eq_some_iff.1 hp
          rw [List.drop_eq_getElem_cons h1, h2]
        obtain ⟨b1, b2⟩ := hpt.2
        have t0 : ¬ t = 0 := by omega
        have hg0 : ¬ (Int.gcd t p.2 : Int) = 0 := by have := Int.gcd_pos_of_ne_zero_left (a := t) p.2 (by omega); omega
        have hdv := div_gcd_in t p.2 (by omega) (by omega) hg0
        have e1 := tdiv_gcd_left t p.2
        have e2 := IntWalk.i64_in (t / (Int.gcd t p.2 : Int)) ⟨by omega, by omega⟩
        have e3 := IntWalk.i64_in (t / (Int.gcd t p.2 : Int) * p.2) ⟨by omega, by omega⟩
        have v1 : IntKind.i64.wrap (q : Int) = (q : Int) := IntWalk.i64_in (q : Int) ⟨by omega, by omega⟩
        have v2 : (0 : Int) ≤ (q : Int) := by omega
        have v3 : (q : Int) < (n : Int) + 1 := by omega
        subst hA
        have HD := Lib.hid hd
        clear hp hpt hd hdv
        have HOBS := Lib.hid (show ob < wr.heap.size by omega)
        go_wp2
        refine Fx.regionW (fun W f w' => Below W.heap.size W w') (by kernel_rfl) (by kernel_rfl) ?_ ?_
        · intro f hf0
          exact below_drewN (Below.refl _ _) 1
        repeat (first
          | (refine Fx.skip_ (by rfl) (fun f w h => h) ?_; simp only [Act.put, List.setIfInBounds_toArray, List.set_cons_zero, List.set_cons_succ])
          | (refine Fx.val_ ?_ (by rfl) ?_ (fun f w h => h) ?_
             rotate_left
             · intro f w' hD hk
               have hb := hD
               have c1 := (hb.cell (p := ⟨ob, _, none⟩) HOBS.out).trans d1
               clear hk hD hb
               go_simp
               try rfl
             simp only [Act.put, List.setIfInBounds_toArray, List.set_cons_zero, List.set_cons_succ]))
        refine Fx.call_ (.int .i64 (Int.gcd t p.2 : Int)) ?_ ?_ (by rfl) ?_ ?_ ?_
        rotate_left 2
        · intro w'
          go_simp
          refine ⟨?_, ?_⟩ <;> rfl
        · intro f w' hD hk
          exact (gcdref_ret t p.2 _ ht1 (by omega) b1 (by omega)).mono fun e w'' ⟨he, q, hw⟩ => ⟨he, by rw [hw]; exact below_drewN hD q⟩
        simp only [Act.put, List.setIfInBounds_toArray, List.set_cons_zero, List.set_cons_succ]
        repeat (first
          | (refine Fx.skip_ (by rfl) (fun f w h => h) ?_; simp only [Act.put, List.setIfInBounds_toArray, List.set_cons_zero, List.set_cons_succ])
          | (refine Fx.val_ ?_ (by rfl) ?_ (fun f w h => h) ?_
             rotate_left
             · intro f w' hD hk
               have hb := hD
               have c1 := (hb.cell (p := ⟨ob, _, none⟩) HOBS.out).trans d1
               clear hk hD hb
               go_simp
               try rfl
             simp only [Act.put, List.setIfInBounds_toArray, List.set_cons_zero, List.set_cons_succ]))
        refine Fx.nil_ ?_
        intro f w1 hall hD
        have hb := hD
        clear hD
        try clear hall
        have hb3 := HB2.out.trans (hb.mono hzr)
        have HB3 := Lib.hid hb3
        clear hb hb3
        by_cases hg : 1000000000 < t / (Int.gcd t p.2 : Int) * p.2
        · have hf := HF.out
          rw [HT.out, HD.out, retF_step, if_pos hg] at hf
          cases hf
          go_wp2
          go_ret2
          exact ⟨rfl, HB.out.trans (HB3.out.mono (by have := HB.out.size; omega))⟩
        · go_wp2
          go_roundw
          case rel => exact ⟨q + 1, _, by omega, by go_num, rfl, hlb.1, by omega, by show _ = _; rw [HT.out, HD.out, retF_step, if_neg hg], HB3.out⟩
          case measure => simp [intOf]; omega
      · go_wp2
        go_ret2
        have hqn : L.drop q = [] := List.drop_of_length_le (by rw [HL.out]; omega)
        have hf := HF.out
        rw [HT.out, hqn] at hf
        cases hf
        exact ⟨rfl, HB.out.trans (HB2.out.mono (by have := HB.out.size; omega))⟩

end Go.Proofs.Ytmioamcgbihhjaa
