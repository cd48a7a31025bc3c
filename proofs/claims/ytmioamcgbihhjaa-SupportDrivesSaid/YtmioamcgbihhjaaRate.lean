/- The contract of Rate. -/
import Derived.Test.YtmioamcgbihhjaaTimes
namespace Go.Proofs.Ytmioamcgbihhjaa
open Go.RowKit

/-- The rate of a drive with a right ratio. -/
def rateIn (x y s p : Int) : (Int × Int) × Int :=
  if withinB s 1 1000000 = false ∨ withinB p 1 1000000 = false then ((0, 0), 2)
  else if (timesF x y (1296000 * s / (Int.gcd (1296000 * s) p : Int)) (p / (Int.gcd (1296000 * s) p : Int))).2 = false then ((0, 0), 8)
  else ((timesF x y (1296000 * s / (Int.gcd (1296000 * s) p : Int)) (p / (Int.gcd (1296000 * s) p : Int))).1, 0)
def rateF (l : List (Int × Int)) (s p : Int) : (Int × Int) × Int := if (ratioF l).2 ≠ 0 then ((0, 0), (ratioF l).2) else rateIn (ratioF l).1.1 (ratioF l).1.2 s p

theorem ratio_part {l : List (Int × Int)} {x y : Int} (h : ratioF l = ((x, y), 0)) : trainErr l = 0 ∧ Part x ∧ Part y := by
  unfold ratioF at h
  split at h
  · rename_i h1
    exact absurd (congrArg (fun q => q.2) h) h1
  · rename_i h0
    split at h
    · cases h
    · rename_i h1
      have h0' : trainErr l = 0 := by simpa using h0
      have hB : (begF (1, 1) l).2 = true := by cases hb : (begF (1, 1) l).2 with | true => rfl | false => exact absurd hb h1
      have hl := begF_len l (1, 1) hB
      have hp := begF_part l (1, 1) (trainErr_ok h0').2 ⟨by decide, by decide⟩ ⟨by decide, by decide⟩ _ (List.mem_of_getElem? (last_get _ (0, 0) _ hl))
      have e := congrArg (fun q => q.1) h
      simp only at e
      rw [e] at hp
      exact ⟨h0', hp.1, hp.2⟩

theorem timesF_false {a b c d x y : Int} (h : timesF a b c d = ((x, y), false)) : x = 0 ∧ y = 0 := by
  unfold timesF at h
  split at h
  · cases h; exact ⟨rfl, rfl⟩
  · cases h

set_option maxRecDepth 100000 in
set_option maxHeartbeats 2000000 in
theorem rate_any (A : Option Addr) (n c N : Nat) (l : List (Int × Int)) (s p : Int) (w : World) (hx : Reads w N 2 A n (cells2 l)) (hN : N ≤ w.heap.size) (hn : n ≤ 9223372036854775807) (u v e : Int) (hR : rateF l s p = ((u, v), e)) :
    Calls Try.prog 56 #[.slice A n c, .int .i64 s, .int .i64 p] w fun en w' => en = .returned (.tuple #[.agg #[.int .i64 u, .int .i64 v], .int .i64 e]) ∧ Below w.heap.size w w' := by
  have HX := Lib.hid hx
  clear hx
  obtain ⟨R, hRR⟩ : ∃ R, ratioF l = R := ⟨_, rfl⟩
  obtain ⟨⟨x, y⟩, re⟩ := R
  unfold rateF at hR
  rw [hRR] at hR
  have HRR := Lib.hid hRR
  clear hRR
  by_cases h0 : re = 0
  rotate_left
  · rw [if_pos h0] at hR
    cases hR
    have e0 : (re != 0) = true := by simpa using h0
    go_enter Try.func56, Try.ntmps56
    go_wp2_with fail
    refine (ratio_is A n c N l x y re HRR.out _ (HX.out.belowLe ((Below.refl _ _).alloc (Nat.le_refl _) _) hN) (by simp; omega) hn).mono ?_
    rintro e w1 ⟨rfl, hb⟩
    have HB1 := Lib.hid (show Below w.heap.size w w1 from step_below hb (by repeat' (first | exact Below.refl _ _ | exact HB0.out | refine below_drewN ?_ _ | refine Below.drew ?_ | refine Below.alloc ?_ (by first | omega | (simp; done) | (simp; omega) | (simp [World.setCell]; omega)) _ | refine Below.setCell ?_ (by first | omega | (simp; done) | (simp; omega)) _ | assumption)))
    have K0_1 := Lib.hid (step_blk hb (show Blk _ (w.heap.size) 23 #[.int .i64 (0), .int .i64 (0)] by repeat' (first | exact Blk.at_ _ (by first | rfl | (simp; done) | (simp; omega)) _ _ | refine Blk.drewN ?_ _ | refine Blk.drew ?_ | refine Blk.alloc ?_ _ | refine Blk.far ?_ (by first | omega | (simp; done) | (simp; omega)) _ | assumption)))
    have hz1 := hb.size
    try simp only [World.size_alloc, World.drewN, World.drew] at hz1
    clear hb
    have l0_1 : w.heap.size < w1.heap.size := K0_1.out.lt
    have z0_0_1 : w1.cell? ⟨w.heap.size, 0, none⟩ = some (.int .i64 (0)) := K0_1.out.cell 0
    have z0_1_1 : w1.cell? ⟨w.heap.size, 1, none⟩ = some (.int .i64 (0)) := K0_1.out.cell 1
    have zf0_0 := K0_1.out.frozen 0
    have zf0_1 := K0_1.out.frozen 1
    go_wp2
    exact bodyPost_ret (v := .tuple #[.agg #[.int .i64 0, .int .i64 0], .int .i64 re]) (by simp [results, Try.results56, go_sem, z0_0_1, z0_1_1, l0_1]) rfl ⟨rfl, by repeat' (first | exact Below.refl _ _ | exact HB1.out | refine below_drewN ?_ _ | refine Below.drew ?_ | refine Below.alloc ?_ (by first | omega | (simp; done) | (simp; omega) | (simp [World.setCell]; omega)) _ | refine Below.setCell ?_ (by first | omega | (simp; done) | (simp; omega)) _ | assumption)⟩
  subst h0
  rw [if_neg (by simp)] at hR
  obtain ⟨-, px, py⟩ := ratio_part HRR.out
  obtain ⟨px1, px2⟩ := px
  obtain ⟨py1, py2⟩ := py
  unfold rateIn at hR
  cases g1 : withinB s 1 1000000 with
  | false =>
    rw [if_pos (.inl g1)] at hR
    cases hR
    have G1 := Lib.hid g1
    clear g1
    go_enter Try.func56, Try.ntmps56
    go_wp2_with fail
    refine (ratio_is A n c N l x y 0 HRR.out _ (HX.out.belowLe ((Below.refl _ _).alloc (Nat.le_refl _) _) hN) (by simp; omega) hn).mono ?_
    rintro e w1 ⟨rfl, hb⟩
    have HB1 := Lib.hid (show Below w.heap.size w w1 from step_below hb (by repeat' (first | exact Below.refl _ _ | exact HB0.out | refine below_drewN ?_ _ | refine Below.drew ?_ | refine Below.alloc ?_ (by first | omega | (simp; done) | (simp; omega) | (simp [World.setCell]; omega)) _ | refine Below.setCell ?_ (by first | omega | (simp; done) | (simp; omega)) _ | assumption)))
    have K0_1 := Lib.hid (step_blk hb (show Blk _ (w.heap.size) 23 #[.int .i64 (0), .int .i64 (0)] by repeat' (first | exact Blk.at_ _ (by first | rfl | (simp; done) | (simp; omega)) _ _ | refine Blk.drewN ?_ _ | refine Blk.drew ?_ | refine Blk.alloc ?_ _ | refine Blk.far ?_ (by first | omega | (simp; done) | (simp; omega)) _ | assumption)))
    have hz1 := hb.size
    try simp only [World.size_alloc, World.drewN, World.drew] at hz1
    clear hb
    have l0_1 : w.heap.size < w1.heap.size := K0_1.out.lt
    have z0_0_1 : w1.cell? ⟨w.heap.size, 0, none⟩ = some (.int .i64 (0)) := K0_1.out.cell 0
    have z0_1_1 : w1.cell? ⟨w.heap.size, 1, none⟩ = some (.int .i64 (0)) := K0_1.out.cell 1
    have zf0_0 := K0_1.out.frozen 0
    have zf0_1 := K0_1.out.frozen 1
    go_wp2_with (first | (go_at_call 79; refine (withinsup_is _ _ _ _ G1.out _).mono ?_; rintro e w' ⟨rfl, rfl⟩))
    exact bodyPost_ret (v := .tuple #[.agg #[.int .i64 0, .int .i64 0], .int .i64 2]) (by simp [results, Try.results56, go_sem, z0_0_1, z0_1_1, l0_1]) rfl ⟨rfl, by repeat' (first | exact Below.refl _ _ | exact HB1.out | refine below_drewN ?_ _ | refine Below.drew ?_ | refine Below.alloc ?_ (by first | omega | (simp; done) | (simp; omega) | (simp [World.setCell]; omega)) _ | refine Below.setCell ?_ (by first | omega | (simp; done) | (simp; omega)) _ | assumption)⟩
  | true =>
  cases g2 : withinB p 1 1000000 with
  | false =>
    rw [if_pos (.inr g2)] at hR
    cases hR
    have G1 := Lib.hid g1
    have G2 := Lib.hid g2
    clear g1 g2
    go_enter Try.func56, Try.ntmps56
    go_wp2_with fail
    refine (ratio_is A n c N l x y 0 HRR.out _ (HX.out.belowLe ((Below.refl _ _).alloc (Nat.le_refl _) _) hN) (by simp; omega) hn).mono ?_
    rintro e w1 ⟨rfl, hb⟩
    have HB1 := Lib.hid (show Below w.heap.size w w1 from step_below hb (by repeat' (first | exact Below.refl _ _ | exact HB0.out | refine below_drewN ?_ _ | refine Below.drew ?_ | refine Below.alloc ?_ (by first | omega | (simp; done) | (simp; omega) | (simp [World.setCell]; omega)) _ | refine Below.setCell ?_ (by first | omega | (simp; done) | (simp; omega)) _ | assumption)))
    have K0_1 := Lib.hid (step_blk hb (show Blk _ (w.heap.size) 23 #[.int .i64 (0), .int .i64 (0)] by repeat' (first | exact Blk.at_ _ (by first | rfl | (simp; done) | (simp; omega)) _ _ | refine Blk.drewN ?_ _ | refine Blk.drew ?_ | refine Blk.alloc ?_ _ | refine Blk.far ?_ (by first | omega | (simp; done) | (simp; omega)) _ | assumption)))
    have hz1 := hb.size
    try simp only [World.size_alloc, World.drewN, World.drew] at hz1
    clear hb
    have l0_1 : w.heap.size < w1.heap.size := K0_1.out.lt
    have z0_0_1 : w1.cell? ⟨w.heap.size, 0, none⟩ = some (.int .i64 (0)) := K0_1.out.cell 0
    have z0_1_1 : w1.cell? ⟨w.heap.size, 1, none⟩ = some (.int .i64 (0)) := K0_1.out.cell 1
    have zf0_0 := K0_1.out.frozen 0
    have zf0_1 := K0_1.out.frozen 1
    go_wp2_with fail
    refine (withinsup_is _ _ _ _ G1.out _).mono ?_
    rintro en w' ⟨rfl, rfl⟩
    go_wp2_with fail
    refine (withinsup_is _ _ _ _ G2.out _).mono ?_
    rintro en w' ⟨rfl, rfl⟩
    go_wp2
    exact bodyPost_ret (v := .tuple #[.agg #[.int .i64 0, .int .i64 0], .int .i64 2]) (by simp [results, Try.results56, go_sem, z0_0_1, z0_1_1, l0_1]) rfl ⟨rfl, by repeat' (first | exact Below.refl _ _ | exact HB1.out | refine below_drewN ?_ _ | refine Below.drew ?_ | refine Below.alloc ?_ (by first | omega | (simp; done) | (simp; omega) | (simp [World.setCell]; omega)) _ | refine Below.setCell ?_ (by first | omega | (simp; done) | (simp; omega)) _ | assumption)⟩
  | true =>
  rw [if_neg (by rw [g1, g2]; simp)] at hR
  have w1 := (withinB_iff _ _ _).1 g1
  have w2 := (withinB_iff _ _ _).1 g2
  obtain ⟨s1, s2⟩ := w1
  obtain ⟨p1, p2⟩ := w2
  have G1 := Lib.hid g1
  have G2 := Lib.hid g2
  clear g1 g2
  have v1 := IntWalk.i64_in (1296000 * s) ⟨by omega, by omega⟩
  obtain ⟨k1, k2, k3, k4, k5⟩ := div_gcd_pos (a := 1296000 * s) (b := p) (by omega) p1
  have e1 := tdiv_gcd_left (1296000 * s) p
  have e2 := tdiv_gcd_right (1296000 * s) p
  have HG := Lib.hid (gcd_ret (1296000 * s) p)
  obtain ⟨G, hG⟩ : ∃ G, (Int.gcd (1296000 * s) p : Int) = G := ⟨_, rfl⟩
  rw [hG] at hR k1 k2 k3 k4 k5 e1 e2
  have HGE := Lib.hid hG
  clear hG
  obtain ⟨a, ha⟩ : ∃ a, 1296000 * s / G = a := ⟨_, rfl⟩
  obtain ⟨b, hb⟩ : ∃ b, p / G = b := ⟨_, rfl⟩
  rw [ha] at hR k2 k3 e1
  rw [hb] at hR k4 k5 e2
  clear ha hb
  have v2 := IntWalk.i64_in a ⟨by omega, by omega⟩
  have v3 := IntWalk.i64_in b ⟨by omega, by omega⟩
  have G0 : ¬ G = 0 := by omega
  obtain ⟨T, hT⟩ : ∃ T, timesF x y a b = T := ⟨_, rfl⟩
  obtain ⟨⟨tx, ty⟩, ok⟩ := T
  rw [hT] at hR
  have HT := Lib.hid hT
  have HR := Lib.hid hR
  clear hT hR
  go_enter Try.func56, Try.ntmps56
  go_wp2_with fail
  refine (ratio_is A n c N l x y 0 HRR.out _ (HX.out.belowLe ((Below.refl _ _).alloc (Nat.le_refl _) _) hN) (by simp; omega) hn).mono ?_
  rintro e w1 ⟨rfl, hb⟩
  have HB1 := Lib.hid (show Below w.heap.size w w1 from step_below hb (by repeat' (first | exact Below.refl _ _ | exact HB0.out | refine below_drewN ?_ _ | refine Below.drew ?_ | refine Below.alloc ?_ (by first | omega | (simp; done) | (simp; omega) | (simp [World.setCell]; omega)) _ | refine Below.setCell ?_ (by first | omega | (simp; done) | (simp; omega)) _ | assumption)))
  have K0_1 := Lib.hid (step_blk hb (show Blk _ (w.heap.size) 23 #[.int .i64 (0), .int .i64 (0)] by repeat' (first | exact Blk.at_ _ (by first | rfl | (simp; done) | (simp; omega)) _ _ | refine Blk.drewN ?_ _ | refine Blk.drew ?_ | refine Blk.alloc ?_ _ | refine Blk.far ?_ (by first | omega | (simp; done) | (simp; omega)) _ | assumption)))
  have hz1 := hb.size
  try simp only [World.size_alloc, World.drewN, World.drew] at hz1
  clear hb
  have l0_1 : w.heap.size < w1.heap.size := K0_1.out.lt
  have z0_0_1 : w1.cell? ⟨w.heap.size, 0, none⟩ = some (.int .i64 (0)) := K0_1.out.cell 0
  have z0_1_1 : w1.cell? ⟨w.heap.size, 1, none⟩ = some (.int .i64 (0)) := K0_1.out.cell 1
  go_wp2_with fail
  refine (withinsup_is _ _ _ _ G1.out _).mono ?_
  rintro en w' ⟨rfl, rfl⟩
  go_wp2_with fail
  refine (withinsup_is _ _ _ _ G2.out _).mono ?_
  rintro en w' ⟨rfl, rfl⟩
  go_wp2_with fail
  refine (HGE.out ▸ HG.out _ (by omega) (by omega) p1 (by omega)).mono ?_
  rintro en w2 ⟨rfl, q, hw⟩
  have hb : Below (w1.alloc (.cells #[.int .i64 x, .int .i64 y] 23)).heap.size (w1.alloc (.cells #[.int .i64 x, .int .i64 y] 23)) w2 := by rw [hw]; exact below_drewN (Below.refl _ _) q
  clear hw
  have HB2 := Lib.hid (show Below w.heap.size w w2 from step_below hb (by repeat' (first | exact Below.refl _ _ | exact HB1.out | refine below_drewN ?_ _ | refine Below.drew ?_ | refine Below.alloc ?_ (by first | omega | (simp; done) | (simp; omega) | (simp [World.setCell]; omega)) _ | refine Below.setCell ?_ (by first | omega | (simp; done) | (simp; omega)) _ | assumption)))
  have K0_2 := Lib.hid (step_blk hb (show Blk _ (w.heap.size) 23 #[.int .i64 (0), .int .i64 (0)] by repeat' (first | exact K0_1.out | exact Blk.at_ _ (by first | rfl | (simp; done) | (simp; omega)) _ _ | refine Blk.drewN ?_ _ | refine Blk.drew ?_ | refine Blk.alloc ?_ _ | refine Blk.far ?_ (by first | omega | (simp; done) | (simp; omega)) _ | assumption)))
  have K1_2 := Lib.hid (step_blk hb (show Blk _ (w1.heap.size) 23 #[.int .i64 (x), .int .i64 (y)] by repeat' (first | exact K0_1.out | exact Blk.at_ _ (by first | rfl | (simp; done) | (simp; omega)) _ _ | refine Blk.drewN ?_ _ | refine Blk.drew ?_ | refine Blk.alloc ?_ _ | refine Blk.far ?_ (by first | omega | (simp; done) | (simp; omega)) _ | assumption)))
  have hz2 := hb.size
  try simp only [World.size_alloc, World.drewN, World.drew] at hz2
  clear hb K0_1 z0_0_1 z0_1_1 l0_1
  have l0_2 : w.heap.size < w2.heap.size := K0_2.out.lt
  have z0_0_2 : w2.cell? ⟨w.heap.size, 0, none⟩ = some (.int .i64 (0)) := K0_2.out.cell 0
  have z0_1_2 : w2.cell? ⟨w.heap.size, 1, none⟩ = some (.int .i64 (0)) := K0_2.out.cell 1
  have l1_2 : w1.heap.size < w2.heap.size := K1_2.out.lt
  have z1_0_2 : w2.cell? ⟨w1.heap.size, 0, none⟩ = some (.int .i64 (x)) := K1_2.out.cell 0
  have z1_1_2 : w2.cell? ⟨w1.heap.size, 1, none⟩ = some (.int .i64 (y)) := K1_2.out.cell 1
  go_wp2
  refine Fx.regionM (fun W g f w' => Below W.heap.size W w' ∧ MkM 23 (.int .i64 tx) (.int .i64 ty) 13 14 W g f w') (fun _ (x : Pick) => .pointer x.1) (by kernel_rfl) ?_ ?_
  · intro f hf0
    exact ⟨below_drewN (Below.refl _ _) 1, MkM.start⟩
  first
  | (refine Fx.WM.skip 0 (by rfl) (by kernel_rfl) (by kernel_rfl) (by kernel_rfl) (by rfl) (fun g f w h => h) ?_; simp only [Act.put, List.setIfInBounds_toArray, List.set_cons_zero, List.set_cons_succ])
  | (refine Fx.WM.val_ 0 ?_ (by rfl) (by kernel_rfl) (by kernel_rfl) (by kernel_rfl) (by rfl) ?_ (fun g f w h => h) ?_
     rotate_left
     · intro g f w' hx hD hk
       obtain ⟨hb, hm1⟩ := id hD
       have y0 : w'.cell? ⟨w1.heap.size, 0, none⟩ = some (.int .i64 x) := (step_blk hb K1_2.out).cell 0
       have y1 : w'.cell? ⟨w1.heap.size, 1, none⟩ = some (.int .i64 y) := (step_blk hb K1_2.out).cell 1
       clear hx hk hD hb hm1
       go_simp
       try rfl
     simp only [Act.put, List.setIfInBounds_toArray, List.set_cons_zero, List.set_cons_succ])
  first
  | (refine Fx.WM.skip 1 (by rfl) (by kernel_rfl) (by kernel_rfl) (by kernel_rfl) (by rfl) (fun g f w h => h) ?_; simp only [Act.put, List.setIfInBounds_toArray, List.set_cons_zero, List.set_cons_succ])
  | (refine Fx.WM.val_ 1 ?_ (by rfl) (by kernel_rfl) (by kernel_rfl) (by kernel_rfl) (by rfl) ?_ (fun g f w h => h) ?_
     rotate_left
     · intro g f w' hx hD hk
       obtain ⟨hb, hm1⟩ := id hD
       have y0 : w'.cell? ⟨w1.heap.size, 0, none⟩ = some (.int .i64 x) := (step_blk hb K1_2.out).cell 0
       have y1 : w'.cell? ⟨w1.heap.size, 1, none⟩ = some (.int .i64 y) := (step_blk hb K1_2.out).cell 1
       clear hx hk hD hb hm1
       go_simp
       try rfl
     simp only [Act.put, List.setIfInBounds_toArray, List.set_cons_zero, List.set_cons_succ])
  first
  | (refine Fx.WM.skip 2 (by rfl) (by kernel_rfl) (by kernel_rfl) (by kernel_rfl) (by rfl) (fun g f w h => h) ?_; simp only [Act.put, List.setIfInBounds_toArray, List.set_cons_zero, List.set_cons_succ])
  | (refine Fx.WM.val_ 2 ?_ (by rfl) (by kernel_rfl) (by kernel_rfl) (by kernel_rfl) (by rfl) ?_ (fun g f w h => h) ?_
     rotate_left
     · intro g f w' hx hD hk
       obtain ⟨hb, hm1⟩ := id hD
       have y0 : w'.cell? ⟨w1.heap.size, 0, none⟩ = some (.int .i64 x) := (step_blk hb K1_2.out).cell 0
       have y1 : w'.cell? ⟨w1.heap.size, 1, none⟩ = some (.int .i64 y) := (step_blk hb K1_2.out).cell 1
       clear hx hk hD hb hm1
       go_simp
       try rfl
     simp only [Act.put, List.setIfInBounds_toArray, List.set_cons_zero, List.set_cons_succ])
  first
  | (refine Fx.WM.skip 3 (by rfl) (by kernel_rfl) (by kernel_rfl) (by kernel_rfl) (by rfl) (fun g f w h => h) ?_; simp only [Act.put, List.setIfInBounds_toArray, List.set_cons_zero, List.set_cons_succ])
  | (refine Fx.WM.val_ 3 ?_ (by rfl) (by kernel_rfl) (by kernel_rfl) (by kernel_rfl) (by rfl) ?_ (fun g f w h => h) ?_
     rotate_left
     · intro g f w' hx hD hk
       obtain ⟨hb, hm1⟩ := id hD
       have y0 : w'.cell? ⟨w1.heap.size, 0, none⟩ = some (.int .i64 x) := (step_blk hb K1_2.out).cell 0
       have y1 : w'.cell? ⟨w1.heap.size, 1, none⟩ = some (.int .i64 y) := (step_blk hb K1_2.out).cell 1
       clear hx hk hD hb hm1
       go_simp
       try rfl
     simp only [Act.put, List.setIfInBounds_toArray, List.set_cons_zero, List.set_cons_succ])
  first
  | (refine Fx.WM.skip 4 (by rfl) (by kernel_rfl) (by kernel_rfl) (by kernel_rfl) (by rfl) (fun g f w h => h) ?_; simp only [Act.put, List.setIfInBounds_toArray, List.set_cons_zero, List.set_cons_succ])
  | (refine Fx.WM.val_ 4 ?_ (by rfl) (by kernel_rfl) (by kernel_rfl) (by kernel_rfl) (by rfl) ?_ (fun g f w h => h) ?_
     rotate_left
     · intro g f w' hx hD hk
       obtain ⟨hb, hm1⟩ := id hD
       have y0 : w'.cell? ⟨w1.heap.size, 0, none⟩ = some (.int .i64 x) := (step_blk hb K1_2.out).cell 0
       have y1 : w'.cell? ⟨w1.heap.size, 1, none⟩ = some (.int .i64 y) := (step_blk hb K1_2.out).cell 1
       clear hx hk hD hb hm1
       go_simp
       try rfl
     simp only [Act.put, List.setIfInBounds_toArray, List.set_cons_zero, List.set_cons_succ])
  first
  | (refine Fx.WM.skip 5 (by rfl) (by kernel_rfl) (by kernel_rfl) (by kernel_rfl) (by rfl) (fun g f w h => h) ?_; simp only [Act.put, List.setIfInBounds_toArray, List.set_cons_zero, List.set_cons_succ])
  | (refine Fx.WM.val_ 5 ?_ (by rfl) (by kernel_rfl) (by kernel_rfl) (by kernel_rfl) (by rfl) ?_ (fun g f w h => h) ?_
     rotate_left
     · intro g f w' hx hD hk
       obtain ⟨hb, hm1⟩ := id hD
       have y0 : w'.cell? ⟨w1.heap.size, 0, none⟩ = some (.int .i64 x) := (step_blk hb K1_2.out).cell 0
       have y1 : w'.cell? ⟨w1.heap.size, 1, none⟩ = some (.int .i64 y) := (step_blk hb K1_2.out).cell 1
       clear hx hk hD hb hm1
       go_simp
       try rfl
     simp only [Act.put, List.setIfInBounds_toArray, List.set_cons_zero, List.set_cons_succ])
  first
  | (refine Fx.WM.skip 6 (by rfl) (by kernel_rfl) (by kernel_rfl) (by kernel_rfl) (by rfl) (fun g f w h => h) ?_; simp only [Act.put, List.setIfInBounds_toArray, List.set_cons_zero, List.set_cons_succ])
  | (refine Fx.WM.val_ 6 ?_ (by rfl) (by kernel_rfl) (by kernel_rfl) (by kernel_rfl) (by rfl) ?_ (fun g f w h => h) ?_
     rotate_left
     · intro g f w' hx hD hk
       obtain ⟨hb, hm1⟩ := id hD
       have y0 : w'.cell? ⟨w1.heap.size, 0, none⟩ = some (.int .i64 x) := (step_blk hb K1_2.out).cell 0
       have y1 : w'.cell? ⟨w1.heap.size, 1, none⟩ = some (.int .i64 y) := (step_blk hb K1_2.out).cell 1
       clear hx hk hD hb hm1
       go_simp
       try rfl
     simp only [Act.put, List.setIfInBounds_toArray, List.set_cons_zero, List.set_cons_succ])
  first
  | (refine Fx.WM.skip 7 (by rfl) (by kernel_rfl) (by kernel_rfl) (by kernel_rfl) (by rfl) (fun g f w h => h) ?_; simp only [Act.put, List.setIfInBounds_toArray, List.set_cons_zero, List.set_cons_succ])
  | (refine Fx.WM.val_ 7 ?_ (by rfl) (by kernel_rfl) (by kernel_rfl) (by kernel_rfl) (by rfl) ?_ (fun g f w h => h) ?_
     rotate_left
     · intro g f w' hx hD hk
       obtain ⟨hb, hm1⟩ := id hD
       have y0 : w'.cell? ⟨w1.heap.size, 0, none⟩ = some (.int .i64 x) := (step_blk hb K1_2.out).cell 0
       have y1 : w'.cell? ⟨w1.heap.size, 1, none⟩ = some (.int .i64 y) := (step_blk hb K1_2.out).cell 1
       clear hx hk hD hb hm1
       go_simp
       try rfl
     simp only [Act.put, List.setIfInBounds_toArray, List.set_cons_zero, List.set_cons_succ])
  first
  | (refine Fx.WM.skip 8 (by rfl) (by kernel_rfl) (by kernel_rfl) (by kernel_rfl) (by rfl) (fun g f w h => h) ?_; simp only [Act.put, List.setIfInBounds_toArray, List.set_cons_zero, List.set_cons_succ])
  | (refine Fx.WM.val_ 8 ?_ (by rfl) (by kernel_rfl) (by kernel_rfl) (by kernel_rfl) (by rfl) ?_ (fun g f w h => h) ?_
     rotate_left
     · intro g f w' hx hD hk
       obtain ⟨hb, hm1⟩ := id hD
       have y0 : w'.cell? ⟨w1.heap.size, 0, none⟩ = some (.int .i64 x) := (step_blk hb K1_2.out).cell 0
       have y1 : w'.cell? ⟨w1.heap.size, 1, none⟩ = some (.int .i64 y) := (step_blk hb K1_2.out).cell 1
       clear hx hk hD hb hm1
       go_simp
       try rfl
     simp only [Act.put, List.setIfInBounds_toArray, List.set_cons_zero, List.set_cons_succ])
  refine Fx.WM.call 9 (.tuple #[.agg #[.int .i64 tx, .int .i64 ty], .bool ok]) ?_ ?_ (by rfl) (by kernel_rfl) (by kernel_rfl) (by kernel_rfl) (by rfl) ?_ ?_ ?_
  rotate_left 2
  · intro w'
    go_simp
    refine ⟨?_, ?_⟩ <;> rfl
  · intro g f w' hx hD hk
    exact (times_any x y a b tx ty ok HT.out _ px1 (by omega) py1 (by omega) k2 (by omega) k4 (by omega)).mono fun e w'' ⟨he, hw⟩ => ⟨he, step_below hw hD.1, hD.2.step hw (by decide)⟩
  simp only [Act.put, List.setIfInBounds_toArray, List.set_cons_zero, List.set_cons_succ]
  first
  | (refine Fx.WM.skip 10 (by rfl) (by kernel_rfl) (by kernel_rfl) (by kernel_rfl) (by rfl) (fun g f w h => h) ?_; simp only [Act.put, List.setIfInBounds_toArray, List.set_cons_zero, List.set_cons_succ])
  | (refine Fx.WM.val_ 10 ?_ (by rfl) (by kernel_rfl) (by kernel_rfl) (by kernel_rfl) (by rfl) ?_ (fun g f w h => h) ?_
     rotate_left
     · intro g f w' hx hD hk
       obtain ⟨hb, hm1⟩ := id hD
       have y0 : w'.cell? ⟨w1.heap.size, 0, none⟩ = some (.int .i64 x) := (step_blk hb K1_2.out).cell 0
       have y1 : w'.cell? ⟨w1.heap.size, 1, none⟩ = some (.int .i64 y) := (step_blk hb K1_2.out).cell 1
       clear hx hk hD hb hm1
       go_simp
       try rfl
     simp only [Act.put, List.setIfInBounds_toArray, List.set_cons_zero, List.set_cons_succ])
  first
  | (refine Fx.WM.skip 11 (by rfl) (by kernel_rfl) (by kernel_rfl) (by kernel_rfl) (by rfl) (fun g f w h => h) ?_; simp only [Act.put, List.setIfInBounds_toArray, List.set_cons_zero, List.set_cons_succ])
  | (refine Fx.WM.val_ 11 ?_ (by rfl) (by kernel_rfl) (by kernel_rfl) (by kernel_rfl) (by rfl) ?_ (fun g f w h => h) ?_
     rotate_left
     · intro g f w' hx hD hk
       obtain ⟨hb, hm1⟩ := id hD
       have y0 : w'.cell? ⟨w1.heap.size, 0, none⟩ = some (.int .i64 x) := (step_blk hb K1_2.out).cell 0
       have y1 : w'.cell? ⟨w1.heap.size, 1, none⟩ = some (.int .i64 y) := (step_blk hb K1_2.out).cell 1
       clear hx hk hD hb hm1
       go_simp
       try rfl
     simp only [Act.put, List.setIfInBounds_toArray, List.set_cons_zero, List.set_cons_succ])
  first
  | (refine Fx.WM.skip 12 (by rfl) (by kernel_rfl) (by kernel_rfl) (by kernel_rfl) (by rfl) (fun g f w h => h) ?_; simp only [Act.put, List.setIfInBounds_toArray, List.set_cons_zero, List.set_cons_succ])
  | (refine Fx.WM.val_ 12 ?_ (by rfl) (by kernel_rfl) (by kernel_rfl) (by kernel_rfl) (by rfl) ?_ (fun g f w h => h) ?_
     rotate_left
     · intro g f w' hx hD hk
       obtain ⟨hb, hm1⟩ := id hD
       have y0 : w'.cell? ⟨w1.heap.size, 0, none⟩ = some (.int .i64 x) := (step_blk hb K1_2.out).cell 0
       have y1 : w'.cell? ⟨w1.heap.size, 1, none⟩ = some (.int .i64 y) := (step_blk hb K1_2.out).cell 1
       clear hx hk hD hb hm1
       go_simp
       try rfl
     simp only [Act.put, List.setIfInBounds_toArray, List.set_cons_zero, List.set_cons_succ])
  refine Fx.WM.choose 13 (by rfl) (by kernel_rfl) (by rfl) ?_ ?_
  · skip
    refine Fx.Chooses.make (by rfl) ?_
    intro f w' hD hk
    obtain ⟨hb, hm1⟩ := id hD
    refine ⟨(some ⟨w'.heap.size, 0, none⟩, 0), w'.alloc (.cells #[.int .i64 0, .int .i64 0] 23), ?_, ?_⟩
    · clear hk hD
      go_simp
      try rfl
    · exact ⟨hb.alloc hb.size _, MkM.make hb.size (hk.2.1 14 (by kernel_rfl)) (by decide)⟩
  intro z
  simp only [Act.put, List.setIfInBounds_toArray, List.set_cons_zero, List.set_cons_succ]
  refine Fx.WM.eff 14 undef (by rfl) (by kernel_rfl) (by kernel_rfl) (by kernel_rfl) (by rfl) ?_ ?_
  · intro g f w' hx hD hk
    obtain ⟨hb, hm1⟩ := id hD
    obtain ⟨bx, e0, e1, r0, r1, r2, r3, r4, r5⟩ := MkM.cells hm1 (hx 13 _ rfl)
    refine Fx.gives_skip (w' := (w'.setCell ⟨bx, 0, none⟩ (.int .i64 tx)).setCell ⟨bx, 1, none⟩ (.int .i64 ty)) ?_ ?_
    · clear hx hk hD hb hm1
      go_simp
      try rfl
    · exact ⟨below_store hb r1, hm1.store (hx 13 _ rfl) r0⟩
  simp only [Act.put, List.setIfInBounds_toArray, List.set_cons_zero, List.set_cons_succ]
  first
  | (refine Fx.WM.skip 15 (by rfl) (by kernel_rfl) (by kernel_rfl) (by kernel_rfl) (by rfl) (fun g f w h => h) ?_; simp only [Act.put, List.setIfInBounds_toArray, List.set_cons_zero, List.set_cons_succ])
  | (refine Fx.WM.val_ 15 ?_ (by rfl) (by kernel_rfl) (by kernel_rfl) (by kernel_rfl) (by rfl) ?_ (fun g f w h => h) ?_
     rotate_left
     · intro g f w' hx hD hk
       obtain ⟨hb, hm1⟩ := id hD
       have y0 : w'.cell? ⟨w1.heap.size, 0, none⟩ = some (.int .i64 x) := (step_blk hb K1_2.out).cell 0
       have y1 : w'.cell? ⟨w1.heap.size, 1, none⟩ = some (.int .i64 y) := (step_blk hb K1_2.out).cell 1
       clear hx hk hD hb hm1
       go_simp
       try rfl
     simp only [Act.put, List.setIfInBounds_toArray, List.set_cons_zero, List.set_cons_succ])
  refine Fx.WM.nil (by kernel_rfl) ?_
  intro w3 hD
  obtain ⟨hb, hm1⟩ := hD
  obtain ⟨bx, hx1, hx2, hxb⟩ := hm1.end_ (x := z) (by rfl) (by rfl)
  obtain ⟨z1, z2⟩ := z
  simp only at hx1
  subst hx1
  have x0 : w3.cell? ⟨bx, 0, none⟩ = some (.int .i64 tx) := hxb.cell 0
  have x1 : w3.cell? ⟨bx, 1, none⟩ = some (.int .i64 ty) := hxb.cell 1
  have hbx := hxb.lt
  clear hm1 hxb
  have HB3 := Lib.hid (show Below w.heap.size w w3 from step_below hb (by repeat' (first | exact Below.refl _ _ | exact HB2.out | refine below_drewN ?_ _ | refine Below.drew ?_ | refine Below.alloc ?_ (by first | omega | (simp; done) | (simp; omega) | (simp [World.setCell]; omega)) _ | refine Below.setCell ?_ (by first | omega | (simp; done) | (simp; omega)) _ | assumption)))
  have K0_3 := Lib.hid (step_blk hb (show Blk _ (w.heap.size) 23 #[.int .i64 (0), .int .i64 (0)] by repeat' (first | exact K0_2.out | exact K1_2.out | exact Blk.at_ _ (by first | rfl | (simp; done) | (simp; omega)) _ _ | refine Blk.drewN ?_ _ | refine Blk.drew ?_ | refine Blk.alloc ?_ _ | refine Blk.far ?_ (by first | omega | (simp; done) | (simp; omega)) _ | assumption)))
  have K1_3 := Lib.hid (step_blk hb (show Blk _ (w1.heap.size) 23 #[.int .i64 (x), .int .i64 (y)] by repeat' (first | exact K0_2.out | exact K1_2.out | exact Blk.at_ _ (by first | rfl | (simp; done) | (simp; omega)) _ _ | refine Blk.drewN ?_ _ | refine Blk.drew ?_ | refine Blk.alloc ?_ _ | refine Blk.far ?_ (by first | omega | (simp; done) | (simp; omega)) _ | assumption)))
  have hz3 := hb.size
  try simp only [World.size_alloc, World.drewN, World.drew] at hz3
  clear hb K0_2 K1_2 z0_0_2 z0_1_2 l0_2 z1_0_2 z1_1_2 l1_2
  have l0_3 : w.heap.size < w3.heap.size := K0_3.out.lt
  have z0_0_3 : w3.cell? ⟨w.heap.size, 0, none⟩ = some (.int .i64 (0)) := K0_3.out.cell 0
  have z0_1_3 : w3.cell? ⟨w.heap.size, 1, none⟩ = some (.int .i64 (0)) := K0_3.out.cell 1
  have l1_3 : w1.heap.size < w3.heap.size := K1_3.out.lt
  have z1_0_3 : w3.cell? ⟨w1.heap.size, 0, none⟩ = some (.int .i64 (x)) := K1_3.out.cell 0
  have z1_1_3 : w3.cell? ⟨w1.heap.size, 1, none⟩ = some (.int .i64 (y)) := K1_3.out.cell 1
  have zf0_0 := K0_3.out.frozen 0
  have zf0_1 := K0_3.out.frozen 1
  cases ok with
  | false =>
    have hR := HR.out
    rw [if_pos rfl] at hR
    cases hR
    go_wp2
    exact bodyPost_ret (v := .tuple #[.agg #[.int .i64 0, .int .i64 0], .int .i64 8]) (by simp [results, Try.results56, go_sem, z0_0_3, z0_1_3, l0_3]) rfl ⟨rfl, by repeat' (first | exact Below.refl _ _ | exact HB3.out | refine below_drewN ?_ _ | refine Below.drew ?_ | refine Below.alloc ?_ (by first | omega | (simp; done) | (simp; omega) | (simp [World.setCell]; omega)) _ | refine Below.setCell ?_ (by first | omega | (simp; done) | (simp; omega)) _ | assumption)⟩
  | true =>
    have hR := HR.out
    rw [if_neg (by simp)] at hR
    cases hR
    go_wp2
    exact bodyPost_ret (v := .tuple #[.agg #[.int .i64 u, .int .i64 v], .int .i64 0]) (by simp [results, Try.results56, go_sem, z0_0_3, z0_1_3, l0_3]) rfl ⟨rfl, by repeat' (first | exact Below.refl _ _ | exact HB3.out | refine below_drewN ?_ _ | refine Below.drew ?_ | refine Below.alloc ?_ (by first | omega | (simp; done) | (simp; omega) | (simp [World.setCell]; omega)) _ | refine Below.setCell ?_ (by first | omega | (simp; done) | (simp; omega)) _ | assumption)⟩

end Go.Proofs.Ytmioamcgbihhjaa
