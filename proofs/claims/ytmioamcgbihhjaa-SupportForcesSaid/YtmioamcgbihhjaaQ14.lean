import Derived.Test.YtmioamcgbihhjaaQ13
import Derived.Test.YtmioamcgbihhjaaQ9

section
/- Contracts of the check of a search for gears, and of the best pair. -/
namespace Go.Proofs.Ytmioamcgbihhjaa
open Go.RowKit

def searchErr (rn rd lo hi : Int) : Int :=
  if fracErr rn rd ≠ 0 then fracErr rn rd else if rn ≤ 0 ∨ withinB lo 1 500 = false ∨ withinB hi 1 500 = false then 2 else if hi < lo then 9 else 0

set_option maxHeartbeats 1000000 in
theorem checkbest_any (rn rd lo hi : Int) (w : World) (h1 : -9223372036854775808 ≤ rn) (h2 : rn ≤ 9223372036854775807) (h3 : -9223372036854775808 ≤ rd) (h4 : rd ≤ 9223372036854775807) :
    Calls Try.prog 81 #[.agg #[.int .i64 rn, .int .i64 rd], .int .i64 lo, .int .i64 hi] w fun e w' => e = .returned (.int .i64 (searchErr rn rd lo hi)) ∧ Below w.heap.size w w' := by
  have hcs : (fracErr rn rd ≠ 0) ∨ (fracErr rn rd = 0 ∧ rn ≤ 0) ∨ (fracErr rn rd = 0 ∧ ¬ rn ≤ 0 ∧ withinB lo 1 500 = false) ∨ (fracErr rn rd = 0 ∧ ¬ rn ≤ 0 ∧ withinB lo 1 500 = true ∧ withinB hi 1 500 = false) ∨
      (fracErr rn rd = 0 ∧ ¬ rn ≤ 0 ∧ withinB lo 1 500 = true ∧ withinB hi 1 500 = true ∧ hi < lo) ∨ (fracErr rn rd = 0 ∧ ¬ rn ≤ 0 ∧ withinB lo 1 500 = true ∧ withinB hi 1 500 = true ∧ ¬ hi < lo) := by
    by_cases a : fracErr rn rd = 0 <;> by_cases b : rn ≤ 0 <;> cases withinB lo 1 500 <;> cases withinB hi 1 500 <;> by_cases c : hi < lo <;> simp [a, b, c]
  obtain ⟨E, hE⟩ : ∃ E, searchErr rn rd lo hi = E := ⟨_, rfl⟩
  rw [hE]
  have HE := Lib.hid hE
  clear hE
  go_enter Try.func81, Try.ntmps81
  go_wp2_with fail
  refine (checkfrac_any _ _ _ h1 h2 h3 h4).mono ?_
  rintro e w1 ⟨rfl, hb⟩
  simp only [World.size_alloc] at hb
  have c0 : w1.cell? ⟨w.heap.size, 0, none⟩ = some (.int .i64 rn) := by rw [hb.cell (by simp)]; go_simp
  have c1 : w1.cell? ⟨w.heap.size, 1, none⟩ = some (.int .i64 rd) := by rw [hb.cell (by simp)]; go_simp
  have q1 : Below w.heap.size w w1 := ((Below.refl _ _).alloc (Nat.le_refl _) _).trans (hb.mono (by omega))
  have HB := Lib.hid q1
  clear q1 hb
  have HC := Lib.hid hcs
  clear hcs
  rcases HC.out with a | ⟨a, b⟩ | ⟨a, b, c⟩ | ⟨a, b, c, d⟩ | ⟨a, b, c, d, g⟩ | ⟨a, b, c, d, g⟩
  · have ha : (fracErr rn rd != 0) = true := bne_iff_ne.2 a
    have hv : E = fracErr rn rd := by rw [← HE.out]; unfold searchErr; rw [if_pos a]
    have HV := Lib.hid hv
    clear hv a
    go_wp2
    go_ret
    exact ⟨ret_int HV.out.symm, HB.out⟩
  all_goals
    clear HC
    go_wp2_with (first | (go_at_call 79; refine (withinsup_is _ _ _ _ (by assumption) _).mono ?_; rintro e w' ⟨rfl, rfl⟩))
    go_ret
    have hx := HE.out
    unfold searchErr at hx
    rw [if_neg (by rw [a]; simp)] at hx
    exact ⟨ret_int (by rw [← hx]; (repeat' split) <;> simp_all <;> omega), HB.out⟩

theorem searchErr_ok {rn rd lo hi : Int} (h : searchErr rn rd lo hi = 0) : fracErr rn rd = 0 ∧ 1 ≤ rn ∧ rn ≤ 1000000000 ∧ 1 ≤ rd ∧ rd ≤ 1000000000 ∧ 1 ≤ lo ∧ lo ≤ hi ∧ hi ≤ 500 := by
  unfold searchErr at h
  split at h
  · rename_i h0; exact absurd h h0
  · rename_i h0
    have hf : fracErr rn rd = 0 := by simpa using h0
    have hf' := hf
    unfold fracErr at hf'
    split at hf'
    · simp at hf'
    · split at hf'
      · simp at hf'
      · split at h
        · simp at h
        · split at h
          · simp at h
          · rename_i g1 g2 g3 g4
            have b1 : withinB lo 1 500 = true := by cases hx : withinB lo 1 500 <;> simp_all
            have b2 : withinB hi 1 500 = true := by cases hx : withinB hi 1 500 <;> simp_all
            rw [withinB_iff] at b1 b2
            simp only [not_or] at g1 g2 g3
            refine ⟨hf, by omega, by omega, by omega, by omega, by omega, by omega, by omega⟩

/-- The best pair between two numbers of teeth. -/
def bestP (rn rd lo hi : Int) : Int × Int := bestF rn rd lo (hi - lo + 1).toNat (hi - lo + 1).toNat

def PairPost (rn rd lo hi : Int) (w : World) (e : Ending) (w' : World) : Prop :=
  Below w.heap.size w w' ∧ (searchErr rn rd lo hi ≠ 0 → e = .returned (.tuple #[.agg #[.int .i64 0, .int .i64 0], .int .i64 (searchErr rn rd lo hi)])) ∧
  (searchErr rn rd lo hi = 0 → e = .returned (.tuple #[.agg #[.int .i64 (bestP rn rd lo hi).1, .int .i64 (bestP rn rd lo hi).2], .int .i64 0]))

set_option maxHeartbeats 1000000 in
theorem bestpair_any (rn rd lo hi : Int) (w : World) (h1 : -9223372036854775808 ≤ rn) (h2 : rn ≤ 9223372036854775807) (h3 : -9223372036854775808 ≤ rd) (h4 : rd ≤ 9223372036854775807) :
    Calls Try.prog 32 #[.agg #[.int .i64 rn, .int .i64 rd], .int .i64 lo, .int .i64 hi] w (PairPost rn rd lo hi w) := by
  obtain ⟨E, hE⟩ : ∃ E, searchErr rn rd lo hi = E := ⟨_, rfl⟩
  have HE := Lib.hid hE
  go_enter Try.func32, Try.ntmps32
  go_wp2_with fail
  refine (checkbest_any _ _ _ _ _ h1 h2 h3 h4).mono ?_
  rintro e w1 ⟨rfl, hb⟩
  rw [hE]
  clear hE
  simp only [World.size_alloc] at hb
  have c0 : w1.cell? ⟨w.heap.size, 0, none⟩ = some (.int .i64 rn) := by rw [hb.cell (by simp; omega)]; go_simp
  have c1 : w1.cell? ⟨w.heap.size, 1, none⟩ = some (.int .i64 rd) := by rw [hb.cell (by simp; omega)]; go_simp
  have k : Blk w1 (w.heap.size + 1) 45 #[.int .i64 0, .int .i64 0] := Blk.below (Blk.at_ _ (by simp) _ _) hb (by omega)
  have q1 : Below w.heap.size w w1 := (((Below.refl _ _).alloc (Nat.le_refl _) _).alloc (by simp) _).trans (hb.mono (by omega))
  have d0 : w1.cell? ⟨w.heap.size + 1, 0, none⟩ = some (.int .i64 0) := k.cell 0
  have d1 : w1.cell? ⟨w.heap.size + 1, 1, none⟩ = some (.int .i64 0) := k.cell 1
  have z0 := k.frozen 0
  have z1 := k.frozen 1
  have HB := Lib.hid q1
  clear q1 hb
  by_cases he : E = 0
  · have ok := searchErr_ok (HE.out.trans he)
    have e0 : (E != 0) = false := by simp [he]
    subst he
    go_wp2_with fail
    refine (best_any rn rd lo hi _ (by omega) (by omega) (by omega) (by omega) (by omega) (by omega) (by omega)).mono ?_
    rintro e w2 ⟨rfl, hb2⟩
    have k := k.below hb2 k.lt
    have d0 : w2.cell? ⟨w.heap.size + 1, 0, none⟩ = some (.int .i64 0) := k.cell 0
    have d1 : w2.cell? ⟨w.heap.size + 1, 1, none⟩ = some (.int .i64 0) := k.cell 1
    have z0 := k.frozen 0
    have z1 := k.frozen 1
    have q2 := HB.out.trans (hb2.mono (by have := HB.out.size; omega))
    have HB2 := Lib.hid q2
    clear q2 hb2
    obtain ⟨P, hP⟩ : ∃ P, bestF rn rd lo (hi - lo + 1).toNat (hi - lo + 1).toNat = P := ⟨_, rfl⟩
    rw [hP]
    have HP := Lib.hid hP
    clear hP
    go_wp2
    have kk := (k.set_ 0 (.int .i64 (P.1))).set_ 1 (.int .i64 (P.2))
    have r0 := kk.cell 0
    have r1 := kk.cell 1
    simp only [List.setIfInBounds_toArray, List.set_cons_zero, List.set_cons_succ, List.getElem?_toArray, List.getElem?_cons_zero, List.getElem?_cons_succ] at r0 r1
    exact bodyPost_ret (v := .tuple #[.agg #[.int .i64 (P.1), .int .i64 (P.2)], .int .i64 0]) (by simp [results, Try.results32, go_sem, r0, r1]) rfl
      ⟨(HB2.out.setCell (p := ⟨w.heap.size + 1, 0, none⟩) (by simp) _).setCell (p := ⟨w.heap.size + 1, 1, none⟩) (by simp) _, fun h => absurd HE.out h, fun _ => by unfold bestP; rw [HP.out]⟩
  · have e0 : (E != 0) = true := by simp [he]
    go_wp2
    have kk := (k.set_ 0 (.int .i64 (0))).set_ 1 (.int .i64 (0))
    have r0 := kk.cell 0
    have r1 := kk.cell 1
    simp only [List.setIfInBounds_toArray, List.set_cons_zero, List.set_cons_succ, List.getElem?_toArray, List.getElem?_cons_zero, List.getElem?_cons_succ] at r0 r1
    exact bodyPost_ret (v := .tuple #[.agg #[.int .i64 (0), .int .i64 (0)], .int .i64 E]) (by simp [results, Try.results32, go_sem, r0, r1]) rfl
      ⟨(HB.out.setCell (p := ⟨w.heap.size + 1, 0, none⟩) (by simp) _).setCell (p := ⟨w.heap.size + 1, 1, none⟩) (by simp) _, fun _ => by rw [HE.out], fun h => absurd (HE.out.symm.trans h) he⟩

end Go.Proofs.Ytmioamcgbihhjaa

end

section
/- Contracts of the reference's comparison of pairs of gears, and of its search. -/
namespace Go.Proofs.Ytmioamcgbihhjaa
open Go.RowKit

theorem abs_in (a : Int) (w : World) (h1 : -9223372036854775808 < a) (h2 : a ≤ 9223372036854775807) :
    Calls Try.prog 20 #[.int .i64 a] w fun e w' => e = .returned (.int .i64 (a.natAbs : Int)) ∧ w = w' :=
  (abs_any a w (by omega) h2).mono fun e w' ⟨he, hw⟩ => ⟨by rw [he]; exact ret_int (IntWalk.wrap64_in _ ⟨by omega, by omega⟩), hw⟩

theorem lowest_any (a b : Int) (w : World) (h1 : -9223372036854775808 < a) (h2 : a ≤ 9223372036854775807) (h3 : 1 ≤ b) (h4 : b ≤ 9223372036854775807) :
    Calls Try.prog 87 #[.int .i64 a, .int .i64 b] w fun e w' => e = .returned (.agg #[.int .i64 (a / (Int.gcd a b : Int)), .int .i64 (b / (Int.gcd a b : Int))]) ∧ Below w.heap.size w w' := by
  have hg := gcd_small a b (by omega) h4
  have hp : 0 < Int.gcd a b := Int.gcd_pos_of_ne_zero_right a (by omega)
  have d1 := div_gcd_in a b h1 h2 (by omega)
  have d2 := div_gcd_in b a (by omega) h4 (by rw [Int.gcd_comm]; omega)
  rw [Int.gcd_comm b a] at d2
  have e1 := tdiv_gcd_left a b
  have e2 := tdiv_gcd_right a b
  have g0 : ¬ (Int.gcd a b : Int) = 0 := by omega
  go_enter Try.func87, Try.ntmps87
  go_wp2_with fail
  refine (gcdref_any _ _ _ (by omega) (by omega) (by omega) (by omega)).mono ?_
  rintro e w' ⟨rfl, nq, rfl⟩
  rw [hg]
  go_wp2_with fail
  go_region
  all_goals go_wp2
  all_goals exact bodyPost_ret (v := .agg #[.int .i64 (a / (Int.gcd a b : Int)), .int .i64 (b / (Int.gcd a b : Int))]) (by simp [results, Try.results87, go_sem]) rfl ⟨rfl, by repeat' (first | exact Below.refl _ _ | exact HB0.out | refine below_drewN ?_ _ | refine Below.drew ?_ | refine Below.alloc ?_ (by first | omega | (simp; done) | (simp; omega) | (simp [World.setCell]; omega)) _ | refine Below.setCell ?_ (by first | omega | (simp; done) | (simp; omega)) _ | assumption)⟩

theorem off_any (rn rd gd gv : Int) (w : World) (h1 : -4000000000000000000 ≤ rn * gv) (h2 : rn * gv ≤ 4000000000000000000) (h3 : -4000000000000000000 ≤ gd * rd) (h4 : gd * rd ≤ 4000000000000000000) :
    Calls Try.prog 86 #[.agg #[.int .i64 rn, .int .i64 rd], .agg #[.int .i64 gd, .int .i64 gv]] w fun e w' =>
      e = .returned (.tuple #[.int .i64 (offF rn rd gd gv), .int .i64 gv]) ∧ Below w.heap.size w w' := by
  have v1 := IntWalk.i64_in (rn * gv) ⟨by omega, by omega⟩
  have v2 := IntWalk.i64_in (gd * rd) ⟨by omega, by omega⟩
  have v3 := IntWalk.i64_in (gd * rd - rn * gv) ⟨by omega, by omega⟩
  have v4 : ((gd * rd - rn * gv).natAbs : Int) = offF rn rd gd gv := by unfold offF; omega
  have V4 := Lib.hid v4
  have hlo : -9223372036854775808 < gd * rd - rn * gv := by omega
  have hhi : gd * rd - rn * gv ≤ 9223372036854775807 := by omega
  clear v4
  go_enter Try.func86, Try.ntmps86
  go_wp2
  refine Fx.regionW (fun W f w' => Below W.heap.size W w') (by kernel_rfl) (by kernel_rfl) ?_ ?_
  · intro f hf0
    exact below_drewN (Below.refl _ _) 1
  repeat (first
    | (refine Fx.skip_ (by rfl) (fun f w h => h) ?_; simp only [Act.put, List.setIfInBounds_toArray, List.set_cons_zero, List.set_cons_succ])
    | (refine Fx.val_ ?_ (by rfl) ?_ (fun f w h => h) ?_
       rotate_left
       · intro f w' hD hk
         have hb := hD
         have y0_0 : w'.cell? ⟨w.heap.size, 0, none⟩ = some (.int .i64 (rn)) := (step_blk hb (show Blk _ (w.heap.size) 23 #[.int .i64 (rn), .int .i64 (rd)] by repeat' (first | exact Blk.at_ _ (by first | rfl | (simp; done) | (simp; omega)) _ _ | refine Blk.drewN ?_ _ | refine Blk.drew ?_ | refine Blk.alloc ?_ _ | refine Blk.far ?_ (by first | omega | (simp; done) | (simp; omega)) _ | assumption))).cell 0
         have y0_1 : w'.cell? ⟨w.heap.size, 1, none⟩ = some (.int .i64 (rd)) := (step_blk hb (show Blk _ (w.heap.size) 23 #[.int .i64 (rn), .int .i64 (rd)] by repeat' (first | exact Blk.at_ _ (by first | rfl | (simp; done) | (simp; omega)) _ _ | refine Blk.drewN ?_ _ | refine Blk.drew ?_ | refine Blk.alloc ?_ _ | refine Blk.far ?_ (by first | omega | (simp; done) | (simp; omega)) _ | assumption))).cell 1
         have y1_0 : w'.cell? ⟨w.heap.size + 1, 0, none⟩ = some (.int .i64 (gd)) := (step_blk hb (show Blk _ (w.heap.size + 1) 45 #[.int .i64 (gd), .int .i64 (gv)] by repeat' (first | exact Blk.at_ _ (by first | rfl | (simp; done) | (simp; omega)) _ _ | refine Blk.drewN ?_ _ | refine Blk.drew ?_ | refine Blk.alloc ?_ _ | refine Blk.far ?_ (by first | omega | (simp; done) | (simp; omega)) _ | assumption))).cell 0
         have y1_1 : w'.cell? ⟨w.heap.size + 1, 1, none⟩ = some (.int .i64 (gv)) := (step_blk hb (show Blk _ (w.heap.size + 1) 45 #[.int .i64 (gd), .int .i64 (gv)] by repeat' (first | exact Blk.at_ _ (by first | rfl | (simp; done) | (simp; omega)) _ _ | refine Blk.drewN ?_ _ | refine Blk.drew ?_ | refine Blk.alloc ?_ _ | refine Blk.far ?_ (by first | omega | (simp; done) | (simp; omega)) _ | assumption))).cell 1
         clear hk hD hb
         go_simp
         try rfl
       simp only [Act.put, List.setIfInBounds_toArray, List.set_cons_zero, List.set_cons_succ]))
  refine Fx.call_ (.int .i64 ((gd * rd - rn * gv).natAbs : Int)) ?_ ?_ (by rfl) ?_ ?_ ?_
  rotate_left 2
  · intro w'
    go_simp
    refine ⟨?_, ?_⟩ <;> rfl
  · intro f w' hD hk
    exact (abs_in _ _ hlo hhi).mono fun e w'' ⟨he, hw⟩ => ⟨he, hw ▸ hD⟩
  simp only [Act.put, List.setIfInBounds_toArray, List.set_cons_zero, List.set_cons_succ]
  repeat (first
    | (refine Fx.skip_ (by rfl) (fun f w h => h) ?_; simp only [Act.put, List.setIfInBounds_toArray, List.set_cons_zero, List.set_cons_succ])
    | (refine Fx.val_ ?_ (by rfl) ?_ (fun f w h => h) ?_
       rotate_left
       · intro f w' hD hk
         have hb := hD
         have y0_0 : w'.cell? ⟨w.heap.size, 0, none⟩ = some (.int .i64 (rn)) := (step_blk hb (show Blk _ (w.heap.size) 23 #[.int .i64 (rn), .int .i64 (rd)] by repeat' (first | exact Blk.at_ _ (by first | rfl | (simp; done) | (simp; omega)) _ _ | refine Blk.drewN ?_ _ | refine Blk.drew ?_ | refine Blk.alloc ?_ _ | refine Blk.far ?_ (by first | omega | (simp; done) | (simp; omega)) _ | assumption))).cell 0
         have y0_1 : w'.cell? ⟨w.heap.size, 1, none⟩ = some (.int .i64 (rd)) := (step_blk hb (show Blk _ (w.heap.size) 23 #[.int .i64 (rn), .int .i64 (rd)] by repeat' (first | exact Blk.at_ _ (by first | rfl | (simp; done) | (simp; omega)) _ _ | refine Blk.drewN ?_ _ | refine Blk.drew ?_ | refine Blk.alloc ?_ _ | refine Blk.far ?_ (by first | omega | (simp; done) | (simp; omega)) _ | assumption))).cell 1
         have y1_0 : w'.cell? ⟨w.heap.size + 1, 0, none⟩ = some (.int .i64 (gd)) := (step_blk hb (show Blk _ (w.heap.size + 1) 45 #[.int .i64 (gd), .int .i64 (gv)] by repeat' (first | exact Blk.at_ _ (by first | rfl | (simp; done) | (simp; omega)) _ _ | refine Blk.drewN ?_ _ | refine Blk.drew ?_ | refine Blk.alloc ?_ _ | refine Blk.far ?_ (by first | omega | (simp; done) | (simp; omega)) _ | assumption))).cell 0
         have y1_1 : w'.cell? ⟨w.heap.size + 1, 1, none⟩ = some (.int .i64 (gv)) := (step_blk hb (show Blk _ (w.heap.size + 1) 45 #[.int .i64 (gd), .int .i64 (gv)] by repeat' (first | exact Blk.at_ _ (by first | rfl | (simp; done) | (simp; omega)) _ _ | refine Blk.drewN ?_ _ | refine Blk.drew ?_ | refine Blk.alloc ?_ _ | refine Blk.far ?_ (by first | omega | (simp; done) | (simp; omega)) _ | assumption))).cell 1
         clear hk hD hb
         go_simp
         try rfl
       simp only [Act.put, List.setIfInBounds_toArray, List.set_cons_zero, List.set_cons_succ]))
  refine Fx.nil_ ?_
  intro f w1 hall hb
  try clear hall
  have HB1 := Lib.hid (show Below w.heap.size w w1 from step_below hb (by repeat' (first | exact Below.refl _ _ | exact HB0.out | refine below_drewN ?_ _ | refine Below.drew ?_ | refine Below.alloc ?_ (by first | omega | (simp; done) | (simp; omega) | (simp [World.setCell]; omega)) _ | refine Below.setCell ?_ (by first | omega | (simp; done) | (simp; omega)) _ | assumption)))
  have K0_1 := Lib.hid (step_blk hb (show Blk _ (w.heap.size) 23 #[.int .i64 (rn), .int .i64 (rd)] by repeat' (first | exact Blk.at_ _ (by first | rfl | (simp; done) | (simp; omega)) _ _ | refine Blk.drewN ?_ _ | refine Blk.drew ?_ | refine Blk.alloc ?_ _ | refine Blk.far ?_ (by first | omega | (simp; done) | (simp; omega)) _ | assumption)))
  have K1_1 := Lib.hid (step_blk hb (show Blk _ (w.heap.size + 1) 45 #[.int .i64 (gd), .int .i64 (gv)] by repeat' (first | exact Blk.at_ _ (by first | rfl | (simp; done) | (simp; omega)) _ _ | refine Blk.drewN ?_ _ | refine Blk.drew ?_ | refine Blk.alloc ?_ _ | refine Blk.far ?_ (by first | omega | (simp; done) | (simp; omega)) _ | assumption)))
  have hz1 := hb.size
  try simp only [World.size_alloc, World.drewN, World.drew] at hz1
  clear hb
  have l0_1 : w.heap.size < w1.heap.size := K0_1.out.lt
  have z0_0_1 : w1.cell? ⟨w.heap.size, 0, none⟩ = some (.int .i64 (rn)) := K0_1.out.cell 0
  have z0_1_1 : w1.cell? ⟨w.heap.size, 1, none⟩ = some (.int .i64 (rd)) := K0_1.out.cell 1
  have l1_1 : w.heap.size + 1 < w1.heap.size := K1_1.out.lt
  have z1_0_1 : w1.cell? ⟨w.heap.size + 1, 0, none⟩ = some (.int .i64 (gd)) := K1_1.out.cell 0
  have z1_1_1 : w1.cell? ⟨w.heap.size + 1, 1, none⟩ = some (.int .i64 (gv)) := K1_1.out.cell 1
  rw [V4.out]
  go_wp2
  go_ret2
  exact ⟨rfl, by repeat' (first | exact Below.refl _ _ | exact HB1.out | refine below_drewN ?_ _ | refine Below.drew ?_ | refine Below.alloc ?_ (by first | omega | (simp; done) | (simp; omega) | (simp [World.setCell]; omega)) _ | refine Below.setCell ?_ (by first | omega | (simp; done) | (simp; omega)) _ | assumption)⟩

def nearB (rn rd : Int) (g h : Int × Int) : Bool := decide (offF rn rd g.1 g.2 * h.2 < offF rn rd h.1 h.2 * g.2)

theorem nearer_any (rn rd gd gv hd hv : Int) (w : World) (h1 : 0 ≤ rn) (h2 : rn ≤ 1000000000) (h3 : 0 ≤ rd) (h4 : rd ≤ 1000000000)
    (a1 : 0 ≤ gd) (a2 : gd ≤ 500) (b1 : 0 ≤ gv) (b2 : gv ≤ 500) (c1 : 0 ≤ hd) (c2 : hd ≤ 500) (d1 : 0 ≤ hv) (d2 : hv ≤ 500) :
    Calls Try.prog 36 #[.agg #[.int .i64 rn, .int .i64 rd], .agg #[.int .i64 gd, .int .i64 gv], .agg #[.int .i64 hd, .int .i64 hv]] w fun e w' =>
      e = .returned (.bool (nearB rn rd (gd, gv) (hd, hv))) ∧ Below w.heap.size w w' := by
  have m1 := mul_bound h1 h2 b1 b2
  have m2 := mul_bound a1 a2 h3 h4
  have m3 := mul_bound h1 h2 d1 d2
  have m4 := mul_bound c1 c2 h3 h4
  have o1 := off_bound h1 h2 h3 h4 a1 a2 b1 b2
  have o2 := off_bound h1 h2 h3 h4 c1 c2 d1 d2
  have p1 := mul_bound o1.1 o1.2 d1 d2
  have p2 := mul_bound o2.1 o2.2 b1 b2
  obtain ⟨p1a, p1b⟩ := p1
  obtain ⟨p2a, p2b⟩ := p2
  go_enter Try.func36, Try.ntmps36
  go_wp2_with fail
  refine (off_any rn rd gd gv _ (by omega) (by omega) (by omega) (by omega)).mono ?_
  rintro e w1 ⟨rfl, hb⟩
  have HB1 := Lib.hid (show Below w.heap.size w w1 from step_below hb (by repeat' (first | exact Below.refl _ _ | exact HB0.out | refine below_drewN ?_ _ | refine Below.drew ?_ | refine Below.alloc ?_ (by first | omega | (simp; done) | (simp; omega) | (simp [World.setCell]; omega)) _ | refine Below.setCell ?_ (by first | omega | (simp; done) | (simp; omega)) _ | assumption)))
  have K0_1 := Lib.hid (step_blk hb (show Blk _ (w.heap.size) 23 #[.int .i64 (rn), .int .i64 (rd)] by repeat' (first | exact Blk.at_ _ (by first | rfl | (simp; done) | (simp; omega)) _ _ | refine Blk.drewN ?_ _ | refine Blk.drew ?_ | refine Blk.alloc ?_ _ | refine Blk.far ?_ (by first | omega | (simp; done) | (simp; omega)) _ | assumption)))
  have K1_1 := Lib.hid (step_blk hb (show Blk _ (w.heap.size + 1) 45 #[.int .i64 (gd), .int .i64 (gv)] by repeat' (first | exact Blk.at_ _ (by first | rfl | (simp; done) | (simp; omega)) _ _ | refine Blk.drewN ?_ _ | refine Blk.drew ?_ | refine Blk.alloc ?_ _ | refine Blk.far ?_ (by first | omega | (simp; done) | (simp; omega)) _ | assumption)))
  have K2_1 := Lib.hid (step_blk hb (show Blk _ (w.heap.size + 2) 45 #[.int .i64 (hd), .int .i64 (hv)] by repeat' (first | exact Blk.at_ _ (by first | rfl | (simp; done) | (simp; omega)) _ _ | refine Blk.drewN ?_ _ | refine Blk.drew ?_ | refine Blk.alloc ?_ _ | refine Blk.far ?_ (by first | omega | (simp; done) | (simp; omega)) _ | assumption)))
  have hz1 := hb.size
  try simp only [World.size_alloc, World.drewN, World.drew] at hz1
  clear hb
  have l0_1 : w.heap.size < w1.heap.size := K0_1.out.lt
  have z0_0_1 : w1.cell? ⟨w.heap.size, 0, none⟩ = some (.int .i64 (rn)) := K0_1.out.cell 0
  have z0_1_1 : w1.cell? ⟨w.heap.size, 1, none⟩ = some (.int .i64 (rd)) := K0_1.out.cell 1
  have l1_1 : w.heap.size + 1 < w1.heap.size := K1_1.out.lt
  have z1_0_1 : w1.cell? ⟨w.heap.size + 1, 0, none⟩ = some (.int .i64 (gd)) := K1_1.out.cell 0
  have z1_1_1 : w1.cell? ⟨w.heap.size + 1, 1, none⟩ = some (.int .i64 (gv)) := K1_1.out.cell 1
  have l2_1 : w.heap.size + 2 < w1.heap.size := K2_1.out.lt
  have z2_0_1 : w1.cell? ⟨w.heap.size + 2, 0, none⟩ = some (.int .i64 (hd)) := K2_1.out.cell 0
  have z2_1_1 : w1.cell? ⟨w.heap.size + 2, 1, none⟩ = some (.int .i64 (hv)) := K2_1.out.cell 1
  go_wp2_with fail
  refine (off_any rn rd hd hv _ (by omega) (by omega) (by omega) (by omega)).mono ?_
  rintro e w2 ⟨rfl, hb⟩
  have HB2 := Lib.hid (show Below w.heap.size w w2 from step_below hb (by repeat' (first | exact Below.refl _ _ | exact HB1.out | refine below_drewN ?_ _ | refine Below.drew ?_ | refine Below.alloc ?_ (by first | omega | (simp; done) | (simp; omega) | (simp [World.setCell]; omega)) _ | refine Below.setCell ?_ (by first | omega | (simp; done) | (simp; omega)) _ | assumption)))
  have K0_2 := Lib.hid (step_blk hb (show Blk _ (w.heap.size) 23 #[.int .i64 (rn), .int .i64 (rd)] by repeat' (first | exact K0_1.out | exact K1_1.out | exact K2_1.out | exact Blk.at_ _ (by first | rfl | (simp; done) | (simp; omega)) _ _ | refine Blk.drewN ?_ _ | refine Blk.drew ?_ | refine Blk.alloc ?_ _ | refine Blk.far ?_ (by first | omega | (simp; done) | (simp; omega)) _ | assumption)))
  have K1_2 := Lib.hid (step_blk hb (show Blk _ (w.heap.size + 1) 45 #[.int .i64 (gd), .int .i64 (gv)] by repeat' (first | exact K0_1.out | exact K1_1.out | exact K2_1.out | exact Blk.at_ _ (by first | rfl | (simp; done) | (simp; omega)) _ _ | refine Blk.drewN ?_ _ | refine Blk.drew ?_ | refine Blk.alloc ?_ _ | refine Blk.far ?_ (by first | omega | (simp; done) | (simp; omega)) _ | assumption)))
  have K2_2 := Lib.hid (step_blk hb (show Blk _ (w.heap.size + 2) 45 #[.int .i64 (hd), .int .i64 (hv)] by repeat' (first | exact K0_1.out | exact K1_1.out | exact K2_1.out | exact Blk.at_ _ (by first | rfl | (simp; done) | (simp; omega)) _ _ | refine Blk.drewN ?_ _ | refine Blk.drew ?_ | refine Blk.alloc ?_ _ | refine Blk.far ?_ (by first | omega | (simp; done) | (simp; omega)) _ | assumption)))
  have hz2 := hb.size
  try simp only [World.size_alloc, World.drewN, World.drew] at hz2
  clear hb K0_1 K1_1 K2_1 z0_0_1 z0_1_1 l0_1 z1_0_1 z1_1_1 l1_1 z2_0_1 z2_1_1 l2_1
  have l0_2 : w.heap.size < w2.heap.size := K0_2.out.lt
  have z0_0_2 : w2.cell? ⟨w.heap.size, 0, none⟩ = some (.int .i64 (rn)) := K0_2.out.cell 0
  have z0_1_2 : w2.cell? ⟨w.heap.size, 1, none⟩ = some (.int .i64 (rd)) := K0_2.out.cell 1
  have l1_2 : w.heap.size + 1 < w2.heap.size := K1_2.out.lt
  have z1_0_2 : w2.cell? ⟨w.heap.size + 1, 0, none⟩ = some (.int .i64 (gd)) := K1_2.out.cell 0
  have z1_1_2 : w2.cell? ⟨w.heap.size + 1, 1, none⟩ = some (.int .i64 (gv)) := K1_2.out.cell 1
  have l2_2 : w.heap.size + 2 < w2.heap.size := K2_2.out.lt
  have z2_0_2 : w2.cell? ⟨w.heap.size + 2, 0, none⟩ = some (.int .i64 (hd)) := K2_2.out.cell 0
  have z2_1_2 : w2.cell? ⟨w.heap.size + 2, 1, none⟩ = some (.int .i64 (hv)) := K2_2.out.cell 1
  go_wp2
  go_ret
  exact ⟨rfl, by repeat' (first | exact Below.refl _ _ | exact HB2.out | refine below_drewN ?_ _ | refine Below.drew ?_ | refine Below.alloc ?_ (by first | omega | (simp; done) | (simp; omega) | (simp [World.setCell]; omega)) _ | refine Below.setCell ?_ (by first | omega | (simp; done) | (simp; omega)) _ | assumption)⟩

theorem isteeth_any (n : Int) (t : Bool) (h : withinB n 1 500 = t) (w : World) : Calls Try.prog 78 #[.int .i64 n] w fun e w' => e = .returned (.bool t) ∧ w = w' := by
  go_enter Try.func78, Try.ntmps78
  go_wp2_with (go_at_call 31; refine (withinref_is _ _ _ _ h _).mono ?_; rintro e w' ⟨rfl, rfl⟩)
  go_ret
  exact ⟨rfl, rfl⟩

set_option maxHeartbeats 1000000 in
theorem checksearch_any (rn rd lo hi : Int) (w : World) (h1 : -9223372036854775808 ≤ rn) (h2 : rn ≤ 9223372036854775807) (h3 : -9223372036854775808 ≤ rd) (h4 : rd ≤ 9223372036854775807) :
    Calls Try.prog 33 #[.agg #[.int .i64 rn, .int .i64 rd], .int .i64 lo, .int .i64 hi] w fun e w' => e = .returned (.int .i64 (searchErr rn rd lo hi)) ∧ Below w.heap.size w w' := by
  have hcs : (fracErr rn rd ≠ 0) ∨ (fracErr rn rd = 0 ∧ rn ≤ 0) ∨ (fracErr rn rd = 0 ∧ ¬ rn ≤ 0 ∧ withinB lo 1 500 = false) ∨ (fracErr rn rd = 0 ∧ ¬ rn ≤ 0 ∧ withinB lo 1 500 = true ∧ withinB hi 1 500 = false) ∨
      (fracErr rn rd = 0 ∧ ¬ rn ≤ 0 ∧ withinB lo 1 500 = true ∧ withinB hi 1 500 = true ∧ hi < lo) ∨ (fracErr rn rd = 0 ∧ ¬ rn ≤ 0 ∧ withinB lo 1 500 = true ∧ withinB hi 1 500 = true ∧ ¬ hi < lo) := by
    by_cases a : fracErr rn rd = 0 <;> by_cases b : rn ≤ 0 <;> cases withinB lo 1 500 <;> cases withinB hi 1 500 <;> by_cases c : hi < lo <;> simp [a, b, c]
  obtain ⟨E, hE⟩ : ∃ E, searchErr rn rd lo hi = E := ⟨_, rfl⟩
  rw [hE]
  have HE := Lib.hid hE
  clear hE
  have HC := Lib.hid hcs
  clear hcs
  go_enter Try.func33, Try.ntmps33
  go_wp2_with fail
  refine (checkfracref_any _ _ _ h1 h2 h3 h4).mono ?_
  rintro e w1 ⟨rfl, hb⟩
  have HB1 := Lib.hid (show Below w.heap.size w w1 from step_below hb (by repeat' (first | exact Below.refl _ _ | exact HB0.out | refine below_drewN ?_ _ | refine Below.drew ?_ | refine Below.alloc ?_ (by first | omega | (simp; done) | (simp; omega) | (simp [World.setCell]; omega)) _ | refine Below.setCell ?_ (by first | omega | (simp; done) | (simp; omega)) _ | assumption)))
  have K0_1 := Lib.hid (step_blk hb (show Blk _ (w.heap.size) 23 #[.int .i64 (rn), .int .i64 (rd)] by repeat' (first | exact Blk.at_ _ (by first | rfl | (simp; done) | (simp; omega)) _ _ | refine Blk.drewN ?_ _ | refine Blk.drew ?_ | refine Blk.alloc ?_ _ | refine Blk.far ?_ (by first | omega | (simp; done) | (simp; omega)) _ | assumption)))
  have hz1 := hb.size
  try simp only [World.size_alloc, World.drewN, World.drew] at hz1
  clear hb
  have l0_1 : w.heap.size < w1.heap.size := K0_1.out.lt
  have z0_0_1 : w1.cell? ⟨w.heap.size, 0, none⟩ = some (.int .i64 (rn)) := K0_1.out.cell 0
  have z0_1_1 : w1.cell? ⟨w.heap.size, 1, none⟩ = some (.int .i64 (rd)) := K0_1.out.cell 1
  rcases HC.out with a | ⟨a, b⟩ | ⟨a, b, c⟩ | ⟨a, b, c, d⟩ | ⟨a, b, c, d, g⟩ | ⟨a, b, c, d, g⟩
  · have ha : (fracErr rn rd != 0) = true := bne_iff_ne.2 a
    have hv : E = fracErr rn rd := by rw [← HE.out]; unfold searchErr; rw [if_pos a]
    have HV := Lib.hid hv
    clear hv a
    go_wp2
    go_ret
    exact ⟨ret_int HV.out.symm, HB1.out⟩
  all_goals
    clear HC
    go_wp2_with (first | (go_at_call 78; refine (isteeth_any _ _ (by assumption) _).mono ?_; rintro e w' ⟨rfl, rfl⟩))
    go_ret
    have hx := HE.out
    unfold searchErr at hx
    rw [if_neg (by rw [a]; simp)] at hx
    exact ⟨ret_int (by rw [← hx]; (repeat' split) <;> simp_all <;> omega), HB1.out⟩

/-- The reference's search: by sums, then by the driver. -/
def rstepF (rn rd lo hi : Int) (o : Int × Int) (g : Int × Int) : Int × Int := if withinB g.2 lo hi && nearB rn rd g o then g else o
def rrowF (rn rd lo hi : Int) (s : Int) (m : Nat) (o : Int × Int) : Int × Int := (List.range m).foldl (fun o (i : Nat) => rstepF rn rd lo hi o (lo + (i : Int), s - (lo + (i : Int)))) o
def rbestF (rn rd lo hi : Int) (m k : Nat) : Int × Int := (List.range k).foldl (fun o (j : Nat) => rrowF rn rd lo hi (2 * lo + (j : Int)) m o) (lo, lo)
theorem rrowF_succ (rn rd lo hi s : Int) (m : Nat) (o : Int × Int) : rrowF rn rd lo hi s (m + 1) o = rstepF rn rd lo hi (rrowF rn rd lo hi s m o) (lo + (m : Int), s - (lo + (m : Int))) := by
  unfold rrowF; rw [List.range_succ, List.foldl_append]; rfl
theorem rbestF_succ (rn rd lo hi : Int) (m k : Nat) : rbestF rn rd lo hi m (k + 1) = rrowF rn rd lo hi (2 * lo + (k : Int)) m (rbestF rn rd lo hi m k) := by
  unfold rbestF; rw [List.range_succ, List.foldl_append]; rfl

theorem nearer_is (rn rd gd gv : Int) (h : Int × Int) (t : Bool) (ht : nearB rn rd (gd, gv) h = t) (w : World) (h1 : 0 ≤ rn) (h2 : rn ≤ 1000000000) (h3 : 0 ≤ rd) (h4 : rd ≤ 1000000000)
    (a1 : 0 ≤ gd) (a2 : gd ≤ 500) (b1 : 0 ≤ gv) (b2 : gv ≤ 500) (c1 : 0 ≤ h.1) (c2 : h.1 ≤ 500) (d1 : 0 ≤ h.2) (d2 : h.2 ≤ 500) :
    Calls Try.prog 36 #[.agg #[.int .i64 rn, .int .i64 rd], .agg #[.int .i64 gd, .int .i64 gv], .agg #[.int .i64 h.1, .int .i64 h.2]] w fun e w' =>
      e = .returned (.bool t) ∧ Below w.heap.size w w' := ht ▸ nearer_any rn rd gd gv h.1 h.2 w h1 h2 h3 h4 a1 a2 b1 b2 c1 c2 d1 d2

set_option maxRecDepth 100000 in
set_option maxHeartbeats 1000000 in
theorem rbest_any (rn rd lo hi : Int) (w : World) (h1' : 0 ≤ rn) (h2' : rn ≤ 1000000000) (h3' : 0 ≤ rd) (h4' : rd ≤ 1000000000) (a1 : 1 ≤ lo) (a2 : lo ≤ hi) (a3 : hi ≤ 500) :
    Calls Try.prog 34 #[.agg #[.int .i64 rn, .int .i64 rd], .int .i64 lo, .int .i64 hi] w fun e w' =>
      e = .returned (.agg #[.int .i64 (rbestF rn rd lo hi (hi - lo + 1).toNat (2 * (hi - lo) + 1).toNat).1, .int .i64 (rbestF rn rd lo hi (hi - lo + 1).toNat (2 * (hi - lo) + 1).toNat).2]) ∧ Below w.heap.size w w' := by
  obtain ⟨m, hm⟩ : ∃ m : Nat, hi = lo + m := ⟨(hi - lo).toNat, by omega⟩
  have hmm : (hi - lo + 1).toNat = m + 1 := by omega
  have hmk : (2 * (hi - lo) + 1).toNat = 2 * m + 1 := by omega
  rw [hmm, hmk]
  clear hmm hmk
  have hm2 : lo + m ≤ 500 := by omega
  subst hm
  clear a2 a3
  go_enter Try.func34, Try.ntmps34
  go_wp2
  go_loopw [8] (fun i wr => ∃ k : Nat, k ≤ 2 * m + 1 ∧ i = .int .i64 (2 * lo + k) ∧ Below w.heap.size w wr ∧ w.heap.size + 3 ≤ wr.heap.size ∧ Blk wr w.heap.size 23 #[.int .i64 rn, .int .i64 rd] ∧ Blk wr (w.heap.size + 1) 45 #[.int .i64 0, .int .i64 0] ∧
      ∃ o : Int × Int, o = rbestF rn rd lo (lo + m) (m + 1) k ∧ 1 ≤ o.1 ∧ o.1 ≤ 500 ∧ 1 ≤ o.2 ∧ o.2 ≤ 500 ∧ Blk wr (w.heap.size + 1 + 1) 45 #[.int .i64 o.1, .int .i64 o.2]) (fun i _ => (2 * lo + 2 * m + 1 - intOf i).toNat)
  case atStart =>
    refine ⟨0, by omega, by simp, ?_, by simp, ?_, ?_, (lo, lo), rfl, a1, by simp; omega, a1, by simp; omega, ?_⟩
    · repeat' (first | exact Below.refl _ _ | assumption | refine below_drewN ?_ _ | refine Below.drew ?_ | refine Below.alloc ?_ (by first | omega | (simp; done) | (simp; omega)) _ | refine Below.setCell ?_ (by first | omega | (simp; done) | (simp; omega)) _)
    · repeat' (first | assumption | exact Blk.at_ _ (by first | rfl | (simp; done) | (simp; omega)) _ _ | refine Blk.drewN ?_ _ | refine Blk.drew ?_ | refine Blk.alloc ?_ _ | refine Blk.far ?_ (by first | omega | (simp; done) | (simp; omega)) _)
    · repeat' (first | assumption | exact Blk.at_ _ (by first | rfl | (simp; done) | (simp; omega)) _ _ | refine Blk.drewN ?_ _ | refine Blk.drew ?_ | refine Blk.alloc ?_ _ | refine Blk.far ?_ (by first | omega | (simp; done) | (simp; omega)) _)
    · repeat' (first | assumption | exact Blk.at_ _ (by first | rfl | (simp; done) | (simp; omega)) _ _ | refine Blk.drewN ?_ _ | refine Blk.drew ?_ | refine Blk.alloc ?_ _ | refine Blk.far ?_ (by first | omega | (simp; done) | (simp; omega)) _)
  case round =>
    obtain ⟨k, hk, rfl, hbel, hsz, hb0, hb1, o, ho, o1, o2, o3, o4, hb2⟩ := hrel
    have HO := Lib.hid ho
    clear ho
    by_cases hlt : k < 2 * m + 1
    · have hd : decide (2 * lo + (k : Int) ≤ 2 * (lo + (m : Int))) = true := by simp; omega
      go_wp2
      obtain ⟨wo, hwo⟩ : ∃ wo : World, wo = wr := ⟨_, rfl⟩
      subst hwo
      go_loopw [9] (fun i wr => ∃ j : Nat, j ≤ m + 1 ∧ i = .int .i64 (lo + j) ∧ Below w.heap.size w wr ∧ w.heap.size + 3 ≤ wr.heap.size ∧ Blk wr w.heap.size 23 #[.int .i64 rn, .int .i64 rd] ∧ Blk wr (w.heap.size + 1) 45 #[.int .i64 0, .int .i64 0] ∧
          ∃ q : Int × Int, q = rrowF rn rd lo (lo + m) (2 * lo + k) j o ∧ 1 ≤ q.1 ∧ q.1 ≤ 500 ∧ 1 ≤ q.2 ∧ q.2 ≤ 500 ∧ Blk wr (w.heap.size + 1 + 1) 45 #[.int .i64 q.1, .int .i64 q.2]) (fun i _ => (lo + m + 1 - intOf i).toNat)
      case atStart => exact ⟨0, by omega, by simp, hbel, hsz, hb0, hb1, o, rfl, o1, o2, o3, o4, hb2⟩
      case round =>
        obtain ⟨j, hj, rfl, hbel2, hsz2, hc0, hc1, q, hq, q1, q2, q3, q4, hc2⟩ := hrel
        have HQ := Lib.hid hq
        clear hq
        by_cases hlt2 : j < m + 1
        · have hstep : rrowF rn rd lo (lo + m) (2 * lo + k) (j + 1) o = rstepF rn rd lo (lo + m) q (lo + j, 2 * lo + k - (lo + j)) := by rw [rrowF_succ, ← HQ.out]
          have HST := Lib.hid hstep
          clear hstep
          have HK0 := Lib.hid hc0
          have HK1 := Lib.hid hc1
          have HK2 := Lib.hid hc2
          have HBEL := Lib.hid hbel2
          have x0 : ∀ o, (wr.alloc o).cell? ⟨w.heap.size, 0, none⟩ = some (.int .i64 rn) := fun o => (HK0.out.alloc o).cell 0
          have x1 : ∀ o, (wr.alloc o).cell? ⟨w.heap.size, 1, none⟩ = some (.int .i64 rd) := fun o => (HK0.out.alloc o).cell 1
          have x2 : ∀ o, (wr.alloc o).cell? ⟨w.heap.size + 1 + 1, 0, none⟩ = some (.int .i64 q.1) := fun o => (HK2.out.alloc o).cell 0
          have x3 : ∀ o, (wr.alloc o).cell? ⟨w.heap.size + 1 + 1, 1, none⟩ = some (.int .i64 q.2) := fun o => (HK2.out.alloc o).cell 1
          clear hc0 hc1 hc2 hbel2 hbel hb0 hb1 hb2
          cases hwi : withinB (2 * lo + k - (lo + j)) lo (lo + m)
          · have HWI := Lib.hid hwi
            clear hwi
            go_wp2_with (go_at_call 31; refine (withinref_is _ _ _ _ HWI.out _).mono ?_; rintro e w' ⟨rfl, rfl⟩)
            go_roundw
            case rel =>
              refine ⟨j + 1, by omega, by go_num, HBEL.out.alloc (by omega) _, by simp; omega, HK0.out.alloc _, HK1.out.alloc _, q, ?_, q1, q2, q3, q4, HK2.out.alloc _⟩
              rw [HST.out]; unfold rstepF; simp only [HWI.out]; rfl
            case measure => simp [intOf]; omega
          · obtain ⟨wi1, wi2⟩ := (withinB_iff _ _ _).1 hwi
            have HWI := Lib.hid hwi
            clear hwi
            cases hn : nearB rn rd (lo + j, 2 * lo + k - (lo + j)) q
            all_goals
              have HN := Lib.hid hn
              clear hn
              go_wp2_with (go_at_call 31; refine (withinref_is _ _ _ _ HWI.out _).mono ?_; rintro e w' ⟨rfl, rfl⟩)
              refine (nearer_is rn rd _ _ q _ HN.out _ h1' h2' h3' h4' (by omega) (by omega) (by omega) (by omega) (by omega) (by omega) (by omega) (by omega)).mono ?_
              rintro e wn ⟨rfl, hbn⟩
              have kn0 := step_blk hbn (HK0.out.alloc _)
              have kn1 := step_blk hbn (HK1.out.alloc _)
              have kn2 := step_blk hbn (HK2.out.alloc _)
              have kn3 := step_blk hbn (Blk.new wr 45 #[.int .i64 (lo + j), .int .i64 (2 * lo + k - (lo + j))])
              have hbw := step_below hbn (HBEL.out.alloc (by omega) _)
              have hsn : wr.heap.size + 1 ≤ wn.heap.size := by have := hbn.size; simpa using this
              have KN0 := Lib.hid kn0
              have KN1 := Lib.hid kn1
              have KN2 := Lib.hid kn2
              have r0 : wn.cell? ⟨wr.heap.size, 0, none⟩ = some (.int .i64 (lo + j)) := kn3.cell 0
              have r1 : wn.cell? ⟨wr.heap.size, 1, none⟩ = some (.int .i64 (2 * lo + k - (lo + j))) := kn3.cell 1
              have s0 : wn.cell? ⟨w.heap.size + 1 + 1, 0, none⟩ = some (.int .i64 q.1) := kn2.cell 0
              have s1 : wn.cell? ⟨w.heap.size + 1 + 1, 1, none⟩ = some (.int .i64 q.2) := kn2.cell 1
              have z0 := kn2.frozen 0
              have z1 := kn2.frozen 1
              have HBW := Lib.hid hbw
              clear hbn kn0 kn1 kn2 kn3 hbw
              go_wp2
              go_roundw
              case rel =>
                first
                | (refine ⟨j + 1, by omega, by go_num, HBW.out, by omega, KN0.out, KN1.out, q, ?_, q1, q2, q3, q4, KN2.out⟩
                   rw [HST.out]; unfold rstepF; simp only [HWI.out, HN.out]; rfl)
                | (refine ⟨j + 1, by omega, by go_num, (HBW.out.setCell (p := ⟨w.heap.size + 1 + 1, 0, none⟩) (by simp; omega) _).setCell (p := ⟨w.heap.size + 1 + 1, 1, none⟩) (by simp; omega) _, by simp [World.setCell]; omega,
                     (KN0.out.far (by simp; omega) _).far (by simp; omega) _, (KN1.out.far (by simp) _).far (by simp) _, (lo + j, 2 * lo + k - (lo + j)), ?_, by simp; omega, by simp; omega, by simp; omega, by simp; omega, ?_⟩
                   · rw [HST.out]; unfold rstepF; simp only [HWI.out, HN.out]; rfl
                   · exact (KN2.out.set_ 0 _).set_ 1 _)
              case measure => simp [intOf]; omega
        · have hjm : j = m + 1 := by omega
          have HK : Hid (rbestF rn rd lo (lo + m) (m + 1) (k + 1) = q) := by show _ = _; rw [rbestF_succ, ← HO.out, HQ.out, hjm]
          clear hjm
          go_wp2
          go_roundw
          case rel => exact ⟨k + 1, by omega, by go_num, hbel2, hsz2, hc0, hc1, q, HK.out.symm, q1, q2, q3, q4, hc2⟩
          case measure => simp [intOf]; omega
    · have hkm : k = 2 * m + 1 := by omega
      have HK : Hid (rbestF rn rd lo (lo + m) (m + 1) (2 * m + 1) = o) := by show _ = _; rw [HO.out, hkm]
      clear hkm
      have s0 : wr.cell? ⟨w.heap.size + 1 + 1, 0, none⟩ = some (.int .i64 o.1) := hb2.cell 0
      have s1 : wr.cell? ⟨w.heap.size + 1 + 1, 1, none⟩ = some (.int .i64 o.2) := hb2.cell 1
      have u0 : wr.cell? ⟨w.heap.size + 1, 0, none⟩ = some (.int .i64 0) := hb1.cell 0
      have u1 : wr.cell? ⟨w.heap.size + 1, 1, none⟩ = some (.int .i64 0) := hb1.cell 1
      have z0 := hb1.frozen 0
      have z1 := hb1.frozen 1
      go_wp2
      exact bodyPost_ret (v := .agg #[.int .i64 o.1, .int .i64 o.2]) (by simp [results, Try.results34, go_sem, u0, u1]) rfl ⟨by rw [HK.out], (hbel.setCell (p := ⟨w.heap.size + 1, 0, none⟩) (by simp) _).setCell (p := ⟨w.heap.size + 1, 1, none⟩) (by simp) _⟩

end Go.Proofs.Ytmioamcgbihhjaa

end
