import Derived.Test.YtoiconebcmneiabQ12
import Derived.Test.YtoiconebcmneiabQ9
import Derived.Test.YtoiconebcmneiabQ5

section
/- Contracts of the check of a search for gears, and of the best pair. -/
namespace Go.Proofs.Ytoiconebcmneiab
open Go.RowKit

def searchErr (rn rd lo hi : Int) : Int :=
  if fracErr rn rd ≠ 0 then fracErr rn rd else if rn ≤ 0 ∨ withinB lo 1 500 = false ∨ withinB hi 1 500 = false then 2 else if hi < lo then 9 else 0

set_option maxHeartbeats 1000000 in
theorem checkbest_any (rn rd lo hi : Int) (w : World) (h1 : -9223372036854775808 ≤ rn) (h2 : rn ≤ 9223372036854775807) (h3 : -9223372036854775808 ≤ rd) (h4 : rd ≤ 9223372036854775807) :
    Calls Try.prog 82 #[.agg #[.int .i64 rn, .int .i64 rd], .int .i64 lo, .int .i64 hi] w fun e w' => e = .returned (.int .i64 (searchErr rn rd lo hi)) ∧ Below w.heap.size w w' := by
  have hcs : (fracErr rn rd ≠ 0) ∨ (fracErr rn rd = 0 ∧ rn ≤ 0) ∨ (fracErr rn rd = 0 ∧ ¬ rn ≤ 0 ∧ withinB lo 1 500 = false) ∨ (fracErr rn rd = 0 ∧ ¬ rn ≤ 0 ∧ withinB lo 1 500 = true ∧ withinB hi 1 500 = false) ∨
      (fracErr rn rd = 0 ∧ ¬ rn ≤ 0 ∧ withinB lo 1 500 = true ∧ withinB hi 1 500 = true ∧ hi < lo) ∨ (fracErr rn rd = 0 ∧ ¬ rn ≤ 0 ∧ withinB lo 1 500 = true ∧ withinB hi 1 500 = true ∧ ¬ hi < lo) := by
    by_cases a : fracErr rn rd = 0 <;> by_cases b : rn ≤ 0 <;> cases withinB lo 1 500 <;> cases withinB hi 1 500 <;> by_cases c : hi < lo <;> simp [a, b, c]
  obtain ⟨E, hE⟩ : ∃ E, searchErr rn rd lo hi = E := ⟨_, rfl⟩
  rw [hE]
  have HE := Lib.hid hE
  clear hE
  go_enter Try.func82, Try.ntmps82
  go_wp2_with fail
  refine (checkfrac_any _ _ _ h1 h2 h3 h4).mono ?_
  rintro e w1 ⟨rfl, hb⟩
  simp only [World.size_alloc] at hb
  have c0 : w1.cell? ⟨w.heap.size, 0, none⟩ = some (.int .i64 rn) := by rw [hb.cell (by simp)]; go_simp
  have c1 : w1.cell? ⟨w.heap.size, 1, none⟩ = some (.int .i64 rd) := by rw [hb.cell (by simp)]; go_simp
  have q1 : Below w.heap.size w w1 := ((Below.refl _ _).alloc (Nat.le_refl _) _).trans (hb.mono (by omega))
  have HB := Lib.hid q1
  clear q1 hb
  have HC := Lib.hid hcs
  clear hcs
  rcases HC.out with a | ⟨a, b⟩ | ⟨a, b, c⟩ | ⟨a, b, c, d⟩ | ⟨a, b, c, d, g⟩ | ⟨a, b, c, d, g⟩
  · have ha : (fracErr rn rd != 0) = true := bne_iff_ne.2 a
    have hv : E = fracErr rn rd := by rw [← HE.out]; unfold searchErr; rw [if_pos a]
    have HV := Lib.hid hv
    clear hv a
    go_wp2
    go_ret
    exact ⟨ret_int HV.out.symm, HB.out⟩
  all_goals
    clear HC
    go_wp2_with (first | (go_at_call 46; refine (withinsup_is _ _ _ _ (by assumption) _).mono ?_; rintro e w' ⟨rfl, rfl⟩))
    go_ret
    have hx := HE.out
    unfold searchErr at hx
    rw [if_neg (by rw [a]; simp)] at hx
    exact ⟨ret_int (by rw [← hx]; (repeat' split) <;> simp_all <;> omega), HB.out⟩

theorem searchErr_ok {rn rd lo hi : Int} (h : searchErr rn rd lo hi = 0) : fracErr rn rd = 0 ∧ 1 ≤ rn ∧ rn ≤ 1000000000 ∧ 1 ≤ rd ∧ rd ≤ 1000000000 ∧ 1 ≤ lo ∧ lo ≤ hi ∧ hi ≤ 500 := by
  unfold searchErr at h
  split at h
  · rename_i h0; exact absurd h h0
  · rename_i h0
    have hf : fracErr rn rd = 0 := by simpa using h0
    have hf' := hf
    unfold fracErr at hf'
    split at hf'
    · simp at hf'
    · split at hf'
      · simp at hf'
      · split at h
        · simp at h
        · split at h
          · simp at h
          · rename_i g1 g2 g3 g4
            have b1 : withinB lo 1 500 = true := by cases hx : withinB lo 1 500 <;> simp_all
            have b2 : withinB hi 1 500 = true := by cases hx : withinB hi 1 500 <;> simp_all
            rw [withinB_iff] at b1 b2
            simp only [not_or] at g1 g2 g3
            refine ⟨hf, by omega, by omega, by omega, by omega, by omega, by omega, by omega⟩

/-- The best pair between two numbers of teeth. -/
def bestP (rn rd lo hi : Int) : Int × Int := bestF rn rd lo (hi - lo + 1).toNat (hi - lo + 1).toNat

def PairPost (rn rd lo hi : Int) (w : World) (e : Ending) (w' : World) : Prop :=
  Below w.heap.size w w' ∧ (searchErr rn rd lo hi ≠ 0 → e = .returned (.tuple #[.agg #[.int .i64 0, .int .i64 0], .int .i64 (searchErr rn rd lo hi)])) ∧
  (searchErr rn rd lo hi = 0 → e = .returned (.tuple #[.agg #[.int .i64 (bestP rn rd lo hi).1, .int .i64 (bestP rn rd lo hi).2], .int .i64 0]))

set_option maxHeartbeats 1000000 in
theorem bestpair_any (rn rd lo hi : Int) (w : World) (h1 : -9223372036854775808 ≤ rn) (h2 : rn ≤ 9223372036854775807) (h3 : -9223372036854775808 ≤ rd) (h4 : rd ≤ 9223372036854775807) :
    Calls Try.prog 43 #[.agg #[.int .i64 rn, .int .i64 rd], .int .i64 lo, .int .i64 hi] w (PairPost rn rd lo hi w) := by
  obtain ⟨E, hE⟩ : ∃ E, searchErr rn rd lo hi = E := ⟨_, rfl⟩
  have HE := Lib.hid hE
  go_enter Try.func43, Try.ntmps43
  go_wp2_with fail
  refine (checkbest_any _ _ _ _ _ h1 h2 h3 h4).mono ?_
  rintro e w1 ⟨rfl, hb⟩
  rw [hE]
  clear hE
  simp only [World.size_alloc] at hb
  have c0 : w1.cell? ⟨w.heap.size, 0, none⟩ = some (.int .i64 rn) := by rw [hb.cell (by simp; omega)]; go_simp
  have c1 : w1.cell? ⟨w.heap.size, 1, none⟩ = some (.int .i64 rd) := by rw [hb.cell (by simp; omega)]; go_simp
  have k : Blk w1 (w.heap.size + 1) 74 #[.int .i64 0, .int .i64 0] := Blk.below (Blk.at_ _ (by simp) _ _) hb (by omega)
  have q1 : Below w.heap.size w w1 := (((Below.refl _ _).alloc (Nat.le_refl _) _).alloc (by simp) _).trans (hb.mono (by omega))
  have d0 : w1.cell? ⟨w.heap.size + 1, 0, none⟩ = some (.int .i64 0) := k.cell 0
  have d1 : w1.cell? ⟨w.heap.size + 1, 1, none⟩ = some (.int .i64 0) := k.cell 1
  have z0 := k.frozen 0
  have z1 := k.frozen 1
  have HB := Lib.hid q1
  clear q1 hb
  by_cases he : E = 0
  · have ok := searchErr_ok (HE.out.trans he)
    have e0 : (E != 0) = false := by simp [he]
    subst he
    go_wp2_with fail
    refine (best_any rn rd lo hi _ (by omega) (by omega) (by omega) (by omega) (by omega) (by omega) (by omega)).mono ?_
    rintro e w2 ⟨rfl, hb2⟩
    have k := k.below hb2 k.lt
    have d0 : w2.cell? ⟨w.heap.size + 1, 0, none⟩ = some (.int .i64 0) := k.cell 0
    have d1 : w2.cell? ⟨w.heap.size + 1, 1, none⟩ = some (.int .i64 0) := k.cell 1
    have z0 := k.frozen 0
    have z1 := k.frozen 1
    have q2 := HB.out.trans (hb2.mono (by have := HB.out.size; omega))
    have HB2 := Lib.hid q2
    clear q2 hb2
    obtain ⟨P, hP⟩ : ∃ P, bestF rn rd lo (hi - lo + 1).toNat (hi - lo + 1).toNat = P := ⟨_, rfl⟩
    rw [hP]
    have HP := Lib.hid hP
    clear hP
    go_wp2
    have kk := (k.set_ 0 (.int .i64 (P.1))).set_ 1 (.int .i64 (P.2))
    have r0 := kk.cell 0
    have r1 := kk.cell 1
    simp only [List.setIfInBounds_toArray, List.set_cons_zero, List.set_cons_succ, List.getElem?_toArray, List.getElem?_cons_zero, List.getElem?_cons_succ] at r0 r1
    exact bodyPost_ret (v := .tuple #[.agg #[.int .i64 (P.1), .int .i64 (P.2)], .int .i64 0]) (by simp [results, Try.results43, go_sem, r0, r1]) rfl
      ⟨(HB2.out.setCell (p := ⟨w.heap.size + 1, 0, none⟩) (by simp) _).setCell (p := ⟨w.heap.size + 1, 1, none⟩) (by simp) _, fun h => absurd HE.out h, fun _ => by unfold bestP; rw [HP.out]⟩
  · have e0 : (E != 0) = true := by simp [he]
    go_wp2
    have kk := (k.set_ 0 (.int .i64 (0))).set_ 1 (.int .i64 (0))
    have r0 := kk.cell 0
    have r1 := kk.cell 1
    simp only [List.setIfInBounds_toArray, List.set_cons_zero, List.set_cons_succ, List.getElem?_toArray, List.getElem?_cons_zero, List.getElem?_cons_succ] at r0 r1
    exact bodyPost_ret (v := .tuple #[.agg #[.int .i64 (0), .int .i64 (0)], .int .i64 E]) (by simp [results, Try.results43, go_sem, r0, r1]) rfl
      ⟨(HB.out.setCell (p := ⟨w.heap.size + 1, 0, none⟩) (by simp) _).setCell (p := ⟨w.heap.size + 1, 1, none⟩) (by simp) _, fun _ => by rw [HE.out], fun h => absurd (HE.out.symm.trans h) he⟩

end Go.Proofs.Ytoiconebcmneiab

end

section
/- Contracts of the reference's comparison of pairs of gears, and of its search. -/
namespace Go.Proofs.Ytoiconebcmneiab
open Go.RowKit

theorem abs_in (a : Int) (w : World) (h1 : -9223372036854775808 < a) (h2 : a ≤ 9223372036854775807) :
    Calls Try.prog 81 #[.int .i64 a] w fun e w' => e = .returned (.int .i64 (a.natAbs : Int)) ∧ w = w' :=
  (abs_any a w (by omega) h2).mono fun e w' ⟨he, hw⟩ => ⟨by rw [he]; exact ret_int (IntWalk.wrap64_in _ ⟨by omega, by omega⟩), hw⟩

theorem lowest_any (a b : Int) (w : World) (h1 : -9223372036854775808 < a) (h2 : a ≤ 9223372036854775807) (h3 : 1 ≤ b) (h4 : b ≤ 9223372036854775807) :
    Calls Try.prog 25 #[.int .i64 a, .int .i64 b] w fun e w' => e = .returned (.agg #[.int .i64 (a / (Int.gcd a b : Int)), .int .i64 (b / (Int.gcd a b : Int))]) ∧ Below w.heap.size w w' := by
  have hg := gcd_small a b (by omega) h4
  have hp : 0 < Int.gcd a b := Int.gcd_pos_of_ne_zero_right a (by omega)
  have d1 := div_gcd_in a b h1 h2 (by omega)
  have d2 := div_gcd_in b a (by omega) h4 (by rw [Int.gcd_comm]; omega)
  rw [Int.gcd_comm b a] at d2
  have e1 := tdiv_gcd_left a b
  have e2 := tdiv_gcd_right a b
  have g0 : ¬ (Int.gcd a b : Int) = 0 := by omega
  go_enter Try.func25, Try.ntmps25
  go_wp2_with fail
  refine (gcdref_any _ _ _ (by omega) (by omega) (by omega) (by omega)).mono ?_
  rintro e w' ⟨rfl, nq, rfl⟩
  rw [hg]
  go_wp2_with fail
  go_region
  all_goals go_wp2
  all_goals exact bodyPost_ret (v := .agg #[.int .i64 (a / (Int.gcd a b : Int)), .int .i64 (b / (Int.gcd a b : Int))]) (by simp [results, Try.results25, go_sem]) rfl ⟨rfl, by repeat' (first | exact Below.refl _ _ | exact HB0.out | refine below_drewN ?_ _ | refine Below.drew ?_ | refine Below.alloc ?_ (by first | omega | (simp; done) | (simp; omega) | (simp [World.setCell]; omega)) _ | refine Below.setCell ?_ (by first | omega | (simp; done) | (simp; omega)) _ | assumption)⟩

theorem off_any (rn rd gd gv : Int) (w : World) (h1 : -4000000000000000000 ≤ rn * gv) (h2 : rn * gv ≤ 4000000000000000000) (h3 : -4000000000000000000 ≤ gd * rd) (h4 : gd * rd ≤ 4000000000000000000) :
    Calls Try.prog 78 #[.agg #[.int .i64 rn, .int .i64 rd], .agg #[.int .i64 gd, .int .i64 gv]] w fun e w' =>
      e = .returned (.tuple #[.int .i64 (offF rn rd gd gv), .int .i64 gv]) ∧ Below w.heap.size w w' := by
  have v1 := IntWalk.i64_in (rn * gv) ⟨by omega, by omega⟩
  have v2 := IntWalk.i64_in (gd * rd) ⟨by omega, by omega⟩
  have v3 := IntWalk.i64_in (gd * rd - rn * gv) ⟨by omega, by omega⟩
  have v4 : ((gd * rd - rn * gv).natAbs : Int) = offF rn rd gd gv := by unfold offF; omega
  have V4 := Lib.hid v4
  have hlo : -9223372036854775808 < gd * rd - rn * gv := by omega
  have hhi : gd * rd - rn * gv ≤ 9223372036854775807 := by omega
  clear v4
  go_enter Try.func78, Try.ntmps78
  go_wp2
  refine Fx.regionW (fun W f w' => Below W.heap.size W w') (by kernel_rfl) (by kernel_rfl) ?_ ?_
  · intro f hf0
    exact below_drewN (Below.refl _ _) 1
  repeat (first
    | (refine Fx.skip_ (by rfl) (fun f w h => h) ?_; simp only [Act.put, List.setIfInBounds_toArray, List.set_cons_zero, List.set_cons_succ])
    | (refine Fx.val_ ?_ (by rfl) ?_ (fun f w h => h) ?_
       rotate_left
       · intro f w' hD hk
         have hb := hD
         have y0_0 : w'.cell? ⟨w.heap.size, 0, none⟩ = some (.int .i64 (rn)) := (step_blk hb (show Blk _ (w.heap.size) 53 #[.int .i64 (rn), .int .i64 (rd)] by repeat' (first | exact Blk.at_ _ (by first | rfl | (simp; done) | (simp; omega)) _ _ | refine Blk.drewN ?_ _ | refine Blk.drew ?_ | refine Blk.alloc ?_ _ | refine Blk.far ?_ (by first | omega | (simp; done) | (simp; omega)) _ | assumption))).cell 0
         have y0_1 : w'.cell? ⟨w.heap.size, 1, none⟩ = some (.int .i64 (rd)) := (step_blk hb (show Blk _ (w.heap.size) 53 #[.int .i64 (rn), .int .i64 (rd)] by repeat' (first | exact Blk.at_ _ (by first | rfl | (simp; done) | (simp; omega)) _ _ | refine Blk.drewN ?_ _ | refine Blk.drew ?_ | refine Blk.alloc ?_ _ | refine Blk.far ?_ (by first | omega | (simp; done) | (simp; omega)) _ | assumption))).cell 1
         have y1_0 : w'.cell? ⟨w.heap.size + 1, 0, none⟩ = some (.int .i64 (gd)) := (step_blk hb (show Blk _ (w.heap.size + 1) 74 #[.int .i64 (gd), .int .i64 (gv)] by repeat' (first | exact Blk.at_ _ (by first | rfl | (simp; done) | (simp; omega)) _ _ | refine Blk.drewN ?_ _ | refine Blk.drew ?_ | refine Blk.alloc ?_ _ | refine Blk.far ?_ (by first | omega | (simp; done) | (simp; omega)) _ | assumption))).cell 0
         have y1_1 : w'.cell? ⟨w.heap.size + 1, 1, none⟩ = some (.int .i64 (gv)) := (step_blk hb (show Blk _ (w.heap.size + 1) 74 #[.int .i64 (gd), .int .i64 (gv)] by repeat' (first | exact Blk.at_ _ (by first | rfl | (simp; done) | (simp; omega)) _ _ | refine Blk.drewN ?_ _ | refine Blk.drew ?_ | refine Blk.alloc ?_ _ | refine Blk.far ?_ (by first | omega | (simp; done) | (simp; omega)) _ | assumption))).cell 1
         clear hk hD hb
         go_simp
         try rfl
       simp only [Act.put, List.setIfInBounds_toArray, List.set_cons_zero, List.set_cons_succ]))
  refine Fx.call_ (.int .i64 ((gd * rd - rn * gv).natAbs : Int)) ?_ ?_ (by rfl) ?_ ?_ ?_
  rotate_left 2
  · intro w'
    go_simp
    refine ⟨?_, ?_⟩ <;> rfl
  · intro f w' hD hk
    exact (abs_in _ _ hlo hhi).mono fun e w'' ⟨he, hw⟩ => ⟨he, hw ▸ hD⟩
  simp only [Act.put, List.setIfInBounds_toArray, List.set_cons_zero, List.set_cons_succ]
  repeat (first
    | (refine Fx.skip_ (by rfl) (fun f w h => h) ?_; simp only [Act.put, List.setIfInBounds_toArray, List.set_cons_zero, List.set_cons_succ])
    | (refine Fx.val_ ?_ (by rfl) ?_ (fun f w h => h) ?_
       rotate_left
       · intro f w' hD hk
         have hb := hD
         have y0_0 : w'.cell? ⟨w.heap.size, 0, none⟩ = some (.int .i64 (rn)) := (step_blk hb (show Blk _ (w.heap.size) 53 #[.int .i64 (rn), .int .i64 (rd)] by repeat' (first | exact Blk.at_ _ (by first | rfl | (simp; done) | (simp; omega)) _ _ | refine Blk.drewN ?_ _ | refine Blk.drew ?_ | refine Blk.alloc ?_ _ | refine Blk.far ?_ (by first | omega | (simp; done) | (simp; omega)) _ | assumption))).cell 0
         have y0_1 : w'.cell? ⟨w.heap.size, 1, none⟩ = some (.int .i64 (rd)) := (step_blk hb (show Blk _ (w.heap.size) 53 #[.int .i64 (rn), .int .i64 (rd)] by repeat' (first | exact Blk.at_ _ (by first | rfl | (simp; done) | (simp; omega)) _ _ | refine Blk.drewN ?_ _ | refine Blk.drew ?_ | refine Blk.alloc ?_ _ | refine Blk.far ?_ (by first | omega | (simp; done) | (simp; omega)) _ | assumption))).cell 1
         have y1_0 : w'.cell? ⟨w.heap.size + 1, 0, none⟩ = some (.int .i64 (gd)) := (step_blk hb (show Blk _ (w.heap.size + 1) 74 #[.int .i64 (gd), .int .i64 (gv)] by repeat' (first | exact Blk.at_ _ (by first | rfl | (simp; done) | (simp; omega)) _ _ | refine Blk.drewN ?_ _ | refine Blk.drew ?_ | refine Blk.alloc ?_ _ | refine Blk.far ?_ (by first | omega | (simp; done) | (simp; omega)) _ | assumption))).cell 0
         have y1_1 : w'.cell? ⟨w.heap.size + 1, 1, none⟩ = some (.int .i64 (gv)) := (step_blk hb (show Blk _ (w.heap.size + 1) 74 #[.int .i64 (gd), .int .i64 (gv)] by repeat' (first | exact Blk.at_ _ (by first | rfl | (simp; done) | (simp; omega)) _ _ | refine Blk.drewN ?_ _ | refine Blk.drew ?_ | refine Blk.alloc ?_ _ | refine Blk.far ?_ (by first | omega | (simp; done) | (simp; omega)) _ | assumption))).cell 1
         clear hk hD hb
         go_simp
         try rfl
       simp only [Act.put, List.setIfInBounds_toArray, List.set_cons_zero, List.set_cons_succ]))
  refine Fx.nil_ ?_
  intro f w1 hall hb
  try clear hall
  have HB1 := Lib.hid (show Below w.heap.size w w1 from step_below hb (by repeat' (first | exact Below.refl _ _ | exact HB0.out | refine below_drewN ?_ _ | refine Below.drew ?_ | refine Below.alloc ?_ (by first | omega | (simp; done) | (simp; omega) | (simp [World.setCell]; omega)) _ | refine Below.setCell ?_ (by first | omega | (simp; done) | (simp; omega)) _ | assumption)))
  have K0_1 := Lib.hid (step_blk hb (show Blk _ (w.heap.size) 53 #[.int .i64 (rn), .int .i64 (rd)] by repeat' (first | exact Blk.at_ _ (by first | rfl | (simp; done) | (simp; omega)) _ _ | refine Blk.drewN ?_ _ | refine Blk.drew ?_ | refine Blk.alloc ?_ _ | refine Blk.far ?_ (by first | omega | (simp; done) | (simp; omega)) _ | assumption)))
  have K1_1 := Lib.hid (step_blk hb (show Blk _ (w.heap.size + 1) 74 #[.int .i64 (gd), .int .i64 (gv)] by repeat' (first | exact Blk.at_ _ (by first | rfl | (simp; done) | (simp; omega)) _ _ | refine Blk.drewN ?_ _ | refine Blk.drew ?_ | refine Blk.alloc ?_ _ | refine Blk.far ?_ (by first | omega | (simp; done) | (simp; omega)) _ | assumption)))
  have hz1 := hb.size
  try simp only [World.size_alloc, World.drewN, World.drew] at hz1
  clear hb
  have l0_1 : w.heap.size < w1.heap.size := K0_1.out.lt
  have z0_0_1 : w1.cell? ⟨w.heap.size, 0, none⟩ = some (.int .i64 (rn)) := K0_1.out.cell 0
  have z0_1_1 : w1.cell? ⟨w.heap.size, 1, none⟩ = some (.int .i64 (rd)) := K0_1.out.cell 1
  have l1_1 : w.heap.size + 1 < w1.heap.size := K1_1.out.lt
  have z1_0_1 : w1.cell? ⟨w.heap.size + 1, 0, none⟩ = some (.int .i64 (gd)) := K1_1.out.cell 0
  have z1_1_1 : w1.cell? ⟨w.heap.size + 1, 1, none⟩ = some (.int .i64 (gv)) := K1_1.out.cell 1
  rw [V4.out]
  go_wp2
  go_ret2
  exact ⟨rfl, by repeat' (first | exact Below.refl _ _ | exact HB1.out | refine below_drewN ?_ _ | refine Below.drew ?_ | refine Below.alloc ?_ (by first | omega | (simp; done) | (simp; omega) | (simp [World.setCell]; omega)) _ | refine Below.setCell ?_ (by first | omega | (simp; done) | (simp; omega)) _ | assumption)⟩

def nearB (rn rd : Int) (g h : Int × Int) : Bool := decide (offF rn rd g.1 g.2 * h.2 < offF rn rd h.1 h.2 * g.2)

theorem nearer_any (rn rd gd gv hd hv : Int) (w : World) (h1 : 0 ≤ rn) (h2 : rn ≤ 1000000000) (h3 : 0 ≤ rd) (h4 : rd ≤ 1000000000)
    (a1 : 0 ≤ gd) (a2 : gd ≤ 500) (b1 : 0 ≤ gv) (b2 : gv ≤ 500) (c1 : 0 ≤ hd) (c2 : hd ≤ 500) (d1 : 0 ≤ hv) (d2 : hv ≤ 500) :
    Calls Try.prog 35 #[.agg #[.int .i64 rn, .int .i64 rd], .agg #[.int .i64 gd, .int .i64 gv], .agg #[.int .i64 hd, .int .i64 hv]] w fun e w' =>
      e = .returned (.bool (nearB rn rd (gd, gv) (hd, hv))) ∧ Below w.heap.size w w' := by
  have m1 := mul_bound h1 h2 b1 b2
  have m2 := mul_bound a1 a2 h3 h4
  have m3 := mul_bound h1 h2 d1 d2
  have m4 := mul_bound c1 c2 h3 h4
  have o1 := off_bound h1 h2 h3 h4 a1 a2 b1 b2
  have o2 := off_bound h1 h2 h3 h4 c1 c2 d1 d2
  have p1 := mul_bound o1.1 o1.2 d1 d2
  have p2 := mul_bound o2.1 o2.2 b1 b2
  obtain ⟨p1a, p1b⟩ := p1
  obtain ⟨p2a, p2b⟩ := p2
  go_enter Try.func35, Try.ntmps35
  go_wp2_with fail
  refine (off_any rn rd gd gv _ (by omega) (by omega) (by omega) (by omega)).mono ?_
  rintro e w1 ⟨rfl, hb⟩
  have HB1 := Lib.hid (show Below w.heap.size w w1 from step_below hb (by repeat' (first | exact Below.refl _ _ | exact HB0.out | refine below_drewN ?_ _ | refine Below.drew ?_ | refine Below.alloc ?_ (by first | omega | (simp; done) | (simp; omega) | (simp [World.setCell]; omega)) _ | refine Below.setCell ?_ (by first | omega | (simp; done) | (simp; omega)) _ | assumption)))
  have K0_1 := Lib.hid (step_blk hb (show Blk _ (w.heap.size) 53 #[.int .i64 (rn), .int .i64 (rd)] by repeat' (first | exact Blk.at_ _ (by first | rfl | (simp; done) | (simp; omega)) _ _ | refine Blk.drewN ?_ _ | refine Blk.drew ?_ | refine Blk.alloc ?_ _ | refine Blk.far ?_ (by first | omega | (simp; done) | (simp; omega)) _ | assumption)))
  have K1_1 := Lib.hid (step_blk hb (show Blk _ (w.heap.size + 1) 74 #[.int .i64 (gd), .int .i64 (gv)] by repeat' (first | exact Blk.at_ _ (by first | rfl | (simp; done) | (simp; omega)) _ _ | refine Blk.drewN ?_ _ | refine Blk.drew ?_ | refine Blk.alloc ?_ _ | refine Blk.far ?_ (by first | omega | (simp; done) | (simp; omega)) _ | assumption)))
  have K2_1 := Lib.hid (step_blk hb (show Blk _ (w.heap.size + 2) 74 #[.int .i64 (hd), .int .i64 (hv)] by repeat' (first | exact Blk.at_ _ (by first | rfl | (simp; done) | (simp; omega)) _ _ | refine Blk.drewN ?_ _ | refine Blk.drew ?_ | refine Blk.alloc ?_ _ | refine Blk.far ?_ (by first | omega | (simp; done) | (simp; omega)) _ | assumption)))
  have hz1 := hb.size
  try simp only [World.size_alloc, World.drewN, World.drew] at hz1
  clear hb
  have l0_1 : w.heap.size < w1.heap.size := K0_1.out.lt
  have z0_0_1 : w1.cell? ⟨w.heap.size, 0, none⟩ = some (.int .i64 (rn)) := K0_1.out.cell 0
  have z0_1_1 : w1.cell? ⟨w.heap.size, 1, none⟩ = some (.int .i64 (rd)) := K0_1.out.cell 1
  have l1_1 : w.heap.size + 1 < w1.heap.size := K1_1.out.lt
  have z1_0_1 : w1.cell? ⟨w.heap.size + 1, 0, none⟩ = some (.int .i64 (gd)) := K1_1.out.cell 0
  have z1_1_1 : w1.cell? ⟨w.heap.size + 1, 1, none⟩ = some (.int .i64 (gv)) := K1_1.out.cell 1
  have l2_1 : w.heap.size + 2 < w1.heap.size := K2_1.out.lt
  have z2_0_1 : w1.cell? ⟨w.heap.size + 2, 0, none⟩ = some (.int .i64 (hd)) := K2_1.out.cell 0
  have z2_1_1 : w1.cell? ⟨w.heap.size + 2, 1, none⟩ = some (.int .i64 (hv)) := K2_1.out.cell 1
  go_wp2_with fail
  refine (off_any rn rd hd hv _ (by omega) (by omega) (by omega) (by omega)).mono ?_
  rintro e w2 ⟨rfl, hb⟩
  have HB2 := Lib.hid (show Below w.heap.size w w2 from step_below hb (by repeat' (first | exact Below.refl _ _ | exact HB1.out | refine below_drewN ?_ _ | refine Below.drew ?_ | refine Below.alloc ?_ (by first | omega | (simp; done) | (simp; omega) | (simp [World.setCell]; omega)) _ | refine Below.setCell ?_ (by first | omega | (simp; done) | (simp; omega)) _ | assumption)))
  have K0_2 := Lib.hid (step_blk hb (show Blk _ (w.heap.size) 53 #[.int .i64 (rn), .int .i64 (rd)] by repeat' (first | exact K0_1.out | exact K1_1.out | exact K2_1.out | exact Blk.at_ _ (by first | rfl | (simp; done) | (simp; omega)) _ _ | refine Blk.drewN ?_ _ | refine Blk.drew ?_ | refine Blk.alloc ?_ _ | refine Blk.far ?_ (by first | omega | (simp; done) | (simp; omega)) _ | assumption)))
  have K1_2 := Lib.hid (step_blk hb (show Blk _ (w.heap.size + 1) 74 #[.int .i64 (gd), .int .i64 (gv)] by repeat' (first | exact K0_1.out | exact K1_1.out | exact K2_1.out | exact Blk.at_ _ (by first | rfl | (simp; done) | (simp; omega)) _ _ | refine Blk.drewN ?_ _ | refine Blk.drew ?_ | refine Blk.alloc ?_ _ | refine Blk.far ?_ (by first | omega | (simp; done) | (simp; omega)) _ | assumption)))
  have K2_2 := Lib.hid (step_blk hb (show Blk _ (w.heap.size + 2) 74 #[.int .i64 (hd), .int .i64 (hv)] by repeat' (first | exact K0_1.out | exact K1_1.out | exact K2_1.out | exact Blk.at_ _ (by first | rfl | (simp; done) | (simp; omega)) _ _ | refine Blk.drewN ?_ _ | refine Blk.drew ?_ | refine Blk.alloc ?_ _ | refine Blk.far ?_ (by first | omega | (simp; done) | (simp; omega)) _ | assumption)))
  have hz2 := hb.size
  try simp only [World.size_alloc, World.drewN, World.drew] at hz2
  clear hb K0_1 K1_1 K2_1 z0_0_1 z0_1_1 l0_1 z1_0_1 z1_1_1 l1_1 z2_0_1 z2_1_1 l2_1
  have l0_2 : w.heap.size < w2.heap.size := K0_2.out.lt
  have z0_0_2 : w2.cell? ⟨w.heap.size, 0, none⟩ = some (.int .i64 (rn)) := K0_2.out.cell 0
  have z0_1_2 : w2.cell? ⟨w.heap.size, 1, none⟩ = some (.int .i64 (rd)) := K0_2.out.cell 1
  have l1_2 : w.heap.size + 1 < w2.heap.size := K1_2.out.lt
  have z1_0_2 : w2.cell? ⟨w.heap.size + 1, 0, none⟩ = some (.int .i64 (gd)) := K1_2.out.cell 0
  have z1_1_2 : w2.cell? ⟨w.heap.size + 1, 1, none⟩ = some (.int .i64 (gv)) := K1_2.out.cell 1
  have l2_2 : w.heap.size + 2 < w2.heap.size := K2_2.out.lt
  have z2_0_2 : w2.cell? ⟨w.heap.size + 2, 0, none⟩ = some (.int .i64 (hd)) := K2_2.out.cell 0
  have z2_1_2 : w2.cell? ⟨w.heap.size + 2, 1, none⟩ = some (.int .i64 (hv)) := K2_2.out.cell 1
  go_wp2
  go_ret
  exact ⟨rfl, by repeat' (first | exact Below.refl _ _ | exact HB2.out | refine below_drewN ?_ _ | refine Below.drew ?_ | refine Below.alloc ?_ (by first | omega | (simp; done) | (simp; omega) | (simp [World.setCell]; omega)) _ | refine Below.setCell ?_ (by first | omega | (simp; done) | (simp; omega)) _ | assumption)⟩

theorem isteeth_any (n : Int) (t : Bool) (h : withinB n 1 500 = t) (w : World) : Calls Try.prog 70 #[.int .i64 n] w fun e w' => e = .returned (.bool t) ∧ w = w' := by
  go_enter Try.func70, Try.ntmps70
  go_wp2_with (go_at_call 50; refine (withinref_is _ _ _ _ h _).mono ?_; rintro e w' ⟨rfl, rfl⟩)
  go_ret
  exact ⟨rfl, rfl⟩


/-- The reference's search: by sums, then by the driver. -/
def rstepF (rn rd lo hi : Int) (o : Int × Int) (g : Int × Int) : Int × Int := if withinB g.2 lo hi && nearB rn rd g o then g else o
def rrowF (rn rd lo hi : Int) (s : Int) (m : Nat) (o : Int × Int) : Int × Int := (List.range m).foldl (fun o (i : Nat) => rstepF rn rd lo hi o (lo + (i : Int), s - (lo + (i : Int)))) o
def rbestF (rn rd lo hi : Int) (m k : Nat) : Int × Int := (List.range k).foldl (fun o (j : Nat) => rrowF rn rd lo hi (2 * lo + (j : Int)) m o) (lo, lo)
theorem rrowF_succ (rn rd lo hi s : Int) (m : Nat) (o : Int × Int) : rrowF rn rd lo hi s (m + 1) o = rstepF rn rd lo hi (rrowF rn rd lo hi s m o) (lo + (m : Int), s - (lo + (m : Int))) := by
  unfold rrowF; rw [List.range_succ, List.foldl_append]; rfl
theorem rbestF_succ (rn rd lo hi : Int) (m k : Nat) : rbestF rn rd lo hi m (k + 1) = rrowF rn rd lo hi (2 * lo + (k : Int)) m (rbestF rn rd lo hi m k) := by
  unfold rbestF; rw [List.range_succ, List.foldl_append]; rfl

theorem nearer_is (rn rd gd gv : Int) (h : Int × Int) (t : Bool) (ht : nearB rn rd (gd, gv) h = t) (w : World) (h1 : 0 ≤ rn) (h2 : rn ≤ 1000000000) (h3 : 0 ≤ rd) (h4 : rd ≤ 1000000000)
    (a1 : 0 ≤ gd) (a2 : gd ≤ 500) (b1 : 0 ≤ gv) (b2 : gv ≤ 500) (c1 : 0 ≤ h.1) (c2 : h.1 ≤ 500) (d1 : 0 ≤ h.2) (d2 : h.2 ≤ 500) :
    Calls Try.prog 35 #[.agg #[.int .i64 rn, .int .i64 rd], .agg #[.int .i64 gd, .int .i64 gv], .agg #[.int .i64 h.1, .int .i64 h.2]] w fun e w' =>
      e = .returned (.bool t) ∧ Below w.heap.size w w' := ht ▸ nearer_any rn rd gd gv h.1 h.2 w h1 h2 h3 h4 a1 a2 b1 b2 c1 c2 d1 d2


end Go.Proofs.Ytoiconebcmneiab

end

section
/- The contracts of the check of a train of gears, of its products, and of Returns. -/
namespace Go.Proofs.Ytoiconebcmneiab
open Go.RowKit

/-- Both numbers are those of teeth. -/
def okP (p : Int × Int) : Bool := withinB p.1 1 500 && withinB p.2 1 500
def trainErr (l : List (Int × Int)) : Int := if 12 < l.length then 8 else if l.all okP then 0 else 2

theorem okP_yes {p : Int × Int} (h1 : withinB p.1 1 500 = true) (h2 : withinB p.2 1 500 = true) : okP p = true := by unfold okP; rw [h1, h2]; rfl
theorem okP_no1 {p : Int × Int} (h1 : withinB p.1 1 500 = false) : okP p = false := by unfold okP; rw [h1]; rfl
theorem okP_no2 {p : Int × Int} (h1 : withinB p.2 1 500 = false) : okP p = false := by unfold okP; rw [h1]; simp
theorem okP_part {p : Int × Int} (h : okP p = true) : 1 ≤ p.1 ∧ p.1 ≤ 500 ∧ 1 ≤ p.2 ∧ p.2 ≤ 500 := by
  unfold okP at h
  rw [Bool.and_eq_true, withinB_iff, withinB_iff] at h
  exact ⟨h.1.1, h.1.2, h.2.1, h.2.2⟩
theorem all_take_succ {l : List (Int × Int)} {k : Nat} {p : Int × Int} (h : (l.take k).all okP = true) (hp : l[k]? = some p) (ho : okP p = true) : (l.take (k + 1)).all okP = true := by
  rw [List.take_add_one, hp, List.all_append, h]; simp [ho]
theorem all_no {l : List (Int × Int)} {k : Nat} {p : Int × Int} (hp : l[k]? = some p) (ho : okP p = false) : l.all okP = false := by
  rw [List.all_eq_false]
  exact ⟨p, List.mem_of_getElem? hp, by rw [ho]; exact Bool.false_ne_true⟩

set_option maxHeartbeats 1000000 in
theorem checktrain_any (A : Option Addr) (n c N : Nat) (l : List (Int × Int)) (w : World) (hx : Reads w N 2 A n (cells2 l)) (hN : N ≤ w.heap.size) (hn : n ≤ 9223372036854775807) :
    Calls Try.prog 71 #[.slice A n c] w fun e w' => e = .returned (.int .i64 (trainErr l)) ∧ Below w.heap.size w w' := by
  have hxl := Lib.hid hx.len2
  have HX := Lib.hid hx
  clear hx
  by_cases h12 : (12 : Int) < n
  · have HE : Hid (trainErr l = 8) := by show _ = _; unfold trainErr; rw [if_pos (by rw [hxl.out]; omega)]
    go_enter Try.func71, Try.ntmps71
    go_wp2
    go_ret
    exact ⟨ret_int HE.out.symm, Below.refl _ _⟩
  have HE : Hid (trainErr l = if l.all okP then 0 else 2) := by show _ = _; unfold trainErr; rw [if_neg (by rw [hxl.out]; omega)]
  go_enter Try.func71, Try.ntmps71
  go_wp2
  go_loopw [10] (fun i wr => ∃ k : Nat, k ≤ n ∧ i = .int .i64 k ∧ (l.take k).all okP = true ∧ Below w.heap.size w wr) (fun i _ => n - (intOf i).toNat)
  case atStart => exact ⟨0, by omega, rfl, rfl, Below.refl _ _⟩
  case round =>
    obtain ⟨k, hk, rfl, ht, hb⟩ := hrel
    have HT := Lib.hid ht
    have HB := Lib.hid hb
    clear ht hb
    by_cases hlt : k < n
    · obtain ⟨xb, xo, p, rfl, hxb, hp, c0, c1⟩ := (HX.out.belowLe HB.out hN).pair hlt
      have HP := Lib.hid hp
      clear hp
      cases h1 : withinB p.1 1 500 with
      | false =>
        have HO := Lib.hid (okP_no1 h1)
        go_wp2_with (first | (go_at_call 46; refine (withinsup_is _ _ _ _ (by assumption) _).mono ?_; rintro e w' ⟨rfl, rfl⟩))
        go_ret
        exact ⟨ret_int (by rw [HE.out, all_no HP.out HO.out]; rfl), HB.out.alloc HB.out.size _⟩
      | true =>
        cases h2 : withinB p.2 1 500 with
        | false =>
          have HO := Lib.hid (okP_no2 h2)
          go_wp2_with (first | (go_at_call 46; refine (withinsup_is _ _ _ _ (by assumption) _).mono ?_; rintro e w' ⟨rfl, rfl⟩))
          go_ret
          exact ⟨ret_int (by rw [HE.out, all_no HP.out HO.out]; rfl), HB.out.alloc HB.out.size _⟩
        | true =>
          have HO := Lib.hid (okP_yes h1 h2)
          go_wp2_with (first | (go_at_call 46; refine (withinsup_is _ _ _ _ (by assumption) _).mono ?_; rintro e w' ⟨rfl, rfl⟩))
          go_roundw
          case rel => exact ⟨k + 1, by omega, by go_num, all_take_succ HT.out HP.out HO.out, HB.out.alloc HB.out.size _⟩
          case measure => simp [intOf]; omega
    · go_wp2
      go_ret
      have e : l.take k = l := List.take_of_length_le (by rw [hxl.out]; omega)
      exact ⟨ret_int (by rw [HE.out, ← e, HT.out]; rfl), HB.out⟩

theorem checktrain_is (A : Option Addr) (n c N : Nat) (l : List (Int × Int)) (t : Int) (h : trainErr l = t) (w : World) (hx : Reads w N 2 A n (cells2 l)) (hN : N ≤ w.heap.size) (hn : n ≤ 9223372036854775807) :
    Calls Try.prog 71 #[.slice A n c] w fun e w' => e = .returned (.int .i64 t) ∧ Below w.heap.size w w' := h ▸ checktrain_any A n c N l w hx hN hn

/-- What a train does: each product is handed to a step; false: one is not small. -/
def trainF {σ : Type} (step : σ → Int × Int → σ) : σ → Int × Int → List (Int × Int) → σ × Bool
  | s, _, [] => (s, true)
  | s, f, g :: l => if smallB (f.1 * g.1) (f.2 * g.2) then trainF step (step s (redN (f.1 * g.1) (f.2 * g.2), redD (f.1 * g.1) (f.2 * g.2))) (redN (f.1 * g.1) (f.2 * g.2), redD (f.1 * g.1) (f.2 * g.2)) l else (s, false)

/-- What a function value that is called leaves as it was: all blocks from B on. -/
structure Keeps (B : Nat) (w w' : World) : Prop where
  size : w.heap.size ≤ w'.heap.size
  block : ∀ k, B ≤ k → k < w.heap.size → w'.heap[k]? = w.heap[k]?

theorem Keeps.blk {B : Nat} {w w' : World} (h : Keeps B w w') {g : Nat} {t : TypeId} {cs : Array Value} (hg : Blk w g t cs) (hB : B ≤ g) : Blk w' g t cs := (h.block g hB hg.lt).trans hg

/-- What a function value does with a state that lies below B. -/
structure Each (B : Nat) (k : FuncId) (caps : Array Value) {σ : Type} (Inv : σ → World → Prop) (step : σ → Int × Int → σ) : Prop where
  ent : ∀ (args : Array Value) (w : World), (callFunc k args).run Try.prog w = .ok (.enter k args) w
  call : ∀ (s : σ) (w : World) (f : Int × Int), B ≤ w.heap.size → Inv s w → Part f.1 → Part f.2 →
    Calls Try.prog k (#[.agg #[.int .i64 f.1, .int .i64 f.2]] ++ caps) w fun e w' => e = .returned (.tuple #[]) ∧ Inv (step s f) w' ∧ Keeps B w w'
  keep : ∀ (s : σ) (w w' : World), Inv s w → Below B w w' → Inv s w'

theorem part_bound {a b : Int} (h : Part a) (h1 : 1 ≤ b) (h2 : b ≤ 500) : 1 ≤ a * b ∧ a * b ≤ 500000000000 := by
  obtain ⟨p1, p2⟩ := h
  have m1 := Int.mul_le_mul p1 h1 (by omega) (by omega)
  have m2 := Int.mul_le_mul p2 h2 (by omega) (by omega)
  omega

set_option maxRecDepth 100000 in
set_option maxHeartbeats 1000000 in
theorem train_any {σ : Type} (B : Nat) (k : FuncId) (caps : Array Value) (Inv : σ → World → Prop) (step : σ → Int × Int → σ) (he : Each B k caps Inv step) (A : Option Addr) (n c N : Nat) (l : List (Int × Int)) (w : World) (s : σ)
    (hB : B = w.heap.size) (hN : N ≤ B) (hread : ∀ s w, Inv s w → Reads w N 2 A n (cells2 l)) (hi : Inv s w) (hn : n ≤ 9223372036854775807) (hok : l.all okP = true) :
    Calls Try.prog 72 #[.slice A n c, .func (.func k) #[] caps] w fun e w' => e = .returned (.bool (trainF step (step s (1, 1)) (1, 1) l).2) ∧ Inv (trainF step (step s (1, 1)) (1, 1) l).1 w' := by
  have HI := Lib.hid hi
  have hent := he.ent
  have HE := Lib.hid he
  have HR := Lib.hid hread
  have HOK := Lib.hid hok
  have hs0 := HR.out s w hi
  have hxl := Lib.hid hs0.len2
  clear hi he hread hok hs0
  go_enter Try.func72, Try.ntmps72
  go_wp2
  refine (HE.out.call s _ (1, 1) (by simp; omega) (HE.out.keep s _ _ HI.out (by rw [hB]; exact (Below.refl _ _).alloc (Nat.le_refl _) _)) ⟨by decide, by decide⟩ ⟨by decide, by decide⟩).mono ?_
  rintro e w1 ⟨rfl, hi1, hk1⟩
  have hf1 : Blk w1 w.heap.size 53 #[.int .i64 1, .int .i64 1] := hk1.blk (Blk.at_ _ rfl _ _) (by omega)
  have hz1 := hk1.size
  simp only [World.size_alloc] at hz1
  have HI1 := Lib.hid hi1
  have HF1 := Lib.hid hf1
  clear hi1 hk1 hf1
  go_wp2
  go_loopw [15] (fun i wr => ∃ (q : Nat) (s1 : σ) (f : Int × Int), q ≤ n ∧ i = .int .i64 q ∧ Part f.1 ∧ Part f.2 ∧ Hid (trainF step (step s (1, 1)) (1, 1) l = trainF step s1 f (l.drop q)) ∧ Inv s1 wr ∧ Blk wr w.heap.size 53 #[.int .i64 f.1, .int .i64 f.2] ∧ w.heap.size < wr.heap.size) (fun i _ => n - (intOf i).toNat)
  case atStart => exact ⟨0, step s (1, 1), (1, 1), by omega, rfl, ⟨by decide, by decide⟩, ⟨by decide, by decide⟩, by show _ = _; rw [List.drop_zero], HI1.out, HF1.out, by omega⟩
  case round =>
    obtain ⟨q, s1, f, hq, rfl, pf1, pf2, HT, hi2, hf2, hz2⟩ := hrel
    have HI2 := Lib.hid hi2
    have HF2 := Lib.hid hf2
    clear hi2 hf2
    by_cases hlt : q < n
    · obtain ⟨xb, xo, p, rfl, hxb, hp, c0, c1⟩ := (HR.out s1 _ HI2.out).pair hlt
      obtain ⟨p1, p2, p3, p4⟩ := okP_part (List.all_eq_true.1 HOK.out p (List.mem_of_getElem? hp))
      have m1 := part_bound pf1 p1 p2
      have m2 := part_bound pf2 p3 p4
      have hd : l.drop q = p :: l.drop (q + 1) := by
        obtain ⟨h1, h2⟩ := List.getElem?_eq_some_iff.1 hp
        rw [List.drop_eq_getElem_cons h1, h2]
      have y0 : ∀ o, (wr.alloc o).cell? ⟨w.heap.size, 0, none⟩ = some (.int .i64 f.1) := fun o => (HF2.out.alloc o).cell 0
      have y1 : ∀ o, (wr.alloc o).cell? ⟨w.heap.size, 1, none⟩ = some (.int .i64 f.2) := fun o => (HF2.out.alloc o).cell 1
      have HP := Lib.hid hp
      have HD := Lib.hid hd
      clear hp hd
      go_wp2_with fail
      refine (small_red _ _ _ (by omega) (by omega) (by omega) (by omega)).mono ?_
      rintro e w2 ⟨rfl, hb2⟩
      simp only [World.size_alloc] at hb2
      have hb3 : Below wr.heap.size wr w2 := ((Below.refl _ _).alloc (Nat.le_refl _) _).trans (hb2.mono (by omega))
      have hf3 := HF2.out.below hb3 HF2.out.lt
      have hz3 := hb3.size
      have HB3 := Lib.hid hb3
      have HF3 := Lib.hid hf3
      clear hb2 hb3 hf3
      cases h1 : smallB (f.1 * p.1) (f.2 * p.2) with
      | false =>
        have H1 := Lib.hid h1
        clear h1
        have y2 : w2.cell? ⟨w.heap.size, 0, none⟩ = some (.int .i64 f.1) := HF3.out.cell 0
        have y3 : w2.frozen? ⟨w.heap.size, 0, none⟩ = false := HF3.out.frozen 0
        have y4 : w2.cell? ⟨w.heap.size, 1, none⟩ = some (.int .i64 f.2) := HF3.out.cell 1
        have y5 : w2.frozen? ⟨w.heap.size, 1, none⟩ = false := HF3.out.frozen 1
        go_wp2
        go_ret
        have hT : trainF step (step s (1, 1)) (1, 1) l = (s1, false) := by
          rw [HT.out, HD.out]
          simp only [trainF, H1.out, Bool.false_eq_true, if_false]
        rw [hT]
        refine ⟨rfl, HE.out.keep s1 _ _ HI2.out ?_⟩
        exact (((HB3.out.mono (by omega)).setCell (p := ⟨w.heap.size, 0, none⟩) (by simp; omega) _).setCell (p := ⟨w.heap.size, 1, none⟩) (by simp; omega) _)
      | true =>
        have hpart := red_part m1.1 m2.1 h1
        have H1 := Lib.hid h1
        have HPART := Lib.hid hpart
        clear h1 hpart
        have y2 : w2.cell? ⟨w.heap.size, 0, none⟩ = some (.int .i64 f.1) := HF3.out.cell 0
        have y3 : w2.frozen? ⟨w.heap.size, 0, none⟩ = false := HF3.out.frozen 0
        have y4 : w2.cell? ⟨w.heap.size, 1, none⟩ = some (.int .i64 f.2) := HF3.out.cell 1
        have y5 : w2.frozen? ⟨w.heap.size, 1, none⟩ = false := HF3.out.frozen 1
        have hf4 := (HF3.out.set_ 0 (.int .i64 (redN (f.1 * p.1) (f.2 * p.2)))).set_ 1 (.int .i64 (redD (f.1 * p.1) (f.2 * p.2)))
        have hi4 := HE.out.keep s1 _ ((w2.setCell ⟨w.heap.size, 0, none⟩ (.int .i64 (redN (f.1 * p.1) (f.2 * p.2)))).setCell ⟨w.heap.size, 1, none⟩ (.int .i64 (redD (f.1 * p.1) (f.2 * p.2)))) HI2.out (((HB3.out.mono (by omega)).setCell (p := ⟨w.heap.size, 0, none⟩) (by simp; omega) _).setCell (p := ⟨w.heap.size, 1, none⟩) (by simp; omega) _)
        have HF4 := Lib.hid hf4
        have HI4 := Lib.hid hi4
        clear hf4 hi4
        go_wp2
        refine (HE.out.call s1 _ (redN (f.1 * p.1) (f.2 * p.2), redD (f.1 * p.1) (f.2 * p.2)) (by simp [World.setCell]; omega) HI4.out HPART.out.1 HPART.out.2).mono ?_
        rintro e w5 ⟨rfl, hi5, hk5⟩
        have hf5 := hk5.blk HF4.out (by omega)
        have hz5 := hk5.size
        have HF5 := Lib.hid hf5
        have HI5 := Lib.hid hi5
        clear hf5 hi5 hk5
        go_wp2
        go_roundw
        case rel =>
          refine ⟨q + 1, _, (redN (f.1 * p.1) (f.2 * p.2), redD (f.1 * p.1) (f.2 * p.2)), by omega, by go_num, HPART.out.1, HPART.out.2, ?_, HI5.out, ?_, ?_⟩
          · show _ = _
            rw [HT.out, HD.out]
            simp only [trainF, H1.out, if_true]
          · simpa using HF5.out
          · simp [World.setCell] at hz5; omega
        case measure => simp [intOf]; omega
    · go_wp2
      go_ret
      have hqn : q = n := by omega
      have e := HT.out
      rw [List.drop_of_length_le (by rw [hxl.out]; omega)] at e
      rw [e]
      exact ⟨rfl, HI2.out⟩

theorem train_is {σ : Type} (B : Nat) (k : FuncId) (caps : Array Value) (Inv : σ → World → Prop) (step : σ → Int × Int → σ) (he : Each B k caps Inv step) (A : Option Addr) (n c N : Nat) (l : List (Int × Int)) (w : World) (s t : σ) (ok : Bool)
    (ht : trainF step (step s (1, 1)) (1, 1) l = (t, ok)) (hB : B = w.heap.size) (hN : N ≤ B) (hread : ∀ s w, Inv s w → Reads w N 2 A n (cells2 l)) (hi : Inv s w) (hn : n ≤ 9223372036854775807) (hok : l.all okP = true) :
    Calls Try.prog 72 #[.slice A n c, .func (.func k) #[] caps] w fun e w' => e = .returned (.bool ok) ∧ Inv t w' :=
  (train_any B k caps Inv step he A n c N l w s hB hN hread hi hn hok).mono fun e w' h => by rw [ht] at h; exact h

end Go.Proofs.Ytoiconebcmneiab

end
