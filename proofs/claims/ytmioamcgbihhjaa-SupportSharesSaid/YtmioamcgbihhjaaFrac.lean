/- Contracts of the checks of fractions and of functions that return fractions in lowest terms. -/
import Derived.Test.YtmioamcgbihhjaaArith
import Derived.Test.YtmioamcgbihhjaaMem
import Derived.Test.YtmioamcgbihhjaaFx
namespace Go.Proofs.Ytmioamcgbihhjaa
open Go.RowKit

/-- The error of a fraction. -/
def fracErr (n d : Int) : Int := if d < 1 ∨ Int.gcd n d ≠ 1 then 3 else if n < -1000000000 ∨ 1000000000 < n ∨ 1000000000 < d then 2 else 0

theorem gcd_small (n d : Int) (h : 1 ≤ d) (h4 : d ≤ 9223372036854775807) : wrap64 (Int.gcd n d : Int) = (Int.gcd n d : Int) := by
  have h5 : Int.gcd n d ∣ d.natAbs := Int.gcd_dvd_natAbs_right n d
  have h6 := Nat.le_of_dvd (by omega) h5
  exact IntWalk.wrap64_in _ ⟨by omega, by omega⟩

theorem checkfrac_any (n d : Int) (w : World) (h1 : -9223372036854775808 ≤ n) (h2 : n ≤ 9223372036854775807) (h3 : -9223372036854775808 ≤ d) (h4 : d ≤ 9223372036854775807) :
    Calls Try.prog 72 #[.agg #[.int .i64 n, .int .i64 d]] w fun e w' => e = .returned (.int .i64 (fracErr n d)) ∧ Below w.heap.size w w' := by
  by_cases hd : d < 1
  · go_enter Try.func72, Try.ntmps72
    go_wp2
    go_ret
    exact ⟨ret_int (by simp [fracErr, hd]), (Below.refl _ _).alloc (Nat.le_refl _) _⟩
  · have hg := gcd_small n d (by omega) h4
    go_enter Try.func72, Try.ntmps72
    go_wp2_with (first | (go_at_call 117; refine (divisor_any _ _ _ (by omega) (by omega) (by omega) (by omega)).mono ?_; rintro e w' ⟨rfl, rfl⟩) | (go_at_call 118; refine (between_any _ _ _ _).mono ?_; rintro e w' ⟨rfl, rfl⟩))
    all_goals go_ret
    all_goals (refine ⟨ret_int (b := fracErr n d) ?_, (Below.refl _ _).alloc (Nat.le_refl _) _⟩; unfold fracErr; simp_all [withinB]; try omega)

theorem checkfracref_any (n d : Int) (w : World) (h1 : -9223372036854775808 ≤ n) (h2 : n ≤ 9223372036854775807) (h3 : -9223372036854775808 ≤ d) (h4 : d ≤ 9223372036854775807) :
    Calls Try.prog 17 #[.agg #[.int .i64 n, .int .i64 d]] w fun e w' => e = .returned (.int .i64 (fracErr n d)) ∧ Below w.heap.size w w' := by
  by_cases hd : d < 1
  · go_enter Try.func17, Try.ntmps17
    go_wp2
    go_ret
    exact ⟨ret_int (by simp [fracErr, hd]), (Below.refl _ _).alloc (Nat.le_refl _) _⟩
  · have hg := gcd_small n d (by omega) h4
    go_enter Try.func17, Try.ntmps17
    go_wp2_with (first | (go_at_call 73; refine (gcdref_any _ _ _ (by omega) (by omega) (by omega) (by omega)).mono ?_; rintro e w' ⟨rfl, nq, rfl⟩))
    all_goals go_ret
    all_goals (refine ⟨ret_int (b := fracErr n d) ?_, below_drewN ((Below.refl _ _).alloc (Nat.le_refl _) _) _⟩; unfold fracErr; simp_all; try omega)

theorem div_gcd_in (a b : Int) (h1 : -9223372036854775808 < a) (h2 : a ≤ 9223372036854775807) (hg : (Int.gcd a b : Int) ≠ 0) : -9223372036854775808 < a / (Int.gcd a b : Int) ∧ a / (Int.gcd a b : Int) ≤ 9223372036854775807 := by
  have h3 : (Int.gcd a b : Int) ∣ a := Int.gcd_dvd_left a b
  have h4 := Int.natAbs_ediv_of_dvd h3
  have h5 : (a / (Int.gcd a b : Int)).natAbs ≤ a.natAbs := by rw [h4]; exact Nat.div_le_self _ _
  omega

theorem tdiv_gcd_left (a b : Int) : a.tdiv (Int.gcd a b : Int) = a / (Int.gcd a b : Int) := Int.tdiv_eq_ediv_of_dvd (Int.gcd_dvd_left a b)
theorem tdiv_gcd_right (a b : Int) : b.tdiv (Int.gcd a b : Int) = b / (Int.gcd a b : Int) := Int.tdiv_eq_ediv_of_dvd (Int.gcd_dvd_right a b)

/-- Whether a fraction in lowest terms is small. -/
def smallB (a b : Int) : Bool := withinB (a / (Int.gcd a b : Int)) (-1000000000) 1000000000 && decide (b / (Int.gcd a b : Int) ≤ 1000000000)

theorem small_any (a b : Int) (w : World) (h1 : -9223372036854775808 < a) (h2 : a ≤ 9223372036854775807) (h3 : 1 ≤ b) (h4 : b ≤ 9223372036854775807) :
    Calls Try.prog 85 #[.int .i64 a, .int .i64 b] w fun e w' => e = .returned (.tuple #[.agg #[.int .i64 (a / (Int.gcd a b : Int)), .int .i64 (b / (Int.gcd a b : Int))], .bool (smallB a b)]) ∧ Below w.heap.size w w' := by
  have hg := gcd_small a b (by omega) h4
  have hp : 0 < Int.gcd a b := Int.gcd_pos_of_ne_zero_right a (by omega)
  have d1 := div_gcd_in a b h1 h2 (by omega)
  have d2 := div_gcd_in b a (by omega) h4 (by rw [Int.gcd_comm]; omega)
  rw [Int.gcd_comm b a] at d2
  have e1 := tdiv_gcd_left a b
  have e2 := tdiv_gcd_right a b
  go_enter Try.func85, Try.ntmps85
  go_wp2_with fail
  refine (gcdsup_any _ _ _ (by omega) (by omega) (by omega) (by omega)).mono ?_
  rintro e w' ⟨rfl, nq, rfl⟩
  go_wp2_with fail
  go_region
  go_wp2_with fail
  cases hw : withinB (a / (Int.gcd a b : Int)) (-1000000000) 1000000000
  all_goals
    have HW := Lib.hid hw
    clear hw
    refine Fx.region (fun f w' => Below w.heap.size w w' ∧ Blk w' (w.heap.size + 1) 23 #[.int .i64 (a / (Int.gcd a b : Int)), .int .i64 (b / (Int.gcd a b : Int))] ∧ Blk w' w.heap.size 23 (if f 9 then #[.int .i64 (a / (Int.gcd a b : Int)), .int .i64 (b / (Int.gcd a b : Int))] else #[.int .i64 0, .int .i64 0])) (by kernel_rfl) (by kernel_rfl) ?_ ?_
    · intro f hf0
      refine ⟨below_drewN ((below_drewN ((Below.refl _ _).alloc (Nat.le_refl _) _) _).alloc (by simp) _) _, ?_, ?_⟩
      · exact (Blk.at_ _ (by simp) _ _).drewN _
      · rw [hf0 9]; exact (((Blk.new _ _ _).drewN _).alloc _).drewN _
    repeat (first
      | (refine Fx.skip_ (by rfl) (fun f w h => h) ?_; simp only [Act.put, List.setIfInBounds_toArray, List.set_cons_zero, List.set_cons_succ])
      | (refine Fx.val_ ?_ (by rfl) ?_ (fun f w h => h) ?_
         rotate_left
         · intro f w' hD hk
           obtain ⟨hb, h1, h2⟩ := id hD
           have c0 : w'.cell? ⟨w.heap.size + 1, 0, none⟩ = some (.int .i64 (a / (Int.gcd a b : Int))) := h1.cell 0
           have c1 : w'.cell? ⟨w.heap.size + 1, 1, none⟩ = some (.int .i64 (b / (Int.gcd a b : Int))) := h1.cell 1
           clear hk hD hb h1 h2
           go_simp
           try rfl
         simp only [Act.put, List.setIfInBounds_toArray, List.set_cons_zero, List.set_cons_succ]))
    refine Fx.call_ (.bool (withinB (a / (Int.gcd a b : Int)) (-1000000000) 1000000000)) ?_ ?_ (by rfl) ?_ ?_ ?_
    rotate_left 2
    · intro w'
      go_simp
      refine ⟨?_, ?_⟩ <;> rfl
    · intro f w' hD hk
      exact (withinsup_any _ _ _ _).mono fun e w'' ⟨he, hw⟩ => ⟨he, hw ▸ hD⟩
    simp only [Act.put, List.setIfInBounds_toArray, List.set_cons_zero, List.set_cons_succ]
    rw [HW.out]
    repeat (first
      | (refine Fx.skip_ (by rfl) (fun f w h => h) ?_; simp only [Act.put, List.setIfInBounds_toArray, List.set_cons_zero, List.set_cons_succ])
      | (refine Fx.val_ ?_ (by rfl) ?_ (fun f w h => h) ?_
         rotate_left
         · intro f w' hD hk
           obtain ⟨hb, h1, h2⟩ := id hD
           have c0 : w'.cell? ⟨w.heap.size + 1, 0, none⟩ = some (.int .i64 (a / (Int.gcd a b : Int))) := h1.cell 0
           have c1 : w'.cell? ⟨w.heap.size + 1, 1, none⟩ = some (.int .i64 (b / (Int.gcd a b : Int))) := h1.cell 1
           clear hk hD hb h1 h2
           go_simp
           try rfl
         simp only [Act.put, List.setIfInBounds_toArray, List.set_cons_zero, List.set_cons_succ]))
    refine Fx.store_ (fun w' => (w'.setCell ⟨w.heap.size, 0, none⟩ (.int .i64 (a / (Int.gcd a b : Int)))).setCell ⟨w.heap.size, 1, none⟩ (.int .i64 (b / (Int.gcd a b : Int)))) (by rfl) ?_ ?_ ?_
    · intro f w' hD hk
      obtain ⟨hb, h1, h2⟩ := id hD
      have hf : f 9 = false := hk.1
      simp only [hf, Bool.false_eq_true, if_false] at h2
      have c0 : w'.cell? ⟨w.heap.size, 0, none⟩ = some (.int .i64 0) := h2.cell 0
      have c1 : w'.cell? ⟨w.heap.size, 1, none⟩ = some (.int .i64 0) := h2.cell 1
      have z0 := h2.frozen 0
      have z1 := h2.frozen 1
      clear hk hD
      go_simp
    · intro f w' hD hk
      obtain ⟨hb, h1, h2⟩ := id hD
      have hf : f 9 = false := hk.1
      simp only [hf, Bool.false_eq_true, if_false] at h2
      exact ⟨(hb.setCell (p := ⟨w.heap.size, 0, none⟩) (Nat.le_refl _) _).setCell (p := ⟨w.heap.size, 1, none⟩) (Nat.le_refl _) _, (h1.far (p := ⟨w.heap.size, 0, none⟩) (by simp) _).far (p := ⟨w.heap.size, 1, none⟩) (by simp) _, (h2.set_ 0 _).set_ 1 _⟩
    simp only [Act.put, List.setIfInBounds_toArray, List.set_cons_zero, List.set_cons_succ]
    repeat (first
      | (refine Fx.skip_ (by rfl) (fun f w h => h) ?_; simp only [Act.put, List.setIfInBounds_toArray, List.set_cons_zero, List.set_cons_succ])
      | (refine Fx.val_ ?_ (by rfl) ?_ (fun f w h => h) ?_
         rotate_left
         · intro f w' hD hk
           obtain ⟨hb, h1, h2⟩ := id hD
           have c0 : w'.cell? ⟨w.heap.size + 1, 0, none⟩ = some (.int .i64 (a / (Int.gcd a b : Int))) := h1.cell 0
           have c1 : w'.cell? ⟨w.heap.size + 1, 1, none⟩ = some (.int .i64 (b / (Int.gcd a b : Int))) := h1.cell 1
           clear hk hD hb h1 h2
           go_simp
           try rfl
         simp only [Act.put, List.setIfInBounds_toArray, List.set_cons_zero, List.set_cons_succ]))
    refine Fx.nil_ ?_
    intro f w1 hall hD
    have hf9 := hall 9 (by simp)
    obtain ⟨hb, _, h2⟩ := hD
    simp only [hf9, if_true] at *
    have c0 : w1.cell? ⟨w.heap.size, 0, none⟩ = some (.int .i64 (a / (Int.gcd a b : Int))) := h2.cell 0
    have c1 : w1.cell? ⟨w.heap.size, 1, none⟩ = some (.int .i64 (b / (Int.gcd a b : Int))) := h2.cell 1
    go_wp2_with fail
    exact bodyPost_ret (v := .tuple #[.agg #[.int .i64 (a / (Int.gcd a b : Int)), .int .i64 (b / (Int.gcd a b : Int))], .bool (smallB a b)]) (by simp [results, Try.results85, go_sem, c0, c1, smallB, HW.out]) rfl ⟨rfl, hb⟩

end Go.Proofs.Ytmioamcgbihhjaa
