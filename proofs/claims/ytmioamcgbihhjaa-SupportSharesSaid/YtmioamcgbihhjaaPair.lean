/- Contracts of the check of a search for gears, and of the best pair. -/
import Derived.Test.YtmioamcgbihhjaaBest
namespace Go.Proofs.Ytmioamcgbihhjaa
open Go.RowKit

def searchErr (rn rd lo hi : Int) : Int :=
  if fracErr rn rd ≠ 0 then fracErr rn rd else if rn ≤ 0 ∨ withinB lo 1 500 = false ∨ withinB hi 1 500 = false then 2 else if hi < lo then 9 else 0

set_option maxHeartbeats 1000000 in
theorem checkbest_any (rn rd lo hi : Int) (w : World) (h1 : -9223372036854775808 ≤ rn) (h2 : rn ≤ 9223372036854775807) (h3 : -9223372036854775808 ≤ rd) (h4 : rd ≤ 9223372036854775807) :
    Calls Try.prog 81 #[.agg #[.int .i64 rn, .int .i64 rd], .int .i64 lo, .int .i64 hi] w fun e w' => e = .returned (.int .i64 (searchErr rn rd lo hi)) ∧ Below w.heap.size w w' := by
  have hcs : (fracErr rn rd ≠ 0) ∨ (fracErr rn rd = 0 ∧ rn ≤ 0) ∨ (fracErr rn rd = 0 ∧ ¬ rn ≤ 0 ∧ withinB lo 1 500 = false) ∨ (fracErr rn rd = 0 ∧ ¬ rn ≤ 0 ∧ withinB lo 1 500 = true ∧ withinB hi 1 500 = false) ∨
      (fracErr rn rd = 0 ∧ ¬ rn ≤ 0 ∧ withinB lo 1 500 = true ∧ withinB hi 1 500 = true ∧ hi < lo) ∨ (fracErr rn rd = 0 ∧ ¬ rn ≤ 0 ∧ withinB lo 1 500 = true ∧ withinB hi 1 500 = true ∧ ¬ hi < lo) := by
    by_cases a : fracErr rn rd = 0 <;> by_cases b : rn ≤ 0 <;> cases withinB lo 1 500 <;> cases withinB hi 1 500 <;> by_cases c : hi < lo <;> simp [a, b, c]
  obtain ⟨E, hE⟩ : ∃ E, searchErr rn rd lo hi = E := ⟨_, rfl⟩
  rw [hE]
  have HE := Lib.hid hE
  clear hE
  go_enter Try.func81, Try.ntmps81
  go_wp2_with fail
  refine (checkfrac_any _ _ _ h1 h2 h3 h4).mono ?_
  rintro e w1 ⟨rfl, hb⟩
  simp only [World.size_alloc] at hb
  have c0 : w1.cell? ⟨w.heap.size, 0, none⟩ = some (.int .i64 rn) := by rw [hb.cell (by simp)]; go_simp
  have c1 : w1.cell? ⟨w.heap.size, 1, none⟩ = some (.int .i64 rd) := by rw [hb.cell (by simp)]; go_simp
  have q1 : Below w.heap.size w w1 := ((Below.refl _ _).alloc (Nat.le_refl _) _).trans (hb.mono (by omega))
  have HB := Lib.hid q1
  clear q1 hb
  have HC := Lib.hid hcs
  clear hcs
  rcases HC.out with a | ⟨a, b⟩ | ⟨a, b, c⟩ | ⟨a, b, c, d⟩ | ⟨a, b, c, d, g⟩ | ⟨a, b, c, d, g⟩
  · have ha : (fracErr rn rd != 0) = true := bne_iff_ne.2 a
    have hv : E = fracErr rn rd := by rw [← HE.out]; unfold searchErr; rw [if_pos a]
    have HV := Lib.hid hv
    clear hv a
    go_wp2
    go_ret
    exact ⟨ret_int HV.out.symm, HB.out⟩
  all_goals
    clear HC
    go_wp2_with (first | (go_at_call 79; refine (withinsup_is _ _ _ _ (by assumption) _).mono ?_; rintro e w' ⟨rfl, rfl⟩))
    go_ret
    have hx := HE.out
    unfold searchErr at hx
    rw [if_neg (by rw [a]; simp)] at hx
    exact ⟨ret_int (by rw [← hx]; (repeat' split) <;> simp_all <;> omega), HB.out⟩

theorem searchErr_ok {rn rd lo hi : Int} (h : searchErr rn rd lo hi = 0) : fracErr rn rd = 0 ∧ 1 ≤ rn ∧ rn ≤ 1000000000 ∧ 1 ≤ rd ∧ rd ≤ 1000000000 ∧ 1 ≤ lo ∧ lo ≤ hi ∧ hi ≤ 500 := by
  unfold searchErr at h
  split at h
  · rename_i h0; exact absurd h h0
  · rename_i h0
    have hf : fracErr rn rd = 0 := by simpa using h0
    have hf' := hf
    unfold fracErr at hf'
    split at hf'
    · simp at hf'
    · split at hf'
      · simp at hf'
      · split at h
        · simp at h
        · split at h
          · simp at h
          · rename_i g1 g2 g3 g4
            have b1 : withinB lo 1 500 = true := by cases hx : withinB lo 1 500 <;> simp_all
            have b2 : withinB hi 1 500 = true := by cases hx : withinB hi 1 500 <;> simp_all
            rw [withinB_iff] at b1 b2
            simp only [not_or] at g1 g2 g3
            refine ⟨hf, by omega, by omega, by omega, by omega, by omega, by omega, by omega⟩

/-- The best pair between two numbers of teeth. -/
def bestP (rn rd lo hi : Int) : Int × Int := bestF rn rd lo (hi - lo + 1).toNat (hi - lo + 1).toNat

def PairPost (rn rd lo hi : Int) (w : World) (e : Ending) (w' : World) : Prop :=
  Below w.heap.size w w' ∧ (searchErr rn rd lo hi ≠ 0 → e = .returned (.tuple #[.agg #[.int .i64 0, .int .i64 0], .int .i64 (searchErr rn rd lo hi)])) ∧
  (searchErr rn rd lo hi = 0 → e = .returned (.tuple #[.agg #[.int .i64 (bestP rn rd lo hi).1, .int .i64 (bestP rn rd lo hi).2], .int .i64 0]))

set_option maxHeartbeats 1000000 in
theorem bestpair_any (rn rd lo hi : Int) (w : World) (h1 : -9223372036854775808 ≤ rn) (h2 : rn ≤ 9223372036854775807) (h3 : -9223372036854775808 ≤ rd) (h4 : rd ≤ 9223372036854775807) :
    Calls Try.prog 32 #[.agg #[.int .i64 rn, .int .i64 rd], .int .i64 lo, .int .i64 hi] w (PairPost rn rd lo hi w) := by
  obtain ⟨E, hE⟩ : ∃ E, searchErr rn rd lo hi = E := ⟨_, rfl⟩
  have HE := Lib.hid hE
  go_enter Try.func32, Try.ntmps32
  go_wp2_with fail
  refine (checkbest_any _ _ _ _ _ h1 h2 h3 h4).mono ?_
  rintro e w1 ⟨rfl, hb⟩
  rw [hE]
  clear hE
  simp only [World.size_alloc] at hb
  have c0 : w1.cell? ⟨w.heap.size, 0, none⟩ = some (.int .i64 rn) := by rw [hb.cell (by simp; omega)]; go_simp
  have c1 : w1.cell? ⟨w.heap.size, 1, none⟩ = some (.int .i64 rd) := by rw [hb.cell (by simp; omega)]; go_simp
  have k : Blk w1 (w.heap.size + 1) 45 #[.int .i64 0, .int .i64 0] := Blk.below (Blk.at_ _ (by simp) _ _) hb (by omega)
  have q1 : Below w.heap.size w w1 := (((Below.refl _ _).alloc (Nat.le_refl _) _).alloc (by simp) _).trans (hb.mono (by omega))
  have d0 : w1.cell? ⟨w.heap.size + 1, 0, none⟩ = some (.int .i64 0) := k.cell 0
  have d1 : w1.cell? ⟨w.heap.size + 1, 1, none⟩ = some (.int .i64 0) := k.cell 1
  have z0 := k.frozen 0
  have z1 := k.frozen 1
  have HB := Lib.hid q1
  clear q1 hb
  by_cases he : E = 0
  · have ok := searchErr_ok (HE.out.trans he)
    have e0 : (E != 0) = false := by simp [he]
    subst he
    go_wp2_with fail
    refine (best_any rn rd lo hi _ (by omega) (by omega) (by omega) (by omega) (by omega) (by omega) (by omega)).mono ?_
    rintro e w2 ⟨rfl, hb2⟩
    have k := k.below hb2 k.lt
    have d0 : w2.cell? ⟨w.heap.size + 1, 0, none⟩ = some (.int .i64 0) := k.cell 0
    have d1 : w2.cell? ⟨w.heap.size + 1, 1, none⟩ = some (.int .i64 0) := k.cell 1
    have z0 := k.frozen 0
    have z1 := k.frozen 1
    have q2 := HB.out.trans (hb2.mono (by have := HB.out.size; omega))
    have HB2 := Lib.hid q2
    clear q2 hb2
    obtain ⟨P, hP⟩ : ∃ P, bestF rn rd lo (hi - lo + 1).toNat (hi - lo + 1).toNat = P := ⟨_, rfl⟩
    rw [hP]
    have HP := Lib.hid hP
    clear hP
    go_wp2
    have kk := (k.set_ 0 (.int .i64 (P.1))).set_ 1 (.int .i64 (P.2))
    have r0 := kk.cell 0
    have r1 := kk.cell 1
    simp only [List.setIfInBounds_toArray, List.set_cons_zero, List.set_cons_succ, List.getElem?_toArray, List.getElem?_cons_zero, List.getElem?_cons_succ] at r0 r1
    exact bodyPost_ret (v := .tuple #[.agg #[.int .i64 (P.1), .int .i64 (P.2)], .int .i64 0]) (by simp [results, Try.results32, go_sem, r0, r1]) rfl
      ⟨(HB2.out.setCell (p := ⟨w.heap.size + 1, 0, none⟩) (by simp) _).setCell (p := ⟨w.heap.size + 1, 1, none⟩) (by simp) _, fun h => absurd HE.out h, fun _ => by unfold bestP; rw [HP.out]⟩
  · have e0 : (E != 0) = true := by simp [he]
    go_wp2
    have kk := (k.set_ 0 (.int .i64 (0))).set_ 1 (.int .i64 (0))
    have r0 := kk.cell 0
    have r1 := kk.cell 1
    simp only [List.setIfInBounds_toArray, List.set_cons_zero, List.set_cons_succ, List.getElem?_toArray, List.getElem?_cons_zero, List.getElem?_cons_succ] at r0 r1
    exact bodyPost_ret (v := .tuple #[.agg #[.int .i64 (0), .int .i64 (0)], .int .i64 E]) (by simp [results, Try.results32, go_sem, r0, r1]) rfl
      ⟨(HB.out.setCell (p := ⟨w.heap.size + 1, 0, none⟩) (by simp) _).setCell (p := ⟨w.heap.size + 1, 1, none⟩) (by simp) _, fun _ => by rw [HE.out], fun h => absurd (HE.out.symm.trans h) he⟩

end Go.Proofs.Ytmioamcgbihhjaa
