import Derived.Test.YtnepjgnnppfibaaQ22

section
/- Plain law of the fewest sessions: the reference's side. -/
namespace Go.Proofs.Ytnepjgnnppfibaa
open Go Go.RowKit

theorem left_zero (h : List Int) (ws : List (List Int)) (c : List Int) (i : Nat) : leftK h ws c 0 i = h.getD i 0 := by unfold leftK sumN; omega
theorem left_start {h : List Int} {n : Nat} (hl : h.length = n) (ws : List (List Int)) (c : List Int) : tabL n (leftK h ws c 0) = h := by
  rw [tabL_congr (g := fun i => h.getD i 0) (fun i _ => left_zero _ _ _ _)]
  exact (tabL_of hl).symm
theorem left_next {h : List Int} {ws : List (List Int)} {c l : List Int} {n k : Nat} {p : Int} (hp : c.getD k 0 = p) (hk : ws.getD k [] = l) : tabL n (fun i => leftK h ws c k i - p * l.getD i 0) = tabL n (leftK h ws c (k + 1)) :=
  tabL_congr fun i _ => by rw [leftK_succ, hp, hk]
/-- What the reference asks of the heights that are left. -/
def goodTo (n : Nat) (a v : List Int) (T : Int) (k : Nat) : Bool := !digB n a v && (List.range k).all fun q => decide (a.getD q 0 - v.getD q 0 ≤ T)
theorem good_zero (n : Nat) (a v : List Int) (T : Int) : goodTo n a v T 0 = !digB n a v := by unfold goodTo; simp
theorem good_succ (n : Nat) (a v : List Int) (T : Int) (k : Nat) : goodTo n a v T (k + 1) = (goodTo n a v T k && decide (a.getD k 0 - v.getD k 0 ≤ T)) := by
  unfold goodTo
  rw [List.range_succ, List.all_append, Bool.and_assoc]
  simp
theorem good_fits {h v : List Int} {ws : List (List Int)} {T : Int} {c : List Int} {n : Nat} (hn : h.length = n) : goodTo n (tabL n (leftK h ws c ws.length)) v T n = fitsK h v ws T c := by
  rw [Bool.eq_iff_iff]
  unfold goodTo fitsK
  rw [hn, Bool.and_eq_true, List.all_eq_true, List.all_eq_true]
  constructor
  · rintro ⟨h1, h2⟩ i hi
    have hin := List.mem_range.1 hi
    have h3 := h2 i hi
    rw [tabL_getD _ hin] at h3
    have h3 := of_decide_eq_true h3
    have h1 : digB n (tabL n (leftK h ws c ws.length)) v = false := by simpa using h1
    have h4 := dig_false h1 i hin
    rw [tabL_getD _ hin] at h4
    exact within_mk (by omega) h3
  · intro hi
    refine ⟨?_, fun i hir => ?_⟩
    · have : digB n (tabL n (leftK h ws c ws.length)) v = false := dig_no fun k hk => by
        rw [tabL_getD _ hk]
        have := within_yes (hi k (List.mem_range.2 hk))
        omega
      rw [this]; rfl
    · have hin := List.mem_range.1 hir
      rw [tabL_getD _ hin]
      have := within_yes (hi i hir)
      exact decide_eq_true this.2
/-- The digits: one more. -/
theorem dg_more (B j r : Nat) : j / B ^ r / B = j / B ^ (r + 1) := by rw [Nat.pow_succ, Nat.div_div_eq_div_mul]
theorem sumN_split {f : Nat → Int} (i : Nat) : sumN f (i + 1) = sumN f i + f i := rfl
end Go.Proofs.Ytnepjgnnppfibaa

end
