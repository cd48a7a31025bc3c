/- Rockers: their values, and the contract of the check of one rocker behind others. -/
import Derived.Test.YtmioamcgbihhjaaName
import Derived.Test.YtmioamcgbihhjaaMap
namespace Go.Proofs.Ytmioamcgbihhjaa
open Go.RowKit

structure Rk where
  name : ByteArray
  left : ByteArray
  right : ByteArray
  al : Int
  ar : Int

def Rk.cells (r : Rk) : List Value := [.string r.name, .string r.left, .string r.right, .int .i64 r.al, .int .i64 r.ar]
def Rk.val (r : Rk) : Value := .agg #[.string r.name, .string r.left, .string r.right, .int .i64 r.al, .int .i64 r.ar]
/-- The texts are no longer than a text can be. -/
structure Rk.Fits (r : Rk) : Prop where
  name : r.name.size ≤ maxLen
  left : r.left.size ≤ maxLen
  right : r.right.size ≤ maxLen

def rkErr (ex : Bool) (r : Rk) : Int :=
  if nameB r.name = false then 4 else if ex then 5 else if nameB r.left = false ∨ nameB r.right = false then 4
  else if withinB r.al 1 10000 = false ∨ withinB r.ar 1 10000 = false then 2 else 0

theorem zero_int (w : World) : (zeroValue 3).run Try.prog w = .ok (.int .i64 0) w := by kernel_rfl

theorem isname_is (s : ByteArray) (t : Bool) (h : nameB s = t) (w : World) (hs : s.size ≤ maxLen) :
    Calls Try.prog 131 #[.string s] w fun e w' => e = .returned (.bool t) ∧ w = w' := h ▸ isname_any s w hs

set_option maxHeartbeats 1000000 in
theorem check_any (r : Rk) (hr : r.Fits) (b n : Nat) (M : ByteArray → Option Value) (w : World) (hm : MapIs Try.prog 9 w b n M) :
    Calls Try.prog 121 #[.map (some b), r.val] w fun e w' => e = .returned (.int .i64 (rkErr (M r.name).isSome r)) ∧ Below w.heap.size w w' := by
  have hl : ∀ o, (Instr.lookup 136 (.map (some b)) (.string r.name) true).run Try.prog (w.alloc o) = .ok (.tuple #[(M r.name).getD (.int .i64 0), .bool (M r.name).isSome]) (w.alloc o) :=
    fun o => (hm.alloc o).look Try.underlying9 Try.underlying136 (zero_int _) r.name hr.name
  generalize (M r.name).getD (.int .i64 0) = gv at hl
  have f1 := hr.name
  have f2 := hr.left
  have f3 := hr.right
  obtain ⟨nm, lf, rt, al, ar⟩ := r
  unfold Rk.val
  simp only at *
  have hcs : (nameB nm = false) ∨ (nameB nm = true ∧ (M nm).isSome = true) ∨ (nameB nm = true ∧ (M nm).isSome = false ∧ nameB lf = false) ∨ (nameB nm = true ∧ (M nm).isSome = false ∧ nameB lf = true ∧ nameB rt = false) ∨ (nameB nm = true ∧ (M nm).isSome = false ∧ nameB lf = true ∧ nameB rt = true ∧ withinB al 1 10000 = false) ∨ (nameB nm = true ∧ (M nm).isSome = false ∧ nameB lf = true ∧ nameB rt = true ∧ withinB al 1 10000 = true ∧ withinB ar 1 10000 = false) ∨ (nameB nm = true ∧ (M nm).isSome = false ∧ nameB lf = true ∧ nameB rt = true ∧ withinB al 1 10000 = true ∧ withinB ar 1 10000 = true) := by
    cases nameB nm <;> cases (M nm).isSome <;> cases nameB lf <;> cases nameB rt <;> cases withinB al 1 10000 <;> cases withinB ar 1 10000 <;> simp
  rcases hcs with h1 | ⟨h1, h2⟩ | ⟨h1, h2, h3⟩ | ⟨h1, h2, h3, h4⟩ | ⟨h1, h2, h3, h4, h5⟩ | ⟨h1, h2, h3, h4, h5, h6⟩ | ⟨h1, h2, h3, h4, h5, h6⟩
  · have HE := Lib.hid (show rkErr (M nm).isSome ⟨nm, lf, rt, al, ar⟩ = 4 from by unfold rkErr; simp only [h1]; simp)
    go_enter Try.func121, Try.ntmps121
    go_wp2_with (first | (go_at_call 131; refine (isname_is _ _ (by assumption) _ (by assumption)).mono ?_; rintro e w' ⟨rfl, rfl⟩) | (go_at_call 79; refine (withinsup_is _ _ _ _ (by assumption) _).mono ?_; rintro e w' ⟨rfl, rfl⟩))
    go_ret
    exact ⟨ret_int HE.out.symm, (Below.refl _ _).alloc (Nat.le_refl _) _⟩
  · have HE := Lib.hid (show rkErr (M nm).isSome ⟨nm, lf, rt, al, ar⟩ = 5 from by unfold rkErr; simp only [h1, h2]; simp)
    go_enter Try.func121, Try.ntmps121
    go_wp2_with (first | (go_at_call 131; refine (isname_is _ _ (by assumption) _ (by assumption)).mono ?_; rintro e w' ⟨rfl, rfl⟩) | (go_at_call 79; refine (withinsup_is _ _ _ _ (by assumption) _).mono ?_; rintro e w' ⟨rfl, rfl⟩))
    go_ret
    exact ⟨ret_int HE.out.symm, (Below.refl _ _).alloc (Nat.le_refl _) _⟩
  · have HE := Lib.hid (show rkErr (M nm).isSome ⟨nm, lf, rt, al, ar⟩ = 4 from by unfold rkErr; simp only [h1, h2, h3]; simp)
    go_enter Try.func121, Try.ntmps121
    go_wp2_with (first | (go_at_call 131; refine (isname_is _ _ (by assumption) _ (by assumption)).mono ?_; rintro e w' ⟨rfl, rfl⟩) | (go_at_call 79; refine (withinsup_is _ _ _ _ (by assumption) _).mono ?_; rintro e w' ⟨rfl, rfl⟩))
    go_ret
    exact ⟨ret_int HE.out.symm, (Below.refl _ _).alloc (Nat.le_refl _) _⟩
  · have HE := Lib.hid (show rkErr (M nm).isSome ⟨nm, lf, rt, al, ar⟩ = 4 from by unfold rkErr; simp only [h1, h2, h3, h4]; simp)
    go_enter Try.func121, Try.ntmps121
    go_wp2_with (first | (go_at_call 131; refine (isname_is _ _ (by assumption) _ (by assumption)).mono ?_; rintro e w' ⟨rfl, rfl⟩) | (go_at_call 79; refine (withinsup_is _ _ _ _ (by assumption) _).mono ?_; rintro e w' ⟨rfl, rfl⟩))
    go_ret
    exact ⟨ret_int HE.out.symm, (Below.refl _ _).alloc (Nat.le_refl _) _⟩
  · have HE := Lib.hid (show rkErr (M nm).isSome ⟨nm, lf, rt, al, ar⟩ = 2 from by unfold rkErr; simp only [h1, h2, h3, h4, h5]; simp)
    go_enter Try.func121, Try.ntmps121
    go_wp2_with (first | (go_at_call 131; refine (isname_is _ _ (by assumption) _ (by assumption)).mono ?_; rintro e w' ⟨rfl, rfl⟩) | (go_at_call 79; refine (withinsup_is _ _ _ _ (by assumption) _).mono ?_; rintro e w' ⟨rfl, rfl⟩))
    go_ret
    exact ⟨ret_int HE.out.symm, (Below.refl _ _).alloc (Nat.le_refl _) _⟩
  · have HE := Lib.hid (show rkErr (M nm).isSome ⟨nm, lf, rt, al, ar⟩ = 2 from by unfold rkErr; simp only [h1, h2, h3, h4, h5, h6]; simp)
    go_enter Try.func121, Try.ntmps121
    go_wp2_with (first | (go_at_call 131; refine (isname_is _ _ (by assumption) _ (by assumption)).mono ?_; rintro e w' ⟨rfl, rfl⟩) | (go_at_call 79; refine (withinsup_is _ _ _ _ (by assumption) _).mono ?_; rintro e w' ⟨rfl, rfl⟩))
    go_ret
    exact ⟨ret_int HE.out.symm, (Below.refl _ _).alloc (Nat.le_refl _) _⟩
  · have HE := Lib.hid (show rkErr (M nm).isSome ⟨nm, lf, rt, al, ar⟩ = 0 from by unfold rkErr; simp only [h1, h2, h3, h4, h5, h6]; simp)
    go_enter Try.func121, Try.ntmps121
    go_wp2_with (first | (go_at_call 131; refine (isname_is _ _ (by assumption) _ (by assumption)).mono ?_; rintro e w' ⟨rfl, rfl⟩) | (go_at_call 79; refine (withinsup_is _ _ _ _ (by assumption) _).mono ?_; rintro e w' ⟨rfl, rfl⟩))
    go_ret
    exact ⟨ret_int HE.out.symm, (Below.refl _ _).alloc (Nat.le_refl _) _⟩

end Go.Proofs.Ytmioamcgbihhjaa
