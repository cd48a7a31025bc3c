import Derived.Test.YtgamepmipoociaaQ33
import Derived.Test.YtgamepmipoociaaQ14
import Derived.Test.YtgamepmipoociaaQ26
import Derived.Test.YtgamepmipoociaaQ28

section
/- The statement on choices and the bounds of their costs. -/
namespace Go.Proofs.Ytgamepmipoociaa.lawPH
open Go Go.RowKit Go.ChangeShapes Go.WideShapes Go.ChangeAt Go.Joins

set_option maxRecDepth 100000 in
theorem contract (H : Type) (enc : TypeId × Value → H) (W : World) (base : Nat) (args : Array Value) (ds gs : List (DataW H)) (before : List MemPlace)
    (hval : ∀ (j : Nat) t v, Try.f10.params[j]? = some t → args[j]? = some v → Value.okWide Try.prog W .any base t v)
    (hW : DataW.Whole enc Try.prog Try.f10.params.toList Rows.pointChoicesSpec.vars false W args.toList ds gs before) :
    Calls Try.prog 10 args W fun e W' => ∃ v, e = .returned v ∧ Rows.pointChoicesSpec.post enc Try.prog Try.f10 false true false false W args v W' := by
  have hW' := hW
  obtain ⟨p, q, hA, hV, rfl, hfz, hnd⟩ := hW'
  rw [Try.params10] at hA hval
  obtain ⟨v0, vs0, d0, ds0, p0, q0, hargs, rfl, rfl, h0, r0⟩ := trodAll_cons hA
  obtain ⟨v1, vs1, d1, ds1, p1, q1, rfl, rfl, rfl, h1, r1⟩ := trodAll_cons r0
  obtain ⟨v2, vs2, d2, ds2, p2, q2, rfl, rfl, rfl, h2, r2⟩ := trodAll_cons r1
  obtain ⟨rfl, rfl, rfl⟩ := trodAll_nil r2
  obtain rfl : args = #[v0, v1, v2] := by cases args; simp_all
  obtain ⟨m0, A0, n0, c0, l0, d0, q0, rfl, hx0⟩ := arg_tour Try.underlying64 (by kernel_rfl) (by kernel_rfl) Try.underlying42 (by kernel_rfl) (by kernel_rfl) (by kernel_rfl) Try.underlying3 Try.underlying30 Try.underlying38 (by kernel_rfl) (by kernel_rfl) (by kernel_rfl) (by kernel_rfl) Try.underlying62 Try.underlying44 (by kernel_rfl) (by kernel_rfl) (by kernel_rfl) (by kernel_rfl) Try.underlying9 Try.underlying46 (by kernel_rfl) (by kernel_rfl) (by kernel_rfl) (hval 0 64 v0 rfl rfl) h0
  obtain ⟨A1, n1, c1, l1, rfl, hn1, hl1, hi1, hr1⟩ := arg_ints Try.underlying50 Try.underlying3 (by kernel_rfl) (hval 1 50 v1 rfl rfl) h1
  obtain ⟨A2, n2, c2, l2, rfl, hn2, hl2, hi2, hr2⟩ := arg_tabs Try.underlying91 (by kernel_rfl) Try.underlying50 Try.underlying3 (by kernel_rfl) (hval 2 91 v2 rfl rfl) h2
  refine (lawPH_any m0 A0 n0 c0 l0 d0 q0 A1 n1 c1 l1 A2 n2 c2 l2 W hx0 hn1 hl1 hi1 hr1 hn2 hl2 hi2 hr2).mono fun e W' ⟨he, hg⟩ => ?_
  subst he
  obtain ⟨rfl, rfl⟩ := trodVars_none hV
  exact ⟨_, rfl, post_law hW rfl (by kernel_rfl) Try.underlying4 (by kernel_rfl) rfl rfl rfl hg⟩

set_option maxRecDepth 100000 in
theorem lifted (os : Os) (started : os.Started) (H : Type) (enc : TypeId × Value → H) :
    ReturnsInHanded {} Try.checked os 10 .any (Rows.pointChoicesSpec.pre6 enc Try.prog Try.f10 Rows.pointChoicesRow.domain false) (Rows.pointChoicesSpec.post enc Try.prog Try.f10 false true false false) := by
  refine returnsInHanded_of_change (C := Try.checked) (s := Rows.pointChoicesSpec) own_knob started (by kernel_rfl) Try.func10
    (ChangeSpec.witness6 (enc := enc) (C := Try.checked) (s := Rows.pointChoicesSpec) false ⟨#[], #[.agg #[.int .i64 0, .int .i64 0, .int .i64 0, .int .i64 0, .int .i64 0, .slice none 0 0, .slice none 0 0, .slice none 0 0, .int .i64 0, .int .i64 0], .slice none 0 0, .slice none 0 0], []⟩ 8 (by kernel_rfl) (by kernel_rfl) (by kernel_rfl) (by kernel_rfl)) ?_
  intro W base args ds gs before hval hW _ _
  exact contract H enc W base args ds gs before hval hW

theorem over : Rows.PointChoicesSaid :=
  OpenClaim.holds_of_wide 10 Try.f10 rfl rfl rfl rfl rfl rfl rfl ⟨rfl, rfl, rfl, rfl, rfl⟩ rfl rfl rfl rfl rfl (by kernel_rfl) Try.func10 (by kernel_rfl)
    (of_decide_eq_true (by kernel_rfl)) (by unfold Func.isWrapper; first | (rw [if_pos (by decide +kernel)]; kernel_rfl) | (rw [if_neg (by decide +kernel)]; exact ⟨rfl, rfl⟩))
    (fun os started H enc _ => lifted os started H enc)
end Go.Proofs.Ytgamepmipoociaa.lawPH

end
