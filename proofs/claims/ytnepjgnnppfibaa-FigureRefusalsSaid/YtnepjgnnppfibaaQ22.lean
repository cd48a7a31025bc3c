import Derived.Test.YtnepjgnnppfibaaQ21
import Derived.Test.YtnepjgnnppfibaaQ6

section
/- For every enclosure, every tolerance and every pair the call of FigureRefusals returns true and leaves its arguments as they were; no condition. -/
namespace Go.Proofs.Ytnepjgnnppfibaa.lawFR
open Go Go.RowKit Go.ChangeShapes Go.WideShapes Go.ChangeAt Go.Joins

set_option maxRecDepth 100000 in
theorem contract (H : Type) (enc : TypeId × Value → H) (W : World) (base : Nat) (args : Array Value) (ds gs : List (DataW H)) (before : List MemPlace)
    (hval : ∀ (j : Nat) t v, Try.f5.params[j]? = some t → args[j]? = some v → Value.okWide Try.prog W .any base t v)
    (hW : DataW.Whole enc Try.prog Try.f5.params.toList Rows.figureRefusalsSpec.vars false W args.toList ds gs before) :
    Calls Try.prog 5 args W fun e W' => ∃ v, e = .returned v ∧ Rows.figureRefusalsSpec.post enc Try.prog Try.f5 false true false false W args v W' := by
  have hW' := hW
  obtain ⟨p, q, hA, hV, rfl, hfz, hnd⟩ := hW'
  rw [Try.params5] at hA hval
  obtain ⟨v0, vs0, d0, ds0, p0, q0, hargs, rfl, rfl, h0, r0⟩ := trodAll_cons hA
  obtain ⟨v1, vs1, d1, ds1, p1, q1, rfl, rfl, rfl, h1, r1⟩ := trodAll_cons r0
  obtain ⟨v2, vs2, d2, ds2, p2, q2, rfl, rfl, rfl, h2, r2⟩ := trodAll_cons r1
  obtain ⟨rfl, rfl, rfl⟩ := trodAll_nil r2
  obtain rfl : args = #[v0, v1, v2] := by cases args; simp_all
  obtain ⟨A0, n0, c0, l0, rfl, hn0, hl0, hi0, hr0⟩ := arg_pairs Try.underlying36 Try.underlying50 (by kernel_rfl) (by kernel_rfl) Try.underlying3 (by kernel_rfl) (by kernel_rfl) (hval 0 36 v0 rfl rfl) h0
  obtain ⟨a1, b1, rfl, ha1, hb1⟩ := arg_two Try.underlying38 (by kernel_rfl) (by kernel_rfl) Try.underlying3 Try.underlying3 (hval 1 38 v1 rfl rfl) h1
  obtain ⟨a2, b2, rfl, ha2, hb2⟩ := arg_array2 Try.underlying39 (by kernel_rfl) (by kernel_rfl) Try.underlying3 (hval 2 39 v2 rfl rfl) h2
  refine (lawFR_any A0 n0 c0 l0 a1 b1 a2 b2 W hn0 hl0 hi0 hr0 ha1.1 ha1.2 hb1.1 hb1.2 ha2.1 ha2.2 hb2.1 hb2.2).mono fun e W' ⟨he, hg⟩ => ?_
  subst he
  obtain ⟨rfl, rfl⟩ := trodVars_none hV
  exact ⟨_, rfl, post_law hW rfl (by kernel_rfl) Try.underlying4 (by kernel_rfl) rfl rfl rfl hg⟩

set_option maxRecDepth 100000 in
theorem lifted (os : Os) (started : os.Started) (H : Type) (enc : TypeId × Value → H) :
    ReturnsInHanded {} Try.checked os 5 .any (Rows.figureRefusalsSpec.pre6 enc Try.prog Try.f5 Rows.figureRefusalsRow.domain false) (Rows.figureRefusalsSpec.post enc Try.prog Try.f5 false true false false) := by
  refine returnsInHanded_of_change (C := Try.checked) (s := Rows.figureRefusalsSpec) own_knob started (by kernel_rfl) Try.func5
    (ChangeSpec.witness6 (enc := enc) (C := Try.checked) (s := Rows.figureRefusalsSpec) false ⟨#[], #[.slice none 0 0, .agg #[.int .i64 0, .int .i64 0], .agg #[.int .i64 0, .int .i64 0]], []⟩ 8 (by kernel_rfl) (by kernel_rfl) (by kernel_rfl) (by kernel_rfl)) ?_
  intro W base args ds gs before hval hW _ _
  exact contract H enc W base args ds gs before hval hW

theorem over : Rows.FigureRefusalsSaid :=
  OpenClaim.holds_of_wide 5 Try.f5 rfl rfl rfl rfl rfl rfl rfl ⟨rfl, rfl, rfl, rfl, rfl⟩ rfl rfl rfl rfl rfl (by kernel_rfl) Try.func5 (by kernel_rfl)
    (of_decide_eq_true (by kernel_rfl)) (by unfold Func.isWrapper; first | (rw [if_pos (by decide +kernel)]; kernel_rfl) | (rw [if_neg (by decide +kernel)]; exact ⟨rfl, rfl⟩))
    (fun os started H enc _ => lifted os started H enc)
end Go.Proofs.Ytnepjgnnppfibaa.lawFR

end
