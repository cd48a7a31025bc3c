import Derived.Test.YtcggceincmljdaaQ4
import Derived.Test.YtcggceincmljdaaQ11

section
/- Arguments of the statements of chapter 6: maps, lines, kinds of wear. -/
namespace Go.Proofs.Ytcggceincmljdaa
open Go Go.RowKit Go.ChangeShapes Go.WideShapes Go.ChangeAt Go.Joins Go.Deep

section
variable {H : Type} {enc : TypeId × Value → H} {P : Program} {w : World} {base b0 : Nat} {spare : Nat → Bool} {held : Bool} {r : Reach} {t e tI tL tM tF tA : TypeId} {v : Value} {d : DataW H} {p : List MemPlace} {fs gs : Array Field} {fuel : Nat} {cs : List Value} {x : DataW H × List MemPlace}
theorem fopen_fields (he : P.underlying t = some (.struct fs)) (hone : oneCellFields P fs = true) (hC : P.cellsOf t = fs.size) (h : DataW.trod enc P w base spare held fuel t cs = some x) :
    cs.length = fs.size ∧ ∃ n, ∀ (j : Nat) (f : Field), fs[j]? = some f → ∃ u y, cs[j]? = some u ∧ DataW.trod enc P w base spare held n f.type [u] = some y := by
  obtain ⟨ys, n', -, -, hlen, hyl, hf⟩ := DataW.trod_struct he h
  rw [hC] at hlen
  refine ⟨hlen, n', fun j f hj => ?_⟩
  obtain ⟨ho, hk⟩ := hone_of hone j f hj
  have hjl : j < fs.size := (Array.getElem?_eq_some_iff.1 hj).1
  have h1 := hf j f hj
  rw [ho, hk] at h1
  have hone' : (cs.drop j).take 1 = [cs[j]'(by omega)] := by rw [List.drop_eq_getElem_cons (by omega)]; rfl
  rw [hone'] at h1
  exact ⟨_, _, List.getElem?_eq_getElem (by omega), h1.trans (List.getElem?_eq_getElem (by omega))⟩
theorem ffield_at {L : List TypeId} (hf : fs.toList.map (·.type) = L) {j : Nat} {t : TypeId} (hj : L[j]? = some t) : ∃ f, fs[j]? = some f ∧ f.type = t := by
  rw [← hf, List.getElem?_map, Array.getElem?_toList] at hj
  cases h : fs[j]? with
  | none => rw [h] at hj; cases hj
  | some f => rw [h] at hj; exact ⟨f, rfl, Option.some.inj hj⟩
theorem fopen_typed {L : List TypeId} (he : P.underlying t = some (.struct fs)) (hone : oneCellFields P fs = true) (hC : P.cellsOf t = fs.size) (hf : fs.toList.map (·.type) = L) (h : DataW.trod enc P w base spare held fuel t cs = some x) :
    cs.length = L.length ∧ ∃ n, ∀ (j : Nat) (t : TypeId), L[j]? = some t → ∃ u y, cs[j]? = some u ∧ DataW.trod enc P w base spare held n t [u] = some y := by
  obtain ⟨h1, n, h2⟩ := fopen_fields he hone hC h
  refine ⟨by rw [h1, ← hf]; simp, n, fun j t hj => ?_⟩
  obtain ⟨f, hfj, rfl⟩ := ffield_at hf hj
  exact h2 j f hfj
theorem fcell_int {n : Nat} {u : Value} {y : DataW H × List MemPlace} (hI : P.underlying tI = some (.int .i64)) (h : DataW.trod enc P w base spare held n tI [u] = some y) : ∃ z, u = .int .i64 z ∧ I64 z := by
  obtain ⟨z, e0, -, hwf⟩ := DataW.trod_int hI h
  simp at e0
  exact ⟨z, e0, I64.of_wf hwf⟩
end
end Go.Proofs.Ytcggceincmljdaa

end

section
/- A mirror and an instrument as an argument: two lists of numbers and a number. -/
namespace Go.Proofs.Ytcggceincmljdaa
open Go Go.RowKit Go.ChangeShapes Go.WideShapes Go.ChangeAt Go.Joins Go.Deep

section
variable {H : Type} {enc : TypeId × Value → H} {P : Program} {w : World} {base b0 : Nat} {spare : Nat → Bool} {held : Bool} {r : Reach} {tM tI tL : TypeId} {v : Value} {d : DataW H} {p : List MemPlace} {fs : Array Field}
/-- Two lists and a number. -/
theorem arg_made (he : P.underlying tM = some (.struct fs)) (hone : oneCellFields P fs = true) (hC : P.cellsOf tM = fs.size) (hI : P.underlying tI = some (.int .i64)) (hL : P.underlying tL = some (.slice tI)) (hcI : P.cellsOf tI = 1)
    (hf : fs.toList.map (·.type) = [tL, tL, tI]) (hv : Value.okWide P w r b0 tM v) (h : DataW.Trod enc P w base spare held tM v d p) :
    ∃ (A1 : Option Addr) (n1 c1 : Nat) (l1 : List Int) (A2 : Option Addr) (n2 c2 : Nat) (l2 : List Int) (z : Int), v = .agg #[.slice A1 n1 c1, .slice A2 n2 c2, .int .i64 z] ∧
      Reads w w.heap.size 1 A1 n1 (l1.map (.int .i64)) ∧ Reads w w.heap.size 1 A2 n2 (l2.map (.int .i64)) ∧ I64 z := by
  obtain ⟨fuel, hf2⟩ := h
  obtain ⟨⟨cs⟩, rfl, hsz⟩ := okWide_struct he hv
  obtain ⟨hl, n, hx⟩ := fopen_typed he hone hC hf hf2
  obtain ⟨u0, y0, c0, t0⟩ := hx 0 _ rfl
  obtain ⟨u1, y1, c1, t1⟩ := hx 1 _ rfl
  obtain ⟨u2, y2, c2, t2⟩ := hx 2 _ rfl
  obtain ⟨r0, a0, a1, a2, a3⟩ := row_ints hL hI hcI t0
  obtain ⟨r1, b0', b1, b2, b3⟩ := row_ints hL hI hcI t1
  obtain ⟨z2, rfl, i2⟩ := fcell_int hI t2
  obtain rfl : u0 = r0.val := by simpa using a0
  obtain rfl : u1 = r1.val := by simpa using b0'
  simp only [Value.cells] at hl c0 c1 c2
  match cs, hl, c0, c1, c2 with
  | [x0, x1, x2], _, c0, c1, c2 =>
    simp at c0 c1 c2
    exact ⟨r0.A, r0.n, r0.c, r0.xs, r1.A, r1.n, r1.c, r1.xs, z2, by rw [c0, c1, c2]; rfl, a3, b3, i2⟩
end
end Go.Proofs.Ytcggceincmljdaa

end

section
/- For every mirror and instrument and every position the call of TopZeroPosition returns true and leaves its arguments as they were; no condition. -/
namespace Go.Proofs.Ytcggceincmljdaa.lawTZ
open Go Go.RowKit Go.ChangeShapes Go.WideShapes Go.ChangeAt Go.Joins

set_option maxRecDepth 100000 in
theorem contract (H : Type) (enc : TypeId × Value → H) (W : World) (base : Nat) (args : Array Value) (ds gs : List (DataW H)) (before : List MemPlace)
    (hval : ∀ (j : Nat) t v, Try.f4.params[j]? = some t → args[j]? = some v → Value.okWide Try.prog W .any base t v)
    (hW : DataW.Whole enc Try.prog Try.f4.params.toList Rows.topZeroPositionSpec.vars false W args.toList ds gs before) :
    Calls Try.prog 4 args W fun e W' => ∃ v, e = .returned v ∧ Rows.topZeroPositionSpec.post enc Try.prog Try.f4 false true false false W args v W' := by
  have hW' := hW
  obtain ⟨p, q, hA, hV, rfl, hfz, hnd⟩ := hW'
  rw [Try.params4] at hA hval
  obtain ⟨v0, vs0, d0, ds0, p0, q0, hargs, rfl, rfl, h0, r0⟩ := trodAll_cons hA
  obtain ⟨v1, vs1, d1, ds1, p1, q1, rfl, rfl, rfl, h1, r1⟩ := trodAll_cons r0
  obtain ⟨rfl, rfl, rfl⟩ := trodAll_nil r1
  obtain rfl : args = #[v0, v1] := by cases args; simp_all
  obtain ⟨A0a, n0a, c0a, l0a, A0b, n0b, c0b, l0b, z0, rfl, hr0a, hr0b, hz0⟩ := arg_made Try.underlying42 (by kernel_rfl) (by kernel_rfl) Try.underlying3 Try.underlying22 (by kernel_rfl) (by kernel_rfl) (hval 0 42 v0 rfl rfl) h0
  obtain ⟨z1, rfl, hz1⟩ := arg_int Try.underlying3 (hval 1 3 v1 rfl rfl) h1
  refine (lawTZ_any A0a n0a c0a l0a A0b n0b c0b l0b z0 z1 W hr0a hr0b).mono fun e W' ⟨he, hg⟩ => ?_
  subst he
  obtain ⟨rfl, rfl⟩ := trodVars_none hV
  exact ⟨_, rfl, post_law hW rfl (by kernel_rfl) Try.underlying4 (by kernel_rfl) rfl rfl rfl hg⟩

set_option maxRecDepth 100000 in
theorem lifted (os : Os) (started : os.Started) (H : Type) (enc : TypeId × Value → H) :
    ReturnsInHanded {} Try.checked os 4 .any (Rows.topZeroPositionSpec.pre6 enc Try.prog Try.f4 Rows.topZeroPositionRow.domain false) (Rows.topZeroPositionSpec.post enc Try.prog Try.f4 false true false false) := by
  refine returnsInHanded_of_change (C := Try.checked) (s := Rows.topZeroPositionSpec) own_knob started (by kernel_rfl) Try.func4
    (ChangeSpec.witness6 (enc := enc) (C := Try.checked) (s := Rows.topZeroPositionSpec) false ⟨#[], #[.agg #[.slice none 0 0, .slice none 0 0, .int .i64 0], .int .i64 0], []⟩ 8 (by kernel_rfl) (by kernel_rfl) (by kernel_rfl) (by kernel_rfl)) ?_
  intro W base args ds gs before hval hW _ _
  exact contract H enc W base args ds gs before hval hW

theorem over : Rows.TopZeroPositionSaid :=
  OpenClaim.holds_of_wide 4 Try.f4 rfl rfl rfl rfl rfl rfl rfl ⟨rfl, rfl, rfl, rfl, rfl⟩ rfl rfl rfl rfl rfl (by kernel_rfl) Try.func4 (by kernel_rfl)
    (of_decide_eq_true (by kernel_rfl)) (by unfold Func.isWrapper; first | (rw [if_pos (by decide +kernel)]; kernel_rfl) | (rw [if_neg (by decide +kernel)]; exact ⟨rfl, rfl⟩))
    (fun os started H enc _ => lifted os started H enc)
end Go.Proofs.Ytcggceincmljdaa.lawTZ

end
