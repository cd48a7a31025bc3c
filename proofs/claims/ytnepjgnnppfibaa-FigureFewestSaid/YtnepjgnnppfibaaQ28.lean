import Derived.Test.YtnepjgnnppfibaaQ6
import Derived.Test.YtnepjgnnppfibaaQ27

section
/- Arguments of the statements of chapter 6: maps, lines, kinds of wear. -/
namespace Go.Proofs.Ytnepjgnnppfibaa
open Go Go.RowKit Go.ChangeShapes Go.WideShapes Go.ChangeAt Go.Joins Go.Deep

section
variable {H : Type} {enc : TypeId × Value → H} {P : Program} {w : World} {base b0 : Nat} {spare : Nat → Bool} {held : Bool} {r : Reach} {t e tI tL tM tF tA : TypeId} {v : Value} {d : DataW H} {p : List MemPlace} {fs gs : Array Field} {fuel : Nat} {cs : List Value} {x : DataW H × List MemPlace}
theorem fopen_fields (he : P.underlying t = some (.struct fs)) (hone : oneCellFields P fs = true) (hC : P.cellsOf t = fs.size) (h : DataW.trod enc P w base spare held fuel t cs = some x) :
    cs.length = fs.size ∧ ∃ n, ∀ (j : Nat) (f : Field), fs[j]? = some f → ∃ u y, cs[j]? = some u ∧ DataW.trod enc P w base spare held n f.type [u] = some y := by
  obtain ⟨ys, n', -, -, hlen, hyl, hf⟩ := DataW.trod_struct he h
  rw [hC] at hlen
  refine ⟨hlen, n', fun j f hj => ?_⟩
  obtain ⟨ho, hk⟩ := hone_of hone j f hj
  have hjl : j < fs.size := (Array.getElem?_eq_some_iff.1 hj).1
  have h1 := hf j f hj
  rw [ho, hk] at h1
  have hone' : (cs.drop j).take 1 = [cs[j]'(by omega)] := by rw [List.drop_eq_getElem_cons (by omega)]; rfl
  rw [hone'] at h1
  exact ⟨_, _, List.getElem?_eq_getElem (by omega), h1.trans (List.getElem?_eq_getElem (by omega))⟩
theorem ffield_at {L : List TypeId} (hf : fs.toList.map (·.type) = L) {j : Nat} {t : TypeId} (hj : L[j]? = some t) : ∃ f, fs[j]? = some f ∧ f.type = t := by
  rw [← hf, List.getElem?_map, Array.getElem?_toList] at hj
  cases h : fs[j]? with
  | none => rw [h] at hj; cases hj
  | some f => rw [h] at hj; exact ⟨f, rfl, Option.some.inj hj⟩
theorem fopen_typed {L : List TypeId} (he : P.underlying t = some (.struct fs)) (hone : oneCellFields P fs = true) (hC : P.cellsOf t = fs.size) (hf : fs.toList.map (·.type) = L) (h : DataW.trod enc P w base spare held fuel t cs = some x) :
    cs.length = L.length ∧ ∃ n, ∀ (j : Nat) (t : TypeId), L[j]? = some t → ∃ u y, cs[j]? = some u ∧ DataW.trod enc P w base spare held n t [u] = some y := by
  obtain ⟨h1, n, h2⟩ := fopen_fields he hone hC h
  refine ⟨by rw [h1, ← hf]; simp, n, fun j t hj => ?_⟩
  obtain ⟨f, hfj, rfl⟩ := ffield_at hf hj
  exact h2 j f hfj
theorem fcell_int {n : Nat} {u : Value} {y : DataW H × List MemPlace} (hI : P.underlying tI = some (.int .i64)) (h : DataW.trod enc P w base spare held n tI [u] = some y) : ∃ z, u = .int .i64 z ∧ I64 z := by
  obtain ⟨z, e0, -, hwf⟩ := DataW.trod_int hI h
  simp at e0
  exact ⟨z, e0, I64.of_wf hwf⟩
end
end Go.Proofs.Ytnepjgnnppfibaa

end

section
/- The kinds of sessions as an argument: lists of lists and two numbers. -/
namespace Go.Proofs.Ytnepjgnnppfibaa
open Go Go.RowKit Go.ChangeShapes Go.WideShapes Go.ChangeAt Go.Joins Go.Deep

section
variable {H : Type} {enc : TypeId × Value → H} {P : Program} {w : World} {base b0 : Nat} {spare : Nat → Bool} {held : Bool} {r : Reach} {t e i tM tI tT tL : TypeId} {v : Value} {d : DataW H} {p : List MemPlace} {fs : Array Field}
/-- A cell that holds a slice of slices of whole numbers. -/
theorem row_tabs {fuel : Nat} {cs : List Value} {x : DataW H × List MemPlace} (ht : P.underlying t = some (.slice e)) (hce : P.cellsOf e = 1) (he : P.underlying e = some (.slice i)) (hi : P.underlying i = some (.int .i64)) (hc : P.cellsOf i = 1) (hf : DataW.trod enc P w base spare held fuel t cs = some x) :
    ∃ (A : Option Addr) (n c : Nat) (l : List TRow), cs = [.slice A n c] ∧ (n ≤ c ∧ c ≤ 9223372036854775807) ∧ l.length = n ∧ (∀ r ∈ l, ∀ z ∈ r.xs, I64 z) ∧ ReadsT w w.heap.size A n l := by
  rcases open_slice ht hf with ⟨h0, -⟩ | ⟨a, len, cap, m, q, D, Pl, hcs, hb, hl, hm, hmm, hx, hat⟩
  · exact ⟨none, 0, 0, [], h0, by omega, rfl, by simp, ⟨Reads.none_, by simp⟩⟩
  have hlm : len ≤ m := by rw [hmm]; split <;> omega
  have hq : ∀ j, j < len → ∃ r : TRow, w.cell? (a.add j) = some r.val ∧ (r.n ≤ r.c ∧ r.c ≤ 9223372036854775807) ∧ (∀ z ∈ r.xs, I64 z) ∧ Reads w w.heap.size 1 r.A r.n (r.xs.map (.int .i64)) := by
    intro j hj
    obtain ⟨cs', h1, h2⟩ := hat j (by omega)
    rw [hce] at h1
    obtain ⟨r, e1, r1, r2, r3⟩ := row_ints he hi hc h2
    obtain ⟨-, hcl, hcc⟩ := World.cells?_some h1
    have h3 := hcc 0 (by omega)
    rw [e1, Go.Deep.add_add, Nat.mul_one, Nat.add_zero] at h3
    exact ⟨r, h3, r1, r2, r3⟩
  obtain ⟨ts, htl, hts⟩ := choose_rows _ hq
  have hmem : ∀ r ∈ ts, (r.n ≤ r.c ∧ r.c ≤ 9223372036854775807) ∧ (∀ z ∈ r.xs, I64 z) ∧ Reads w w.heap.size 1 r.A r.n (r.xs.map (.int .i64)) := fun r hr => by
    obtain ⟨j, hj⟩ := List.getElem?_of_mem hr
    exact (hts j r hj).2
  refine ⟨some a, len, cap, ts, hcs, ⟨hl, by simpa [maxLen] using hm⟩, htl, fun r hr => (hmem r hr).2.1, ?_, fun r hr => ⟨(hmem r hr).1, (hmem r hr).2.2⟩⟩
  rcases Nat.eq_zero_or_pos len with rfl | hp
  · obtain rfl : ts = [] := List.length_eq_zero_iff.1 htl
    exact Reads.none_
  refine Reads.of_adds (by omega) (by simpa using htl) ?_ (fun j u hu => ?_)
  · have := block_of_cell (hts 0 _ (List.getElem?_eq_getElem (by omega))).1
    simpa [Addr.add] using this
  · rw [List.getElem?_map] at hu
    cases hj : ts[j]? with
    | none => rw [hj] at hu; cases hu
    | some z => rw [hj] at hu; cases hu; exact (hts j z hj).1
/-- Kinds of sessions: lists, and two numbers. -/
theorem arg_kinds (he : P.underlying tM = some (.struct fs)) (hone : oneCellFields P fs = true) (hC : P.cellsOf tM = fs.size) (hI : P.underlying tI = some (.int .i64)) (hT : P.underlying tT = some (.slice tL)) (hcL : P.cellsOf tL = 1) (hL : P.underlying tL = some (.slice tI)) (hcI : P.cellsOf tI = 1)
    (hf : fs.toList.map (·.type) = [tT, tI, tI]) (hv : Value.okWide P w r b0 tM v) (h : DataW.Trod enc P w base spare held tM v d p) :
    ∃ (A : Option Addr) (n c : Nat) (l : List TRow) (y z : Int), v = .agg #[.slice A n c, .int .i64 y, .int .i64 z] ∧ (n ≤ c ∧ c ≤ 9223372036854775807) ∧ l.length = n ∧ (∀ r ∈ l, ∀ z ∈ r.xs, I64 z) ∧ ReadsT w w.heap.size A n l ∧ I64 y ∧ I64 z := by
  obtain ⟨fuel, hf2⟩ := h
  obtain ⟨⟨cs⟩, rfl, hsz⟩ := okWide_struct he hv
  obtain ⟨hl, n, hx⟩ := fopen_typed he hone hC hf hf2
  obtain ⟨u0, y0, c0, t0⟩ := hx 0 _ rfl
  obtain ⟨u1, y1, c1, t1⟩ := hx 1 _ rfl
  obtain ⟨u2, y2, c2, t2⟩ := hx 2 _ rfl
  obtain ⟨A, m, c, l, a0, a1, a2, a3, a4⟩ := row_tabs hT hcL hL hI hcI t0
  obtain ⟨z1, rfl, i1⟩ := fcell_int hI t1
  obtain ⟨z2, rfl, i2⟩ := fcell_int hI t2
  obtain rfl : u0 = .slice A m c := by simpa using a0
  simp only [Value.cells] at hl c0 c1 c2
  match cs, hl, c0, c1, c2 with
  | [x0, x1, x2], _, c0, c1, c2 =>
    simp at c0 c1 c2
    exact ⟨A, m, c, l, z1, z2, by rw [c0, c1, c2], a1, a2, a3, a4, i1, i2⟩
end
end Go.Proofs.Ytnepjgnnppfibaa

end

section
/- For all heights, wanted ones and kinds of sessions the call of FigureFewest returns true and leaves its arguments as they were; no condition. -/
namespace Go.Proofs.Ytnepjgnnppfibaa.lawFF
open Go Go.RowKit Go.ChangeShapes Go.WideShapes Go.ChangeAt Go.Joins

set_option maxRecDepth 100000 in
theorem contract (H : Type) (enc : TypeId × Value → H) (W : World) (base : Nat) (args : Array Value) (ds gs : List (DataW H)) (before : List MemPlace)
    (hval : ∀ (j : Nat) t v, Try.f16.params[j]? = some t → args[j]? = some v → Value.okWide Try.prog W .any base t v)
    (hW : DataW.Whole enc Try.prog Try.f16.params.toList Rows.figureFewestSpec.vars false W args.toList ds gs before) :
    Calls Try.prog 16 args W fun e W' => ∃ v, e = .returned v ∧ Rows.figureFewestSpec.post enc Try.prog Try.f16 false true false false W args v W' := by
  have hW' := hW
  obtain ⟨p, q, hA, hV, rfl, hfz, hnd⟩ := hW'
  rw [Try.params16] at hA hval
  obtain ⟨v0, vs0, d0, ds0, p0, q0, hargs, rfl, rfl, h0, r0⟩ := trodAll_cons hA
  obtain ⟨v1, vs1, d1, ds1, p1, q1, rfl, rfl, rfl, h1, r1⟩ := trodAll_cons r0
  obtain ⟨v2, vs2, d2, ds2, p2, q2, rfl, rfl, rfl, h2, r2⟩ := trodAll_cons r1
  obtain ⟨rfl, rfl, rfl⟩ := trodAll_nil r2
  obtain rfl : args = #[v0, v1, v2] := by cases args; simp_all
  obtain ⟨A0, n0, c0, l0, rfl, hn0, hl0, hi0, hr0⟩ := arg_ints Try.underlying22 Try.underlying3 (by kernel_rfl) (hval 0 22 v0 rfl rfl) h0
  obtain ⟨A1, n1, c1, l1, rfl, hn1, hl1, hi1, hr1⟩ := arg_ints Try.underlying22 Try.underlying3 (by kernel_rfl) (hval 1 22 v1 rfl rfl) h1
  obtain ⟨A2, n2, c2, l2, y2, z2, rfl, hn2, hl2, hi2, hr2, hy2, hz2⟩ := arg_kinds Try.underlying107 (by kernel_rfl) (by kernel_rfl) Try.underlying3 Try.underlying93 (by kernel_rfl) Try.underlying22 (by kernel_rfl) (by kernel_rfl) (hval 2 107 v2 rfl rfl) h2
  refine (lawFF_any A0 n0 c0 l0 A1 n1 c1 l1 A2 n2 c2 l2 y2 z2 W hn0 hl0 hi0 hr0 hn1 hl1 hi1 hr1 hn2 hl2 hi2 hr2 hy2 hz2).mono fun e W' ⟨he, hg⟩ => ?_
  subst he
  obtain ⟨rfl, rfl⟩ := trodVars_none hV
  exact ⟨_, rfl, post_law hW rfl (by kernel_rfl) Try.underlying4 (by kernel_rfl) rfl rfl rfl hg⟩

set_option maxRecDepth 100000 in
theorem lifted (os : Os) (started : os.Started) (H : Type) (enc : TypeId × Value → H) :
    ReturnsInHanded {} Try.checked os 16 .any (Rows.figureFewestSpec.pre6 enc Try.prog Try.f16 Rows.figureFewestRow.domain false) (Rows.figureFewestSpec.post enc Try.prog Try.f16 false true false false) := by
  refine returnsInHanded_of_change (C := Try.checked) (s := Rows.figureFewestSpec) own_knob started (by kernel_rfl) Try.func16
    (ChangeSpec.witness6 (enc := enc) (C := Try.checked) (s := Rows.figureFewestSpec) false ⟨#[], #[.slice none 0 0, .slice none 0 0, .agg #[.slice none 0 0, .int .i64 0, .int .i64 0]], []⟩ 8 (by kernel_rfl) (by kernel_rfl) (by kernel_rfl) (by kernel_rfl)) ?_
  intro W base args ds gs before hval hW _ _
  exact contract H enc W base args ds gs before hval hW

theorem over : Rows.FigureFewestSaid :=
  OpenClaim.holds_of_wide 16 Try.f16 rfl rfl rfl rfl rfl rfl rfl ⟨rfl, rfl, rfl, rfl, rfl⟩ rfl rfl rfl rfl rfl (by kernel_rfl) Try.func16 (by kernel_rfl)
    (of_decide_eq_true (by kernel_rfl)) (by unfold Func.isWrapper; first | (rw [if_pos (by decide +kernel)]; kernel_rfl) | (rw [if_neg (by decide +kernel)]; exact ⟨rfl, rfl⟩))
    (fun os started H enc _ => lifted os started H enc)
end Go.Proofs.Ytnepjgnnppfibaa.lawFF

end
