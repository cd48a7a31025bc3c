import Derived.Test.YtnepjgnnppfibaaQ5
import Derived.Test.YtnepjgnnppfibaaQ6
import Derived.Test.YtnepjgnnppfibaaQ25

section
/- Arguments of the statements of chapter 6: maps, lines, kinds of wear. -/
namespace Go.Proofs.Ytnepjgnnppfibaa
open Go Go.RowKit Go.ChangeShapes Go.WideShapes Go.ChangeAt Go.Joins Go.Deep

section
variable {H : Type} {enc : TypeId × Value → H} {P : Program} {w : World} {base b0 : Nat} {spare : Nat → Bool} {held : Bool} {r : Reach} {t e tI tL tM tF tA : TypeId} {v : Value} {d : DataW H} {p : List MemPlace} {fs gs : Array Field} {fuel : Nat} {cs : List Value} {x : DataW H × List MemPlace}
theorem fopen_fields (he : P.underlying t = some (.struct fs)) (hone : oneCellFields P fs = true) (hC : P.cellsOf t = fs.size) (h : DataW.trod enc P w base spare held fuel t cs = some x) :
    cs.length = fs.size ∧ ∃ n, ∀ (j : Nat) (f : Field), fs[j]? = some f → ∃ u y, cs[j]? = some u ∧ DataW.trod enc P w base spare held n f.type [u] = some y := by
  obtain ⟨ys, n', -, -, hlen, hyl, hf⟩ := DataW.trod_struct he h
  rw [hC] at hlen
  refine ⟨hlen, n', fun j f hj => ?_⟩
  obtain ⟨ho, hk⟩ := hone_of hone j f hj
  have hjl : j < fs.size := (Array.getElem?_eq_some_iff.1 hj).1
  have h1 := hf j f hj
  rw [ho, hk] at h1
  have hone' : (cs.drop j).take 1 = [cs[j]'(by omega)] := by rw [List.drop_eq_getElem_cons (by omega)]; rfl
  rw [hone'] at h1
  exact ⟨_, _, List.getElem?_eq_getElem (by omega), h1.trans (List.getElem?_eq_getElem (by omega))⟩
theorem ffield_at {L : List TypeId} (hf : fs.toList.map (·.type) = L) {j : Nat} {t : TypeId} (hj : L[j]? = some t) : ∃ f, fs[j]? = some f ∧ f.type = t := by
  rw [← hf, List.getElem?_map, Array.getElem?_toList] at hj
  cases h : fs[j]? with
  | none => rw [h] at hj; cases hj
  | some f => rw [h] at hj; exact ⟨f, rfl, Option.some.inj hj⟩
theorem fopen_typed {L : List TypeId} (he : P.underlying t = some (.struct fs)) (hone : oneCellFields P fs = true) (hC : P.cellsOf t = fs.size) (hf : fs.toList.map (·.type) = L) (h : DataW.trod enc P w base spare held fuel t cs = some x) :
    cs.length = L.length ∧ ∃ n, ∀ (j : Nat) (t : TypeId), L[j]? = some t → ∃ u y, cs[j]? = some u ∧ DataW.trod enc P w base spare held n t [u] = some y := by
  obtain ⟨h1, n, h2⟩ := fopen_fields he hone hC h
  refine ⟨by rw [h1, ← hf]; simp, n, fun j t hj => ?_⟩
  obtain ⟨f, hfj, rfl⟩ := ffield_at hf hj
  exact h2 j f hfj
theorem fcell_int {n : Nat} {u : Value} {y : DataW H × List MemPlace} (hI : P.underlying tI = some (.int .i64)) (h : DataW.trod enc P w base spare held n tI [u] = some y) : ∃ z, u = .int .i64 z ∧ I64 z := by
  obtain ⟨z, e0, -, hwf⟩ := DataW.trod_int hI h
  simp at e0
  exact ⟨z, e0, I64.of_wf hwf⟩
/-- A map: three lists. -/
theorem arg_rmap (he : P.underlying tM = some (.struct fs)) (hone : oneCellFields P fs = true) (hC : P.cellsOf tM = fs.size) (hI : P.underlying tI = some (.int .i64)) (hL : P.underlying tL = some (.slice tI)) (hcI : P.cellsOf tI = 1)
    (hf : fs.toList.map (·.type) = [tL, tL, tL]) (hv : Value.okWide P w r b0 tM v) (h : DataW.Trod enc P w base spare held tM v d p) :
    ∃ (A1 : Option Addr) (n1 c1 : Nat) (l1 : List Int) (A2 : Option Addr) (n2 c2 : Nat) (l2 : List Int) (A3 : Option Addr) (n3 c3 : Nat) (l3 : List Int), v = .agg #[.slice A1 n1 c1, .slice A2 n2 c2, .slice A3 n3 c3] ∧
      (n1 ≤ c1 ∧ c1 ≤ 9223372036854775807) ∧ (n2 ≤ c2 ∧ c2 ≤ 9223372036854775807) ∧ (n3 ≤ c3 ∧ c3 ≤ 9223372036854775807) ∧
      Reads w w.heap.size 1 A1 n1 (l1.map (.int .i64)) ∧ Reads w w.heap.size 1 A2 n2 (l2.map (.int .i64)) ∧ Reads w w.heap.size 1 A3 n3 (l3.map (.int .i64)) := by
  obtain ⟨fuel, hf2⟩ := h
  obtain ⟨⟨cs⟩, rfl, hsz⟩ := okWide_struct he hv
  obtain ⟨hl, n, hx⟩ := fopen_typed he hone hC hf hf2
  obtain ⟨u0, y0, c0, t0⟩ := hx 0 _ rfl
  obtain ⟨u1, y1, c1, t1⟩ := hx 1 _ rfl
  obtain ⟨u2, y2, c2, t2⟩ := hx 2 _ rfl
  obtain ⟨r0, a0, a1, a2, a3⟩ := row_ints hL hI hcI t0
  obtain ⟨r1, b0', b1, b2, b3⟩ := row_ints hL hI hcI t1
  obtain ⟨r2, d0, d1, d2, d3⟩ := row_ints hL hI hcI t2
  obtain rfl : u0 = r0.val := by simpa using a0
  obtain rfl : u1 = r1.val := by simpa using b0'
  obtain rfl : u2 = r2.val := by simpa using d0
  simp only [Value.cells] at hl c0 c1 c2
  match cs, hl, c0, c1, c2 with
  | [x0, x1, x2], _, c0, c1, c2 =>
    simp at c0 c1 c2
    exact ⟨r0.A, r0.n, r0.c, r0.xs, r1.A, r1.n, r1.c, r1.xs, r2.A, r2.n, r2.c, r2.xs, by rw [c0, c1, c2]; rfl, a1, b1, d1, a3, b3, d3⟩
theorem fopen_two (hs : P.underlying t = some (.struct gs)) (hone : oneCellFields P gs = true) (hC : P.cellsOf t = gs.size) (hI : P.underlying tI = some (.int .i64)) (hf : gs.toList.map (·.type) = [tI, tI]) (h : DataW.trod enc P w base spare held fuel t cs = some x) :
    ∃ a b, cs = [.int .i64 a, .int .i64 b] ∧ I64 a ∧ I64 b := by
  obtain ⟨hl, n, hx⟩ := fopen_typed hs hone hC hf h
  obtain ⟨u0, y0, c0, t0⟩ := hx 0 _ rfl
  obtain ⟨u1, y1, c1, t1⟩ := hx 1 _ rfl
  obtain ⟨z0, rfl, i0⟩ := fcell_int hI t0
  obtain ⟨z1, rfl, i1⟩ := fcell_int hI t1
  match cs, hl with
  | [d0, d1], _ =>
    simp at c0 c1
    exact ⟨z0, z1, by rw [c0, c1], i0, i1⟩
/-- A line. -/
theorem arg_line (hX : P.underlying tM = some (.struct fs)) (hfX : fs.toList.map (fun f => (f.type, f.offset)) = [(tF, 0), (tF, 2), (tA, 4)]) (hCX : P.cellsOf tM = 6)
    (hF : P.underlying tF = some (.struct gs)) (hone : oneCellFields P gs = true) (hC : P.cellsOf tF = gs.size) (hI : P.underlying tI = some (.int .i64)) (hf : gs.toList.map (·.type) = [tI, tI])
    (hA : P.underlying tA = some (.array 2 tI)) (hcI : P.cellsOf tI = 1) (hcA : P.cellsOf tA = 2)
    (hv : Value.okWide P w r b0 tM v) (h : DataW.Trod enc P w base spare held tM v d p) :
    ∃ a b c d x y, v = .agg #[.int .i64 a, .int .i64 b, .int .i64 c, .int .i64 d, .int .i64 x, .int .i64 y] ∧ I64 a ∧ I64 b ∧ I64 c ∧ I64 d ∧ I64 x ∧ I64 y := by
  obtain ⟨fuel, hh⟩ := h
  obtain ⟨⟨cs⟩, rfl, hsz⟩ := okWide_struct hX hv
  obtain ⟨xs, n', -, -, hlen, hxl, hat⟩ := DataW.trod_struct hX hh
  rw [hCX] at hlen
  have hcs : (Value.agg ⟨cs⟩).cells.toList = cs := by simp [Value.cells]
  rw [hcs] at hlen hat
  have hfsz : fs.size = 3 := by have := congrArg List.length hfX; simpa using this
  rw [hfsz] at hxl
  have hF2 : P.cellsOf tF = 2 := by have := congrArg List.length hf; rw [hC]; simpa using this
  have key : ∀ (j : Nat) (t : TypeId) (o : Nat), [(tF, 0), (tF, 2), (tA, 4)][j]? = some (t, o) → ∃ y, DataW.trod enc P w base spare held n' t ((cs.drop o).take (P.cellsOf t)) = some y := by
    intro j t o hj
    rw [← hfX, List.getElem?_map, Array.getElem?_toList] at hj
    cases hfj : fs[j]? with
    | none => rw [hfj] at hj; cases hj
    | some f =>
      rw [hfj] at hj
      have e2 : (f.type, f.offset) = (t, o) := Option.some.inj hj
      obtain ⟨rfl, rfl⟩ : f.type = t ∧ f.offset = o := by simpa using e2
      have hj3 : j < 3 := by rw [← hfsz]; exact (Array.getElem?_eq_some_iff.1 hfj).1
      exact ⟨_, (hat j f hfj).trans (List.getElem?_eq_getElem (by omega))⟩
  obtain ⟨y0, k0⟩ := key 0 tF 0 rfl
  obtain ⟨y1, k1⟩ := key 1 tF 2 rfl
  obtain ⟨y2, k2⟩ := key 2 tA 4 rfl
  rw [hF2] at k0 k1
  rw [hcA] at k2
  obtain ⟨a, b, q1, ia, ib⟩ := fopen_two hF hone hC hI hf k0
  obtain ⟨c, d, q2, ic, id⟩ := fopen_two hF hone hC hI hf k1
  obtain ⟨zs, q, -, -, -, hzl, hel⟩ := DataW.trod_array hA k2
  have e0 := hel 0 (by omega)
  have e1 := hel 1 (by omega)
  rw [hcI, List.getElem?_eq_getElem (by omega)] at e0 e1
  match cs, hlen with
  | [d0, d1, d2, d3, d4, d5], _ =>
    obtain ⟨x, u0, -, wx⟩ := DataW.trod_int hI e0
    obtain ⟨y, u1, -, wy⟩ := DataW.trod_int hI e1
    simp at u0 u1 q1 q2
    obtain ⟨rfl, rfl⟩ := q1
    obtain ⟨rfl, rfl⟩ := q2
    subst u0 u1
    exact ⟨a, b, c, d, x, y, rfl, ia, ib, ic, id, I64.of_wf wx, I64.of_wf wy⟩
end
end Go.Proofs.Ytnepjgnnppfibaa

end

section
/- For every map and every line the call of FigureLeast returns true and leaves its arguments as they were; no condition. -/
namespace Go.Proofs.Ytnepjgnnppfibaa.lawFE
open Go Go.RowKit Go.ChangeShapes Go.WideShapes Go.ChangeAt Go.Joins

set_option maxRecDepth 100000 in
theorem contract (H : Type) (enc : TypeId × Value → H) (W : World) (base : Nat) (args : Array Value) (ds gs : List (DataW H)) (before : List MemPlace)
    (hval : ∀ (j : Nat) t v, Try.f9.params[j]? = some t → args[j]? = some v → Value.okWide Try.prog W .any base t v)
    (hW : DataW.Whole enc Try.prog Try.f9.params.toList Rows.figureLeastSpec.vars false W args.toList ds gs before) :
    Calls Try.prog 9 args W fun e W' => ∃ v, e = .returned v ∧ Rows.figureLeastSpec.post enc Try.prog Try.f9 false true false false W args v W' := by
  have hW' := hW
  obtain ⟨p, q, hA, hV, rfl, hfz, hnd⟩ := hW'
  rw [Try.params9] at hA hval
  obtain ⟨v0, vs0, d0, ds0, p0, q0, hargs, rfl, rfl, h0, r0⟩ := trodAll_cons hA
  obtain ⟨v1, vs1, d1, ds1, p1, q1, rfl, rfl, rfl, h1, r1⟩ := trodAll_cons r0
  obtain ⟨rfl, rfl, rfl⟩ := trodAll_nil r1
  obtain rfl : args = #[v0, v1] := by cases args; simp_all
  obtain ⟨A0a, n0a, c0a, l0a, A0b, n0b, c0b, l0b, A0d, n0d, c0d, l0d, rfl, hn0a, hn0b, hn0d, hr0a, hr0b, hr0d⟩ := arg_rmap Try.underlying24 (by kernel_rfl) (by kernel_rfl) Try.underlying3 Try.underlying22 (by kernel_rfl) (by kernel_rfl) (hval 0 24 v0 rfl rfl) h0
  obtain ⟨a1, b1, c1, d1, x1, y1, rfl, ha1, hb1, hc1, hd1, hx1, hy1⟩ := arg_line Try.underlying75 (by kernel_rfl) (by kernel_rfl) Try.underlying28 (by kernel_rfl) (by kernel_rfl) Try.underlying3 (by kernel_rfl) Try.underlying39 (by kernel_rfl) (by kernel_rfl) (hval 1 75 v1 rfl rfl) h1
  refine (lawFE_any A0a n0a c0a l0a A0b n0b c0b l0b A0d n0d c0d l0d a1 b1 c1 d1 x1 y1 W hn0a hn0b hn0d hr0a hr0b hr0d ha1 hb1 hc1 hd1 hx1 hy1).mono fun e W' ⟨he, hg⟩ => ?_
  subst he
  obtain ⟨rfl, rfl⟩ := trodVars_none hV
  exact ⟨_, rfl, post_law hW rfl (by kernel_rfl) Try.underlying4 (by kernel_rfl) rfl rfl rfl hg⟩

set_option maxRecDepth 100000 in
theorem lifted (os : Os) (started : os.Started) (H : Type) (enc : TypeId × Value → H) :
    ReturnsInHanded {} Try.checked os 9 .any (Rows.figureLeastSpec.pre6 enc Try.prog Try.f9 Rows.figureLeastRow.domain false) (Rows.figureLeastSpec.post enc Try.prog Try.f9 false true false false) := by
  refine returnsInHanded_of_change (C := Try.checked) (s := Rows.figureLeastSpec) own_knob started (by kernel_rfl) Try.func9
    (ChangeSpec.witness6 (enc := enc) (C := Try.checked) (s := Rows.figureLeastSpec) false ⟨#[], #[.agg #[.slice none 0 0, .slice none 0 0, .slice none 0 0], .agg #[.int .i64 0, .int .i64 0, .int .i64 0, .int .i64 0, .int .i64 0, .int .i64 0]], []⟩ 8 (by kernel_rfl) (by kernel_rfl) (by kernel_rfl) (by kernel_rfl)) ?_
  intro W base args ds gs before hval hW _ _
  exact contract H enc W base args ds gs before hval hW

theorem over : Rows.FigureLeastSaid :=
  OpenClaim.holds_of_wide 9 Try.f9 rfl rfl rfl rfl rfl rfl rfl ⟨rfl, rfl, rfl, rfl, rfl⟩ rfl rfl rfl rfl rfl (by kernel_rfl) Try.func9 (by kernel_rfl)
    (of_decide_eq_true (by kernel_rfl)) (by unfold Func.isWrapper; first | (rw [if_pos (by decide +kernel)]; kernel_rfl) | (rw [if_neg (by decide +kernel)]; exact ⟨rfl, rfl⟩))
    (fun os started H enc _ => lifted os started H enc)
end Go.Proofs.Ytnepjgnnppfibaa.lawFE

end
