import Derived.Test.YtkfecbkcghmmhaaQ6
import Derived.Test.YtkfecbkcghmmhaaQ27

section
/- Arguments of the statements of chapter 6: maps, lines, kinds of wear. -/
namespace Go.Proofs.Ytkfecbkcghmmhaa
open Go Go.RowKit Go.ChangeShapes Go.WideShapes Go.ChangeAt Go.Joins Go.Deep

section
variable {H : Type} {enc : TypeId × Value → H} {P : Program} {w : World} {base b0 : Nat} {spare : Nat → Bool} {held : Bool} {r : Reach} {t e tI tL tM tF tA : TypeId} {v : Value} {d : DataW H} {p : List MemPlace} {fs gs : Array Field} {fuel : Nat} {cs : List Value} {x : DataW H × List MemPlace}
theorem fopen_fields (he : P.underlying t = some (.struct fs)) (hone : oneCellFields P fs = true) (hC : P.cellsOf t = fs.size) (h : DataW.trod enc P w base spare held fuel t cs = some x) :
    cs.length = fs.size ∧ ∃ n, ∀ (j : Nat) (f : Field), fs[j]? = some f → ∃ u y, cs[j]? = some u ∧ DataW.trod enc P w base spare held n f.type [u] = some y := by
  obtain ⟨ys, n', -, -, hlen, hyl, hf⟩ := DataW.trod_struct he h
  rw [hC] at hlen
  refine ⟨hlen, n', fun j f hj => ?_⟩
  obtain ⟨ho, hk⟩ := hone_of hone j f hj
  have hjl : j < fs.size := (Array.getElem?_eq_some_iff.1 hj).1
  have h1 := hf j f hj
  rw [ho, hk] at h1
  have hone' : (cs.drop j).take 1 = [cs[j]'(by omega)] := by rw [List.drop_eq_getElem_cons (by omega)]; rfl
  rw [hone'] at h1
  exact ⟨_, _, List.getElem?_eq_getElem (by omega), h1.trans (List.getElem?_eq_getElem (by omega))⟩
theorem ffield_at {L : List TypeId} (hf : fs.toList.map (·.type) = L) {j : Nat} {t : TypeId} (hj : L[j]? = some t) : ∃ f, fs[j]? = some f ∧ f.type = t := by
  rw [← hf, List.getElem?_map, Array.getElem?_toList] at hj
  cases h : fs[j]? with
  | none => rw [h] at hj; cases hj
  | some f => rw [h] at hj; exact ⟨f, rfl, Option.some.inj hj⟩
theorem fopen_typed {L : List TypeId} (he : P.underlying t = some (.struct fs)) (hone : oneCellFields P fs = true) (hC : P.cellsOf t = fs.size) (hf : fs.toList.map (·.type) = L) (h : DataW.trod enc P w base spare held fuel t cs = some x) :
    cs.length = L.length ∧ ∃ n, ∀ (j : Nat) (t : TypeId), L[j]? = some t → ∃ u y, cs[j]? = some u ∧ DataW.trod enc P w base spare held n t [u] = some y := by
  obtain ⟨h1, n, h2⟩ := fopen_fields he hone hC h
  refine ⟨by rw [h1, ← hf]; simp, n, fun j t hj => ?_⟩
  obtain ⟨f, hfj, rfl⟩ := ffield_at hf hj
  exact h2 j f hfj
end
end Go.Proofs.Ytkfecbkcghmmhaa

end

section
/- A measured profile as an argument: heights, pairs, errors. -/
namespace Go.Proofs.Ytkfecbkcghmmhaa
open Go Go.RowKit Go.ChangeShapes Go.WideShapes Go.ChangeAt Go.Joins Go.Deep

section
variable {H : Type} {enc : TypeId × Value → H} {P : Program} {w : World} {base b0 : Nat} {spare : Nat → Bool} {held : Bool} {r : Reach} {t e tI tM tL tA : TypeId} {v : Value} {d : DataW H} {p : List MemPlace} {fs : Array Field}
/-- A cell that holds a list of arrays of two numbers. -/
theorem row_arrs {fuel : Nat} {cs : List Value} {x : DataW H × List MemPlace} (ht : P.underlying t = some (.slice e)) (he : P.underlying e = some (.array 2 tI)) (hC : P.cellsOf e = 2) (hcI : P.cellsOf tI = 1) (hI : P.underlying tI = some (.int .i64)) (hf : DataW.trod enc P w base spare held fuel t cs = some x) :
    ∃ (A : Option Addr) (n c : Nat) (l : List (Int × Int)), cs = [.slice A n c] ∧ (n ≤ c ∧ c ≤ 9223372036854775807) ∧ l.length = n ∧ (∀ p ∈ l, I64 p.1 ∧ I64 p.2) ∧ Reads w w.heap.size 2 A n (cells2 l) := by
  rcases open_slice ht hf with ⟨h0, -⟩ | ⟨a, len, cap, m, n, D, Pl, hcs, hb, hl, hm, hmm, hx, hi⟩
  · exact ⟨none, 0, 0, [], h0, by omega, rfl, by simp, Reads.none_⟩
  have hlm : len ≤ m := by rw [hmm]; split <;> omega
  have hq : ∀ q, q < len * 2 → ∃ z, w.cell? (a.add q) = some (.int .i64 z) ∧ I64 z := by
    intro q hq
    obtain ⟨cs', hc, ht'⟩ := hi (q / 2) (by omega)
    rw [hC] at hc
    obtain ⟨xs, k, -, -, hcl, hxl, hel⟩ := DataW.trod_array he ht'
    rw [hC] at hcl
    obtain ⟨_, hcl', hat⟩ := World.cells?_some hc
    have e0 := hel (q % 2) (by omega)
    rw [hcI, List.getElem?_eq_getElem (by omega)] at e0
    obtain ⟨z, u0, -, wz⟩ := DataW.trod_int hI e0
    have hv' : cs'[q % 2]? = some (.int .i64 z) := by
      have hlt : q % 2 < cs'.length := by omega
      rw [Nat.mul_one, List.drop_eq_getElem_cons hlt, List.take_succ_cons, List.take_zero] at u0
      rw [List.getElem?_eq_getElem hlt, (List.cons.inj u0).1]
    refine ⟨z, ?_, I64.of_wf wz⟩
    have h1 := hat (q % 2) (by omega)
    rw [hv', Go.Deep.add_add] at h1
    rwa [show q / 2 * 2 + q % 2 = q by omega] at h1
  obtain ⟨xs, hxl, hx'⟩ := choose_list _ hq
  obtain ⟨l, l1, l2, l3⟩ := pairs_of_ints len xs hxl
  refine ⟨some a, len, cap, l, hcs, ⟨hl, by simpa [maxLen] using hm⟩, l1, fun p hp => ?_, ?_⟩
  · obtain ⟨h1, h2⟩ := l3 p hp
    obtain ⟨i, hi1⟩ := List.getElem?_of_mem h1
    obtain ⟨j, hj1⟩ := List.getElem?_of_mem h2
    exact ⟨(hx' _ _ hi1).2, (hx' _ _ hj1).2⟩
  · rw [l2]
    rcases Nat.eq_zero_or_pos len with rfl | hp
    · obtain rfl : xs = [] := List.length_eq_zero_iff.1 (by simpa using hxl)
      exact Reads.none_
    refine Reads.of_adds (by omega) (by simpa using hxl) ?_ (fun j u hu => ?_)
    · have := block_of_cell (hx' 0 _ (List.getElem?_eq_getElem (by omega))).1
      simpa [Addr.add] using this
    · rw [List.getElem?_map] at hu
      cases hj : xs[j]? with
      | none => rw [hj] at hu; cases hu
      | some z => rw [hj] at hu; cases hu; exact (hx' j z hj).1
/-- Heights, pairs and errors. -/
theorem arg_meas (he : P.underlying tM = some (.struct fs)) (hone : oneCellFields P fs = true) (hC : P.cellsOf tM = fs.size) (hI : P.underlying tI = some (.int .i64)) (hL : P.underlying tL = some (.slice tI)) (hcI : P.cellsOf tI = 1)
    (hT : P.underlying t = some (.slice e)) (hE : P.underlying e = some (.array 2 tI)) (hcE : P.cellsOf e = 2) (hf : fs.toList.map (·.type) = [tL, t, t]) (hv : Value.okWide P w r b0 tM v) (h : DataW.Trod enc P w base spare held tM v d p) :
    ∃ (A1 : Option Addr) (n1 c1 : Nat) (l1 : List Int) (A2 : Option Addr) (n2 c2 : Nat) (l2 : List (Int × Int)) (A3 : Option Addr) (n3 c3 : Nat) (l3 : List (Int × Int)), v = .agg #[.slice A1 n1 c1, .slice A2 n2 c2, .slice A3 n3 c3] ∧
      (n1 ≤ c1 ∧ c1 ≤ 9223372036854775807) ∧ (n2 ≤ c2 ∧ c2 ≤ 9223372036854775807) ∧ (n3 ≤ c3 ∧ c3 ≤ 9223372036854775807) ∧ (∀ z ∈ l1, I64 z) ∧ (∀ q ∈ l2, I64 q.1 ∧ I64 q.2) ∧ (∀ q ∈ l3, I64 q.1 ∧ I64 q.2) ∧
      Reads w w.heap.size 1 A1 n1 (l1.map (.int .i64)) ∧ Reads w w.heap.size 2 A2 n2 (cells2 l2) ∧ Reads w w.heap.size 2 A3 n3 (cells2 l3) := by
  obtain ⟨fuel, hf2⟩ := h
  obtain ⟨⟨cs⟩, rfl, hsz⟩ := okWide_struct he hv
  obtain ⟨hl, n, hx⟩ := fopen_typed he hone hC hf hf2
  obtain ⟨u0, y0, c0, t0⟩ := hx 0 _ rfl
  obtain ⟨u1, y1, c1, t1⟩ := hx 1 _ rfl
  obtain ⟨u2, y2, c2, t2⟩ := hx 2 _ rfl
  obtain ⟨r0, a0, a1, a2, a3⟩ := row_ints hL hI hcI t0
  obtain ⟨B1, m1, k1, l1, b0', b1, -, b2, b3⟩ := row_arrs hT hE hcE hcI hI t1
  obtain ⟨B2, m2, k2, l2, d0, d1, -, d2, d3⟩ := row_arrs hT hE hcE hcI hI t2
  obtain rfl : u0 = r0.val := by simpa using a0
  obtain rfl : u1 = .slice B1 m1 k1 := by simpa using b0'
  obtain rfl : u2 = .slice B2 m2 k2 := by simpa using d0
  simp only [Value.cells] at hl c0 c1 c2
  match cs, hl, c0, c1, c2 with
  | [x0, x1, x2], _, c0, c1, c2 =>
    simp at c0 c1 c2
    exact ⟨r0.A, r0.n, r0.c, r0.xs, B1, m1, k1, l1, B2, m2, k2, l2, by rw [c0, c1, c2]; rfl, a1, b1, d1, a2, b2, d2, a3, b3, d3⟩
end
end Go.Proofs.Ytkfecbkcghmmhaa

end

section
/- For every measured profile and all lists of q and of weights the call of TopLeastRemoval returns true and leaves its arguments as they were; no condition. -/
namespace Go.Proofs.Ytkfecbkcghmmhaa.lawTV
open Go Go.RowKit Go.ChangeShapes Go.WideShapes Go.ChangeAt Go.Joins

set_option maxRecDepth 100000 in
theorem contract (H : Type) (enc : TypeId × Value → H) (W : World) (base : Nat) (args : Array Value) (ds gs : List (DataW H)) (before : List MemPlace)
    (hval : ∀ (j : Nat) t v, Try.f3.params[j]? = some t → args[j]? = some v → Value.okWide Try.prog W .any base t v)
    (hW : DataW.Whole enc Try.prog Try.f3.params.toList Rows.topLeastRemovalSpec.vars false W args.toList ds gs before) :
    Calls Try.prog 3 args W fun e W' => ∃ v, e = .returned v ∧ Rows.topLeastRemovalSpec.post enc Try.prog Try.f3 false true false false W args v W' := by
  have hW' := hW
  obtain ⟨p, q, hA, hV, rfl, hfz, hnd⟩ := hW'
  rw [Try.params3] at hA hval
  obtain ⟨v0, vs0, d0, ds0, p0, q0, hargs, rfl, rfl, h0, r0⟩ := trodAll_cons hA
  obtain ⟨v1, vs1, d1, ds1, p1, q1, rfl, rfl, rfl, h1, r1⟩ := trodAll_cons r0
  obtain ⟨v2, vs2, d2, ds2, p2, q2, rfl, rfl, rfl, h2, r2⟩ := trodAll_cons r1
  obtain ⟨rfl, rfl, rfl⟩ := trodAll_nil r2
  obtain rfl : args = #[v0, v1, v2] := by cases args; simp_all
  obtain ⟨A0a, n0a, c0a, l0a, A0b, n0b, c0b, l0b, A0d, n0d, c0d, l0d, rfl, hn0a, hn0b, hn0d, hi0a, hi0b, hi0d, hr0a, hr0b, hr0d⟩ := arg_meas Try.underlying25 (by kernel_rfl) (by kernel_rfl) Try.underlying3 Try.underlying22 (by kernel_rfl) Try.underlying23 Try.underlying43 (by kernel_rfl) (by kernel_rfl) (hval 0 25 v0 rfl rfl) h0
  obtain ⟨A1, n1, c1, l1, rfl, hn1, hl1, hi1, hr1⟩ := arg_ints Try.underlying22 Try.underlying3 (by kernel_rfl) (hval 1 22 v1 rfl rfl) h1
  obtain ⟨A2, n2, c2, l2, rfl, hn2, hl2, hi2, hr2⟩ := arg_ints Try.underlying22 Try.underlying3 (by kernel_rfl) (hval 2 22 v2 rfl rfl) h2
  refine (lawTV_any A0a n0a c0a l0a A0b n0b c0b l0b A0d n0d c0d l0d A1 n1 c1 l1 A2 n2 c2 l2 W hr0a hr0b hr0d hr1 hr2).mono fun e W' ⟨he, hg⟩ => ?_
  subst he
  obtain ⟨rfl, rfl⟩ := trodVars_none hV
  exact ⟨_, rfl, post_law hW rfl (by kernel_rfl) Try.underlying4 (by kernel_rfl) rfl rfl rfl hg⟩

set_option maxRecDepth 100000 in
theorem lifted (os : Os) (started : os.Started) (H : Type) (enc : TypeId × Value → H) :
    ReturnsInHanded {} Try.checked os 3 .any (Rows.topLeastRemovalSpec.pre6 enc Try.prog Try.f3 Rows.topLeastRemovalRow.domain false) (Rows.topLeastRemovalSpec.post enc Try.prog Try.f3 false true false false) := by
  refine returnsInHanded_of_change (C := Try.checked) (s := Rows.topLeastRemovalSpec) own_knob started (by kernel_rfl) Try.func3
    (ChangeSpec.witness6 (enc := enc) (C := Try.checked) (s := Rows.topLeastRemovalSpec) false ⟨#[], #[.agg #[.slice none 0 0, .slice none 0 0, .slice none 0 0], .slice none 0 0, .slice none 0 0], []⟩ 8 (by kernel_rfl) (by kernel_rfl) (by kernel_rfl) (by kernel_rfl)) ?_
  intro W base args ds gs before hval hW _ _
  exact contract H enc W base args ds gs before hval hW

theorem over : Rows.TopLeastRemovalSaid :=
  OpenClaim.holds_of_wide 3 Try.f3 rfl rfl rfl rfl rfl rfl rfl ⟨rfl, rfl, rfl, rfl, rfl⟩ rfl rfl rfl rfl rfl (by kernel_rfl) Try.func3 (by kernel_rfl)
    (of_decide_eq_true (by kernel_rfl)) (by unfold Func.isWrapper; first | (rw [if_pos (by decide +kernel)]; kernel_rfl) | (rw [if_neg (by decide +kernel)]; exact ⟨rfl, rfl⟩))
    (fun os started H enc _ => lifted os started H enc)
end Go.Proofs.Ytkfecbkcghmmhaa.lawTV

end
