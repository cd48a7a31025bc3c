import Derived.Test.YtfigbdhfmlhjdaaQ25
import Derived.Test.YtfigbdhfmlhjdaaQ3
import Derived.Test.YtfigbdhfmlhjdaaQ27
import Derived.Test.YtfigbdhfmlhjdaaQ26

section
/- Arguments that are slices of structs of texts and whole numbers; the list of rockers. -/
namespace Go.Proofs.Ytfigbdhfmlhjdaa
open Go Go.RowKit Go.ChangeShapes Go.WideShapes Go.ChangeAt Go.Joins Go.Deep

theorem choose_vals {R : Nat → Value → Prop} (m : Nat) (h : ∀ q, q < m → ∃ z, R q z) : ∃ xs : List Value, xs.length = m ∧ ∀ q z, xs[q]? = some z → R q z := by
  induction m with
  | zero => exact ⟨[], rfl, fun q z h => by simp at h⟩
  | succ m ih =>
    obtain ⟨xs, hl, hx⟩ := ih fun q hq => h q (by omega)
    obtain ⟨z, hz⟩ := h m (by omega)
    refine ⟨xs ++ [z], by simp [hl], fun q u hu => ?_⟩
    rcases Nat.lt_trichotomy q m with hq | hq | hq
    · rw [List.getElem?_append_left (by omega)] at hu
      exact hx q u hu
    · subst hq
      rw [List.getElem?_append_right (by omega), hl, Nat.sub_self] at hu
      simp at hu
      exact hu ▸ hz
    · rw [List.getElem?_eq_none (by simp; omega)] at hu
      cases hu

section
variable {H : Type} {enc : TypeId × Value → H} {P : Program} {w : World} {base b0 : Nat} {spare : Nat → Bool} {held : Bool} {r : Reach} {t e tI tS : TypeId} {v : Value} {d : DataW H} {p : List MemPlace}
/-- A slice of structs of fields of one cell. -/
theorem open_slice_cells {fs : Array Field} {fuel : Nat} {cs : List Value} {x : DataW H × List MemPlace} (ht : P.underlying t = some (.slice e)) (he : P.underlying e = some (.struct fs))
    (hone : oneCellFields P fs = true) (hC : P.cellsOf e = fs.size) (hk : 0 < fs.size) (h : DataW.trod enc P w base spare held fuel t cs = some x) :
    ∃ (A : Option Addr) (n c : Nat) (us : List Value), cs = [.slice A n c] ∧ (n ≤ c ∧ c ≤ 9223372036854775807) ∧ us.length = n * fs.size ∧ Reads w w.heap.size fs.size A n us ∧
      ∀ q u, us[q]? = some u → ∃ (y : DataW H × List MemPlace) (m : Nat) (f : Field), fs[q % fs.size]? = some f ∧ DataW.trod enc P w base spare held m f.type [u] = some y := by
  rcases open_slice_fields ht he hone hC h with ⟨h0, -⟩ | ⟨a, len, cap, hcs, hl, hi⟩
  · exact ⟨none, 0, 0, [], h0, by omega, by simp, Reads.none_, fun q u h => by simp at h⟩
  have hq : ∀ q, q < len * fs.size → ∃ z, w.cell? (a.add q) = some z ∧ ∃ (y : DataW H × List MemPlace) (m : Nat) (f : Field), fs[q % fs.size]? = some f ∧ DataW.trod enc P w base spare held m f.type [z] = some y := by
    intro q hq
    have h1 : q / fs.size < len := Nat.div_lt_of_lt_mul (by rwa [Nat.mul_comm])
    have h2 : q % fs.size < fs.size := Nat.mod_lt _ hk
    obtain ⟨v, y, n, hc, ht'⟩ := hi _ h1 _ _ (Array.getElem?_eq_getElem h2)
    rw [show q / fs.size * fs.size + q % fs.size = q by rw [Nat.mul_comm]; exact Nat.div_add_mod _ _] at hc
    exact ⟨v, hc, y, n, _, Array.getElem?_eq_getElem h2, ht'⟩
  obtain ⟨us, hxl, hx⟩ := choose_vals _ hq
  refine ⟨some a, len, cap, us, hcs, ⟨hl.1, by simpa [maxLen] using hl.2⟩, hxl, ?_, fun q u hu => (hx q u hu).2⟩
  rcases Nat.eq_zero_or_pos len with rfl | hp
  · obtain rfl : us = [] := List.length_eq_zero_iff.1 (by simpa using hxl)
    exact Reads.none_
  refine Reads.of_adds hk hxl ?_ (fun j u hu => (hx j u hu).1)
  have h0 : 0 < us.length := by rw [hxl]; exact Nat.mul_pos hp hk
  have := block_of_cell (hx 0 _ (List.getElem?_eq_getElem h0)).1
  simpa [Addr.add] using this

/-- The kinds of fields: texts and whole numbers. -/
def KindIs (b : Bool) (u : Value) : Prop := if b then ∃ s : ByteArray, u = .string s ∧ s.size ≤ maxLen else ∃ z, u = .int .i64 z ∧ I64 z
theorem arg_kinds {fs : Array Field} (ks : List Bool) (ht : P.underlying t = some (.slice e)) (he : P.underlying e = some (.struct fs)) (hone : oneCellFields P fs = true) (hC : P.cellsOf e = fs.size) (hk : 0 < fs.size)
    (hI : P.underlying tI = some (.int .i64)) (hS : P.underlying tS = some .string) (hf : fs.toList.map (·.type) = ks.map fun b => if b then tS else tI) (hv : Value.okWide P w r b0 t v) (h : DataW.Trod enc P w base spare held t v d p) :
    ∃ (A : Option Addr) (n c : Nat) (us : List Value), v = .slice A n c ∧ (n ≤ c ∧ c ≤ 9223372036854775807) ∧ us.length = n * fs.size ∧ Reads w w.heap.size fs.size A n us ∧
      ∀ q u, us[q]? = some u → KindIs (ks.getD (q % fs.size) false) u := by
  obtain ⟨fuel, hf'⟩ := h
  obtain ⟨A, n, c, us, h1, h2, h3, h4, h5⟩ := open_slice_cells ht he hone hC hk hf'
  refine ⟨A, n, c, us, slice_one ht hv h1, h2, h3, h4, fun q u hu => ?_⟩
  obtain ⟨y, m, f, hfq, ht'⟩ := h5 q u hu
  have e1 : (fs.toList.map (·.type))[q % fs.size]? = some f.type := by
    rw [List.getElem?_map, Array.getElem?_toList, hfq]; rfl
  rw [hf, List.getElem?_map] at e1
  cases hkq : ks[q % fs.size]? with
  | none => rw [hkq] at e1; cases e1
  | some b =>
    rw [hkq] at e1
    have e2 := Option.some.inj e1
    rw [List.getD, hkq]
    unfold KindIs
    cases b
    · simp only [Bool.false_eq_true, if_false, Option.getD_some] at e2 ⊢
      rw [← e2] at ht'
      obtain ⟨z, e0, -, hwf⟩ := DataW.trod_int hI ht'
      simp at e0
      exact ⟨z, e0, I64.of_wf hwf⟩
    · simp only [if_true, Option.getD_some] at e2 ⊢
      rw [← e2] at ht'
      obtain ⟨s, e0, -, hs⟩ := DataW.trod_string hS ht'
      simp at e0
      exact ⟨s, e0, hs⟩
end

theorem rocks_of : ∀ (n : Nat) (us : List Value), us.length = n * 5 → (∀ q u, us[q]? = some u → KindIs ([true, true, true, false, false].getD (q % 5) false) u) → ∃ l : List Rk, l.length = n ∧ rkCells l = us ∧ ∀ r ∈ l, r.Fits
  | 0, us, h, _ => by
    obtain rfl : us = [] := List.length_eq_zero_iff.1 (by simpa using h)
    exact ⟨[], rfl, rfl, by simp⟩
  | n + 1, us, h, hk => by
    match us, h, hk with
    | x0 :: x1 :: x2 :: x3 :: x4 :: t, h, hk =>
      obtain ⟨l, h1, h2, h3⟩ := rocks_of n t (by simp at h; omega) fun q u hu => by
        have := hk (q + 5) u (by simpa using hu)
        rwa [Nat.add_mod_right] at this
      obtain ⟨s0, rfl, f0⟩ : ∃ s : ByteArray, x0 = .string s ∧ s.size ≤ maxLen := hk 0 x0 rfl
      obtain ⟨s1, rfl, f1⟩ : ∃ s : ByteArray, x1 = .string s ∧ s.size ≤ maxLen := hk 1 x1 rfl
      obtain ⟨s2, rfl, f2⟩ : ∃ s : ByteArray, x2 = .string s ∧ s.size ≤ maxLen := hk 2 x2 rfl
      obtain ⟨z3, rfl, -⟩ : ∃ z, x3 = .int .i64 z ∧ I64 z := hk 3 x3 rfl
      obtain ⟨z4, rfl, -⟩ : ∃ z, x4 = .int .i64 z ∧ I64 z := hk 4 x4 rfl
      refine ⟨⟨s0, s1, s2, z3, z4⟩ :: l, by simp [h1], ?_, fun r hr => ?_⟩
      · show _ ++ rkCells l = _
        rw [h2]
        rfl
      · rcases List.mem_cons.1 hr with rfl | hr
        · exact ⟨f0, f1, f2⟩
        · exact h3 r hr
    | [], h, _ => simp at h
    | [_], h, _ => simp at h; omega
    | [_, _], h, _ => simp at h; omega
    | [_, _, _], h, _ => simp at h; omega
    | [_, _, _, _], h, _ => simp at h; omega

section
variable {H : Type} {enc : TypeId × Value → H} {P : Program} {w : World} {base b0 : Nat} {spare : Nat → Bool} {held : Bool} {r : Reach} {t e tI tS : TypeId} {v : Value} {d : DataW H} {p : List MemPlace}
/-- A slice of rockers. -/
theorem arg_rocks {fs : Array Field} (ht : P.underlying t = some (.slice e)) (he : P.underlying e = some (.struct fs)) (hone : oneCellFields P fs = true) (hC : P.cellsOf e = fs.size) (hI : P.underlying tI = some (.int .i64)) (hS : P.underlying tS = some .string)
    (hf : fs.toList.map (·.type) = [tS, tS, tS, tI, tI]) (hk : fs.size = 5) (hv : Value.okWide P w r b0 t v) (h : DataW.Trod enc P w base spare held t v d p) :
    ∃ (A : Option Addr) (n c : Nat) (l : List Rk), v = .slice A n c ∧ (n ≤ c ∧ c ≤ 9223372036854775807) ∧ l.length = n ∧ (∀ r ∈ l, r.Fits) ∧ Reads w w.heap.size 5 A n (rkCells l) := by
  obtain ⟨A, n, c, us, h1, h2, h3, h4, h5⟩ := arg_kinds [true, true, true, false, false] ht he hone hC (by omega) hI hS (by simpa using hf) hv h
  rw [hk] at h3 h4 h5
  obtain ⟨l, l1, l2, l3⟩ := rocks_of n us h3 h5
  exact ⟨A, n, c, l, h1, h2, l1, l3, l2 ▸ h4⟩
end

end Go.Proofs.Ytfigbdhfmlhjdaa

end

section
/- For all rockers and places the call of TopSharesExact returns true and leaves its arguments as they were; no condition. -/
namespace Go.Proofs.Ytfigbdhfmlhjdaa.lawTX
open Go Go.RowKit Go.ChangeShapes Go.WideShapes Go.ChangeAt Go.Joins

set_option maxRecDepth 100000 in
theorem contract (H : Type) (enc : TypeId × Value → H) (W : World) (base : Nat) (args : Array Value) (ds gs : List (DataW H)) (before : List MemPlace)
    (hval : ∀ (j : Nat) t v, Try.f4.params[j]? = some t → args[j]? = some v → Value.okWide Try.prog W .any base t v)
    (hW : DataW.Whole enc Try.prog Try.f4.params.toList Rows.topSharesExactSpec.vars false W args.toList ds gs before) :
    Calls Try.prog 4 args W fun e W' => ∃ v, e = .returned v ∧ Rows.topSharesExactSpec.post enc Try.prog Try.f4 false true false false W args v W' := by
  have hW' := hW
  obtain ⟨p, q, hA, hV, rfl, hfz, hnd⟩ := hW'
  rw [Try.params4] at hA hval
  obtain ⟨v0, vs0, d0, ds0, p0, q0, hargs, rfl, rfl, h0, r0⟩ := trodAll_cons hA
  obtain ⟨v1, vs1, d1, ds1, p1, q1, rfl, rfl, rfl, h1, r1⟩ := trodAll_cons r0
  obtain ⟨rfl, rfl, rfl⟩ := trodAll_nil r1
  obtain rfl : args = #[v0, v1] := by cases args; simp_all
  obtain ⟨A0, n0, c0, l0, rfl, hn0, hl0, hi0, hr0⟩ := arg_rocks Try.underlying22 Try.underlying65 (by kernel_rfl) (by kernel_rfl) Try.underlying3 Try.underlying9 (by kernel_rfl) (by kernel_rfl) (hval 0 22 v0 rfl rfl) h0
  obtain ⟨A1, n1, c1, l1, rfl, hn1, hl1, hi1, hr1⟩ := arg_arrs7 Try.underlying23 Try.underlying50 (by kernel_rfl) (by kernel_rfl) Try.underlying3 (hval 1 23 v1 rfl rfl) h1
  refine (lawTX_any A0 n0 c0 l0 A1 n1 c1 l1 W hn0 hl0 hi0 hr0 hn1 hl1 hi1 hr1).mono fun e W' ⟨he, hg⟩ => ?_
  subst he
  obtain ⟨rfl, rfl⟩ := trodVars_none hV
  exact ⟨_, rfl, post_law hW rfl (by kernel_rfl) Try.underlying4 (by kernel_rfl) rfl rfl rfl hg⟩

set_option maxRecDepth 100000 in
theorem lifted (os : Os) (started : os.Started) (H : Type) (enc : TypeId × Value → H) :
    ReturnsInHanded {} Try.checked os 4 .any (Rows.topSharesExactSpec.pre6 enc Try.prog Try.f4 Rows.topSharesExactRow.domain false) (Rows.topSharesExactSpec.post enc Try.prog Try.f4 false true false false) := by
  refine returnsInHanded_of_change (C := Try.checked) (s := Rows.topSharesExactSpec) own_knob started (by kernel_rfl) Try.func4
    (ChangeSpec.witness6 (enc := enc) (C := Try.checked) (s := Rows.topSharesExactSpec) false ⟨#[], #[.slice none 0 0, .slice none 0 0], []⟩ 8 (by kernel_rfl) (by kernel_rfl) (by kernel_rfl) (by kernel_rfl)) ?_
  intro W base args ds gs before hval hW _ _
  exact contract H enc W base args ds gs before hval hW

theorem over : Rows.TopSharesExactSaid :=
  OpenClaim.holds_of_wide 4 Try.f4 rfl rfl rfl rfl rfl rfl rfl ⟨rfl, rfl, rfl, rfl, rfl⟩ rfl rfl rfl rfl rfl (by kernel_rfl) Try.func4 (by kernel_rfl)
    (of_decide_eq_true (by kernel_rfl)) (by unfold Func.isWrapper; first | (rw [if_pos (by decide +kernel)]; kernel_rfl) | (rw [if_neg (by decide +kernel)]; exact ⟨rfl, rfl⟩))
    (fun os started H enc _ => lifted os started H enc)
end Go.Proofs.Ytfigbdhfmlhjdaa.lawTX

end
