import Derived.Test.YtgamepmipoociaaQ26
import Derived.Test.YtgamepmipoociaaQ32
import Derived.Test.YtgamepmipoociaaQ14

section
/- Arguments that are lists of stars. -/
namespace Go.Proofs.Ytgamepmipoociaa
open Go Go.RowKit Go.ChangeShapes Go.WideShapes Go.ChangeAt Go.Joins Go.Deep

def StarKind (w : World) (q : Nat) (u : Value) : Prop :=
  if q = 0 then ∃ r : TRow, u = r.val ∧ (r.n ≤ r.c ∧ r.c ≤ 9223372036854775807) ∧ (∀ z ∈ r.xs, I64 z) ∧ Reads w w.heap.size 1 r.A r.n (r.xs.map (.int .i64)) else ∃ z, u = .int .i64 z ∧ I64 z
theorem stars_of (w : World) : ∀ (n : Nat) (us : List Value), us.length = n * 2 → (∀ q u, us[q]? = some u → StarKind w (q % 2) u) →
    ∃ l : List Star, l.length = n ∧ starCells l = us ∧ ∀ s ∈ l, ((s.n ≤ s.c ∧ s.c ≤ 9223372036854775807) ∧ Reads w w.heap.size 1 s.A s.n (s.xs.map (.int .i64))) ∧ (∀ z ∈ s.xs, I64 z) ∧ I64 s.er
  | 0, us, h, _ => by
    obtain rfl : us = [] := List.length_eq_zero_iff.1 (by simpa using h)
    exact ⟨[], rfl, rfl, by simp⟩
  | n + 1, us, h, hk => by
    match us, h, hk with
    | x0 :: x1 :: t, h, hk =>
      obtain ⟨l, h1, h2, h3⟩ := stars_of w n t (by simp at h; omega) fun q u hu => by
        have := hk (q + 2) u (by simpa using hu)
        rwa [Nat.add_mod_right] at this
      obtain ⟨r, rfl, f1, f2, f3⟩ : ∃ r : TRow, x0 = r.val ∧ (r.n ≤ r.c ∧ r.c ≤ 9223372036854775807) ∧ (∀ z ∈ r.xs, I64 z) ∧ Reads w w.heap.size 1 r.A r.n (r.xs.map (.int .i64)) := hk 0 x0 rfl
      obtain ⟨z, rfl, hz⟩ : ∃ z, x1 = .int .i64 z ∧ I64 z := hk 1 x1 rfl
      refine ⟨⟨r.A, r.n, r.c, r.xs, z⟩ :: l, by simp [h1], ?_, fun s hs => ?_⟩
      · show _ ++ starCells l = _
        rw [h2]
        rfl
      · rcases List.mem_cons.1 hs with rfl | hs
        · exact ⟨⟨f1, f3⟩, f2, hz⟩
        · exact h3 s hs
    | [], h, _ => simp at h
    | [_], h, _ => simp at h; omega

section
variable {H : Type} {enc : TypeId × Value → H} {P : Program} {w : World} {base b0 : Nat} {spare : Nat → Bool} {held : Bool} {r : Reach} {t e tI tL : TypeId} {v : Value} {d : DataW H} {p : List MemPlace}
/-- A list of stars. -/
theorem arg_stars {fs : Array Field} (ht : P.underlying t = some (.slice e)) (he : P.underlying e = some (.struct fs)) (hone : oneCellFields P fs = true) (hC : P.cellsOf e = fs.size) (hI : P.underlying tI = some (.int .i64)) (hL : P.underlying tL = some (.slice tI)) (hcI : P.cellsOf tI = 1)
    (hf : fs.toList.map (·.type) = [tL, tI]) (hk : fs.size = 2) (hv : Value.okWide P w r b0 t v) (h : DataW.Trod enc P w base spare held t v d p) :
    ∃ (A : Option Addr) (n c : Nat) (l : List Star), v = .slice A n c ∧ (n ≤ c ∧ c ≤ 9223372036854775807) ∧ (∀ s ∈ l, (∀ z ∈ s.xs, I64 z) ∧ I64 s.er) ∧ StarsAt l A n w := by
  obtain ⟨fuel, hf'⟩ := h
  obtain ⟨A, n, c, us, h1, h2, h3, h4, h5⟩ := open_slice_cells ht he hone hC (by omega) hf'
  rw [hk] at h3 h4 h5
  obtain ⟨l, l1, l2, l3⟩ := stars_of w n us h3 fun q u hu => by
    obtain ⟨y, m, f, hfq, ht'⟩ := h5 q u hu
    have e1 : (fs.toList.map (·.type))[q % 2]? = some f.type := by
      rw [List.getElem?_map, Array.getElem?_toList, hfq]; rfl
    rw [hf] at e1
    unfold StarKind
    rcases (show q % 2 = 0 ∨ q % 2 = 1 by omega) with h0 | h0
    · rw [h0] at e1 ⊢
      have e2 : tL = f.type := Option.some.inj e1
      rw [← e2] at ht'
      obtain ⟨r', e0, e3⟩ := row_ints hL hI hcI ht'
      rw [if_pos rfl]
      exact ⟨r', by simpa using e0, e3⟩
    · rw [h0] at e1 ⊢
      have e2 : tI = f.type := Option.some.inj e1
      rw [← e2] at ht'
      rw [if_neg (by decide)]
      exact cell_int hI ht'
  exact ⟨A, n, c, l, slice_one ht hv h1, h2, fun s hs => (l3 s hs).2, l2 ▸ h4, fun s hs => (l3 s hs).1⟩
end
end Go.Proofs.Ytgamepmipoociaa

end

section
/- The statement on stars that a model predicts exactly. -/
namespace Go.Proofs.Ytgamepmipoociaa.lawPY
open Go Go.RowKit Go.ChangeShapes Go.WideShapes Go.ChangeAt Go.Joins

set_option maxRecDepth 100000 in
theorem contract (H : Type) (enc : TypeId × Value → H) (W : World) (base : Nat) (args : Array Value) (ds gs : List (DataW H)) (before : List MemPlace)
    (hval : ∀ (j : Nat) t v, Try.f13.params[j]? = some t → args[j]? = some v → Value.okWide Try.prog W .any base t v)
    (hW : DataW.Whole enc Try.prog Try.f13.params.toList Rows.pointExactSpec.vars false W args.toList ds gs before) :
    Calls Try.prog 13 args W fun e W' => ∃ v, e = .returned v ∧ Rows.pointExactSpec.post enc Try.prog Try.f13 false true false false W args v W' := by
  have hW' := hW
  obtain ⟨p, q, hA, hV, rfl, hfz, hnd⟩ := hW'
  rw [Try.params13] at hA hval
  obtain ⟨v0, vs0, d0, ds0, p0, q0, hargs, rfl, rfl, h0, r0⟩ := trodAll_cons hA
  obtain ⟨v1, vs1, d1, ds1, p1, q1, rfl, rfl, rfl, h1, r1⟩ := trodAll_cons r0
  obtain ⟨rfl, rfl, rfl⟩ := trodAll_nil r1
  obtain rfl : args = #[v0, v1] := by cases args; simp_all
  obtain ⟨A0, n0, c0, l0, rfl, hn0, hi0, hr0⟩ := arg_stars Try.underlying97 Try.underlying121 (by kernel_rfl) (by kernel_rfl) Try.underlying3 Try.underlying50 (by kernel_rfl) (by kernel_rfl) (by kernel_rfl) (hval 0 97 v0 rfl rfl) h0
  obtain ⟨A1, n1, c1, l1, rfl, hn1, hl1, hi1, hr1⟩ := arg_ints Try.underlying50 Try.underlying3 (by kernel_rfl) (hval 1 50 v1 rfl rfl) h1
  refine (lawPY_any A0 n0 c0 l0 A1 n1 c1 l1 W hn0 hi0 hr0 hn1 hl1 hi1 hr1).mono fun e W' ⟨he, hg⟩ => ?_
  subst he
  obtain ⟨rfl, rfl⟩ := trodVars_none hV
  exact ⟨_, rfl, post_law hW rfl (by kernel_rfl) Try.underlying4 (by kernel_rfl) rfl rfl rfl hg⟩

set_option maxRecDepth 100000 in
theorem lifted (os : Os) (started : os.Started) (H : Type) (enc : TypeId × Value → H) :
    ReturnsInHanded {} Try.checked os 13 .any (Rows.pointExactSpec.pre6 enc Try.prog Try.f13 Rows.pointExactRow.domain false) (Rows.pointExactSpec.post enc Try.prog Try.f13 false true false false) := by
  refine returnsInHanded_of_change (C := Try.checked) (s := Rows.pointExactSpec) own_knob started (by kernel_rfl) Try.func13
    (ChangeSpec.witness6 (enc := enc) (C := Try.checked) (s := Rows.pointExactSpec) false ⟨#[], #[.slice none 0 0, .slice none 0 0], []⟩ 8 (by kernel_rfl) (by kernel_rfl) (by kernel_rfl) (by kernel_rfl)) ?_
  intro W base args ds gs before hval hW _ _
  exact contract H enc W base args ds gs before hval hW

theorem over : Rows.PointExactSaid :=
  OpenClaim.holds_of_wide 13 Try.f13 rfl rfl rfl rfl rfl rfl rfl ⟨rfl, rfl, rfl, rfl, rfl⟩ rfl rfl rfl rfl rfl (by kernel_rfl) Try.func13 (by kernel_rfl)
    (of_decide_eq_true (by kernel_rfl)) (by unfold Func.isWrapper; first | (rw [if_pos (by decide +kernel)]; kernel_rfl) | (rw [if_neg (by decide +kernel)]; exact ⟨rfl, rfl⟩))
    (fun os started H enc _ => lifted os started H enc)
end Go.Proofs.Ytgamepmipoociaa.lawPY

end
