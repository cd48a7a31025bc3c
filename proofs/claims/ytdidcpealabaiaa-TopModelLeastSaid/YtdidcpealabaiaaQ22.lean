import Derived.Test.YtdidcpealabaiaaQ9
import Derived.Test.YtdidcpealabaiaaQ2
import Derived.Test.YtdidcpealabaiaaQ7
import Derived.Test.YtdidcpealabaiaaQ11
import Derived.Test.YtdidcpealabaiaaQ13
import Derived.Test.YtdidcpealabaiaaQ21

section
/- Arguments that are slices of structs of texts and whole numbers; the list of rockers. -/
namespace Go.Proofs.Ytdidcpealabaiaa
open Go Go.RowKit Go.ChangeShapes Go.WideShapes Go.ChangeAt Go.Joins Go.Deep

theorem choose_vals {R : Nat → Value → Prop} (m : Nat) (h : ∀ q, q < m → ∃ z, R q z) : ∃ xs : List Value, xs.length = m ∧ ∀ q z, xs[q]? = some z → R q z := by
  induction m with
  | zero => exact ⟨[], rfl, fun q z h => by simp at h⟩
  | succ m ih =>
    obtain ⟨xs, hl, hx⟩ := ih fun q hq => h q (by omega)
    obtain ⟨z, hz⟩ := h m (by omega)
    refine ⟨xs ++ [z], by simp [hl], fun q u hu => ?_⟩
    rcases Nat.lt_trichotomy q m with hq | hq | hq
    · rw [List.getElem?_append_left (by omega)] at hu
      exact hx q u hu
    · subst hq
      rw [List.getElem?_append_right (by omega), hl, Nat.sub_self] at hu
      simp at hu
      exact hu ▸ hz
    · rw [List.getElem?_eq_none (by simp; omega)] at hu
      cases hu

section
variable {H : Type} {enc : TypeId × Value → H} {P : Program} {w : World} {base b0 : Nat} {spare : Nat → Bool} {held : Bool} {r : Reach} {t e tI tS : TypeId} {v : Value} {d : DataW H} {p : List MemPlace}
/-- A slice of structs of fields of one cell. -/
theorem open_slice_cells {fs : Array Field} {fuel : Nat} {cs : List Value} {x : DataW H × List MemPlace} (ht : P.underlying t = some (.slice e)) (he : P.underlying e = some (.struct fs))
    (hone : oneCellFields P fs = true) (hC : P.cellsOf e = fs.size) (hk : 0 < fs.size) (h : DataW.trod enc P w base spare held fuel t cs = some x) :
    ∃ (A : Option Addr) (n c : Nat) (us : List Value), cs = [.slice A n c] ∧ (n ≤ c ∧ c ≤ 9223372036854775807) ∧ us.length = n * fs.size ∧ Reads w w.heap.size fs.size A n us ∧
      ∀ q u, us[q]? = some u → ∃ (y : DataW H × List MemPlace) (m : Nat) (f : Field), fs[q % fs.size]? = some f ∧ DataW.trod enc P w base spare held m f.type [u] = some y := by
  rcases open_slice_fields ht he hone hC h with ⟨h0, -⟩ | ⟨a, len, cap, hcs, hl, hi⟩
  · exact ⟨none, 0, 0, [], h0, by omega, by simp, Reads.none_, fun q u h => by simp at h⟩
  have hq : ∀ q, q < len * fs.size → ∃ z, w.cell? (a.add q) = some z ∧ ∃ (y : DataW H × List MemPlace) (m : Nat) (f : Field), fs[q % fs.size]? = some f ∧ DataW.trod enc P w base spare held m f.type [z] = some y := by
    intro q hq
    have h1 : q / fs.size < len := Nat.div_lt_of_lt_mul (by rwa [Nat.mul_comm])
    have h2 : q % fs.size < fs.size := Nat.mod_lt _ hk
    obtain ⟨v, y, n, hc, ht'⟩ := hi _ h1 _ _ (Array.getElem?_eq_getElem h2)
    rw [show q / fs.size * fs.size + q % fs.size = q by rw [Nat.mul_comm]; exact Nat.div_add_mod _ _] at hc
    exact ⟨v, hc, y, n, _, Array.getElem?_eq_getElem h2, ht'⟩
  obtain ⟨us, hxl, hx⟩ := choose_vals _ hq
  refine ⟨some a, len, cap, us, hcs, ⟨hl.1, by simpa [maxLen] using hl.2⟩, hxl, ?_, fun q u hu => (hx q u hu).2⟩
  rcases Nat.eq_zero_or_pos len with rfl | hp
  · obtain rfl : us = [] := List.length_eq_zero_iff.1 (by simpa using hxl)
    exact Reads.none_
  refine Reads.of_adds hk hxl ?_ (fun j u hu => (hx j u hu).1)
  have h0 : 0 < us.length := by rw [hxl]; exact Nat.mul_pos hp hk
  have := block_of_cell (hx 0 _ (List.getElem?_eq_getElem h0)).1
  simpa [Addr.add] using this

/-- The kinds of fields: texts and whole numbers. -/
def KindIs (b : Bool) (u : Value) : Prop := if b then ∃ s : ByteArray, u = .string s ∧ s.size ≤ maxLen else ∃ z, u = .int .i64 z ∧ I64 z
end

section
variable {H : Type} {enc : TypeId × Value → H} {P : Program} {w : World} {base b0 : Nat} {spare : Nat → Bool} {held : Bool} {r : Reach} {t e tI tS : TypeId} {v : Value} {d : DataW H} {p : List MemPlace}
end

end Go.Proofs.Ytdidcpealabaiaa

end

section
/- Arguments of the statements on pointing: mountings, targets, tours, stars, models. -/
namespace Go.Proofs.Ytdidcpealabaiaa
open Go Go.RowKit Go.ChangeShapes Go.WideShapes Go.ChangeAt Go.Joins Go.Deep

section
variable {H : Type} {enc : TypeId × Value → H} {P : Program} {w : World} {base b0 : Nat} {spare : Nat → Bool} {held : Bool} {r : Reach} {t e tI tS tR tL tA tM tN : TypeId} {v : Value} {d : DataW H} {p : List MemPlace} {fs gs : Array Field} {fuel : Nat} {cs : List Value} {x : DataW H × List MemPlace}
theorem cell_int {n : Nat} {u : Value} {y : DataW H × List MemPlace} (hI : P.underlying tI = some (.int .i64)) (h : DataW.trod enc P w base spare held n tI [u] = some y) : ∃ z, u = .int .i64 z ∧ I64 z := by
  obtain ⟨z, e0, -, hwf⟩ := DataW.trod_int hI h
  simp at e0
  exact ⟨z, e0, I64.of_wf hwf⟩
/-- What is known of the numbers of a mounting that is an argument. -/
structure MntIn (m : Mnt) (w : World) : Prop where
  at_ : MntAt m w
  c1 : m.n1 ≤ m.c1 ∧ m.c1 ≤ 9223372036854775807
  c2 : m.n2 ≤ m.c2 ∧ m.c2 ≤ 9223372036854775807
  i1 : I64 m.ls
  i2 : I64 m.ms
  i3 : ∀ p ∈ m.l2, I64 p.1 ∧ I64 p.2
structure TgtIn (t : Tgt) : Prop where
  s : t.name.size ≤ maxLen
  i1 : I64 t.az
end
end Go.Proofs.Ytdidcpealabaiaa

end

section
/- Arguments that are lists of stars. -/
namespace Go.Proofs.Ytdidcpealabaiaa
open Go Go.RowKit Go.ChangeShapes Go.WideShapes Go.ChangeAt Go.Joins Go.Deep

def StarKind (w : World) (q : Nat) (u : Value) : Prop :=
  if q = 0 then ∃ r : TRow, u = r.val ∧ (r.n ≤ r.c ∧ r.c ≤ 9223372036854775807) ∧ (∀ z ∈ r.xs, I64 z) ∧ Reads w w.heap.size 1 r.A r.n (r.xs.map (.int .i64)) else ∃ z, u = .int .i64 z ∧ I64 z
theorem stars_of (w : World) : ∀ (n : Nat) (us : List Value), us.length = n * 2 → (∀ q u, us[q]? = some u → StarKind w (q % 2) u) →
    ∃ l : List Star, l.length = n ∧ starCells l = us ∧ ∀ s ∈ l, ((s.n ≤ s.c ∧ s.c ≤ 9223372036854775807) ∧ Reads w w.heap.size 1 s.A s.n (s.xs.map (.int .i64))) ∧ (∀ z ∈ s.xs, I64 z) ∧ I64 s.er
  | 0, us, h, _ => by
    obtain rfl : us = [] := List.length_eq_zero_iff.1 (by simpa using h)
    exact ⟨[], rfl, rfl, by simp⟩
  | n + 1, us, h, hk => by
    match us, h, hk with
    | x0 :: x1 :: t, h, hk =>
      obtain ⟨l, h1, h2, h3⟩ := stars_of w n t (by simp at h; omega) fun q u hu => by
        have := hk (q + 2) u (by simpa using hu)
        rwa [Nat.add_mod_right] at this
      obtain ⟨r, rfl, f1, f2, f3⟩ : ∃ r : TRow, x0 = r.val ∧ (r.n ≤ r.c ∧ r.c ≤ 9223372036854775807) ∧ (∀ z ∈ r.xs, I64 z) ∧ Reads w w.heap.size 1 r.A r.n (r.xs.map (.int .i64)) := hk 0 x0 rfl
      obtain ⟨z, rfl, hz⟩ : ∃ z, x1 = .int .i64 z ∧ I64 z := hk 1 x1 rfl
      refine ⟨⟨r.A, r.n, r.c, r.xs, z⟩ :: l, by simp [h1], ?_, fun s hs => ?_⟩
      · show _ ++ starCells l = _
        rw [h2]
        rfl
      · rcases List.mem_cons.1 hs with rfl | hs
        · exact ⟨⟨f1, f3⟩, f2, hz⟩
        · exact h3 s hs
    | [], h, _ => simp at h
    | [_], h, _ => simp at h; omega

section
variable {H : Type} {enc : TypeId × Value → H} {P : Program} {w : World} {base b0 : Nat} {spare : Nat → Bool} {held : Bool} {r : Reach} {t e tI tL : TypeId} {v : Value} {d : DataW H} {p : List MemPlace}
/-- A list of stars. -/
theorem arg_stars {fs : Array Field} (ht : P.underlying t = some (.slice e)) (he : P.underlying e = some (.struct fs)) (hone : oneCellFields P fs = true) (hC : P.cellsOf e = fs.size) (hI : P.underlying tI = some (.int .i64)) (hL : P.underlying tL = some (.slice tI)) (hcI : P.cellsOf tI = 1)
    (hf : fs.toList.map (·.type) = [tL, tI]) (hk : fs.size = 2) (hv : Value.okWide P w r b0 t v) (h : DataW.Trod enc P w base spare held t v d p) :
    ∃ (A : Option Addr) (n c : Nat) (l : List Star), v = .slice A n c ∧ (n ≤ c ∧ c ≤ 9223372036854775807) ∧ (∀ s ∈ l, (∀ z ∈ s.xs, I64 z) ∧ I64 s.er) ∧ StarsAt l A n w := by
  obtain ⟨fuel, hf'⟩ := h
  obtain ⟨A, n, c, us, h1, h2, h3, h4, h5⟩ := open_slice_cells ht he hone hC (by omega) hf'
  rw [hk] at h3 h4 h5
  obtain ⟨l, l1, l2, l3⟩ := stars_of w n us h3 fun q u hu => by
    obtain ⟨y, m, f, hfq, ht'⟩ := h5 q u hu
    have e1 : (fs.toList.map (·.type))[q % 2]? = some f.type := by
      rw [List.getElem?_map, Array.getElem?_toList, hfq]; rfl
    rw [hf] at e1
    unfold StarKind
    rcases (show q % 2 = 0 ∨ q % 2 = 1 by omega) with h0 | h0
    · rw [h0] at e1 ⊢
      have e2 : tL = f.type := Option.some.inj e1
      rw [← e2] at ht'
      obtain ⟨r', e0, e3⟩ := row_ints hL hI hcI ht'
      rw [if_pos rfl]
      exact ⟨r', by simpa using e0, e3⟩
    · rw [h0] at e1 ⊢
      have e2 : tI = f.type := Option.some.inj e1
      rw [← e2] at ht'
      rw [if_neg (by decide)]
      exact cell_int hI ht'
  exact ⟨A, n, c, l, slice_one ht hv h1, h2, fun s hs => (l3 s hs).2, l2 ▸ h4, fun s hs => (l3 s hs).1⟩
end
end Go.Proofs.Ytdidcpealabaiaa

end

section
/- The statement on the least squares. -/
namespace Go.Proofs.Ytdidcpealabaiaa.lawTM
open Go Go.RowKit Go.ChangeShapes Go.WideShapes Go.ChangeAt Go.Joins

set_option maxRecDepth 100000 in
theorem contract (H : Type) (enc : TypeId × Value → H) (W : World) (base : Nat) (args : Array Value) (ds gs : List (DataW H)) (before : List MemPlace)
    (hval : ∀ (j : Nat) t v, Try.f11.params[j]? = some t → args[j]? = some v → Value.okWide Try.prog W .any base t v)
    (hW : DataW.Whole enc Try.prog Try.f11.params.toList Rows.topModelLeastSpec.vars false W args.toList ds gs before) :
    Calls Try.prog 11 args W fun e W' => ∃ v, e = .returned v ∧ Rows.topModelLeastSpec.post enc Try.prog Try.f11 false true false false W args v W' := by
  have hW' := hW
  obtain ⟨p, q, hA, hV, rfl, hfz, hnd⟩ := hW'
  rw [Try.params11] at hA hval
  obtain ⟨v0, vs0, d0, ds0, p0, q0, hargs, rfl, rfl, h0, r0⟩ := trodAll_cons hA
  obtain ⟨v1, vs1, d1, ds1, p1, q1, rfl, rfl, rfl, h1, r1⟩ := trodAll_cons r0
  obtain ⟨rfl, rfl, rfl⟩ := trodAll_nil r1
  obtain rfl : args = #[v0, v1] := by cases args; simp_all
  obtain ⟨A0, n0, c0, l0, rfl, hn0, hi0, hr0⟩ := arg_stars Try.underlying38 Try.underlying112 (by kernel_rfl) (by kernel_rfl) Try.underlying3 Try.underlying43 (by kernel_rfl) (by kernel_rfl) (by kernel_rfl) (hval 0 38 v0 rfl rfl) h0
  obtain ⟨A1, n1, c1, l1, rfl, hn1, hl1, hi1, hr1⟩ := arg_ints Try.underlying43 Try.underlying3 (by kernel_rfl) (hval 1 43 v1 rfl rfl) h1
  refine (lawTM_any A0 n0 c0 l0 A1 n1 c1 l1 W hn0 hi0 hr0 hn1 hl1 hi1 hr1).mono fun e W' ⟨he, hg⟩ => ?_
  subst he
  obtain ⟨rfl, rfl⟩ := trodVars_none hV
  exact ⟨_, rfl, post_law hW rfl (by kernel_rfl) Try.underlying4 (by kernel_rfl) rfl rfl rfl hg⟩

set_option maxRecDepth 100000 in
theorem lifted (os : Os) (started : os.Started) (H : Type) (enc : TypeId × Value → H) :
    ReturnsInHanded {} Try.checked os 11 .any (Rows.topModelLeastSpec.pre6 enc Try.prog Try.f11 Rows.topModelLeastRow.domain false) (Rows.topModelLeastSpec.post enc Try.prog Try.f11 false true false false) := by
  refine returnsInHanded_of_change (C := Try.checked) (s := Rows.topModelLeastSpec) own_knob started (by kernel_rfl) Try.func11
    (ChangeSpec.witness6 (enc := enc) (C := Try.checked) (s := Rows.topModelLeastSpec) false ⟨#[], #[.slice none 0 0, .slice none 0 0], []⟩ 8 (by kernel_rfl) (by kernel_rfl) (by kernel_rfl) (by kernel_rfl)) ?_
  intro W base args ds gs before hval hW _ _
  exact contract H enc W base args ds gs before hval hW

theorem over : Rows.TopModelLeastSaid :=
  OpenClaim.holds_of_wide 11 Try.f11 rfl rfl rfl rfl rfl rfl rfl ⟨rfl, rfl, rfl, rfl, rfl⟩ rfl rfl rfl rfl rfl (by kernel_rfl) Try.func11 (by kernel_rfl)
    (of_decide_eq_true (by kernel_rfl)) (by unfold Func.isWrapper; first | (rw [if_pos (by decide +kernel)]; kernel_rfl) | (rw [if_neg (by decide +kernel)]; exact ⟨rfl, rfl⟩))
    (fun os started H enc _ => lifted os started H enc)
end Go.Proofs.Ytdidcpealabaiaa.lawTM

end
