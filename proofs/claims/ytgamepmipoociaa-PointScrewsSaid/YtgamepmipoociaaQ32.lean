import Derived.Test.YtgamepmipoociaaQ31
import Derived.Test.YtgamepmipoociaaQ26

section
/- A drawn region of a copy by append, a call, and a block that is made and stored into; arguments that are lists of pairs as arrays; arrays of fractions compared. -/
namespace Go.Proofs.Ytgamepmipoociaa
open Go Go.RowKit Go.ChangeShapes Go.WideShapes Go.ChangeAt Go.Joins Go.Deep

@[go_sem] theorem held_farr : Try.prog.stoodInHeld 73 = false := by kernel_rfl
@[go_sem] theorem guard_farr : Try.prog.eqGuardType Try.prog.depth 73 = false := by kernel_rfl
theorem eq_frac9 (a b c d : Int) (w : World) : (Op.equalIn 9999 72 (.agg #[.int .i64 a, .int .i64 b]) (.agg #[.int .i64 c, .int .i64 d])).run Try.prog w = .ok (decide ((a, b) = (c, d))) w := by
  simp [go_sem]
  by_cases h1 : a = c <;> by_cases h2 : b = d <;> simp [h1, h2]
theorem eq_farr (a b c d a' b' c' d' : Int) (w : World) : (Op.equalIn 10000 73 (.agg #[.int .i64 a, .int .i64 b, .int .i64 c, .int .i64 d]) (.agg #[.int .i64 a', .int .i64 b', .int .i64 c', .int .i64 d'])).run Try.prog w = .ok (decide ((a, b, c, d) = (a', b', c', d'))) w := by
  have h0 : (sizeOf 72).run Try.prog w = .ok 2 w := by kernel_rfl
  have p0 : ∀ u v x y : Value, (part 72 #[u, v, x, y] 0).run Try.prog w = .ok (.agg #[u, v]) w := fun _ _ _ _ => by kernel_rfl
  have p1 : ∀ u v x y : Value, (part 72 #[u, v, x, y] 2).run Try.prog w = .ok (.agg #[x, y]) w := fun _ _ _ _ => by kernel_rfl
  show (Op.equalIn (9999 + 1) _ _ _).run _ w = _
  rw [Op.equalIn.eq_def]
  simp only [Sem.run_bind, run_underlying Try.underlying73, Result.andThen_ok, h0]
  rw [Std.Legacy.Range.forIn_eq_forIn_range']
  simp [List.range', p0, p1, eq_frac9, Sem.run_bind]
  by_cases h1 : a = a' <;> by_cases h2 : b = b' <;> by_cases h3 : c = c' <;> by_cases h4 : d = d' <;> simp [h1, h2, h3, h4, p0, p1, eq_frac9]
@[go_sem ↓ high] theorem eql_farr (a b c d a' b' c' d' : Int) (w : World) : (binOp .eql 73 (.agg #[.int .i64 a, .int .i64 b, .int .i64 c, .int .i64 d]) (.agg #[.int .i64 a', .int .i64 b', .int .i64 c', .int .i64 d'])).run Try.prog w = .ok (.bool (decide ((a, b, c, d) = (a', b', c', d')))) w := by
  rw [run_eql_struct, eq_farr]; rfl
@[go_sem ↓ high] theorem neq_farr (a b c d a' b' c' d' : Int) (w : World) : (binOp .neq 73 (.agg #[.int .i64 a, .int .i64 b, .int .i64 c, .int .i64 d]) (.agg #[.int .i64 a', .int .i64 b', .int .i64 c', .int .i64 d'])).run Try.prog w = .ok (.bool (!decide ((a, b, c, d) = (a', b', c', d')))) w := by
  rw [run_neq_struct, eq_farr]; rfl
theorem info_arr2 : (Try.prog.info? 46).map (fun i => (i.zero, i.size, i.bytes)) = some (some (.agg #[.int .i64 0, .int .i64 0]), 2, 16) := by kernel_rfl

structure ScD (e T : TypeId) (n : Nat) (l : List Value) (v : Array Value) (W : World) (g : Nat → Option Pick2) (f : Nat → Bool) (w' : World) : Prop where
  bel : Below W.heap.size W w'
  lt0 : ∀ x, g 0 = some x → ∃ b, x.1.1 = some ⟨b, 0, none⟩ ∧ b < w'.heap.size
  o0 : f 2 = false → ∀ x, g 0 = some x → w'.ownsRow W.heap.size e 2 (.slice x.1.1 0 0) 0 []
  o2 : f 9 = false → ∀ y, g 2 = some y → Reads w' w'.heap.size 2 y.1.1 n l
  made : ∀ z, g 8 = some z → ∃ b, z.1.1 = some ⟨b, 0, none⟩ ∧ W.heap.size ≤ b ∧ (∃ es : Array Value, es.size = 4 ∧ Blk w' b T es ∧ (f 9 = true → es = v)) ∧ (∀ x, g 0 = some x → x.1.1 ≠ some ⟨b, 0, none⟩)
section
variable {e T : TypeId} {n k : Nat} {l : List Value} {v : Array Value} {W w' w'' : World} {g : Nat → Option Pick2} {f : Nat → Bool}
theorem ScD.start : ScD e T n l v W (fun _ => none) f (W.drewN 1) := ⟨below_drewN (Below.refl _ _) 1, fun _ h => (nomatch h), fun _ _ h => (nomatch h), fun _ _ h => (nomatch h), fun _ h => (nomatch h)⟩
theorem ScD.same (h : ScD e T n l v W g f w') (k2 : k ≠ 2) (k9 : k ≠ 9) : ScD e T n l v W g (Fx.add f k) w' := ⟨h.bel, h.lt0, fun hf => h.o0 (by rwa [add_ne' k2] at hf), fun hf => h.o2 (by rwa [add_ne' k9] at hf), fun z hz => by
  obtain ⟨b, h1, h2, ⟨es, h3, h4, h5⟩, h6⟩ := h.made z hz
  exact ⟨b, h1, h2, ⟨es, h3, h4, fun hf => h5 (by rwa [add_ne' k9] at hf)⟩, h6⟩⟩
theorem ScD.call (h : ScD e T n l v W g f w') (k2 : k ≠ 2) (k9 : k ≠ 9) (hb : Below w'.heap.size w' w'') : ScD e T n l v W g (Fx.add f k) w'' := ⟨step_below hb h.bel, fun x hx => by
  obtain ⟨b, h1, h2⟩ := h.lt0 x hx
  exact ⟨b, h1, Nat.lt_of_lt_of_le h2 hb.size⟩, fun hf x hx => own_below (h.o0 (by rwa [add_ne' k2] at hf) x hx) hb (Nat.le_refl _), fun hf y hy => ((h.o2 (by rwa [add_ne' k9] at hf) y hy).below hb).more hb.size, fun z hz => by
  obtain ⟨b, h1, h2, ⟨es, h3, h4, h5⟩, h6⟩ := h.made z hz
  exact ⟨b, h1, h2, ⟨es, h3, h4.below hb h4.lt, fun hf => h5 (by rwa [add_ne' k9] at hf)⟩, h6⟩⟩
theorem ScD.lit (h : ScD e T n l v W g f w') (hg2 : g 2 = none) : ScD e T n l v W (Fx.upd g 0 ((some ⟨w'.heap.size, 0, none⟩, 0), (none, 0))) (Fx.add f 0) (w'.alloc (.cells #[] e)) := by
  have hb : Below w'.heap.size w' (w'.alloc (.cells #[] e)) := (Below.refl _ _).alloc (Nat.le_refl _) _
  refine ⟨step_below hb h.bel, fun x hx => ?_, fun _ x hx => ?_, fun hf y hy => ?_, fun z hz => ?_⟩
  · rw [Fx.upd_same] at hx
    cases hx
    exact ⟨_, rfl, by simp⟩
  · rw [Fx.upd_same] at hx
    cases hx
    exact ⟨by simp, .inr ⟨w'.heap.size, 0, #[], rfl, h.bel.size, Blk.new _ _ _, by omega, by decide, by simp, by simp⟩⟩
  · rw [upd_ne (by decide), hg2] at hy
    cases hy
  · rw [upd_ne (by decide)] at hz
    obtain ⟨b, h1, h2, ⟨es, h3, h4, h5⟩, -⟩ := h.made z hz
    refine ⟨b, h1, h2, ⟨es, h3, h4.alloc _, fun hf => h5 (by rwa [add_ne' (by decide)] at hf)⟩, fun x hx => ?_⟩
    rw [Fx.upd_same] at hx
    cases hx
    have := h4.lt
    first | (simp; done) | (simp; omega)
theorem ScD.make {a b c d : Value} (h : ScD e T n l v W g f w') (hf : f 9 = false) : ScD e T n l v W (Fx.upd g 8 ((some ⟨w'.heap.size, 0, none⟩, 0), (none, 0))) (Fx.add f 8) (w'.alloc (.cells #[a, b, c, d] T)) := by
  have hb : Below w'.heap.size w' (w'.alloc (.cells #[a, b, c, d] T)) := (Below.refl _ _).alloc (Nat.le_refl _) _
  refine ⟨step_below hb h.bel, fun x hx => ?_, fun hf x hx => ?_, fun hf y hy => ?_, fun z hz => ?_⟩
  · rw [upd_ne (by decide)] at hx
    obtain ⟨b, h1, h2⟩ := h.lt0 x hx
    exact ⟨b, h1, Nat.lt_of_lt_of_le h2 hb.size⟩
  · rw [upd_ne (by decide)] at hx
    exact own_below (h.o0 (by rwa [add_ne' (by decide)] at hf) x hx) hb (Nat.le_refl _)
  · rw [upd_ne (by decide)] at hy
    exact ((h.o2 (by rwa [add_ne' (by decide)] at hf) y hy).below hb).more hb.size
  · rw [Fx.upd_same] at hz
    cases hz
    refine ⟨w'.heap.size, rfl, h.bel.size, ⟨_, by simp, Blk.new _ _ _, fun hf' => ?_⟩, fun x hx e => ?_⟩
    · rw [add_ne' (by decide), hf] at hf'
      cases hf'
    · rw [upd_ne (by decide)] at hx
      obtain ⟨b, h1, h2⟩ := h.lt0 x hx
      rw [h1] at e
      first | (simp at e; done) | (simp at e; omega)
theorem ScD.store {z : Pick2} {b : Nat} {a0 a1 a2 a3 : Value} (h : ScD e T n l #[a0, a1, a2, a3] W g f w') (hz : g 8 = some z) (hb : z.1.1 = some ⟨b, 0, none⟩) (hf2 : f 2 = true) : ScD e T n l #[a0, a1, a2, a3] W g (Fx.add f 9) ((((w'.setCell ⟨b, 0, none⟩ a0).setCell ⟨b, 1, none⟩ a1).setCell ⟨b, 2, none⟩ a2).setCell ⟨b, 3, none⟩ a3) := by
  obtain ⟨b', h1, h2, ⟨es, h3, h4, -⟩, h6⟩ := h.made z hz
  rw [hb] at h1
  cases h1
  refine ⟨(((h.bel.setCell (p := ⟨b, 0, none⟩) h2 _).setCell (p := ⟨b, 1, none⟩) h2 _).setCell (p := ⟨b, 2, none⟩) h2 _).setCell (p := ⟨b, 3, none⟩) h2 _, fun x hx => ?_, fun hf => ?_, fun hf => ?_, fun z' hz' => ?_⟩
  · obtain ⟨c, h1, h2⟩ := h.lt0 x hx
    exact ⟨c, h1, by simpa [World.setCell] using h2⟩
  · rw [add_ne' (by decide), hf2] at hf
    cases hf
  · rw [add_same] at hf
    cases hf
  · rw [hz] at hz'
    cases hz'
    refine ⟨b, hb, h2, ⟨_, rfl, ?_, fun _ => rfl⟩, h6⟩
    have := (((h4.set_ 0 a0).set_ 1 a1).set_ 2 a2).set_ 3 a3
    match es, h3 with
    | ⟨[_, _, _, _]⟩, _ => simpa using this
theorem ScD.cells {z : Pick2} (h : ScD e T n l v W g f w') (hz : g 8 = some z) : ∃ b c0 c1 c2 c3, z.1.1 = some ⟨b, 0, none⟩ ∧ w'.cell? ⟨b, 0, none⟩ = some c0 ∧ w'.cell? ⟨b, 1, none⟩ = some c1 ∧ w'.cell? ⟨b, 2, none⟩ = some c2 ∧ w'.cell? ⟨b, 3, none⟩ = some c3 ∧ w'.frozen? ⟨b, 0, none⟩ = false ∧ w'.frozen? ⟨b, 1, none⟩ = false ∧ w'.frozen? ⟨b, 2, none⟩ = false ∧ w'.frozen? ⟨b, 3, none⟩ = false := by
  obtain ⟨b, h1, -, ⟨es, h3, h4, -⟩, -⟩ := h.made z hz
  match es, h3, h4 with
  | ⟨[c0, c1, c2, c3]⟩, _, h4 => exact ⟨b, c0, c1, c2, c3, h1, h4.cell 0, h4.cell 1, h4.cell 2, h4.cell 3, h4.frozen 0, h4.frozen 1, h4.frozen 2, h4.frozen 3⟩
theorem ScD.end_ {z : Pick2} (h : ScD e T n l v W g f w') (hz : g 8 = some z) (hf : f 9 = true) : ∃ b, z.1.1 = some ⟨b, 0, none⟩ ∧ W.heap.size ≤ b ∧ Blk w' b T v := by
  obtain ⟨b, h1, h2, ⟨es, h3, h4, h5⟩, -⟩ := h.made z hz
  obtain rfl := h5 hf
  exact ⟨b, h1, h2, h4⟩
end
theorem ScD.app {T : TypeId} {n : Nat} {l : List (Int × Int)} {v : Array Value} {W w' : World} {g : Nat → Option Pick2} {f : Nat → Bool} {x : Pick2} {A : Option Addr} {c N : Nat} (h : ScD 46 T n (cells2 l) v W g f w') (hf2 : f 2 = false) (hf9 : f 9 = false) (hx : g 0 = some x) (hr : Reads w' N 2 A n (cells2 l)) (hn : n ≤ 1000) :
    ∃ (y : Pick2) (w'' : World), (Builtin.append_ #[70, 70] 70 #[.slice x.1.1 0 0, .slice A n c]).run Try.prog w' = .ok (.slice y.1.1 n y.1.2) w'' ∧ ScD 46 T n (cells2 l) v W (Fx.upd g 2 y) (Fx.add f 2) w'' := by
  obtain ⟨i0, hi0, hz0, hz1, hz2⟩ := info_parts info_arr2
  have ho := h.o0 hf2 x hx
  obtain ⟨v', W2, hrun, o2', hg2, -⟩ := run_append_any (P := Try.prog) w' W.heap.size 70 70 46 i0 _ 2 16 Try.underlying70 hi0 hz0 hz1 hz2 rfl (by omega) _ 0 [] ho N A n c (cells2 l) hr (one_cells2 l) (by unfold maxLen; omega) (by omega) h.bel.size
  rw [Nat.zero_add, List.nil_append] at o2'
  obtain ⟨A2, c2, rfl, hr2⟩ := own_reads o2'
  refine ⟨((A2, c2), (none, 0)), W2, hrun, h.bel.grown hg2 h.bel.size (fun q hq => (own_lt ho hq).1), fun x' hx' => ?_, fun hf => ?_, fun _ y hy => ?_, fun z hz => ?_⟩
  · rw [upd_ne (by decide)] at hx'
    obtain ⟨b, h1, h2⟩ := h.lt0 x' hx'
    exact ⟨b, h1, Nat.lt_of_lt_of_le h2 hg2.size⟩
  · rw [add_same] at hf
    cases hf
  · rw [Fx.upd_same] at hy
    cases hy
    exact hr2
  · rw [upd_ne (by decide)] at hz
    obtain ⟨b, h1, h2, ⟨es, h3, h4, h5⟩, h6⟩ := h.made z hz
    refine ⟨b, h1, h2, ⟨es, h3, h4.grown hg2 (fun e => ?_), fun hf => h5 (by rwa [add_ne' (by decide)] at hf)⟩, fun x' hx' => h6 x' (by rwa [upd_ne (by decide)] at hx')⟩
    obtain ⟨bx, hx1, -⟩ := h.lt0 x hx
    have := h6 x hx
    rw [hx1] at e this
    simp [Value.ownBlock] at e
    exact this (by rw [e])

section
variable {H : Type} {enc : TypeId × Value → H} {P : Program} {w : World} {base b0 : Nat} {spare : Nat → Bool} {held : Bool} {r : Reach} {t e tI : TypeId} {v : Value} {d : DataW H} {p : List MemPlace}
/-- A list of arrays of two numbers. -/
theorem arg_arrs (ht : P.underlying t = some (.slice e)) (he : P.underlying e = some (.array 2 tI)) (hC : P.cellsOf e = 2) (hcI : P.cellsOf tI = 1) (hI : P.underlying tI = some (.int .i64)) (hv : Value.okWide P w r b0 t v) (h : DataW.Trod enc P w base spare held t v d p) :
    ∃ (A : Option Addr) (n c : Nat) (l : List (Int × Int)), v = .slice A n c ∧ (n ≤ c ∧ c ≤ 9223372036854775807) ∧ l.length = n ∧ (∀ p ∈ l, I64 p.1 ∧ I64 p.2) ∧ Reads w w.heap.size 2 A n (cells2 l) := by
  obtain ⟨fuel, hf⟩ := h
  rcases open_slice ht hf with ⟨h0, -⟩ | ⟨a, len, cap, m, n, D, Pl, hcs, hb, hl, hm, hmm, hx, hi⟩
  · exact ⟨none, 0, 0, [], slice_one ht hv h0, by omega, rfl, by simp, Reads.none_⟩
  have hlm : len ≤ m := by rw [hmm]; split <;> omega
  have hq : ∀ q, q < len * 2 → ∃ z, w.cell? (a.add q) = some (.int .i64 z) ∧ I64 z := by
    intro q hq
    obtain ⟨cs', hc, ht'⟩ := hi (q / 2) (by omega)
    rw [hC] at hc
    obtain ⟨xs, k, -, -, hcl, hxl, hel⟩ := DataW.trod_array he ht'
    rw [hC] at hcl
    obtain ⟨_, hcl', hat⟩ := World.cells?_some hc
    have e0 := hel (q % 2) (by omega)
    rw [hcI, List.getElem?_eq_getElem (by omega)] at e0
    obtain ⟨z, u0, -, wz⟩ := DataW.trod_int hI e0
    have hv' : cs'[q % 2]? = some (.int .i64 z) := by
      have hlt : q % 2 < cs'.length := by omega
      rw [Nat.mul_one, List.drop_eq_getElem_cons hlt, List.take_succ_cons, List.take_zero] at u0
      rw [List.getElem?_eq_getElem hlt, (List.cons.inj u0).1]
    refine ⟨z, ?_, I64.of_wf wz⟩
    have h1 := hat (q % 2) (by omega)
    rw [hv', Go.Deep.add_add] at h1
    rwa [show q / 2 * 2 + q % 2 = q by omega] at h1
  obtain ⟨xs, hxl, hx'⟩ := choose_list _ hq
  obtain ⟨l, l1, l2, l3⟩ := pairs_of_ints len xs hxl
  refine ⟨some a, len, cap, l, slice_one ht hv hcs, ⟨hl, by simpa [maxLen] using hm⟩, l1, fun p hp => ?_, ?_⟩
  · obtain ⟨h1, h2⟩ := l3 p hp
    obtain ⟨i, hi1⟩ := List.getElem?_of_mem h1
    obtain ⟨j, hj1⟩ := List.getElem?_of_mem h2
    exact ⟨(hx' _ _ hi1).2, (hx' _ _ hj1).2⟩
  · rw [l2]
    rcases Nat.eq_zero_or_pos len with rfl | hp
    · obtain rfl : xs = [] := List.length_eq_zero_iff.1 (by simpa using hxl)
      exact Reads.none_
    refine Reads.of_adds (by omega) (by simpa using hxl) ?_ (fun j u hu => ?_)
    · have := block_of_cell (hx' 0 _ (List.getElem?_eq_getElem (by omega))).1
      simpa [Addr.add] using this
    · rw [List.getElem?_map] at hu
      cases hj : xs[j]? with
      | none => rw [hj] at hu; cases hu
      | some z => rw [hj] at hu; cases hu; exact (hx' j z hj).1
end
end Go.Proofs.Ytgamepmipoociaa

end
