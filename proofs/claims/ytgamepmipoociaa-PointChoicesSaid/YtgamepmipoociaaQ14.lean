import Derived.Test.YtgamepmipoociaaQ13
import Derived.Test.YtgamepmipoociaaRows
import Derived.Test.YtgamepmipoociaaQ1
import Derived.ProofKit
import Derived.OpenShut
import Derived.ReadAgain
import Derived.Lib.SmallJoins
import Derived.Deep.Slices
import Derived.Deep.Fields
import Derived.Test.YtgamepmipoociaaQ4
import Derived.Test.YtgamepmipoociaaQ3
import Derived.JoinedOf
import Derived.Test.YtgamepmipoociaaQ5

section
/- Contracts of all points of a tree as the reference has them, of the comparison of texts, of the guard on short names, of a copy of rockers. -/
namespace Go.Proofs.Ytgamepmipoociaa
open Go.RowKit

theorem own_reads2 {w : World} {base n size c : Nat} {A : Option Addr} {e : TypeId} {xs : List Value} (h : w.ownsRow base e size (.slice A n c) n xs) : Reads w w.heap.size size A n xs := by
  obtain ⟨A2, c2, e2, hr⟩ := own_reads h
  injection e2 with e2a e2b e2c
  subst e2a e2c
  exact hr

def TextsPost (ps : List ByteArray) (w : World) (e : Ending) (w' : World) : Prop :=
  Below w.heap.size w w' ∧ ∃ A' c', e = .returned (.slice A' ps.length c') ∧ w'.ownsRow w.heap.size 9 1 (.slice A' ps.length c') ps.length (strs ps)



/-- The guard on trees: at most 8 rockers, or too many, with short names. -/
def fewB (l : List Rk) : Bool := decide ((l.length ≤ 8 ∨ 40 < l.length) ∧ l.length ≤ 43) && l.all fun r => decide (r.name.size ≤ 20 ∧ r.left.size ≤ 20 ∧ r.right.size ≤ 20)
theorem fewB_len {l : List Rk} (h : fewB l = true) : (l.length ≤ 8 ∨ 40 < l.length) ∧ l.length ≤ 43 := by
  unfold fewB at h
  rw [Bool.and_eq_true, decide_eq_true_iff] at h
  exact h.1
theorem few_pts {l : List Rk} (h : fewB l = true) (h0 : openErr l = 0) : ∃ ps, ptsOf l = some ps ∧ ps.length ≤ 1000000 := by
  have h1 := (open_zero h0).2.1
  have h2 := (fewB_len h).1
  have hl : l.length ≤ 8 := by omega
  cases hp : ptsOf l with
  | none => exact absurd hp (pts_ok h0 _)
  | some ps =>
    refine ⟨ps, rfl, ?_⟩
    have := (pts_len _ _ _ hp).2
    have h3 : 2 ^ l.length ≤ 2 ^ 8 := Nat.pow_le_pow_right (by omega) hl
    omega



theorem one_rk (l : List Rk) : ∀ u ∈ rkCells l, u.oneCell' = true := by
  intro u hu
  unfold rkCells at hu
  rw [List.mem_flatMap] at hu
  obtain ⟨p, -, hp⟩ := hu
  simp [Rk.cells] at hp
  rcases hp with rfl | rfl | rfl | rfl | rfl <;> rfl



end Go.Proofs.Ytgamepmipoociaa

end

section
/- What every row of a statement needs: the arguments of a call that only makes memory read behind it as they did before. -/
namespace Go.Proofs.Ytgamepmipoociaa
open Go.RowKit Go.ChangeShapes Go.WideShapes Go.ChangeAt

theorem own_knob : ownKnob Try.prog.godebug = none := by kernel_rfl
theorem laid_rows : laidOutB Try.prog = true := by kernel_rfl
theorem maps_rowed : mapsRowed Try.prog = true := by kernel_rfl
theorem slices_full : ∀ t e, t < Try.prog.types.size → Try.prog.underlying t = some (.slice e) → 0 < Try.prog.cellsOf e := slices_full_of _ (by kernel_rfl)

section
variable {H : Type} {enc : TypeId × Value → H} {P : Program} {W W' : World}

theorem sameAt_of_below {B : Nat} (hb : Below B W W') {p : MemPlace} (hp : p.block < B) : W.sameAt W' p := by
  cases p with
  | cell b o => exact hb.cell (p := ⟨b, o, none⟩) hp
  | map b => exact hb.block b hp

theorem trodAll_carry {base : Nat} {sp : Nat → Bool} {hd : Bool} : ∀ {ts : List TypeId} {vs : List Value} {ds : List (DataW H)} {ps : List MemPlace},
    DataW.TrodAll enc P W base sp hd ts vs ds ps → (∀ p ∈ ps, W.sameAt W' p) → DataW.TrodAll enc P W' base sp hd ts vs ds ps
  | [], [], [], _, h, _ => h
  | _ :: _, _ :: _, _ :: _, _, ⟨p, q, ⟨n, h1⟩, h2, e⟩, hs => ⟨p, q, ⟨n, DataW.trod_carry n _ _ _ h1 fun x hx => hs x (by rw [e]; exact List.mem_append_left _ hx)⟩,
      trodAll_carry h2 (fun x hx => hs x (by rw [e]; exact List.mem_append_right _ hx)), e⟩

set_option maxRecDepth 100000 in
/-- THE POST OF A LAW: it returned true, and made memory alone. -/
theorem post_law {f : Func} {s : ChangeSpec} {t : TypeId} {W W' : World} {args : Array Value} {ds gs : List (DataW H)} {before : List MemPlace}
    (hW : DataW.Whole enc Try.prog f.params.toList s.vars false W args.toList ds gs before) (hv : s.vars = []) (hr : f.resultTypes = #[t]) (ht : Try.prog.underlying t = some .bool)
    (hp : f.params.toList.all (fun t => decide (t < Try.prog.types.size)) = true) (hs : (s.fn H (ds ++ gs)).results = [.lit (.bool true)]) (ha : (s.fn H (ds ++ gs)).args = ds) (hg : (s.fn H (ds ++ gs)).vars = [])
    (hb : Below W.heap.size W W') : s.post enc Try.prog f false true false false W args (.bool true) W' := by
  have hW' := hW
  obtain ⟨p, q, hA, hV, rfl, hfz, hnd⟩ := hW'
  rw [hv] at hV
  have hV' : gs = [] ∧ q = [] := by
    cases gs with
    | nil => exact ⟨rfl, hV⟩
    | cons x l => exact hV.elim
  obtain ⟨rfl, rfl⟩ := hV'
  rw [List.append_nil] at hW
  have hT : ∀ t ∈ f.params.toList, t < Try.prog.types.size := fun t ht => by simpa using List.all_eq_true.1 hp t ht
  refine post_of_below (pa := p) (pv := []) hW (fun b sp hd => ?_) (fun sp hsp => ?_) (fun sp hsp => ?_) (by simp) hb ?_
  · rw [hr, hs]
    exact ⟨[], [], ⟨1, by simp [DataW.trod, ht, Value.cells]⟩, rfl, rfl⟩
  · rw [ha]
    exact trodAll_carry (DataW.TrodAll.respare (kids_rows laid_rows maps_rowed) slices_full hT hA hsp) fun x hx => sameAt_of_below hb (hW.lt x hx)
  · rw [hv, hg]
    rfl
  · exact ok_one hr rfl (okWide_bool_mk ht _)
end

end Go.Proofs.Ytgamepmipoociaa

end

section
/- Arguments that are slices of structs of whole numbers or of texts: their cells as a row of memory. -/
namespace Go.Proofs.Ytgamepmipoociaa
open Go Go.RowKit Go.ChangeShapes Go.WideShapes Go.ChangeAt Go.Joins Go.Deep

def I64 (z : Int) : Prop := -9223372036854775808 ≤ z ∧ z ≤ 9223372036854775807
theorem I64.of_wf {z : Int} (h : (Lit.int .i64 z).wf = true) : I64 z := by
  simpa [I64, Lit.wf, IntKind.min, IntKind.max, IntKind.signed, IntKind.bits] using h

/-- A choice of a number for each place. -/
theorem choose_list {R : Nat → Int → Prop} (m : Nat) (h : ∀ q, q < m → ∃ z, R q z) : ∃ xs : List Int, xs.length = m ∧ ∀ q z, xs[q]? = some z → R q z := by
  induction m with
  | zero => exact ⟨[], rfl, fun q z h => by simp at h⟩
  | succ m ih =>
    obtain ⟨xs, hl, hx⟩ := ih fun q hq => h q (by omega)
    obtain ⟨z, hz⟩ := h m (by omega)
    refine ⟨xs ++ [z], by simp [hl], fun q u hu => ?_⟩
    rcases Nat.lt_trichotomy q m with hq | hq | hq
    · rw [List.getElem?_append_left (by omega)] at hu
      exact hx q u hu
    · subst hq
      rw [List.getElem?_append_right (by omega), hl, Nat.sub_self] at hu
      simp at hu
      exact hu ▸ hz
    · rw [List.getElem?_eq_none (by simp; omega)] at hu
      cases hu

theorem pairs_of_ints : ∀ (n : Nat) (xs : List Int), xs.length = n * 2 → ∃ l : List (Int × Int), l.length = n ∧ cells2 l = xs.map (.int .i64) ∧ ∀ p ∈ l, p.1 ∈ xs ∧ p.2 ∈ xs
  | 0, xs, h => by
    obtain rfl : xs = [] := List.length_eq_zero_iff.1 (by simpa using h)
    exact ⟨[], rfl, rfl, by simp⟩
  | n + 1, xs, h => by
    match xs, h with
    | x :: y :: t, h =>
      obtain ⟨l, h1, h2, h3⟩ := pairs_of_ints n t (by simp at h; omega)
      refine ⟨(x, y) :: l, by simp [h1], by simpa [cells2] using h2, fun p hp => ?_⟩
      rcases List.mem_cons.1 hp with rfl | hp
      · simp
      · have := h3 p hp
        exact ⟨by simp [this.1], by simp [this.2]⟩
    | [_], h => simp at h; omega
    | [], h => simp at h

section
variable {H : Type} {enc : TypeId × Value → H} {P : Program} {w : World} {base : Nat} {spare : Nat → Bool} {held : Bool}
theorem open_slice_fields {t e : TypeId} {fs : Array Field} {fuel : Nat} {cs : List Value} {x : DataW H × List MemPlace} (ht : P.underlying t = some (.slice e)) (he : P.underlying e = some (.struct fs))
    (hone : oneCellFields P fs = true) (hC : P.cellsOf e = fs.size) (h : DataW.trod enc P w base spare held fuel t cs = some x) :
    (cs = [.slice none 0 0] ∧ x = (.nil, [])) ∨
    ∃ (a : Addr) (len cap : Nat), cs = [.slice (some a) len cap] ∧ (len ≤ cap ∧ cap ≤ maxLen) ∧
      ∀ i, i < len → ∀ (j : Nat) (f : Field), fs[j]? = some f → ∃ (v : Value) (y : DataW H × List MemPlace) (n : Nat), w.cell? (a.add (i * fs.size + j)) = some v ∧ DataW.trod enc P w base spare held n f.type [v] = some y := by
  rcases open_slice ht h with h0 | ⟨a, len, cap, m, n, D, Pl, hcs, hb, hl, hm, hmm, hx, hi⟩
  · exact .inl h0
  · have hlm : len ≤ m := by rw [hmm]; split <;> omega
    refine .inr ⟨a, len, cap, hcs, ⟨hl, hm⟩, fun i him => ?_⟩
    obtain ⟨cs', hc, ht'⟩ := hi i (by omega)
    rw [hC] at hc
    obtain ⟨ys, n', hn', hy, hlen, hyl, hf⟩ := DataW.trod_struct he ht'
    obtain ⟨_, hcl, hat⟩ := World.cells?_some hc
    intro j f hj
    obtain ⟨ho, hk⟩ := hone_of hone j f hj
    have hjl : j < fs.size := (Array.getElem?_eq_some_iff.1 hj).1
    have hcell := hat j hjl
    have hv : cs'[j]? = some (cs'[j]'(by omega)) := List.getElem?_eq_getElem (by omega)
    have h1 := hf j f hj
    rw [ho, hk] at h1
    have hone' : (cs'.drop j).take 1 = [cs'[j]'(by omega)] := by
      rw [List.drop_eq_getElem_cons (by omega)]
      rfl
    rw [hone'] at h1
    have hys : ys[j]? = some (ys[j]'(by omega)) := List.getElem?_eq_getElem (by omega)
    refine ⟨_, _, _, ?_, h1.trans hys⟩
    rw [← Go.Deep.add_add, hcell, hv]

theorem block_of_cell {p : Addr} {v : Value} (h : w.cell? p = some v) : p.block < w.heap.size := by
  unfold World.cell? at h
  split at h <;> first | cases h | (split at h <;> first | cases h | skip)
  all_goals
    first
    | (rename_i hh; exact (Array.getElem?_eq_some_iff.1 hh).1)
    | (rename_i hh _; exact (Array.getElem?_eq_some_iff.1 hh).1)
    | omega

/-- A slice of structs whose fields all are whole numbers. -/
theorem open_slice_ints {t e tI : TypeId} {fs : Array Field} {fuel : Nat} {cs : List Value} {x : DataW H × List MemPlace} (ht : P.underlying t = some (.slice e)) (he : P.underlying e = some (.struct fs))
    (hone : oneCellFields P fs = true) (hC : P.cellsOf e = fs.size) (hI : P.underlying tI = some (.int .i64)) (hf : fs.toList.all (fun f => f.type == tI) = true) (hk : 0 < fs.size) (h : DataW.trod enc P w base spare held fuel t cs = some x) :
    ∃ (A : Option Addr) (n c : Nat) (xs : List Int), cs = [.slice A n c] ∧ (n ≤ c ∧ c ≤ 9223372036854775807) ∧ xs.length = n * fs.size ∧ (∀ z ∈ xs, I64 z) ∧ Reads w w.heap.size fs.size A n (xs.map (.int .i64)) := by
  rcases open_slice_fields ht he hone hC h with ⟨h0, -⟩ | ⟨a, len, cap, hcs, hl, hi⟩
  · exact ⟨none, 0, 0, [], h0, by omega, by simp, by simp, Reads.none_⟩
  have hq : ∀ q, q < len * fs.size → ∃ z, w.cell? (a.add q) = some (.int .i64 z) ∧ I64 z := by
    intro q hq
    have h1 : q / fs.size < len := Nat.div_lt_of_lt_mul (by rwa [Nat.mul_comm])
    have h2 : q % fs.size < fs.size := Nat.mod_lt _ hk
    obtain ⟨v, y, n, hc, ht'⟩ := hi _ h1 _ _ (Array.getElem?_eq_getElem h2)
    have hft : fs[q % fs.size].type = tI := by simpa using List.all_eq_true.1 hf _ (Array.mem_toList_iff.2 (Array.getElem_mem h2))
    rw [hft] at ht'
    obtain ⟨z, e0, -, hwf⟩ := DataW.trod_int hI ht'
    rw [show q / fs.size * fs.size + q % fs.size = q by rw [Nat.mul_comm]; exact Nat.div_add_mod _ _] at hc
    simp at e0
    exact ⟨z, e0 ▸ hc, I64.of_wf hwf⟩
  obtain ⟨xs, hxl, hx⟩ := choose_list _ hq
  refine ⟨some a, len, cap, xs, hcs, ⟨hl.1, by simpa [maxLen] using hl.2⟩, hxl, fun z hz => ?_, ?_⟩
  · obtain ⟨q, hq⟩ := List.getElem?_of_mem hz
    exact (hx q z hq).2
  · rcases Nat.eq_zero_or_pos len with rfl | hp
    · obtain rfl : xs = [] := List.length_eq_zero_iff.1 (by simpa using hxl)
      exact Reads.none_
    refine Reads.of_adds hk (by simpa using hxl) ?_ (fun j u hu => ?_)
    · have h0 : 0 < xs.length := by rw [hxl]; exact Nat.mul_pos hp hk
      have := block_of_cell (hx 0 _ (List.getElem?_eq_getElem h0)).1
      simpa [Addr.add] using this
    · rw [List.getElem?_map] at hu
      cases hj : xs[j]? with
      | none => rw [hj] at hu; cases hu
      | some z => rw [hj] at hu; cases hu; exact (hx j z hj).1

/-- A slice of pairs of whole numbers. -/
theorem open_pairs {t e tI : TypeId} {fs : Array Field} {fuel : Nat} {cs : List Value} {x : DataW H × List MemPlace} (ht : P.underlying t = some (.slice e)) (he : P.underlying e = some (.struct fs))
    (hone : oneCellFields P fs = true) (hC : P.cellsOf e = fs.size) (hI : P.underlying tI = some (.int .i64)) (hf : fs.toList.all (fun f => f.type == tI) = true) (hk : fs.size = 2) (h : DataW.trod enc P w base spare held fuel t cs = some x) :
    ∃ (A : Option Addr) (n c : Nat) (l : List (Int × Int)), cs = [.slice A n c] ∧ (n ≤ c ∧ c ≤ 9223372036854775807) ∧ l.length = n ∧ (∀ p ∈ l, I64 p.1 ∧ I64 p.2) ∧ Reads w w.heap.size 2 A n (cells2 l) := by
  obtain ⟨A, n, c, xs, h1, h2, h3, h4, h5⟩ := open_slice_ints ht he hone hC hI hf (by omega) h
  rw [hk] at h3 h5
  obtain ⟨l, l1, l2, l3⟩ := pairs_of_ints n xs h3
  exact ⟨A, n, c, l, h1, h2, l1, fun p hp => ⟨h4 _ (l3 p hp).1, h4 _ (l3 p hp).2⟩, l2 ▸ h5⟩
end

section
variable {H : Type} {enc : TypeId × Value → H} {P : Program} {w : World} {base b0 : Nat} {spare : Nat → Bool} {held : Bool} {r : Reach} {t e tI : TypeId} {v : Value} {d : DataW H} {p : List MemPlace}
theorem arg_int (ht : P.underlying t = some (.int .i64)) (hv : Value.okWide P w r b0 t v) (h : DataW.Trod enc P w base spare held t v d p) : ∃ a, v = .int .i64 a ∧ I64 a := by
  obtain ⟨a, e0, -, -, wf⟩ := open_int ht hv h
  exact ⟨a, e0, I64.of_wf wf⟩
/-- A struct of two whole numbers. -/
theorem arg_two {f0 f1 : Field} (hs : P.underlying t = some (.struct #[f0, f1])) (hone : oneCellFields P #[f0, f1] = true) (hC : P.cellsOf t = 2) (h0 : P.underlying f0.type = some (.int .i64)) (h1 : P.underlying f1.type = some (.int .i64))
    (hv : Value.okWide P w r b0 t v) (h : DataW.Trod enc P w base spare held t v d p) : ∃ a b, v = .agg #[.int .i64 a, .int .i64 b] ∧ I64 a ∧ I64 b := by
  obtain ⟨c0, c1, y0, y1, m, rfl, -, -, hy0, hy1⟩ := open_agg2 hs hone hC hv h
  obtain ⟨a, e0, -, wa⟩ := DataW.trod_int h0 hy0
  obtain ⟨b, e1, -, wb⟩ := DataW.trod_int h1 hy1
  simp at e0 e1
  exact ⟨a, b, by rw [e0, e1], I64.of_wf wa, I64.of_wf wb⟩
theorem okWide_array {n : Nat} (ht : P.underlying t = some (.array n e)) (h : Value.okWide P w r b0 t v) : ∃ cs, v = .agg cs ∧ cs.size = P.cellsOf t := by
  simp only [Value.okWide, ht] at h
  obtain ⟨cs, h1, h2, _⟩ := h
  exact ⟨cs, h1, h2⟩
/-- An array of two whole numbers. -/
theorem arg_array2 (hs : P.underlying t = some (.array 2 e)) (hc1 : P.cellsOf e = 1) (hC : P.cellsOf t = 2) (h0 : P.underlying e = some (.int .i64)) (hv : Value.okWide P w r b0 t v) (h : DataW.Trod enc P w base spare held t v d p) :
    ∃ a b, v = .agg #[.int .i64 a, .int .i64 b] ∧ I64 a ∧ I64 b := by
  obtain ⟨cs, rfl, hsz⟩ := okWide_array hs hv
  obtain ⟨l⟩ := cs
  match l, hsz.trans hC with
  | [c0, c1], _ =>
    obtain ⟨fuel, hf⟩ := h
    obtain ⟨xs, m, _, _, _, hl, hel⟩ := DataW.trod_array hs hf
    have e0 := hel 0 (by omega)
    have e1 := hel 1 (by omega)
    rw [hc1, List.getElem?_eq_getElem (by omega)] at e0 e1
    obtain ⟨a, e0, -, wa⟩ := DataW.trod_int h0 e0
    obtain ⟨b, e1, -, wb⟩ := DataW.trod_int h0 e1
    simp [Value.cells] at e0 e1
    exact ⟨a, b, by rw [e0, e1], I64.of_wf wa, I64.of_wf wb⟩
theorem slice_one (ht : P.underlying t = some (.slice e)) {A : Option Addr} {n c : Nat} (hv : Value.okWide P w r b0 t v) (h : v.cells.toList = [.slice A n c]) : v = .slice A n c := by
  cases v <;> first | (simp [Value.cells] at h; done) | (simp only [Value.cells] at h; simpa using h) | (exfalso; revert hv; simp [Value.okWide, ht, Cell.okWide, Cell.ok])
/-- A slice of pairs of whole numbers. -/
theorem arg_pairs {fs : Array Field} (ht : P.underlying t = some (.slice e)) (he : P.underlying e = some (.struct fs)) (hone : oneCellFields P fs = true) (hC : P.cellsOf e = fs.size) (hI : P.underlying tI = some (.int .i64))
    (hf : fs.toList.all (fun f => f.type == tI) = true) (hk : fs.size = 2) (hv : Value.okWide P w r b0 t v) (h : DataW.Trod enc P w base spare held t v d p) :
    ∃ (A : Option Addr) (n c : Nat) (l : List (Int × Int)), v = .slice A n c ∧ (n ≤ c ∧ c ≤ 9223372036854775807) ∧ l.length = n ∧ (∀ p ∈ l, I64 p.1 ∧ I64 p.2) ∧ Reads w w.heap.size 2 A n (cells2 l) := by
  obtain ⟨fuel, hf'⟩ := h
  obtain ⟨A, n, c, l, h1, h2⟩ := open_pairs ht he hone hC hI hf hk hf'
  exact ⟨A, n, c, l, slice_one ht hv h1, h2⟩
/-- A slice of structs of whole numbers. -/
theorem arg_rows {fs : Array Field} (ht : P.underlying t = some (.slice e)) (he : P.underlying e = some (.struct fs)) (hone : oneCellFields P fs = true) (hC : P.cellsOf e = fs.size) (hI : P.underlying tI = some (.int .i64))
    (hf : fs.toList.all (fun f => f.type == tI) = true) (hk : 0 < fs.size) (hv : Value.okWide P w r b0 t v) (h : DataW.Trod enc P w base spare held t v d p) :
    ∃ (A : Option Addr) (n c : Nat) (xs : List Int), v = .slice A n c ∧ (n ≤ c ∧ c ≤ 9223372036854775807) ∧ xs.length = n * fs.size ∧ (∀ z ∈ xs, I64 z) ∧ Reads w w.heap.size fs.size A n (xs.map (.int .i64)) := by
  obtain ⟨fuel, hf'⟩ := h
  obtain ⟨A, n, c, l, h1, h2⟩ := open_slice_ints ht he hone hC hI hf hk hf'
  exact ⟨A, n, c, l, slice_one ht hv h1, h2⟩
/-- A slice of whole numbers. -/
theorem arg_ints (ht : P.underlying t = some (.slice e)) (he : P.underlying e = some (.int .i64)) (hc : P.cellsOf e = 1) (hv : Value.okWide P w r b0 t v) (h : DataW.Trod enc P w base spare held t v d p) :
    ∃ (A : Option Addr) (n c : Nat) (xs : List Int), v = .slice A n c ∧ (n ≤ c ∧ c ≤ 9223372036854775807) ∧ xs.length = n ∧ (∀ z ∈ xs, I64 z) ∧ Reads w w.heap.size 1 A n (xs.map (.int .i64)) := by
  obtain ⟨fuel, hf⟩ := h
  rcases open_ints ht he hc hf with ⟨h0, -⟩ | ⟨a, len, cap, zs, hcs, -, hl, hm, hzl, -, hcell, hwf⟩
  · exact ⟨none, 0, 0, [], slice_one ht hv h0, by omega, rfl, by simp, Reads.none_⟩
  have hlz : len ≤ zs.length := by rw [hzl]; split <;> omega
  refine ⟨some a, len, cap, zs.take len, slice_one ht hv hcs, ⟨hl, by simpa [maxLen] using hm⟩, by simp; omega, fun z hz => I64.of_wf (hwf z (List.mem_of_mem_take hz)), ?_⟩
  rcases Nat.eq_zero_or_pos len with rfl | hp
  · exact Reads.none_
  refine Reads.of_adds (by omega) (by simp; omega) ?_ (fun j u hu => ?_)
  · have := block_of_cell (hcell 0 (by omega))
    simpa [Addr.add] using this
  · rw [List.getElem?_map, List.getElem?_take] at hu
    split at hu
    · rw [hcell j (by omega)]
      rw [List.getElem?_eq_getElem (by omega)] at hu
      rw [List.getD, List.getElem?_eq_getElem (by omega)]
      exact hu
    · cases hu
end

end Go.Proofs.Ytgamepmipoociaa

end

section
/- Lists of lists of numbers: how they lie in memory, as arguments; their copy. -/
namespace Go.Proofs.Ytgamepmipoociaa
open Go Go.RowKit Go.ChangeShapes Go.WideShapes Go.ChangeAt Go.Joins Go.Deep

/-- A list of numbers in memory. -/
structure TRow where
  A : Option Addr
  n : Nat
  c : Nat
  xs : List Int
def TRow.val (r : TRow) : Value := .slice r.A r.n r.c
def ReadsT (w : World) (N : Nat) (A : Option Addr) (n : Nat) (t : List TRow) : Prop :=
  Reads w N 1 A n (t.map TRow.val) ∧ ∀ r ∈ t, (r.n ≤ r.c ∧ r.c ≤ 9223372036854775807) ∧ Reads w N 1 r.A r.n (r.xs.map (.int .i64))
section
variable {w w' W W1 : World} {N N' n : Nat} {A : Option Addr} {t : List TRow}
theorem ReadsT.below (h : ReadsT w N A n t) (hb : Below N w w') : ReadsT w' N A n t := ⟨h.1.below hb, fun r hr => ⟨(h.2 r hr).1, (h.2 r hr).2.below hb⟩⟩
theorem ReadsT.more (h : ReadsT w N A n t) (hN : N ≤ N') : ReadsT w N' A n t := ⟨h.1.more hN, fun r hr => ⟨(h.2 r hr).1, (h.2 r hr).2.more hN⟩⟩
theorem ReadsT.len (h : ReadsT w N A n t) : t.length = n := by have := h.1.1; simpa using this
theorem ReadsT.rlen (h : ReadsT w N A n t) {r : TRow} (hr : r ∈ t) : r.xs.length = r.n := by have := (h.2 r hr).2.1; simpa using this
theorem ReadsT.at_ (h : ReadsT w N A n t) {i : Nat} (hi : i < n) : ∃ b o r, A = some ⟨b, o, none⟩ ∧ b < N ∧ t[i]? = some r ∧ w.cell? ⟨b, o + i, none⟩ = some (.slice r.A r.n r.c) ∧ (r.n ≤ r.c ∧ r.c ≤ 9223372036854775807) ∧ r.xs.length = r.n ∧ Reads w N 1 r.A r.n (r.xs.map (.int .i64)) := by
  obtain ⟨b, o, e, hb, hc⟩ := h.1.2 (by omega)
  have hl := h.len
  have hr := List.getElem?_eq_getElem (show i < t.length by omega)
  have hm := List.getElem_mem (show i < t.length by omega)
  exact ⟨b, o, _, e, hb, hr, hc i _ (by rw [List.getElem?_map, hr]; rfl), (h.2 _ hm).1, h.rlen hm, (h.2 _ hm).2⟩
theorem readsT_lay (hb : Below W.heap.size W W1) {wa : World} (ha : Below wa.heap.size wa W) (h : ReadsT wa wa.heap.size A n t) : ReadsT W1 W1.heap.size A n t :=
  ((h.below ha).below (hb.mono ha.size)).more (Nat.le_trans ha.size hb.size)
end

theorem choose_rows {R : Nat → TRow → Prop} (m : Nat) (h : ∀ q, q < m → ∃ z, R q z) : ∃ xs : List TRow, xs.length = m ∧ ∀ q z, xs[q]? = some z → R q z := by
  induction m with
  | zero => exact ⟨[], rfl, fun q z h => by simp at h⟩
  | succ m ih =>
    obtain ⟨xs, hl, hx⟩ := ih fun q hq => h q (by omega)
    obtain ⟨z, hz⟩ := h m (by omega)
    refine ⟨xs ++ [z], by simp [hl], fun q u hu => ?_⟩
    rcases Nat.lt_trichotomy q m with hq | hq | hq
    · rw [List.getElem?_append_left (by omega)] at hu
      exact hx q u hu
    · subst hq
      rw [List.getElem?_append_right (by omega), hl, Nat.sub_self] at hu
      simp at hu
      exact hu ▸ hz
    · rw [List.getElem?_eq_none (by simp; omega)] at hu
      cases hu

section
variable {H : Type} {enc : TypeId × Value → H} {P : Program} {w : World} {base b0 : Nat} {spare : Nat → Bool} {held : Bool} {r : Reach} {t e i : TypeId} {v : Value} {d : DataW H} {p : List MemPlace}
theorem row_ints {fuel : Nat} {cs : List Value} {x : DataW H × List MemPlace} (ht : P.underlying t = some (.slice e)) (he : P.underlying e = some (.int .i64)) (hc : P.cellsOf e = 1) (hf : DataW.trod enc P w base spare held fuel t cs = some x) :
    ∃ r : TRow, cs = [r.val] ∧ (r.n ≤ r.c ∧ r.c ≤ 9223372036854775807) ∧ (∀ z ∈ r.xs, I64 z) ∧ Reads w w.heap.size 1 r.A r.n (r.xs.map (.int .i64)) := by
  rcases open_ints ht he hc hf with ⟨h0, -⟩ | ⟨a, len, cap, zs, hcs, -, hl, hm, hzl, -, hcell, hwf⟩
  · exact ⟨⟨none, 0, 0, []⟩, h0, ⟨Nat.le_refl 0, by simp⟩, by simp, Reads.none_⟩
  have hlz : len ≤ zs.length := by rw [hzl]; split <;> omega
  refine ⟨⟨some a, len, cap, zs.take len⟩, hcs, ⟨hl, by simpa [maxLen] using hm⟩, fun z hz => I64.of_wf (hwf z (List.mem_of_mem_take hz)), ?_⟩
  rcases Nat.eq_zero_or_pos len with rfl | hp
  · exact Reads.none_
  refine Reads.of_adds (by omega) (by simp; omega) ?_ (fun j u hu => ?_)
  · have := block_of_cell (hcell 0 (by omega))
    simpa [Addr.add] using this
  · rw [List.getElem?_map, List.getElem?_take] at hu
    split at hu
    · rename_i hj
      have hz := List.getElem?_eq_getElem (show j < zs.length by omega)
      rw [hz] at hu
      simp at hu
      rw [← hu]
      have := hcell j (by omega)
      simpa [List.getD, hz] using this
    · cases hu
/-- A slice of slices of whole numbers. -/
theorem arg_tabs (ht : P.underlying t = some (.slice e)) (hce : P.cellsOf e = 1) (he : P.underlying e = some (.slice i)) (hi : P.underlying i = some (.int .i64)) (hc : P.cellsOf i = 1) (hv : Value.okWide P w r b0 t v) (h : DataW.Trod enc P w base spare held t v d p) :
    ∃ (A : Option Addr) (n c : Nat) (l : List TRow), v = .slice A n c ∧ (n ≤ c ∧ c ≤ 9223372036854775807) ∧ l.length = n ∧ (∀ r ∈ l, ∀ z ∈ r.xs, I64 z) ∧ ReadsT w w.heap.size A n l := by
  obtain ⟨fuel, hf⟩ := h
  rcases open_slice ht hf with ⟨h0, -⟩ | ⟨a, len, cap, m, q, D, Pl, hcs, hb, hl, hm, hmm, hx, hat⟩
  · exact ⟨none, 0, 0, [], slice_one ht hv h0, by omega, rfl, by simp, ⟨Reads.none_, by simp⟩⟩
  have hlm : len ≤ m := by rw [hmm]; split <;> omega
  have hq : ∀ j, j < len → ∃ r : TRow, w.cell? (a.add j) = some r.val ∧ (r.n ≤ r.c ∧ r.c ≤ 9223372036854775807) ∧ (∀ z ∈ r.xs, I64 z) ∧ Reads w w.heap.size 1 r.A r.n (r.xs.map (.int .i64)) := by
    intro j hj
    obtain ⟨cs', h1, h2⟩ := hat j (by omega)
    rw [hce] at h1
    obtain ⟨r, e1, r1, r2, r3⟩ := row_ints he hi hc h2
    obtain ⟨-, hcl, hcc⟩ := World.cells?_some h1
    have h3 := hcc 0 (by omega)
    rw [e1, Go.Deep.add_add, Nat.mul_one, Nat.add_zero] at h3
    exact ⟨r, h3, r1, r2, r3⟩
  obtain ⟨ts, htl, hts⟩ := choose_rows _ hq
  have hmem : ∀ r ∈ ts, (r.n ≤ r.c ∧ r.c ≤ 9223372036854775807) ∧ (∀ z ∈ r.xs, I64 z) ∧ Reads w w.heap.size 1 r.A r.n (r.xs.map (.int .i64)) := fun r hr => by
    obtain ⟨j, hj⟩ := List.getElem?_of_mem hr
    exact (hts j r hj).2
  refine ⟨some a, len, cap, ts, slice_one ht hv hcs, ⟨hl, by simpa [maxLen] using hm⟩, htl, fun r hr => (hmem r hr).2.1, ?_, fun r hr => ⟨(hmem r hr).1, (hmem r hr).2.2⟩⟩
  rcases Nat.eq_zero_or_pos len with rfl | hp
  · obtain rfl : ts = [] := List.length_eq_zero_iff.1 htl
    exact Reads.none_
  refine Reads.of_adds (by omega) (by simpa using htl) ?_ (fun j u hu => ?_)
  · have := block_of_cell (hts 0 _ (List.getElem?_eq_getElem (by omega))).1
    simpa [Addr.add] using this
  · rw [List.getElem?_map] at hu
    cases hj : ts[j]? with
    | none => rw [hj] at hu; cases hu
    | some z => rw [hj] at hu; cases hu; exact (hts j z hj).1
end

theorem own_apart {w w' : World} {base base' : Nat} {e e' : TypeId} {size size' n n' : Nat} {v v' : Value} {xs xs' : List Value} (h : w.ownsRow base e size v n xs) (h' : w.ownsRow base' e' size' v' n' xs') (hne : e ≠ e') (hg : w.grownBy w' v'.ownBlock) : w'.ownsRow base e size v n xs := by
  refine own_same h fun g hgv => ?_
  have hlt := (own_lt h hgv).2
  refine hg.block g hlt fun e1 => ?_
  rcases h.2 with ⟨rfl, _⟩ | ⟨g1, cap, cur, rfl, hb, hh, _⟩
  · cases hgv
  rcases h'.2 with ⟨rfl, _⟩ | ⟨g2, cap', cur', rfl, hb', hh', _⟩
  · cases e1
  have e2 : g1 = g := by simpa [Value.ownBlock] using hgv
  have e3 : g = g2 := by simpa [Value.ownBlock] using e1
  subst e2 e3
  rw [hh] at hh'
  injection hh' with h3
  injection h3 with _ h4
  exact hne h4
theorem own_mono {w : World} {base base' : Nat} {e : TypeId} {size n : Nat} {v : Value} {xs : List Value} (h : w.ownsRow base e size v n xs) (hb : base' ≤ base) : w.ownsRow base' e size v n xs := by
  refine ⟨h.1, ?_⟩
  rcases h.2 with h1 | ⟨g, cap, cur, h1, h2, h3⟩
  · exact .inl h1
  · exact .inr ⟨g, cap, cur, h1, Nat.le_trans hb h2, h3⟩
theorem own_cap {w : World} {base n size c : Nat} {A : Option Addr} {e : TypeId} {xs : List Value} (h : w.ownsRow base e size (.slice A n c) n xs) : n ≤ c ∧ c ≤ 9223372036854775807 := by
  rcases h.2 with ⟨h1, h2⟩ | ⟨g, cap, cur, h1, _, _, hc, hm, _⟩
  · injection h1 with _ h3 h4; omega
  · injection h1 with _ _ h4
    subst h4
    exact ⟨hc, by simpa [maxLen] using hm⟩

/-- A copy of a table. -/
def TabPost (t : List TRow) (n : Nat) (w : World) (e : Ending) (w' : World) : Prop :=
  Below w.heap.size w w' ∧ ∃ A' c' ts, e = .returned (.slice A' n c') ∧ ts.map TRow.xs = t.map TRow.xs ∧ ReadsT w' w'.heap.size A' n ts

theorem info_ints : (Try.prog.info? 50).map (fun i => (i.zero, i.size, i.bytes)) = some (some (.slice none 0 0), 1, 24) := by kernel_rfl

set_option maxRecDepth 100000 in
theorem copylists_any (A : Option Addr) (n c : Nat) (t : List TRow) (w : World) (hx : ReadsT w w.heap.size A n t) (hn : n ≤ 1000) (hrn : ∀ r ∈ t, r.n ≤ 1000) :
    Calls Try.prog 56 #[.slice A n c] w (TabPost t n w) := by
  obtain ⟨i0, hi0, hz0, hz1, hz2⟩ := info_parts info_ints
  have hln := hx.len
  have HX := Lib.hid hx
  have HI0 := Lib.hid hi0
  have HZ0 := Lib.hid hz0
  have HZ1 := Lib.hid hz1
  have HZ2 := Lib.hid hz2
  have HLN := Lib.hid hln
  clear hx hi0 hz0 hz1 hz2 hln
  go_enter Try.func56, Try.ntmps56
  go_wp2
  go_loopw [3, 4] (fun o i wr => ∃ (k : Nat) (ts : List TRow), k ≤ n ∧ i = .int .i64 k ∧ Below w.heap.size w wr ∧ ts.map TRow.xs = (t.take k).map TRow.xs ∧ ts.length = k ∧ wr.ownsRow w.heap.size 50 1 o k (ts.map TRow.val) ∧
    ∀ r ∈ ts, wr.ownsRow w.heap.size 3 1 r.val r.n (r.xs.map (.int .i64))) (fun _ i _ => n - (intOf i).toNat)
  case atStart => exact ⟨0, [], by omega, rfl, Below.refl _ _, by simp, rfl, World.ownsRow_nil _ _ _ _, by simp⟩
  case round =>
    obtain ⟨k, ts, hk, rfl, hb, hts, htl, ho, hrows⟩ := hrel
    have HO := Lib.hid ho
    have HBR := Lib.hid hb
    have HTS := Lib.hid hts
    have HTL := Lib.hid htl
    have HROWS := Lib.hid hrows
    have hbr := hb.size
    clear ho hb hts htl hrows
    by_cases hlt : k < n
    · obtain ⟨zb, zo, r, rfl, hzb, hr, c0, hrc, hrl, hrr⟩ := HX.out.at_ hlt
      have hrn' := hrn r (List.mem_of_getElem? hr)
      have f0 := (HBR.out.cell (p := ⟨zb, zo + k, none⟩) hzb).trans c0
      have HRR := Lib.hid ((hrr.below HBR.out).more hbr)
      have HR := Lib.hid hr
      clear hr hrr c0
      go_wp2_with fail
      refine (copyints_any r.A r.n r.c _ r.xs _ HRR.out (Nat.le_refl _) (by omega)).mono ?_
      rintro e w1 ⟨A1, c1, rfl, hb1, -, ho1⟩
      have hb1s := hb1.size
      obtain ⟨W, hW⟩ : ∃ W, W = w1.alloc (.cells #[.slice A1 r.n c1] 50) := ⟨_, rfl⟩
      have hoW : W.ownsRow w.heap.size 50 1 u3 k (ts.map TRow.val) := by rw [hW]; exact (own_below HO.out hb1 (Nat.le_refl _)).alloc _
      have hnb : Blk W w1.heap.size 50 #[.slice A1 r.n c1] := by rw [hW]; exact Blk.new _ _ _
      have hsz : W.heap.size = w1.heap.size + 1 := by rw [hW]; simp
      have hrW : ∀ r' ∈ ts, W.ownsRow w.heap.size 3 1 r'.val r'.n (r'.xs.map (.int .i64)) := fun r' hr' => by rw [hW]; exact (own_below (HROWS.out r' hr') hb1 (Nat.le_refl _)).alloc _
      have hnW : W.ownsRow w.heap.size 3 1 (.slice A1 r.n c1) r.n (r.xs.map (.int .i64)) := by rw [hW]; exact own_mono (ho1.alloc _) hbr
      have hbW : Below w.heap.size w W := by rw [hW]; exact (HBR.out.trans (hb1.mono hbr)).alloc (by omega) _
      obtain ⟨v', W2, hrun, o2', hg2, hrow⟩ := run_append_any (P := Try.prog) W w.heap.size 91 91 50 i0 _ 1 24 Try.underlying91 HI0.out HZ0.out HZ1.out HZ2.out rfl (by omega) u3 k _ hoW W.heap.size (some ⟨w1.heap.size, 0, none⟩) 1 1 [.slice A1 r.n c1] (Blk.reads hnb rfl) (by simp [Value.oneCell']) (by unfold maxLen; omega) (by omega) (by omega)
      have hb2 := Lib.hid (hbW.grown hg2 (by omega) (fun g hg => (own_lt hoW hg).1))
      have hr2 : Hid (∀ r' ∈ ts ++ [(⟨A1, r.n, c1, r.xs⟩ : TRow)], W2.ownsRow w.heap.size 3 1 r'.val r'.n (r'.xs.map (.int .i64))) := by
        show ∀ _, _
        intro r' hr'
        rcases List.mem_append.1 hr' with h | h
        · exact own_apart (hrW r' h) hoW (by decide) hg2
        · obtain rfl : r' = ⟨A1, r.n, c1, r.xs⟩ := by simpa using h
          exact own_apart hnW hoW (by decide) hg2
      rw [hW] at hrun
      have HRUN := Lib.hid hrun
      have HO2 : Hid (W2.ownsRow w.heap.size 50 1 v' (k + 1) ((ts ++ [(⟨A1, r.n, c1, r.xs⟩ : TRow)]).map TRow.val)) := by
        show World.ownsRow _ _ _ _ _ _ _
        rw [List.map_append]
        exact o2'
      clear hrun hg2 hrow hnb hoW hW hsz hrW hnW hbW o2' hb1 ho1
      go_wp2_with (first | (at_builtin; refine wpList_app _ W2 v' rfl _ _ _ rfl _ _ rfl rfl HRUN.out ?_))
      go_roundw
      case rel =>
        refine ⟨k + 1, ts ++ [(⟨A1, r.n, c1, r.xs⟩ : TRow)], by omega, by go_num, hb2.out, ?_, by rw [List.length_append, HTL.out]; rfl, HO2.out, hr2.out⟩
        rw [List.map_append, HTS.out, List.take_add_one, HR.out, List.map_append]
        rfl
      case measure => simp [intOf]; omega
    · have hkn : k = n := by omega
      rw [hkn] at HO HTS
      clear hkn
      obtain ⟨A3, c3, rfl, hr3⟩ := own_reads HO.out
      have HRR := Lib.hid hr3
      clear hr3
      go_wp2
      go_ret
      refine ⟨HBR.out, A3, c3, ts, rfl, ?_, HRR.out, fun r hr => ⟨own_cap (HROWS.out r hr), own_reads2 (HROWS.out r hr)⟩⟩
      rw [HTS.out, List.take_of_length_le (by rw [HLN.out]; omega)]

end Go.Proofs.Ytgamepmipoociaa

end
