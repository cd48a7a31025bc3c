import Derived.Test.YtmejiafmmmeloaaQ5
import Derived.Test.YtmejiafmmmeloaaQ3
import Derived.Test.YtmejiafmmmeloaaQ2
import Derived.JoinedOf
import Derived.Test.YtmejiafmmmeloaaQ4

section
/- Arguments that are slices of structs of whole numbers or of texts: their cells as a row of memory. -/
namespace Go.Proofs.Ytmejiafmmmeloaa
open Go Go.RowKit Go.ChangeShapes Go.WideShapes Go.ChangeAt Go.Joins Go.Deep

def I64 (z : Int) : Prop := -9223372036854775808 ≤ z ∧ z ≤ 9223372036854775807
theorem I64.of_wf {z : Int} (h : (Lit.int .i64 z).wf = true) : I64 z := by
  simpa [I64, Lit.wf, IntKind.min, IntKind.max, IntKind.signed, IntKind.bits] using h

/-- A choice of a number for each place. -/
theorem choose_list {R : Nat → Int → Prop} (m : Nat) (h : ∀ q, q < m → ∃ z, R q z) : ∃ xs : List Int, xs.length = m ∧ ∀ q z, xs[q]? = some z → R q z := by
  induction m with
  | zero => exact ⟨[], rfl, fun q z h => by simp at h⟩
  | succ m ih =>
    obtain ⟨xs, hl, hx⟩ := ih fun q hq => h q (by omega)
    obtain ⟨z, hz⟩ := h m (by omega)
    refine ⟨xs ++ [z], by simp [hl], fun q u hu => ?_⟩
    rcases Nat.lt_trichotomy q m with hq | hq | hq
    · rw [List.getElem?_append_left (by omega)] at hu
      exact hx q u hu
    · subst hq
      rw [List.getElem?_append_right (by omega), hl, Nat.sub_self] at hu
      simp at hu
      exact hu ▸ hz
    · rw [List.getElem?_eq_none (by simp; omega)] at hu
      cases hu

theorem pairs_of_ints : ∀ (n : Nat) (xs : List Int), xs.length = n * 2 → ∃ l : List (Int × Int), l.length = n ∧ cells2 l = xs.map (.int .i64) ∧ ∀ p ∈ l, p.1 ∈ xs ∧ p.2 ∈ xs
  | 0, xs, h => by
    obtain rfl : xs = [] := List.length_eq_zero_iff.1 (by simpa using h)
    exact ⟨[], rfl, rfl, by simp⟩
  | n + 1, xs, h => by
    match xs, h with
    | x :: y :: t, h =>
      obtain ⟨l, h1, h2, h3⟩ := pairs_of_ints n t (by simp at h; omega)
      refine ⟨(x, y) :: l, by simp [h1], by simpa [cells2] using h2, fun p hp => ?_⟩
      rcases List.mem_cons.1 hp with rfl | hp
      · simp
      · have := h3 p hp
        exact ⟨by simp [this.1], by simp [this.2]⟩
    | [_], h => simp at h; omega
    | [], h => simp at h

section
variable {H : Type} {enc : TypeId × Value → H} {P : Program} {w : World} {base : Nat} {spare : Nat → Bool} {held : Bool}
theorem open_slice_fields {t e : TypeId} {fs : Array Field} {fuel : Nat} {cs : List Value} {x : DataW H × List MemPlace} (ht : P.underlying t = some (.slice e)) (he : P.underlying e = some (.struct fs))
    (hone : oneCellFields P fs = true) (hC : P.cellsOf e = fs.size) (h : DataW.trod enc P w base spare held fuel t cs = some x) :
    (cs = [.slice none 0 0] ∧ x = (.nil, [])) ∨
    ∃ (a : Addr) (len cap : Nat), cs = [.slice (some a) len cap] ∧ (len ≤ cap ∧ cap ≤ maxLen) ∧
      ∀ i, i < len → ∀ (j : Nat) (f : Field), fs[j]? = some f → ∃ (v : Value) (y : DataW H × List MemPlace) (n : Nat), w.cell? (a.add (i * fs.size + j)) = some v ∧ DataW.trod enc P w base spare held n f.type [v] = some y := by
  rcases open_slice ht h with h0 | ⟨a, len, cap, m, n, D, Pl, hcs, hb, hl, hm, hmm, hx, hi⟩
  · exact .inl h0
  · have hlm : len ≤ m := by rw [hmm]; split <;> omega
    refine .inr ⟨a, len, cap, hcs, ⟨hl, hm⟩, fun i him => ?_⟩
    obtain ⟨cs', hc, ht'⟩ := hi i (by omega)
    rw [hC] at hc
    obtain ⟨ys, n', hn', hy, hlen, hyl, hf⟩ := DataW.trod_struct he ht'
    obtain ⟨_, hcl, hat⟩ := World.cells?_some hc
    intro j f hj
    obtain ⟨ho, hk⟩ := hone_of hone j f hj
    have hjl : j < fs.size := (Array.getElem?_eq_some_iff.1 hj).1
    have hcell := hat j hjl
    have hv : cs'[j]? = some (cs'[j]'(by omega)) := List.getElem?_eq_getElem (by omega)
    have h1 := hf j f hj
    rw [ho, hk] at h1
    have hone' : (cs'.drop j).take 1 = [cs'[j]'(by omega)] := by
      rw [List.drop_eq_getElem_cons (by omega)]
      rfl
    rw [hone'] at h1
    have hys : ys[j]? = some (ys[j]'(by omega)) := List.getElem?_eq_getElem (by omega)
    refine ⟨_, _, _, ?_, h1.trans hys⟩
    rw [← Go.Deep.add_add, hcell, hv]

theorem block_of_cell {p : Addr} {v : Value} (h : w.cell? p = some v) : p.block < w.heap.size := by
  unfold World.cell? at h
  split at h <;> first | cases h | (split at h <;> first | cases h | skip)
  all_goals
    first
    | (rename_i hh; exact (Array.getElem?_eq_some_iff.1 hh).1)
    | (rename_i hh _; exact (Array.getElem?_eq_some_iff.1 hh).1)
    | omega

/-- A slice of structs whose fields all are whole numbers. -/
theorem open_slice_ints {t e tI : TypeId} {fs : Array Field} {fuel : Nat} {cs : List Value} {x : DataW H × List MemPlace} (ht : P.underlying t = some (.slice e)) (he : P.underlying e = some (.struct fs))
    (hone : oneCellFields P fs = true) (hC : P.cellsOf e = fs.size) (hI : P.underlying tI = some (.int .i64)) (hf : fs.toList.all (fun f => f.type == tI) = true) (hk : 0 < fs.size) (h : DataW.trod enc P w base spare held fuel t cs = some x) :
    ∃ (A : Option Addr) (n c : Nat) (xs : List Int), cs = [.slice A n c] ∧ (n ≤ c ∧ c ≤ 9223372036854775807) ∧ xs.length = n * fs.size ∧ (∀ z ∈ xs, I64 z) ∧ Reads w w.heap.size fs.size A n (xs.map (.int .i64)) := by
  rcases open_slice_fields ht he hone hC h with ⟨h0, -⟩ | ⟨a, len, cap, hcs, hl, hi⟩
  · exact ⟨none, 0, 0, [], h0, by omega, by simp, by simp, Reads.none_⟩
  have hq : ∀ q, q < len * fs.size → ∃ z, w.cell? (a.add q) = some (.int .i64 z) ∧ I64 z := by
    intro q hq
    have h1 : q / fs.size < len := Nat.div_lt_of_lt_mul (by rwa [Nat.mul_comm])
    have h2 : q % fs.size < fs.size := Nat.mod_lt _ hk
    obtain ⟨v, y, n, hc, ht'⟩ := hi _ h1 _ _ (Array.getElem?_eq_getElem h2)
    have hft : fs[q % fs.size].type = tI := by simpa using List.all_eq_true.1 hf _ (Array.mem_toList_iff.2 (Array.getElem_mem h2))
    rw [hft] at ht'
    obtain ⟨z, e0, -, hwf⟩ := DataW.trod_int hI ht'
    rw [show q / fs.size * fs.size + q % fs.size = q by rw [Nat.mul_comm]; exact Nat.div_add_mod _ _] at hc
    simp at e0
    exact ⟨z, e0 ▸ hc, I64.of_wf hwf⟩
  obtain ⟨xs, hxl, hx⟩ := choose_list _ hq
  refine ⟨some a, len, cap, xs, hcs, ⟨hl.1, by simpa [maxLen] using hl.2⟩, hxl, fun z hz => ?_, ?_⟩
  · obtain ⟨q, hq⟩ := List.getElem?_of_mem hz
    exact (hx q z hq).2
  · rcases Nat.eq_zero_or_pos len with rfl | hp
    · obtain rfl : xs = [] := List.length_eq_zero_iff.1 (by simpa using hxl)
      exact Reads.none_
    refine Reads.of_adds hk (by simpa using hxl) ?_ (fun j u hu => ?_)
    · have h0 : 0 < xs.length := by rw [hxl]; exact Nat.mul_pos hp hk
      have := block_of_cell (hx 0 _ (List.getElem?_eq_getElem h0)).1
      simpa [Addr.add] using this
    · rw [List.getElem?_map] at hu
      cases hj : xs[j]? with
      | none => rw [hj] at hu; cases hu
      | some z => rw [hj] at hu; cases hu; exact (hx j z hj).1

/-- A slice of pairs of whole numbers. -/
theorem open_pairs {t e tI : TypeId} {fs : Array Field} {fuel : Nat} {cs : List Value} {x : DataW H × List MemPlace} (ht : P.underlying t = some (.slice e)) (he : P.underlying e = some (.struct fs))
    (hone : oneCellFields P fs = true) (hC : P.cellsOf e = fs.size) (hI : P.underlying tI = some (.int .i64)) (hf : fs.toList.all (fun f => f.type == tI) = true) (hk : fs.size = 2) (h : DataW.trod enc P w base spare held fuel t cs = some x) :
    ∃ (A : Option Addr) (n c : Nat) (l : List (Int × Int)), cs = [.slice A n c] ∧ (n ≤ c ∧ c ≤ 9223372036854775807) ∧ l.length = n ∧ (∀ p ∈ l, I64 p.1 ∧ I64 p.2) ∧ Reads w w.heap.size 2 A n (cells2 l) := by
  obtain ⟨A, n, c, xs, h1, h2, h3, h4, h5⟩ := open_slice_ints ht he hone hC hI hf (by omega) h
  rw [hk] at h3 h5
  obtain ⟨l, l1, l2, l3⟩ := pairs_of_ints n xs h3
  exact ⟨A, n, c, l, h1, h2, l1, fun p hp => ⟨h4 _ (l3 p hp).1, h4 _ (l3 p hp).2⟩, l2 ▸ h5⟩
end

section
variable {H : Type} {enc : TypeId × Value → H} {P : Program} {w : World} {base b0 : Nat} {spare : Nat → Bool} {held : Bool} {r : Reach} {t e tI : TypeId} {v : Value} {d : DataW H} {p : List MemPlace}
theorem slice_one (ht : P.underlying t = some (.slice e)) {A : Option Addr} {n c : Nat} (hv : Value.okWide P w r b0 t v) (h : v.cells.toList = [.slice A n c]) : v = .slice A n c := by
  cases v <;> first | (simp [Value.cells] at h; done) | (simp only [Value.cells] at h; simpa using h) | (exfalso; revert hv; simp [Value.okWide, ht, Cell.okWide, Cell.ok])
/-- A slice of pairs of whole numbers. -/
theorem arg_pairs {fs : Array Field} (ht : P.underlying t = some (.slice e)) (he : P.underlying e = some (.struct fs)) (hone : oneCellFields P fs = true) (hC : P.cellsOf e = fs.size) (hI : P.underlying tI = some (.int .i64))
    (hf : fs.toList.all (fun f => f.type == tI) = true) (hk : fs.size = 2) (hv : Value.okWide P w r b0 t v) (h : DataW.Trod enc P w base spare held t v d p) :
    ∃ (A : Option Addr) (n c : Nat) (l : List (Int × Int)), v = .slice A n c ∧ (n ≤ c ∧ c ≤ 9223372036854775807) ∧ l.length = n ∧ (∀ p ∈ l, I64 p.1 ∧ I64 p.2) ∧ Reads w w.heap.size 2 A n (cells2 l) := by
  obtain ⟨fuel, hf'⟩ := h
  obtain ⟨A, n, c, l, h1, h2⟩ := open_pairs ht he hone hC hI hf hk hf'
  exact ⟨A, n, c, l, slice_one ht hv h1, h2⟩
end

end Go.Proofs.Ytmejiafmmmeloaa

end

section
/- Lists of lists of numbers: how they lie in memory, as arguments; their copy. -/
namespace Go.Proofs.Ytmejiafmmmeloaa
open Go Go.RowKit Go.ChangeShapes Go.WideShapes Go.ChangeAt Go.Joins Go.Deep

/-- A list of numbers in memory. -/
structure TRow where
  A : Option Addr
  n : Nat
  c : Nat
  xs : List Int
def TRow.val (r : TRow) : Value := .slice r.A r.n r.c
def ReadsT (w : World) (N : Nat) (A : Option Addr) (n : Nat) (t : List TRow) : Prop :=
  Reads w N 1 A n (t.map TRow.val) ∧ ∀ r ∈ t, (r.n ≤ r.c ∧ r.c ≤ 9223372036854775807) ∧ Reads w N 1 r.A r.n (r.xs.map (.int .i64))
section
variable {w w' W W1 : World} {N N' n : Nat} {A : Option Addr} {t : List TRow}
theorem ReadsT.below (h : ReadsT w N A n t) (hb : Below N w w') : ReadsT w' N A n t := ⟨h.1.below hb, fun r hr => ⟨(h.2 r hr).1, (h.2 r hr).2.below hb⟩⟩
theorem ReadsT.more (h : ReadsT w N A n t) (hN : N ≤ N') : ReadsT w N' A n t := ⟨h.1.more hN, fun r hr => ⟨(h.2 r hr).1, (h.2 r hr).2.more hN⟩⟩
theorem ReadsT.len (h : ReadsT w N A n t) : t.length = n := by have := h.1.1; simpa using this
theorem ReadsT.rlen (h : ReadsT w N A n t) {r : TRow} (hr : r ∈ t) : r.xs.length = r.n := by have := (h.2 r hr).2.1; simpa using this
theorem ReadsT.at_ (h : ReadsT w N A n t) {i : Nat} (hi : i < n) : ∃ b o r, A = some ⟨b, o, none⟩ ∧ b < N ∧ t[i]? = some r ∧ w.cell? ⟨b, o + i, none⟩ = some (.slice r.A r.n r.c) ∧ (r.n ≤ r.c ∧ r.c ≤ 9223372036854775807) ∧ r.xs.length = r.n ∧ Reads w N 1 r.A r.n (r.xs.map (.int .i64)) := by
  obtain ⟨b, o, e, hb, hc⟩ := h.1.2 (by omega)
  have hl := h.len
  have hr := List.getElem?_eq_getElem (show i < t.length by omega)
  have hm := List.getElem_mem (show i < t.length by omega)
  exact ⟨b, o, _, e, hb, hr, hc i _ (by rw [List.getElem?_map, hr]; rfl), (h.2 _ hm).1, h.rlen hm, (h.2 _ hm).2⟩
end

section
variable {H : Type} {enc : TypeId × Value → H} {P : Program} {w : World} {base b0 : Nat} {spare : Nat → Bool} {held : Bool} {r : Reach} {t e i : TypeId} {v : Value} {d : DataW H} {p : List MemPlace}
end

theorem own_mono {w : World} {base base' : Nat} {e : TypeId} {size n : Nat} {v : Value} {xs : List Value} (h : w.ownsRow base e size v n xs) (hb : base' ≤ base) : w.ownsRow base' e size v n xs := by
  refine ⟨h.1, ?_⟩
  rcases h.2 with h1 | ⟨g, cap, cur, h1, h2, h3⟩
  · exact .inl h1
  · exact .inr ⟨g, cap, cur, h1, Nat.le_trans hb h2, h3⟩
/-- A copy of a table. -/
def TabPost (t : List TRow) (n : Nat) (w : World) (e : Ending) (w' : World) : Prop :=
  Below w.heap.size w w' ∧ ∃ A' c' ts, e = .returned (.slice A' n c') ∧ ts.map TRow.xs = t.map TRow.xs ∧ ReadsT w' w'.heap.size A' n ts

end Go.Proofs.Ytmejiafmmmeloaa

end

section
/- The class of worlds of a region whose order is left open and in which two lists are appended to, each with one new element: 'a, b = append(a, x), append(b, y)'. -/
namespace Go.Proofs.Ytmejiafmmmeloaa
open Go Go.RowKit

def rowV (g : Option Pick) (v : Value) (n : Nat) : Value := match g with | some y => .slice y.1 (n + 1) y.2 | none => v
def rowN (g : Option Pick) (n : Nat) : Nat := match g with | some _ => n + 1 | none => n
def rowX (g : Option Pick) (xs : List Value) (u : Value) : List Value := match g with | some _ => xs ++ [u] | none => xs

/-- The first list is appended to by operation pa, whose element lies in memory that operation sa makes; the second one by pb and sb. -/
structure Ap (B : Nat) (e e' : TypeId) (va vb : Value) (na nb : Nat) (xs ys : List Value) (u v : Value) (sa pa sb pb : Nat) (W : World) (g : Nat → Option Pick) (w' : World) : Prop where
  os : w'.os = W.os
  tape : w'.tape = W.tape
  output : w'.output = W.output
  size : W.heap.size ≤ w'.heap.size
  keep : ∀ i, i < W.heap.size → va.ownBlock ≠ some i → vb.ownBlock ≠ some i → w'.heap[i]? = W.heap[i]?
  ownA : w'.ownsRow B e 1 (rowV (g pa) va na) (rowN (g pa) na) (rowX (g pa) xs u)
  ownB : w'.ownsRow B e' 1 (rowV (g pb) vb nb) (rowN (g pb) nb) (rowX (g pb) ys v)
  litA : ∀ x, g sa = some x → g pa = none → ∃ b, x.1 = some ⟨b, 0, none⟩ ∧ W.heap.size ≤ b ∧ Blk w' b e #[u] ∧ (rowV (g pa) va na).ownBlock ≠ some b ∧ (rowV (g pb) vb nb).ownBlock ≠ some b
  litB : ∀ x, g sb = some x → g pb = none → ∃ b, x.1 = some ⟨b, 0, none⟩ ∧ W.heap.size ≤ b ∧ Blk w' b e' #[v] ∧ (rowV (g pb) vb nb).ownBlock ≠ some b ∧ (rowV (g pa) va na).ownBlock ≠ some b
  sep : ∀ q, (rowV (g pa) va na).ownBlock = some q → (rowV (g pb) vb nb).ownBlock ≠ some q

section
variable {B : Nat} {e e' : TypeId} {va vb : Value} {na nb : Nat} {xs ys : List Value} {u v : Value} {sa pa sb pb : Nat} {W w' : World} {g : Nat → Option Pick}

theorem Ap.symm (h : Ap B e e' va vb na nb xs ys u v sa pa sb pb W g w') : Ap B e' e vb va nb na ys xs v u sb pb sa pa W g w' :=
  ⟨h.os, h.tape, h.output, h.size, fun i hi h1 h2 => h.keep i hi h2 h1, h.ownB, h.ownA, h.litB, h.litA, fun q hq hp => h.sep q hp hq⟩

theorem Ap.start (hA : W.ownsRow B e 1 va na xs) (hB : W.ownsRow B e' 1 vb nb ys) (hs : ∀ q, va.ownBlock = some q → vb.ownBlock ≠ some q) (k : Nat) : Ap B e e' va vb na nb xs ys u v sa pa sb pb W (fun _ => none) (W.drewN k) :=
  ⟨rfl, rfl, rfl, Nat.le_refl _, fun _ _ _ _ => rfl, hA, hB, (fun x h => by cases h), (fun x h => by cases h), hs⟩

theorem Ap.lit (h : Ap B e e' va vb na nb xs ys u v sa pa sb pb W g w') (h1 : pa ≠ sa) (h2 : pb ≠ sa) (h3 : sb ≠ sa) :
    Ap B e e' va vb na nb xs ys u v sa pa sb pb W (Fx.upd g sa (some ⟨w'.heap.size, 0, none⟩, 0)) (w'.alloc (.cells #[u] e)) := by
  have e1 : Fx.upd g sa (some ⟨w'.heap.size, 0, none⟩, 0) pa = g pa := upd_ne h1
  have e2 : Fx.upd g sa (some ⟨w'.heap.size, 0, none⟩, 0) pb = g pb := upd_ne h2
  have e3 : Fx.upd g sa (some ⟨w'.heap.size, 0, none⟩, 0) sb = g sb := upd_ne h3
  have na' : ∀ {base : Nat} {ty : TypeId} {val : Value} {n : Nat} {l : List Value}, w'.ownsRow base ty 1 val n l → val.ownBlock ≠ some w'.heap.size := fun ho hq => by have := (own_lt ho hq).2; omega
  refine ⟨h.os, h.tape, h.output, Nat.le_trans h.size (by simp), fun i hi k1 k2 => (Below.heap_alloc w' _ i (Nat.lt_of_lt_of_le hi h.size)).trans (h.keep i hi k1 k2), ?_, ?_, ?_, ?_, ?_⟩
  · rw [e1]; exact h.ownA.alloc _
  · rw [e2]; exact h.ownB.alloc _
  · intro x hx hn
    rw [Fx.upd_same] at hx
    cases hx
    rw [e1, e2]
    exact ⟨w'.heap.size, rfl, h.size, Blk.new _ _ _, na' h.ownA, na' h.ownB⟩
  · intro x hx hn
    rw [e3] at hx
    rw [e2] at hn
    obtain ⟨b, hb, hle, hk, q1, q2⟩ := h.litB x hx hn
    rw [e1, e2]
    exact ⟨b, hb, hle, hk.alloc _, q1, q2⟩
  · rw [e1, e2]; exact h.sep

/-- All below B, and all that is neither of the two lists, is as it was. -/
theorem Ap.below (h : Ap B e e' va vb na nb xs ys u v sa pa sb pb W g w') (hA : ∀ q, va.ownBlock = some q → B ≤ q) (hB : ∀ q, vb.ownBlock = some q → B ≤ q) (hle : B ≤ W.heap.size) : Below B W w' :=
  ⟨h.os, h.tape, h.output, h.size, fun i hi => h.keep i (by omega) (fun e => by have := hA i e; omega) (fun e => by have := hB i e; omega)⟩
theorem Ap.blk (h : Ap B e e' va vb na nb xs ys u v sa pa sb pb W g w') {q : Nat} {t : TypeId} {cs : Array Value} (hq : Blk W q t cs) (h1 : va.ownBlock ≠ some q) (h2 : vb.ownBlock ≠ some q) : Blk w' q t cs := (h.keep q hq.lt h1 h2).trans hq
theorem Ap.ends {y z : Pick} (h : Ap B e e' va vb na nb xs ys u v sa pa sb pb W g w') (hy : g pa = some y) (hz : g pb = some z) :
    w'.ownsRow B e 1 (.slice y.1 (na + 1) y.2) (na + 1) (xs ++ [u]) ∧ w'.ownsRow B e' 1 (.slice z.1 (nb + 1) z.2) (nb + 1) (ys ++ [v]) ∧ (∀ q, (Value.slice y.1 (na + 1) y.2).ownBlock = some q → (Value.slice z.1 (nb + 1) z.2).ownBlock ≠ some q) := by
  have h1 := h.ownA
  have h2 := h.ownB
  have h3 := h.sep
  simp only [hy, hz, rowV, rowN, rowX] at h1 h2 h3
  exact ⟨h1, h2, h3⟩
end

end Go.Proofs.Ytmejiafmmmeloaa

end

section
/- The contract of the turns of a target. -/
namespace Go.Proofs.Ytmejiafmmmeloaa
open Go Go.RowKit

def turnB (ls ms X k : Int) : Bool := decide (ls ≤ X + k * 1296000) && decide (X + k * 1296000 ≤ ms)
/-- The turns from -21 on, so many numbers of them looked at. -/
def turnsTo (ls ms X : Int) (n : Nat) : List Int := ((List.range n).map fun (i : Nat) => (i : Int) - 21).filter (turnB ls ms X)
def turnsL (ls ms X : Int) : List Int := turnsTo ls ms X 43
/-- The turns of a target of which the apparent place is known, and the error. -/
def turnsAt (m : Mnt) (X Y : Int) : List Int × Int := if withinB Y m.lo m.hi = false then ([], 26) else if turnsL m.ls m.ms X = [] then ([], 12) else (turnsL m.ls m.ms X, 0)
def turnsF (m : Mnt) (t : Tgt) (day : Int) : List Int × Int := turnsAt m (appF m t day).1 (appF m t day).2
def posL (X : Int) (l : List Int) : List Int := l.map fun k => X + k * 1296000

def TurnsPost (X : Int) (L : List Int) (E : Int) (n : Nat) (w : World) (e : Ending) (w' : World) : Prop :=
  ∃ A c A' c', e = .returned (.tuple #[.slice A n c, .slice A' n c', .int .i64 E]) ∧ Below w.heap.size w w' ∧ w'.ownsRow w.heap.size 3 1 (.slice A n c) n (L.map (.int .i64)) ∧ w'.ownsRow w.heap.size 3 1 (.slice A' n c') n ((posL X L).map (.int .i64))
end Go.Proofs.Ytmejiafmmmeloaa

end

section
/- Contracts of the exported functions of the apparent place and of the turns, and of the reference's turns. -/
namespace Go.Proofs.Ytmejiafmmmeloaa
open Go Go.RowKit

/-- The first error of a mounting, a target and a day. -/
def mtdErr (m : Mnt) (t : Tgt) (day : Int) : Int := orE [mntErr m, tgtErr t, dayErr day]
def TurnsPost1 (L : List Int) (E : Int) (n : Nat) (w : World) (e : Ending) (w' : World) : Prop :=
  ∃ A c, e = .returned (.tuple #[.slice A n c, .int .i64 E]) ∧ Below w.heap.size w w' ∧ Reads w' w'.heap.size 1 A n (L.map (.int .i64))
theorem info_ints1 : (Try.prog.info? 3).map (fun i => (i.zero, i.size, i.bytes)) = some (some (.int .i64 0), 1, 8) := by kernel_rfl
end Go.Proofs.Ytmejiafmmmeloaa

end

section
/- Lists of targets in memory; the check of a target behind others. -/
namespace Go.Proofs.Ytmejiafmmmeloaa
open Go Go.RowKit

def Tgt.cells (t : Tgt) : List Value := [.string t.name, .int .i64 t.az, .int .i64 t.ht, .int .i64 t.fr, .int .i64 t.to, .int .i64 t.dw]
def tgtCells (l : List Tgt) : List Value := l.flatMap Tgt.cells
def sameN (s : ByteArray) (t : Tgt) : Bool := decide (t.name = s)
/-- The error of a target behind others. -/
def nextErr (before : List Tgt) (t : Tgt) : Int := if tgtErr t ≠ 0 then tgtErr t else if before.any (sameN t.name) then 5 else 0

end Go.Proofs.Ytmejiafmmmeloaa

end

section
/- Contracts of what the statements on pointing do with their arguments: guards and copies. -/
namespace Go.Proofs.Ytmejiafmmmeloaa
open Go Go.RowKit

theorem low {P : Program} {f : FuncId} {args : Array Value} {w : World} {E : Ending} (h : Calls P f args w fun e w' => e = E ∧ ∃ q, w' = w.drewN q) : Calls P f args w fun e w' => e = E ∧ Below w.heap.size w w' :=
  h.mono fun e w' ⟨he, q, hw⟩ => ⟨he, by rw [hw]; exact below_drewN (Below.refl _ _) q⟩

def rowsB (n : Nat) : Bool := decide (n ≤ 6) || (decide (40 < n) && decide (n ≤ 43))
def lightB (m : Mnt) : Bool := rowsB m.n1 && rowsB m.n2
/-- A mounting with its tables elsewhere. -/
def Mnt.to (m : Mnt) (A1 : Option Addr) (c1 : Nat) (A2 : Option Addr) (c2 : Nat) : Mnt := { m with A1 := A1, c1 := c1, A2 := A2, c2 := c2 }
def MountPost (m : Mnt) (w : World) (e : Ending) (w' : World) : Prop := ∃ A1 c1 A2 c2, e = .returned (m.to A1 c1 A2 c2).val ∧ Below w.heap.size w w' ∧ MntAt (m.to A1 c1 A2 c2) w'

/-- The mounting in its block, while its tables are copied. -/
def slC (n : Nat) (u : Value) (f : Bool) : Option Pick → Value
  | some x => if f then .slice x.1 n x.2 else u
  | none => u
structure MtD (rs : Array Value) (T e : TypeId) (b n1 n2 : Nat) (l1 l2 : List Value) (v0 v1 v2 v3 v4 u1 u2 : Value) (W : World) (g : Nat → Option Pick) (f : Nat → Bool) (w' : World) : Prop where
  bel : Below b W w'
  two : Blk w' (b + 1) T rs
  blk : Blk w' b T #[v0, v1, v2, v3, v4, slC n1 u1 (f 7) (g 2), slC n2 u2 (f 9) (g 5)]
  o1 : ∀ x, g 2 = some x → w'.ownsRow (b + 2) e 2 (.slice x.1 n1 x.2) n1 l1
  o2 : ∀ x, g 5 = some x → w'.ownsRow (b + 2) e 2 (.slice x.1 n2 x.2) n2 l2
section
variable {rs : Array Value} {T e : TypeId} {b n1 n2 k : Nat} {l1 l2 : List Value} {v0 v1 v2 v3 v4 u1 u2 : Value} {W w' w'' : World} {g : Nat → Option Pick} {f : Nat → Bool}
theorem MtD.same (h : MtD rs T e b n1 n2 l1 l2 v0 v1 v2 v3 v4 u1 u2 W g f w') (k7 : k ≠ 7) (k9 : k ≠ 9) : MtD rs T e b n1 n2 l1 l2 v0 v1 v2 v3 v4 u1 u2 W g (Fx.add f k) w' :=
  ⟨h.bel, h.two, by rw [add_ne' k7, add_ne' k9]; exact h.blk, h.o1, h.o2⟩
end

end Go.Proofs.Ytmejiafmmmeloaa

end

section
/- Classes of worlds for a drawn region of calls whose results are known only behind them: what is chosen keeps its facts. -/
namespace Go.Proofs.Ytmejiafmmmeloaa
open Go Go.RowKit

@[go_sem] theorem held_arr2 : Try.prog.stoodInHeld 40 = false := by kernel_rfl
@[go_sem] theorem guard_arr2 : Try.prog.eqGuardType Try.prog.depth 40 = false := by kernel_rfl
theorem eq_arr2 (a b c d : Int) (w : World) : (Op.equalIn 10000 40 (.agg #[.int .i64 a, .int .i64 b]) (.agg #[.int .i64 c, .int .i64 d])).run Try.prog w = .ok (decide ((a, b) = (c, d))) w := by
  have h0 : (sizeOf 3).run Try.prog w = .ok 1 w := by kernel_rfl
  have p0 : ∀ u v : Value, (part 3 #[u, v] 0).run Try.prog w = .ok u w := fun _ _ => by kernel_rfl
  have p1 : ∀ u v : Value, (part 3 #[u, v] 1).run Try.prog w = .ok v w := fun _ _ => by kernel_rfl
  have q : ∀ u v : Int, (Op.equalIn 9999 3 (.int .i64 u) (.int .i64 v)).run Try.prog w = .ok (u == v) w := fun u v => run_equalIn_int w 9998 _ .i64 .i64 u v Try.underlying3
  show (Op.equalIn (9999 + 1) _ _ _).run _ w = _
  rw [Op.equalIn.eq_def]
  simp only [Sem.run_bind, run_underlying Try.underlying40, Result.andThen_ok, h0]
  rw [Std.Legacy.Range.forIn_eq_forIn_range']
  simp [List.range', p0, p1, q, Sem.run_bind]
  by_cases h1 : a = c <;> by_cases h2 : b = d <;> simp [h1, h2, p0, p1, q]
@[go_sem ↓ high] theorem eql_arr2 (a b c d : Int) (w : World) : (binOp .eql 40 (.agg #[.int .i64 a, .int .i64 b]) (.agg #[.int .i64 c, .int .i64 d])).run Try.prog w = .ok (.bool (decide ((a, b) = (c, d)))) w := by
  rw [run_eql_struct, eq_arr2]; rfl
@[go_sem ↓ high] theorem neq_arr2 (a b c d : Int) (w : World) : (binOp .neq 40 (.agg #[.int .i64 a, .int .i64 b]) (.agg #[.int .i64 c, .int .i64 d])).run Try.prog w = .ok (.bool (!decide ((a, b) = (c, d)))) w := by
  rw [run_neq_struct, eq_arr2]; rfl

abbrev Pick2 := Pick × Pick
def Stb (Pf : Nat → Pick2 → World → Prop) : Prop := ∀ i x (w w' : World), Below w.heap.size w w' → Pf i x w → Pf i x w'
structure Kp (Pf : Nat → Pick2 → World → Prop) (W : World) (g : Nat → Option Pick2) (w' : World) : Prop where
  bel : Below W.heap.size W w'
  has : ∀ i x, g i = some x → Pf i x w'
section
variable {Pf : Nat → Pick2 → World → Prop} {W w' w'' : World} {g : Nat → Option Pick2} {f : Nat → Bool}
theorem Kp.start : Kp Pf W (fun _ => none) (W.drewN 1) := ⟨below_drewN (Below.refl _ _) 1, fun _ _ h => nomatch h⟩
theorem Kp.call (h : Kp Pf W g w') (hs : Stb Pf) (hb : Below w'.heap.size w' w'') : Kp Pf W g w'' := ⟨step_below hb h.bel, fun i x hx => hs i x _ _ hb (h.has i x hx)⟩
theorem Kp.choose (h : Kp Pf W g w') (hs : Stb Pf) (hb : Below w'.heap.size w' w'') (i : Nat) (x : Pick2) (hx : Pf i x w'') : Kp Pf W (Fx.upd g i x) w'' := ⟨step_below hb h.bel, fun j y hy => by
  by_cases e : j = i
  · subst e
    rw [Fx.upd_same] at hy
    cases hy
    exact hx
  · rw [upd_ne e] at hy
    exact hs j y _ _ hb (h.has j y hy)⟩
/-- The same, with a block of two cells that operation c makes and operation s stores into. -/
structure KpS (Pf : Nat → Pick2 → World → Prop) (T : TypeId) (v0 v1 : Value) (c s : Nat) (W : World) (g : Nat → Option Pick2) (f : Nat → Bool) (w' : World) : Prop where
  bel : Below W.heap.size W w'
  has : f s = false → ∀ i x, g i = some x → i ≠ c → Pf i x w'
  made : ∀ x, g c = some x → ∃ b, x.1.1 = some ⟨b, 0, none⟩ ∧ W.heap.size ≤ b ∧ ∃ e0 e1, Blk w' b T #[e0, e1] ∧ (f s = true → e0 = v0 ∧ e1 = v1)
variable {T : TypeId} {v0 v1 : Value} {c s k : Nat}
theorem KpS.start : KpS Pf T v0 v1 c s W (fun _ => none) f (W.drewN 1) := ⟨below_drewN (Below.refl _ _) 1, fun _ _ _ h => (nomatch h), fun _ h => (nomatch h)⟩
theorem KpS.same (h : KpS Pf T v0 v1 c s W g f w') (hk : k ≠ s) : KpS Pf T v0 v1 c s W g (Fx.add f k) w' := ⟨h.bel, fun hf => h.has (by rwa [add_ne' hk] at hf), fun x hx => by
  obtain ⟨b, h0, h1, e0, e1, h2, h3⟩ := h.made x hx
  exact ⟨b, h0, h1, e0, e1, h2, fun hf => h3 (by rwa [add_ne' hk] at hf)⟩⟩
theorem KpS.call (h : KpS Pf T v0 v1 c s W g f w') (hs : Stb Pf) (hk : k ≠ s) (hb : Below w'.heap.size w' w'') : KpS Pf T v0 v1 c s W g (Fx.add f k) w'' := ⟨step_below hb h.bel, fun hf i x hx hi => hs i x _ _ hb (h.has (by rwa [add_ne' hk] at hf) i x hx hi), fun x hx => by
  obtain ⟨b, h0, h1, e0, e1, h2, h3⟩ := h.made x hx
  exact ⟨b, h0, h1, e0, e1, h2.below hb h2.lt, fun hf => h3 (by rwa [add_ne' hk] at hf)⟩⟩
theorem KpS.choose (h : KpS Pf T v0 v1 c s W g f w') (hs : Stb Pf) (hb : Below w'.heap.size w' w'') (i : Nat) (x : Pick2) (hi : i ≠ s) (hc : i ≠ c) (hx : Pf i x w'') : KpS Pf T v0 v1 c s W (Fx.upd g i x) (Fx.add f i) w'' := ⟨step_below hb h.bel, fun hf j y hy hj => by
  by_cases e : j = i
  · subst e
    rw [Fx.upd_same] at hy
    cases hy
    exact hx
  · rw [upd_ne e] at hy
    exact hs j y _ _ hb (h.has (by rwa [add_ne' hi] at hf) j y hy hj), fun y hy => by
  rw [upd_ne hc.symm] at hy
  obtain ⟨b, h0, h1, e0, e1, h2, h3⟩ := h.made y hy
  exact ⟨b, h0, h1, e0, e1, h2.below hb h2.lt, fun hf => h3 (by rwa [add_ne' hi] at hf)⟩⟩
theorem KpS.make {a b : Value} (h : KpS Pf T v0 v1 c s W g f w') (hs : Stb Pf) (hf : f s = false) (hc : c ≠ s) : KpS Pf T v0 v1 c s W (Fx.upd g c ((some ⟨w'.heap.size, 0, none⟩, 0), (none, 0))) (Fx.add f c) (w'.alloc (.cells #[a, b] T)) := ⟨h.bel.alloc h.bel.size _, fun _ j y hy hj => by
  rw [upd_ne hj] at hy
  exact hs j y _ _ ((Below.refl _ _).alloc (Nat.le_refl _) _) (h.has hf j y hy hj), fun y hy => by
  rw [Fx.upd_same] at hy
  cases hy
  refine ⟨w'.heap.size, rfl, h.bel.size, a, b, Blk.new _ _ _, fun e => ?_⟩
  rw [add_ne' hc, hf] at e
  cases e⟩
theorem KpS.cells {x : Pick2} (h : KpS Pf T v0 v1 c s W g f w') (hx : g c = some x) : ∃ b e0 e1, x.1.1 = some ⟨b, 0, none⟩ ∧ W.heap.size ≤ b ∧ w'.cell? ⟨b, 0, none⟩ = some e0 ∧ w'.cell? ⟨b, 1, none⟩ = some e1 ∧ w'.frozen? ⟨b, 0, none⟩ = false ∧ w'.frozen? ⟨b, 1, none⟩ = false := by
  obtain ⟨b, h0, h1, e0, e1, h2, -⟩ := h.made x hx
  exact ⟨b, e0, e1, h0, h1, h2.cell 0, h2.cell 1, h2.frozen 0, h2.frozen 1⟩
theorem KpS.store {x : Pick2} {b : Nat} (h : KpS Pf T v0 v1 c s W g f w') (hx : g c = some x) (hb : x.1.1 = some ⟨b, 0, none⟩) : KpS Pf T v0 v1 c s W g (Fx.add f s) ((w'.setCell ⟨b, 0, none⟩ v0).setCell ⟨b, 1, none⟩ v1) := by
  obtain ⟨b', h0, h1, e0, e1, h2, -⟩ := h.made x hx
  rw [hb] at h0
  cases h0
  refine ⟨below_store h.bel h1, fun hf => (by rw [add_same] at hf; cases hf), fun y hy => ?_⟩
  rw [hx] at hy
  cases hy
  refine ⟨b, hb, h1, v0, v1, ?_, fun _ => ⟨rfl, rfl⟩⟩
  have := (h2.set_ 0 v0).set_ 1 v1
  simpa using this
theorem KpS.end_ {x : Pick2} (h : KpS Pf T v0 v1 c s W g f w') (hx : g c = some x) (hf : f s = true) : ∃ b, x.1.1 = some ⟨b, 0, none⟩ ∧ W.heap.size ≤ b ∧ Blk w' b T #[v0, v1] := by
  obtain ⟨b, h0, h1, e0, e1, h2, h3⟩ := h.made x hx
  obtain ⟨rfl, rfl⟩ := h3 hf
  exact ⟨b, h0, h1, h2⟩
end

/-- What is known of copies: of a mounting (operation ci), of targets (operation ti), of numbers (operation ki). -/
def PfT (m : Mnt) (n : Nat) (l : List Tgt) (q : Nat) (ks : List Int) (ci ti ki : Nat) (i : Nat) (x : Pick2) (w : World) : Prop :=
  (i = ci → MntAt (m.to x.1.1 x.1.2 x.2.1 x.2.2) w) ∧ (i = ti → Reads w w.heap.size 6 x.1.1 n (tgtCells l) ∧ (n ≤ x.1.2 ∧ x.1.2 ≤ 9223372036854775807)) ∧ (i = ki → Reads w w.heap.size 1 x.1.1 q (ks.map (.int .i64)) ∧ (q ≤ x.1.2 ∧ x.1.2 ≤ 9223372036854775807))
theorem PfT.stb {m : Mnt} {n : Nat} {l : List Tgt} {q : Nat} {ks : List Int} {ci ti ki : Nat} : Stb (PfT m n l q ks ci ti ki) := fun _ _ _ _ hb h =>
  ⟨fun e => (h.1 e).lay hb, fun e => ⟨((h.2.1 e).1.below hb).more hb.size, (h.2.1 e).2⟩, fun e => ⟨((h.2.2 e).1.below hb).more hb.size, (h.2.2 e).2⟩⟩
def valT (m : Mnt) (n q ci ti : Nat) (i : Nat) (x : Pick2) : Value := if i = ci then (m.to x.1.1 x.1.2 x.2.1 x.2.2).val else if i = ti then .slice x.1.1 n x.1.2 else .slice x.1.1 q x.1.2
/-- What is known of a copy of a mounting (operation ci) and of a list of numbers (operation ki). -/
def PfQ (m : Mnt) (q : Nat) (ks : List Int) (ci ki : Nat) (i : Nat) (x : Pick2) (w : World) : Prop :=
  (i = ci → MntAt (m.to x.1.1 x.1.2 x.2.1 x.2.2) w) ∧ (i = ki → Reads w w.heap.size 1 x.1.1 q (ks.map (.int .i64)))
theorem PfQ.stb {m : Mnt} {q : Nat} {ks : List Int} {ci ki : Nat} : Stb (PfQ m q ks ci ki) := fun _ _ _ _ hb h =>
  ⟨fun e => (h.1 e).lay hb, fun e => ((h.2 e).below hb).more hb.size⟩
end Go.Proofs.Ytmejiafmmmeloaa

end
