import Derived.Test.YtdidcpealabaiaaQ10
import Derived.Test.YtdidcpealabaiaaQ2
import Derived.Test.YtdidcpealabaiaaQ8
import Derived.Test.YtdidcpealabaiaaQ13
import Derived.Test.YtdidcpealabaiaaQ15
import Derived.Test.YtdidcpealabaiaaQ4
import Derived.Test.YtdidcpealabaiaaQ14

section
/- Arguments that are slices of structs of texts and whole numbers; the list of rockers. -/
namespace Go.Proofs.Ytdidcpealabaiaa
open Go Go.RowKit Go.ChangeShapes Go.WideShapes Go.ChangeAt Go.Joins Go.Deep

theorem choose_vals {R : Nat → Value → Prop} (m : Nat) (h : ∀ q, q < m → ∃ z, R q z) : ∃ xs : List Value, xs.length = m ∧ ∀ q z, xs[q]? = some z → R q z := by
  induction m with
  | zero => exact ⟨[], rfl, fun q z h => by simp at h⟩
  | succ m ih =>
    obtain ⟨xs, hl, hx⟩ := ih fun q hq => h q (by omega)
    obtain ⟨z, hz⟩ := h m (by omega)
    refine ⟨xs ++ [z], by simp [hl], fun q u hu => ?_⟩
    rcases Nat.lt_trichotomy q m with hq | hq | hq
    · rw [List.getElem?_append_left (by omega)] at hu
      exact hx q u hu
    · subst hq
      rw [List.getElem?_append_right (by omega), hl, Nat.sub_self] at hu
      simp at hu
      exact hu ▸ hz
    · rw [List.getElem?_eq_none (by simp; omega)] at hu
      cases hu

section
variable {H : Type} {enc : TypeId × Value → H} {P : Program} {w : World} {base b0 : Nat} {spare : Nat → Bool} {held : Bool} {r : Reach} {t e tI tS : TypeId} {v : Value} {d : DataW H} {p : List MemPlace}
/-- A slice of structs of fields of one cell. -/
theorem open_slice_cells {fs : Array Field} {fuel : Nat} {cs : List Value} {x : DataW H × List MemPlace} (ht : P.underlying t = some (.slice e)) (he : P.underlying e = some (.struct fs))
    (hone : oneCellFields P fs = true) (hC : P.cellsOf e = fs.size) (hk : 0 < fs.size) (h : DataW.trod enc P w base spare held fuel t cs = some x) :
    ∃ (A : Option Addr) (n c : Nat) (us : List Value), cs = [.slice A n c] ∧ (n ≤ c ∧ c ≤ 9223372036854775807) ∧ us.length = n * fs.size ∧ Reads w w.heap.size fs.size A n us ∧
      ∀ q u, us[q]? = some u → ∃ (y : DataW H × List MemPlace) (m : Nat) (f : Field), fs[q % fs.size]? = some f ∧ DataW.trod enc P w base spare held m f.type [u] = some y := by
  rcases open_slice_fields ht he hone hC h with ⟨h0, -⟩ | ⟨a, len, cap, hcs, hl, hi⟩
  · exact ⟨none, 0, 0, [], h0, by omega, by simp, Reads.none_, fun q u h => by simp at h⟩
  have hq : ∀ q, q < len * fs.size → ∃ z, w.cell? (a.add q) = some z ∧ ∃ (y : DataW H × List MemPlace) (m : Nat) (f : Field), fs[q % fs.size]? = some f ∧ DataW.trod enc P w base spare held m f.type [z] = some y := by
    intro q hq
    have h1 : q / fs.size < len := Nat.div_lt_of_lt_mul (by rwa [Nat.mul_comm])
    have h2 : q % fs.size < fs.size := Nat.mod_lt _ hk
    obtain ⟨v, y, n, hc, ht'⟩ := hi _ h1 _ _ (Array.getElem?_eq_getElem h2)
    rw [show q / fs.size * fs.size + q % fs.size = q by rw [Nat.mul_comm]; exact Nat.div_add_mod _ _] at hc
    exact ⟨v, hc, y, n, _, Array.getElem?_eq_getElem h2, ht'⟩
  obtain ⟨us, hxl, hx⟩ := choose_vals _ hq
  refine ⟨some a, len, cap, us, hcs, ⟨hl.1, by simpa [maxLen] using hl.2⟩, hxl, ?_, fun q u hu => (hx q u hu).2⟩
  rcases Nat.eq_zero_or_pos len with rfl | hp
  · obtain rfl : us = [] := List.length_eq_zero_iff.1 (by simpa using hxl)
    exact Reads.none_
  refine Reads.of_adds hk hxl ?_ (fun j u hu => (hx j u hu).1)
  have h0 : 0 < us.length := by rw [hxl]; exact Nat.mul_pos hp hk
  have := block_of_cell (hx 0 _ (List.getElem?_eq_getElem h0)).1
  simpa [Addr.add] using this

/-- The kinds of fields: texts and whole numbers. -/
def KindIs (b : Bool) (u : Value) : Prop := if b then ∃ s : ByteArray, u = .string s ∧ s.size ≤ maxLen else ∃ z, u = .int .i64 z ∧ I64 z
end

section
variable {H : Type} {enc : TypeId × Value → H} {P : Program} {w : World} {base b0 : Nat} {spare : Nat → Bool} {held : Bool} {r : Reach} {t e tI tS : TypeId} {v : Value} {d : DataW H} {p : List MemPlace}
end

end Go.Proofs.Ytdidcpealabaiaa

end

section
/- Arguments of the statements on pointing: mountings, targets, tours, stars, models. -/
namespace Go.Proofs.Ytdidcpealabaiaa
open Go Go.RowKit Go.ChangeShapes Go.WideShapes Go.ChangeAt Go.Joins Go.Deep

section
variable {H : Type} {enc : TypeId × Value → H} {P : Program} {w : World} {base b0 : Nat} {spare : Nat → Bool} {held : Bool} {r : Reach} {t e tI tS tR tL tA tM tN : TypeId} {v : Value} {d : DataW H} {p : List MemPlace} {fs gs : Array Field} {fuel : Nat} {cs : List Value} {x : DataW H × List MemPlace}
theorem open_fields (he : P.underlying t = some (.struct fs)) (hone : oneCellFields P fs = true) (hC : P.cellsOf t = fs.size) (h : DataW.trod enc P w base spare held fuel t cs = some x) :
    cs.length = fs.size ∧ ∃ n, ∀ (j : Nat) (f : Field), fs[j]? = some f → ∃ u y, cs[j]? = some u ∧ DataW.trod enc P w base spare held n f.type [u] = some y := by
  obtain ⟨ys, n', -, -, hlen, hyl, hf⟩ := DataW.trod_struct he h
  rw [hC] at hlen
  refine ⟨hlen, n', fun j f hj => ?_⟩
  obtain ⟨ho, hk⟩ := hone_of hone j f hj
  have hjl : j < fs.size := (Array.getElem?_eq_some_iff.1 hj).1
  have h1 := hf j f hj
  rw [ho, hk] at h1
  have hone' : (cs.drop j).take 1 = [cs[j]'(by omega)] := by rw [List.drop_eq_getElem_cons (by omega)]; rfl
  rw [hone'] at h1
  exact ⟨_, _, List.getElem?_eq_getElem (by omega), h1.trans (List.getElem?_eq_getElem (by omega))⟩
theorem field_at {L : List TypeId} (hf : fs.toList.map (·.type) = L) {j : Nat} {t : TypeId} (hj : L[j]? = some t) : ∃ f, fs[j]? = some f ∧ f.type = t := by
  rw [← hf, List.getElem?_map, Array.getElem?_toList] at hj
  cases h : fs[j]? with
  | none => rw [h] at hj; cases hj
  | some f => rw [h] at hj; exact ⟨f, rfl, Option.some.inj hj⟩
/-- The fields of one cell, by their types. -/
theorem open_typed {L : List TypeId} (he : P.underlying t = some (.struct fs)) (hone : oneCellFields P fs = true) (hC : P.cellsOf t = fs.size) (hf : fs.toList.map (·.type) = L) (h : DataW.trod enc P w base spare held fuel t cs = some x) :
    cs.length = L.length ∧ ∃ n, ∀ (j : Nat) (t : TypeId), L[j]? = some t → ∃ u y, cs[j]? = some u ∧ DataW.trod enc P w base spare held n t [u] = some y := by
  obtain ⟨h1, n, h2⟩ := open_fields he hone hC h
  refine ⟨by rw [h1, ← hf]; simp, n, fun j t hj => ?_⟩
  obtain ⟨f, hfj, rfl⟩ := field_at hf hj
  exact h2 j f hfj
theorem cell_int {n : Nat} {u : Value} {y : DataW H × List MemPlace} (hI : P.underlying tI = some (.int .i64)) (h : DataW.trod enc P w base spare held n tI [u] = some y) : ∃ z, u = .int .i64 z ∧ I64 z := by
  obtain ⟨z, e0, -, hwf⟩ := DataW.trod_int hI h
  simp at e0
  exact ⟨z, e0, I64.of_wf hwf⟩
theorem cell_str {n : Nat} {u : Value} {y : DataW H × List MemPlace} (hS : P.underlying tS = some .string) (h : DataW.trod enc P w base spare held n tS [u] = some y) : ∃ s : ByteArray, u = .string s ∧ s.size ≤ maxLen := by
  obtain ⟨s, e0, -, hs⟩ := DataW.trod_string hS h
  simp at e0
  exact ⟨s, e0, hs⟩
theorem cell_pairs {n : Nat} {u : Value} {y : DataW H × List MemPlace} (ht : P.underlying t = some (.slice e)) (he : P.underlying e = some (.struct gs)) (hone : oneCellFields P gs = true) (hC : P.cellsOf e = gs.size) (hI : P.underlying tI = some (.int .i64)) (hf : gs.toList.all (fun f => f.type == tI) = true) (hk : gs.size = 2) (h : DataW.trod enc P w base spare held n t [u] = some y) :
    ∃ (A : Option Addr) (n c : Nat) (l : List (Int × Int)), u = .slice A n c ∧ (n ≤ c ∧ c ≤ 9223372036854775807) ∧ l.length = n ∧ (∀ p ∈ l, I64 p.1 ∧ I64 p.2) ∧ Reads w w.heap.size 2 A n (cells2 l) := by
  obtain ⟨A, n, c, l, h1, h2⟩ := open_pairs ht he hone hC hI hf hk h
  exact ⟨A, n, c, l, by simpa using h1, h2⟩

/-- What is known of the numbers of a mounting that is an argument. -/
structure MntIn (m : Mnt) (w : World) : Prop where
  at_ : MntAt m w
  c1 : m.n1 ≤ m.c1 ∧ m.c1 ≤ 9223372036854775807
  c2 : m.n2 ≤ m.c2 ∧ m.c2 ≤ 9223372036854775807
  i1 : I64 m.ls
  i2 : I64 m.ms
  i3 : ∀ p ∈ m.l2, I64 p.1 ∧ I64 p.2
theorem open_mnt (he : P.underlying tM = some (.struct fs)) (hone : oneCellFields P fs = true) (hC : P.cellsOf tM = fs.size) (hf : fs.toList.map (·.type) = [tI, tI, tI, tI, tI, tR, tR]) (hI : P.underlying tI = some (.int .i64))
    (ht : P.underlying tR = some (.slice e)) (hg : P.underlying e = some (.struct gs)) (hone' : oneCellFields P gs = true) (hC' : P.cellsOf e = gs.size) (hf' : gs.toList.all (fun f => f.type == tI) = true) (hk : gs.size = 2)
    (h : DataW.trod enc P w base spare held fuel tM cs = some x) : ∃ m : Mnt, cs = [.int .i64 m.ls, .int .i64 m.ms, .int .i64 m.lo, .int .i64 m.hi, .int .i64 m.sp, .slice m.A1 m.n1 m.c1, .slice m.A2 m.n2 m.c2] ∧ MntIn m w := by
  obtain ⟨hl, n, hx⟩ := open_typed he hone hC hf h
  obtain ⟨u0, y0, c0, t0⟩ := hx 0 _ rfl
  obtain ⟨u1, y1, c1, t1⟩ := hx 1 _ rfl
  obtain ⟨u2, y2, c2, t2⟩ := hx 2 _ rfl
  obtain ⟨u3, y3, c3, t3⟩ := hx 3 _ rfl
  obtain ⟨u4, y4, c4, t4⟩ := hx 4 _ rfl
  obtain ⟨u5, y5, c5, t5⟩ := hx 5 _ rfl
  obtain ⟨u6, y6, c6, t6⟩ := hx 6 _ rfl
  obtain ⟨z0, rfl, i0⟩ := cell_int hI t0
  obtain ⟨z1, rfl, i1⟩ := cell_int hI t1
  obtain ⟨z2, rfl, -⟩ := cell_int hI t2
  obtain ⟨z3, rfl, -⟩ := cell_int hI t3
  obtain ⟨z4, rfl, -⟩ := cell_int hI t4
  obtain ⟨A1, n1, k1, l1, rfl, b1, e1, -, r1⟩ := cell_pairs ht hg hone' hC' hI hf' hk t5
  obtain ⟨A2, n2, k2, l2, rfl, b2, e2, j2, r2⟩ := cell_pairs ht hg hone' hC' hI hf' hk t6
  match cs, hl with
  | [d0, d1, d2, d3, d4, d5, d6], _ =>
    simp at c0 c1 c2 c3 c4 c5 c6
    exact ⟨⟨z0, z1, z2, z3, z4, A1, n1, k1, l1, A2, n2, k2, l2⟩, by rw [c0, c1, c2, c3, c4, c5, c6], ⟨r1, r2, by show n1 ≤ _; omega, by show n2 ≤ _; omega⟩, b1, b2, i0, i1, j2⟩
structure TgtIn (t : Tgt) : Prop where
  s : t.name.size ≤ maxLen
  i1 : I64 t.az
end
end Go.Proofs.Ytdidcpealabaiaa

end

section
/- Contracts of what the statements on pointing do with their arguments: guards and copies. -/
namespace Go.Proofs.Ytdidcpealabaiaa
open Go Go.RowKit

theorem low {P : Program} {f : FuncId} {args : Array Value} {w : World} {E : Ending} (h : Calls P f args w fun e w' => e = E ∧ ∃ q, w' = w.drewN q) : Calls P f args w fun e w' => e = E ∧ Below w.heap.size w w' :=
  h.mono fun e w' ⟨he, q, hw⟩ => ⟨he, by rw [hw]; exact below_drewN (Below.refl _ _) q⟩

def rowsB (n : Nat) : Bool := decide (n ≤ 6) || (decide (40 < n) && decide (n ≤ 43))
theorem rowsB_le {n : Nat} (h : rowsB n = true) : n ≤ 43 := by unfold rowsB at h; simp at h; omega
theorem rows_is (A : Option Addr) (n c : Nat) (t : Bool) (h : rowsB n = t) (w : World) : Calls Try.prog 144 #[.slice A n c] w fun e w' => e = .returned (.bool t) ∧ w = w' := by
  have h0 := h
  unfold rowsB at h
  by_cases h6 : n ≤ 6
  · have ht : t = true := by simpa [h6] using h.symm
    subst ht
    have k1 : (n : Int) ≤ 6 := by omega
    clear h h0 h6
    go_enter Try.func144, Try.ntmps144
    go_wp2
    go_ret
    exact ⟨rfl, rfl⟩
  have k1 : ¬ (n : Int) ≤ 6 := by omega
  by_cases h40 : 40 < n
  · have k2 : (40 : Int) < n := by omega
    by_cases h43 : n ≤ 43
    · have ht : t = true := by simpa [h6, h40, h43] using h.symm
      subst ht
      have k3 : (n : Int) ≤ 43 := by omega
      clear h h0 h6 h40 h43
      go_enter Try.func144, Try.ntmps144
      go_wp2
      go_ret
      exact ⟨rfl, rfl⟩
    · have ht : t = false := by simpa [h6, h40, h43] using h.symm
      subst ht
      have k3 : ¬ (n : Int) ≤ 43 := by omega
      clear h h0 h6 h40 h43
      go_enter Try.func144, Try.ntmps144
      go_wp2
      go_ret
      exact ⟨rfl, rfl⟩
  · have k2 : ¬ (40 : Int) < n := by omega
    have ht : t = false := by simpa [h6, h40] using h.symm
    subst ht
    clear h h0 h6 h40
    go_enter Try.func144, Try.ntmps144
    go_wp2
    go_ret
    exact ⟨rfl, rfl⟩

def lightB (m : Mnt) : Bool := rowsB m.n1 && rowsB m.n2
theorem light_is (m : Mnt) (t : Bool) (h : lightB m = t) (w : World) : Calls Try.prog 87 #[m.val] w fun e w' => e = .returned (.bool t) ∧ Below w.heap.size w w' := by
  obtain ⟨ls, ms, lo, hi, sp, A1, n1, c1, l1, A2, n2, c2, l2⟩ := m
  unfold lightB at h
  simp only at h
  unfold Mnt.val
  simp only
  cases h1 : rowsB n1
  · rw [h1] at h
    have ht : t = false := by simpa using h.symm
    subst ht
    have H1 := Lib.hid h1
    clear h h1
    go_enter Try.func87, Try.ntmps87
    go_wp2_with fail
    refine (rows_is A1 n1 c1 false H1.out _).mono ?_
    rintro e w' ⟨rfl, rfl⟩
    go_wp2
    go_ret
    exact ⟨rfl, by repeat' (first | exact Below.refl _ _ | refine below_drewN ?_ _ | refine Below.drew ?_ | refine Below.alloc ?_ (by first | omega | (simp; done) | (simp; omega) | (simp [World.setCell]; omega)) _ | refine Below.setCell ?_ (by first | omega | (simp; done) | (simp; omega)) _)⟩
  · rw [h1, Bool.true_and] at h
    have H1 := Lib.hid h1
    have H := Lib.hid h
    clear h h1
    go_enter Try.func87, Try.ntmps87
    go_wp2_with fail
    refine (rows_is A1 n1 c1 true H1.out _).mono ?_
    rintro e w' ⟨rfl, rfl⟩
    go_wp2_with fail
    refine (rows_is A2 n2 c2 t H.out _).mono ?_
    rintro e w' ⟨rfl, rfl⟩
    go_wp2
    go_ret
    exact ⟨rfl, by repeat' (first | exact Below.refl _ _ | refine below_drewN ?_ _ | refine Below.drew ?_ | refine Below.alloc ?_ (by first | omega | (simp; done) | (simp; omega) | (simp [World.setCell]; omega)) _ | refine Below.setCell ?_ (by first | omega | (simp; done) | (simp; omega)) _)⟩

/-- A mounting with its tables elsewhere. -/
def Mnt.to (m : Mnt) (A1 : Option Addr) (c1 : Nat) (A2 : Option Addr) (c2 : Nat) : Mnt := { m with A1 := A1, c1 := c1, A2 := A2, c2 := c2 }
def MountPost (m : Mnt) (w : World) (e : Ending) (w' : World) : Prop := ∃ A1 c1 A2 c2, e = .returned (m.to A1 c1 A2 c2).val ∧ Below w.heap.size w w' ∧ MntAt (m.to A1 c1 A2 c2) w'

/-- The mounting in its block, while its tables are copied. -/
def slC (n : Nat) (u : Value) (f : Bool) : Option Pick → Value
  | some x => if f then .slice x.1 n x.2 else u
  | none => u
structure MtD (rs : Array Value) (T e : TypeId) (b n1 n2 : Nat) (l1 l2 : List Value) (v0 v1 v2 v3 v4 u1 u2 : Value) (W : World) (g : Nat → Option Pick) (f : Nat → Bool) (w' : World) : Prop where
  bel : Below b W w'
  two : Blk w' (b + 1) T rs
  blk : Blk w' b T #[v0, v1, v2, v3, v4, slC n1 u1 (f 7) (g 2), slC n2 u2 (f 9) (g 5)]
  o1 : ∀ x, g 2 = some x → w'.ownsRow (b + 2) e 2 (.slice x.1 n1 x.2) n1 l1
  o2 : ∀ x, g 5 = some x → w'.ownsRow (b + 2) e 2 (.slice x.1 n2 x.2) n2 l2
section
variable {rs : Array Value} {T e : TypeId} {b n1 n2 k : Nat} {l1 l2 : List Value} {v0 v1 v2 v3 v4 u1 u2 : Value} {W w' w'' : World} {g : Nat → Option Pick} {f : Nat → Bool}
theorem MtD.same (h : MtD rs T e b n1 n2 l1 l2 v0 v1 v2 v3 v4 u1 u2 W g f w') (k7 : k ≠ 7) (k9 : k ≠ 9) : MtD rs T e b n1 n2 l1 l2 v0 v1 v2 v3 v4 u1 u2 W g (Fx.add f k) w' :=
  ⟨h.bel, h.two, by rw [add_ne' k7, add_ne' k9]; exact h.blk, h.o1, h.o2⟩
theorem own_far {w : World} {v : Value} {size n : Nat} {xs : List Value} (h : w.ownsRow (b + 2) e size v n xs) (q i : Nat) (hq : q ≤ b + 1) (u : Value) : (w.setCell ⟨q, i, none⟩ u).ownsRow (b + 2) e size v n xs :=
  own_set h (fun e => by have := (own_lt h e).1; simp at this; omega) u
theorem MtD.store1 {x : Pick} (h : MtD rs T e b n1 n2 l1 l2 v0 v1 v2 v3 v4 u1 u2 W g f w') (hg : g 2 = some x) : MtD rs T e b n1 n2 l1 l2 v0 v1 v2 v3 v4 u1 u2 W g (Fx.add f 7) (w'.setCell ⟨b, 5, none⟩ (.slice x.1 n1 x.2)) := by
  refine ⟨h.bel.setCell (p := ⟨b, 5, none⟩) (Nat.le_refl _) _, h.two.far (p := ⟨b, 5, none⟩) (by simp) _, ?_, fun y hy => own_far (h.o1 y hy) _ _ (by omega) _, fun y hy => own_far (h.o2 y hy) _ _ (by omega) _⟩
  rw [add_same, add_ne' (by decide)]
  have := h.blk.set_ 5 (.slice x.1 n1 x.2)
  simp only [List.setIfInBounds_toArray, List.set_cons_zero, List.set_cons_succ] at this
  rw [show slC n1 u1 true (g 2) = .slice x.1 n1 x.2 by rw [hg]; rfl]
  exact this
theorem MtD.store2 {x : Pick} (h : MtD rs T e b n1 n2 l1 l2 v0 v1 v2 v3 v4 u1 u2 W g f w') (hg : g 5 = some x) : MtD rs T e b n1 n2 l1 l2 v0 v1 v2 v3 v4 u1 u2 W g (Fx.add f 9) (w'.setCell ⟨b, 6, none⟩ (.slice x.1 n2 x.2)) := by
  refine ⟨h.bel.setCell (p := ⟨b, 6, none⟩) (Nat.le_refl _) _, h.two.far (p := ⟨b, 6, none⟩) (by simp) _, ?_, fun y hy => own_far (h.o1 y hy) _ _ (by omega) _, fun y hy => own_far (h.o2 y hy) _ _ (by omega) _⟩
  rw [add_same, add_ne' (by decide)]
  have := h.blk.set_ 6 (.slice x.1 n2 x.2)
  simp only [List.setIfInBounds_toArray, List.set_cons_zero, List.set_cons_succ] at this
  rw [show slC n2 u2 true (g 5) = .slice x.1 n2 x.2 by rw [hg]; rfl]
  exact this
end

end Go.Proofs.Ytdidcpealabaiaa

end

section
/- Classes of worlds for a drawn region of calls whose results are known only behind them: what is chosen keeps its facts. -/
namespace Go.Proofs.Ytdidcpealabaiaa
open Go Go.RowKit

@[go_sem] theorem held_arr2 : Try.prog.stoodInHeld 60 = false := by kernel_rfl
@[go_sem] theorem guard_arr2 : Try.prog.eqGuardType Try.prog.depth 60 = false := by kernel_rfl
theorem eq_arr2 (a b c d : Int) (w : World) : (Op.equalIn 10000 60 (.agg #[.int .i64 a, .int .i64 b]) (.agg #[.int .i64 c, .int .i64 d])).run Try.prog w = .ok (decide ((a, b) = (c, d))) w := by
  have h0 : (sizeOf 3).run Try.prog w = .ok 1 w := by kernel_rfl
  have p0 : ∀ u v : Value, (part 3 #[u, v] 0).run Try.prog w = .ok u w := fun _ _ => by kernel_rfl
  have p1 : ∀ u v : Value, (part 3 #[u, v] 1).run Try.prog w = .ok v w := fun _ _ => by kernel_rfl
  have q : ∀ u v : Int, (Op.equalIn 9999 3 (.int .i64 u) (.int .i64 v)).run Try.prog w = .ok (u == v) w := fun u v => run_equalIn_int w 9998 _ .i64 .i64 u v Try.underlying3
  show (Op.equalIn (9999 + 1) _ _ _).run _ w = _
  rw [Op.equalIn.eq_def]
  simp only [Sem.run_bind, run_underlying Try.underlying60, Result.andThen_ok, h0]
  rw [Std.Legacy.Range.forIn_eq_forIn_range']
  simp [List.range', p0, p1, q, Sem.run_bind]
  by_cases h1 : a = c <;> by_cases h2 : b = d <;> simp [h1, h2, p0, p1, q]
@[go_sem ↓ high] theorem eql_arr2 (a b c d : Int) (w : World) : (binOp .eql 60 (.agg #[.int .i64 a, .int .i64 b]) (.agg #[.int .i64 c, .int .i64 d])).run Try.prog w = .ok (.bool (decide ((a, b) = (c, d)))) w := by
  rw [run_eql_struct, eq_arr2]; rfl
@[go_sem ↓ high] theorem neq_arr2 (a b c d : Int) (w : World) : (binOp .neq 60 (.agg #[.int .i64 a, .int .i64 b]) (.agg #[.int .i64 c, .int .i64 d])).run Try.prog w = .ok (.bool (!decide ((a, b) = (c, d)))) w := by
  rw [run_neq_struct, eq_arr2]; rfl

abbrev Pick2 := Pick × Pick
def Stb (Pf : Nat → Pick2 → World → Prop) : Prop := ∀ i x (w w' : World), Below w.heap.size w w' → Pf i x w → Pf i x w'
structure Kp (Pf : Nat → Pick2 → World → Prop) (W : World) (g : Nat → Option Pick2) (w' : World) : Prop where
  bel : Below W.heap.size W w'
  has : ∀ i x, g i = some x → Pf i x w'
section
variable {Pf : Nat → Pick2 → World → Prop} {W w' w'' : World} {g : Nat → Option Pick2} {f : Nat → Bool}
theorem Kp.start : Kp Pf W (fun _ => none) (W.drewN 1) := ⟨below_drewN (Below.refl _ _) 1, fun _ _ h => nomatch h⟩
theorem Kp.call (h : Kp Pf W g w') (hs : Stb Pf) (hb : Below w'.heap.size w' w'') : Kp Pf W g w'' := ⟨step_below hb h.bel, fun i x hx => hs i x _ _ hb (h.has i x hx)⟩
theorem Kp.choose (h : Kp Pf W g w') (hs : Stb Pf) (hb : Below w'.heap.size w' w'') (i : Nat) (x : Pick2) (hx : Pf i x w'') : Kp Pf W (Fx.upd g i x) w'' := ⟨step_below hb h.bel, fun j y hy => by
  by_cases e : j = i
  · subst e
    rw [Fx.upd_same] at hy
    cases hy
    exact hx
  · rw [upd_ne e] at hy
    exact hs j y _ _ hb (h.has j y hy)⟩
/-- The same, with a block of two cells that operation c makes and operation s stores into. -/
structure KpS (Pf : Nat → Pick2 → World → Prop) (T : TypeId) (v0 v1 : Value) (c s : Nat) (W : World) (g : Nat → Option Pick2) (f : Nat → Bool) (w' : World) : Prop where
  bel : Below W.heap.size W w'
  has : f s = false → ∀ i x, g i = some x → i ≠ c → Pf i x w'
  made : ∀ x, g c = some x → ∃ b, x.1.1 = some ⟨b, 0, none⟩ ∧ W.heap.size ≤ b ∧ ∃ e0 e1, Blk w' b T #[e0, e1] ∧ (f s = true → e0 = v0 ∧ e1 = v1)
variable {T : TypeId} {v0 v1 : Value} {c s k : Nat}
theorem KpS.start : KpS Pf T v0 v1 c s W (fun _ => none) f (W.drewN 1) := ⟨below_drewN (Below.refl _ _) 1, fun _ _ _ h => (nomatch h), fun _ h => (nomatch h)⟩
theorem KpS.same (h : KpS Pf T v0 v1 c s W g f w') (hk : k ≠ s) : KpS Pf T v0 v1 c s W g (Fx.add f k) w' := ⟨h.bel, fun hf => h.has (by rwa [add_ne' hk] at hf), fun x hx => by
  obtain ⟨b, h0, h1, e0, e1, h2, h3⟩ := h.made x hx
  exact ⟨b, h0, h1, e0, e1, h2, fun hf => h3 (by rwa [add_ne' hk] at hf)⟩⟩
theorem KpS.call (h : KpS Pf T v0 v1 c s W g f w') (hs : Stb Pf) (hk : k ≠ s) (hb : Below w'.heap.size w' w'') : KpS Pf T v0 v1 c s W g (Fx.add f k) w'' := ⟨step_below hb h.bel, fun hf i x hx hi => hs i x _ _ hb (h.has (by rwa [add_ne' hk] at hf) i x hx hi), fun x hx => by
  obtain ⟨b, h0, h1, e0, e1, h2, h3⟩ := h.made x hx
  exact ⟨b, h0, h1, e0, e1, h2.below hb h2.lt, fun hf => h3 (by rwa [add_ne' hk] at hf)⟩⟩
theorem KpS.choose (h : KpS Pf T v0 v1 c s W g f w') (hs : Stb Pf) (hb : Below w'.heap.size w' w'') (i : Nat) (x : Pick2) (hi : i ≠ s) (hc : i ≠ c) (hx : Pf i x w'') : KpS Pf T v0 v1 c s W (Fx.upd g i x) (Fx.add f i) w'' := ⟨step_below hb h.bel, fun hf j y hy hj => by
  by_cases e : j = i
  · subst e
    rw [Fx.upd_same] at hy
    cases hy
    exact hx
  · rw [upd_ne e] at hy
    exact hs j y _ _ hb (h.has (by rwa [add_ne' hi] at hf) j y hy hj), fun y hy => by
  rw [upd_ne hc.symm] at hy
  obtain ⟨b, h0, h1, e0, e1, h2, h3⟩ := h.made y hy
  exact ⟨b, h0, h1, e0, e1, h2.below hb h2.lt, fun hf => h3 (by rwa [add_ne' hi] at hf)⟩⟩
theorem KpS.make {a b : Value} (h : KpS Pf T v0 v1 c s W g f w') (hs : Stb Pf) (hf : f s = false) (hc : c ≠ s) : KpS Pf T v0 v1 c s W (Fx.upd g c ((some ⟨w'.heap.size, 0, none⟩, 0), (none, 0))) (Fx.add f c) (w'.alloc (.cells #[a, b] T)) := ⟨h.bel.alloc h.bel.size _, fun _ j y hy hj => by
  rw [upd_ne hj] at hy
  exact hs j y _ _ ((Below.refl _ _).alloc (Nat.le_refl _) _) (h.has hf j y hy hj), fun y hy => by
  rw [Fx.upd_same] at hy
  cases hy
  refine ⟨w'.heap.size, rfl, h.bel.size, a, b, Blk.new _ _ _, fun e => ?_⟩
  rw [add_ne' hc, hf] at e
  cases e⟩
theorem KpS.cells {x : Pick2} (h : KpS Pf T v0 v1 c s W g f w') (hx : g c = some x) : ∃ b e0 e1, x.1.1 = some ⟨b, 0, none⟩ ∧ W.heap.size ≤ b ∧ w'.cell? ⟨b, 0, none⟩ = some e0 ∧ w'.cell? ⟨b, 1, none⟩ = some e1 ∧ w'.frozen? ⟨b, 0, none⟩ = false ∧ w'.frozen? ⟨b, 1, none⟩ = false := by
  obtain ⟨b, h0, h1, e0, e1, h2, -⟩ := h.made x hx
  exact ⟨b, e0, e1, h0, h1, h2.cell 0, h2.cell 1, h2.frozen 0, h2.frozen 1⟩
theorem KpS.store {x : Pick2} {b : Nat} (h : KpS Pf T v0 v1 c s W g f w') (hx : g c = some x) (hb : x.1.1 = some ⟨b, 0, none⟩) : KpS Pf T v0 v1 c s W g (Fx.add f s) ((w'.setCell ⟨b, 0, none⟩ v0).setCell ⟨b, 1, none⟩ v1) := by
  obtain ⟨b', h0, h1, e0, e1, h2, -⟩ := h.made x hx
  rw [hb] at h0
  cases h0
  refine ⟨below_store h.bel h1, fun hf => (by rw [add_same] at hf; cases hf), fun y hy => ?_⟩
  rw [hx] at hy
  cases hy
  refine ⟨b, hb, h1, v0, v1, ?_, fun _ => ⟨rfl, rfl⟩⟩
  have := (h2.set_ 0 v0).set_ 1 v1
  simpa using this
theorem KpS.end_ {x : Pick2} (h : KpS Pf T v0 v1 c s W g f w') (hx : g c = some x) (hf : f s = true) : ∃ b, x.1.1 = some ⟨b, 0, none⟩ ∧ W.heap.size ≤ b ∧ Blk w' b T #[v0, v1] := by
  obtain ⟨b, h0, h1, e0, e1, h2, h3⟩ := h.made x hx
  obtain ⟨rfl, rfl⟩ := h3 hf
  exact ⟨b, h0, h1, h2⟩
end

theorem mnt_lay {m : Mnt} {W W1 : World} (hb : Below W.heap.size W W1) {wa : World} (ha : Below wa.heap.size wa W) (h : MntAt m wa) : MntAt m W1 := (h.lay ha).lay hb
/-- What is known of copies: of a mounting (operation ci), of targets (operation ti), of numbers (operation ki). -/
def PfT (m : Mnt) (n : Nat) (l : List Tgt) (q : Nat) (ks : List Int) (ci ti ki : Nat) (i : Nat) (x : Pick2) (w : World) : Prop :=
  (i = ci → MntAt (m.to x.1.1 x.1.2 x.2.1 x.2.2) w) ∧ (i = ti → Reads w w.heap.size 6 x.1.1 n (tgtCells l) ∧ (n ≤ x.1.2 ∧ x.1.2 ≤ 9223372036854775807)) ∧ (i = ki → Reads w w.heap.size 1 x.1.1 q (ks.map (.int .i64)) ∧ (q ≤ x.1.2 ∧ x.1.2 ≤ 9223372036854775807))
theorem PfT.stb {m : Mnt} {n : Nat} {l : List Tgt} {q : Nat} {ks : List Int} {ci ti ki : Nat} : Stb (PfT m n l q ks ci ti ki) := fun _ _ _ _ hb h =>
  ⟨fun e => (h.1 e).lay hb, fun e => ⟨((h.2.1 e).1.below hb).more hb.size, (h.2.1 e).2⟩, fun e => ⟨((h.2.2 e).1.below hb).more hb.size, (h.2.2 e).2⟩⟩
def valT (m : Mnt) (n q ci ti : Nat) (i : Nat) (x : Pick2) : Value := if i = ci then (m.to x.1.1 x.1.2 x.2.1 x.2.2).val else if i = ti then .slice x.1.1 n x.1.2 else .slice x.1.1 q x.1.2
/-- What is known of a copy of a mounting (operation ci) and of a list of numbers (operation ki). -/
def PfQ (m : Mnt) (q : Nat) (ks : List Int) (ci ki : Nat) (i : Nat) (x : Pick2) (w : World) : Prop :=
  (i = ci → MntAt (m.to x.1.1 x.1.2 x.2.1 x.2.2) w) ∧ (i = ki → Reads w w.heap.size 1 x.1.1 q (ks.map (.int .i64)))
theorem PfQ.stb {m : Mnt} {q : Nat} {ks : List Int} {ci ki : Nat} : Stb (PfQ m q ks ci ki) := fun _ _ _ _ hb h =>
  ⟨fun e => (h.1 e).lay hb, fun e => ((h.2 e).below hb).more hb.size⟩
end Go.Proofs.Ytdidcpealabaiaa

end

section
/- The contract of the reference's check of a tour. -/
namespace Go.Proofs.Ytdidcpealabaiaa
open Go Go.RowKit

end Go.Proofs.Ytdidcpealabaiaa

end
