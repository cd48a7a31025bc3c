import Derived.Test.YtdidcpealabaiaaQ9
import Derived.Test.YtdidcpealabaiaaQ2
import Derived.Test.YtdidcpealabaiaaQ7
import Derived.Test.YtdidcpealabaiaaQ12
import Derived.Test.YtdidcpealabaiaaQ14
import Derived.Test.YtdidcpealabaiaaQ4

section
/- Arguments that are slices of structs of texts and whole numbers; the list of rockers. -/
namespace Go.Proofs.Ytdidcpealabaiaa
open Go Go.RowKit Go.ChangeShapes Go.WideShapes Go.ChangeAt Go.Joins Go.Deep

theorem choose_vals {R : Nat → Value → Prop} (m : Nat) (h : ∀ q, q < m → ∃ z, R q z) : ∃ xs : List Value, xs.length = m ∧ ∀ q z, xs[q]? = some z → R q z := by
  induction m with
  | zero => exact ⟨[], rfl, fun q z h => by simp at h⟩
  | succ m ih =>
    obtain ⟨xs, hl, hx⟩ := ih fun q hq => h q (by omega)
    obtain ⟨z, hz⟩ := h m (by omega)
    refine ⟨xs ++ [z], by simp [hl], fun q u hu => ?_⟩
    rcases Nat.lt_trichotomy q m with hq | hq | hq
    · rw [List.getElem?_append_left (by omega)] at hu
      exact hx q u hu
    · subst hq
      rw [List.getElem?_append_right (by omega), hl, Nat.sub_self] at hu
      simp at hu
      exact hu ▸ hz
    · rw [List.getElem?_eq_none (by simp; omega)] at hu
      cases hu

section
variable {H : Type} {enc : TypeId × Value → H} {P : Program} {w : World} {base b0 : Nat} {spare : Nat → Bool} {held : Bool} {r : Reach} {t e tI tS : TypeId} {v : Value} {d : DataW H} {p : List MemPlace}
/-- A slice of structs of fields of one cell. -/
theorem open_slice_cells {fs : Array Field} {fuel : Nat} {cs : List Value} {x : DataW H × List MemPlace} (ht : P.underlying t = some (.slice e)) (he : P.underlying e = some (.struct fs))
    (hone : oneCellFields P fs = true) (hC : P.cellsOf e = fs.size) (hk : 0 < fs.size) (h : DataW.trod enc P w base spare held fuel t cs = some x) :
    ∃ (A : Option Addr) (n c : Nat) (us : List Value), cs = [.slice A n c] ∧ (n ≤ c ∧ c ≤ 9223372036854775807) ∧ us.length = n * fs.size ∧ Reads w w.heap.size fs.size A n us ∧
      ∀ q u, us[q]? = some u → ∃ (y : DataW H × List MemPlace) (m : Nat) (f : Field), fs[q % fs.size]? = some f ∧ DataW.trod enc P w base spare held m f.type [u] = some y := by
  rcases open_slice_fields ht he hone hC h with ⟨h0, -⟩ | ⟨a, len, cap, hcs, hl, hi⟩
  · exact ⟨none, 0, 0, [], h0, by omega, by simp, Reads.none_, fun q u h => by simp at h⟩
  have hq : ∀ q, q < len * fs.size → ∃ z, w.cell? (a.add q) = some z ∧ ∃ (y : DataW H × List MemPlace) (m : Nat) (f : Field), fs[q % fs.size]? = some f ∧ DataW.trod enc P w base spare held m f.type [z] = some y := by
    intro q hq
    have h1 : q / fs.size < len := Nat.div_lt_of_lt_mul (by rwa [Nat.mul_comm])
    have h2 : q % fs.size < fs.size := Nat.mod_lt _ hk
    obtain ⟨v, y, n, hc, ht'⟩ := hi _ h1 _ _ (Array.getElem?_eq_getElem h2)
    rw [show q / fs.size * fs.size + q % fs.size = q by rw [Nat.mul_comm]; exact Nat.div_add_mod _ _] at hc
    exact ⟨v, hc, y, n, _, Array.getElem?_eq_getElem h2, ht'⟩
  obtain ⟨us, hxl, hx⟩ := choose_vals _ hq
  refine ⟨some a, len, cap, us, hcs, ⟨hl.1, by simpa [maxLen] using hl.2⟩, hxl, ?_, fun q u hu => (hx q u hu).2⟩
  rcases Nat.eq_zero_or_pos len with rfl | hp
  · obtain rfl : us = [] := List.length_eq_zero_iff.1 (by simpa using hxl)
    exact Reads.none_
  refine Reads.of_adds hk hxl ?_ (fun j u hu => (hx j u hu).1)
  have h0 : 0 < us.length := by rw [hxl]; exact Nat.mul_pos hp hk
  have := block_of_cell (hx 0 _ (List.getElem?_eq_getElem h0)).1
  simpa [Addr.add] using this

/-- The kinds of fields: texts and whole numbers. -/
def KindIs (b : Bool) (u : Value) : Prop := if b then ∃ s : ByteArray, u = .string s ∧ s.size ≤ maxLen else ∃ z, u = .int .i64 z ∧ I64 z
end

section
variable {H : Type} {enc : TypeId × Value → H} {P : Program} {w : World} {base b0 : Nat} {spare : Nat → Bool} {held : Bool} {r : Reach} {t e tI tS : TypeId} {v : Value} {d : DataW H} {p : List MemPlace}
end

end Go.Proofs.Ytdidcpealabaiaa

end

section
/- Arguments of the statements on pointing: mountings, targets, tours, stars, models. -/
namespace Go.Proofs.Ytdidcpealabaiaa
open Go Go.RowKit Go.ChangeShapes Go.WideShapes Go.ChangeAt Go.Joins Go.Deep

section
variable {H : Type} {enc : TypeId × Value → H} {P : Program} {w : World} {base b0 : Nat} {spare : Nat → Bool} {held : Bool} {r : Reach} {t e tI tS tR tL tA tM tN : TypeId} {v : Value} {d : DataW H} {p : List MemPlace} {fs gs : Array Field} {fuel : Nat} {cs : List Value} {x : DataW H × List MemPlace}
theorem open_fields (he : P.underlying t = some (.struct fs)) (hone : oneCellFields P fs = true) (hC : P.cellsOf t = fs.size) (h : DataW.trod enc P w base spare held fuel t cs = some x) :
    cs.length = fs.size ∧ ∃ n, ∀ (j : Nat) (f : Field), fs[j]? = some f → ∃ u y, cs[j]? = some u ∧ DataW.trod enc P w base spare held n f.type [u] = some y := by
  obtain ⟨ys, n', -, -, hlen, hyl, hf⟩ := DataW.trod_struct he h
  rw [hC] at hlen
  refine ⟨hlen, n', fun j f hj => ?_⟩
  obtain ⟨ho, hk⟩ := hone_of hone j f hj
  have hjl : j < fs.size := (Array.getElem?_eq_some_iff.1 hj).1
  have h1 := hf j f hj
  rw [ho, hk] at h1
  have hone' : (cs.drop j).take 1 = [cs[j]'(by omega)] := by rw [List.drop_eq_getElem_cons (by omega)]; rfl
  rw [hone'] at h1
  exact ⟨_, _, List.getElem?_eq_getElem (by omega), h1.trans (List.getElem?_eq_getElem (by omega))⟩
theorem field_at {L : List TypeId} (hf : fs.toList.map (·.type) = L) {j : Nat} {t : TypeId} (hj : L[j]? = some t) : ∃ f, fs[j]? = some f ∧ f.type = t := by
  rw [← hf, List.getElem?_map, Array.getElem?_toList] at hj
  cases h : fs[j]? with
  | none => rw [h] at hj; cases hj
  | some f => rw [h] at hj; exact ⟨f, rfl, Option.some.inj hj⟩
/-- The fields of one cell, by their types. -/
theorem open_typed {L : List TypeId} (he : P.underlying t = some (.struct fs)) (hone : oneCellFields P fs = true) (hC : P.cellsOf t = fs.size) (hf : fs.toList.map (·.type) = L) (h : DataW.trod enc P w base spare held fuel t cs = some x) :
    cs.length = L.length ∧ ∃ n, ∀ (j : Nat) (t : TypeId), L[j]? = some t → ∃ u y, cs[j]? = some u ∧ DataW.trod enc P w base spare held n t [u] = some y := by
  obtain ⟨h1, n, h2⟩ := open_fields he hone hC h
  refine ⟨by rw [h1, ← hf]; simp, n, fun j t hj => ?_⟩
  obtain ⟨f, hfj, rfl⟩ := field_at hf hj
  exact h2 j f hfj
theorem cell_int {n : Nat} {u : Value} {y : DataW H × List MemPlace} (hI : P.underlying tI = some (.int .i64)) (h : DataW.trod enc P w base spare held n tI [u] = some y) : ∃ z, u = .int .i64 z ∧ I64 z := by
  obtain ⟨z, e0, -, hwf⟩ := DataW.trod_int hI h
  simp at e0
  exact ⟨z, e0, I64.of_wf hwf⟩
theorem cell_str {n : Nat} {u : Value} {y : DataW H × List MemPlace} (hS : P.underlying tS = some .string) (h : DataW.trod enc P w base spare held n tS [u] = some y) : ∃ s : ByteArray, u = .string s ∧ s.size ≤ maxLen := by
  obtain ⟨s, e0, -, hs⟩ := DataW.trod_string hS h
  simp at e0
  exact ⟨s, e0, hs⟩
theorem cell_pairs {n : Nat} {u : Value} {y : DataW H × List MemPlace} (ht : P.underlying t = some (.slice e)) (he : P.underlying e = some (.struct gs)) (hone : oneCellFields P gs = true) (hC : P.cellsOf e = gs.size) (hI : P.underlying tI = some (.int .i64)) (hf : gs.toList.all (fun f => f.type == tI) = true) (hk : gs.size = 2) (h : DataW.trod enc P w base spare held n t [u] = some y) :
    ∃ (A : Option Addr) (n c : Nat) (l : List (Int × Int)), u = .slice A n c ∧ (n ≤ c ∧ c ≤ 9223372036854775807) ∧ l.length = n ∧ (∀ p ∈ l, I64 p.1 ∧ I64 p.2) ∧ Reads w w.heap.size 2 A n (cells2 l) := by
  obtain ⟨A, n, c, l, h1, h2⟩ := open_pairs ht he hone hC hI hf hk h
  exact ⟨A, n, c, l, by simpa using h1, h2⟩

/-- What is known of the numbers of a mounting that is an argument. -/
structure MntIn (m : Mnt) (w : World) : Prop where
  at_ : MntAt m w
  c1 : m.n1 ≤ m.c1 ∧ m.c1 ≤ 9223372036854775807
  c2 : m.n2 ≤ m.c2 ∧ m.c2 ≤ 9223372036854775807
  i1 : I64 m.ls
  i2 : I64 m.ms
  i3 : ∀ p ∈ m.l2, I64 p.1 ∧ I64 p.2
theorem open_mnt (he : P.underlying tM = some (.struct fs)) (hone : oneCellFields P fs = true) (hC : P.cellsOf tM = fs.size) (hf : fs.toList.map (·.type) = [tI, tI, tI, tI, tI, tR, tR]) (hI : P.underlying tI = some (.int .i64))
    (ht : P.underlying tR = some (.slice e)) (hg : P.underlying e = some (.struct gs)) (hone' : oneCellFields P gs = true) (hC' : P.cellsOf e = gs.size) (hf' : gs.toList.all (fun f => f.type == tI) = true) (hk : gs.size = 2)
    (h : DataW.trod enc P w base spare held fuel tM cs = some x) : ∃ m : Mnt, cs = [.int .i64 m.ls, .int .i64 m.ms, .int .i64 m.lo, .int .i64 m.hi, .int .i64 m.sp, .slice m.A1 m.n1 m.c1, .slice m.A2 m.n2 m.c2] ∧ MntIn m w := by
  obtain ⟨hl, n, hx⟩ := open_typed he hone hC hf h
  obtain ⟨u0, y0, c0, t0⟩ := hx 0 _ rfl
  obtain ⟨u1, y1, c1, t1⟩ := hx 1 _ rfl
  obtain ⟨u2, y2, c2, t2⟩ := hx 2 _ rfl
  obtain ⟨u3, y3, c3, t3⟩ := hx 3 _ rfl
  obtain ⟨u4, y4, c4, t4⟩ := hx 4 _ rfl
  obtain ⟨u5, y5, c5, t5⟩ := hx 5 _ rfl
  obtain ⟨u6, y6, c6, t6⟩ := hx 6 _ rfl
  obtain ⟨z0, rfl, i0⟩ := cell_int hI t0
  obtain ⟨z1, rfl, i1⟩ := cell_int hI t1
  obtain ⟨z2, rfl, -⟩ := cell_int hI t2
  obtain ⟨z3, rfl, -⟩ := cell_int hI t3
  obtain ⟨z4, rfl, -⟩ := cell_int hI t4
  obtain ⟨A1, n1, k1, l1, rfl, b1, e1, -, r1⟩ := cell_pairs ht hg hone' hC' hI hf' hk t5
  obtain ⟨A2, n2, k2, l2, rfl, b2, e2, j2, r2⟩ := cell_pairs ht hg hone' hC' hI hf' hk t6
  match cs, hl with
  | [d0, d1, d2, d3, d4, d5, d6], _ =>
    simp at c0 c1 c2 c3 c4 c5 c6
    exact ⟨⟨z0, z1, z2, z3, z4, A1, n1, k1, l1, A2, n2, k2, l2⟩, by rw [c0, c1, c2, c3, c4, c5, c6], ⟨r1, r2, by show n1 ≤ _; omega, by show n2 ≤ _; omega⟩, b1, b2, i0, i1, j2⟩
structure TgtIn (t : Tgt) : Prop where
  s : t.name.size ≤ maxLen
  i1 : I64 t.az
end
end Go.Proofs.Ytdidcpealabaiaa

end

section
/- Contracts of what the statements on pointing do with their arguments: guards and copies. -/
namespace Go.Proofs.Ytdidcpealabaiaa
open Go Go.RowKit

theorem low {P : Program} {f : FuncId} {args : Array Value} {w : World} {E : Ending} (h : Calls P f args w fun e w' => e = E ∧ ∃ q, w' = w.drewN q) : Calls P f args w fun e w' => e = E ∧ Below w.heap.size w w' :=
  h.mono fun e w' ⟨he, q, hw⟩ => ⟨he, by rw [hw]; exact below_drewN (Below.refl _ _) q⟩

def rowsB (n : Nat) : Bool := decide (n ≤ 6) || (decide (40 < n) && decide (n ≤ 43))
theorem rowsB_le {n : Nat} (h : rowsB n = true) : n ≤ 43 := by unfold rowsB at h; simp at h; omega
theorem rows_is (A : Option Addr) (n c : Nat) (t : Bool) (h : rowsB n = t) (w : World) : Calls Try.prog 144 #[.slice A n c] w fun e w' => e = .returned (.bool t) ∧ w = w' := by
  have h0 := h
  unfold rowsB at h
  by_cases h6 : n ≤ 6
  · have ht : t = true := by simpa [h6] using h.symm
    subst ht
    have k1 : (n : Int) ≤ 6 := by omega
    clear h h0 h6
    go_enter Try.func144, Try.ntmps144
    go_wp2
    go_ret
    exact ⟨rfl, rfl⟩
  have k1 : ¬ (n : Int) ≤ 6 := by omega
  by_cases h40 : 40 < n
  · have k2 : (40 : Int) < n := by omega
    by_cases h43 : n ≤ 43
    · have ht : t = true := by simpa [h6, h40, h43] using h.symm
      subst ht
      have k3 : (n : Int) ≤ 43 := by omega
      clear h h0 h6 h40 h43
      go_enter Try.func144, Try.ntmps144
      go_wp2
      go_ret
      exact ⟨rfl, rfl⟩
    · have ht : t = false := by simpa [h6, h40, h43] using h.symm
      subst ht
      have k3 : ¬ (n : Int) ≤ 43 := by omega
      clear h h0 h6 h40 h43
      go_enter Try.func144, Try.ntmps144
      go_wp2
      go_ret
      exact ⟨rfl, rfl⟩
  · have k2 : ¬ (40 : Int) < n := by omega
    have ht : t = false := by simpa [h6, h40] using h.symm
    subst ht
    clear h h0 h6 h40
    go_enter Try.func144, Try.ntmps144
    go_wp2
    go_ret
    exact ⟨rfl, rfl⟩

theorem info_row : (Try.prog.info? 141).map (fun i => (i.zero, i.size, i.bytes)) = some (some (.agg #[.int .i64 0, .int .i64 0]), 2, 16) := by kernel_rfl
theorem ctable_any (A : Option Addr) (n c N : Nat) (l : List (Int × Int)) (w : World) (hx : Reads w N 2 A n (cells2 l)) (hN : N ≤ w.heap.size) (hn : n ≤ 1000000) :
    Calls Try.prog 90 #[.slice A n c] w (CopyPost w 141 2 n (cells2 l)) := by
  obtain ⟨v', W2, hrun, ho, hb⟩ := copy_run (P := Try.prog) 56 56 141 _ 2 16 Try.underlying56 info_row rfl (by omega) w N A n c (cells2 l) hx hN (one_cells2 l) (by unfold maxLen; omega) (by omega)
  have HRUN := Lib.hid hrun
  have HO := Lib.hid ho
  have HB := Lib.hid hb
  clear hrun ho hb
  go_enter Try.func90, Try.ntmps90
  go_wp2_with (first | (at_builtin; refine wpList_app _ W2 v' rfl _ _ _ rfl _ _ rfl rfl HRUN.out ?_))
  go_ret
  exact CopyPost.of HO.out HB.out

theorem info_tgt : (Try.prog.info? 75).map (fun i => (i.zero, i.size, i.bytes)) = some (some (.agg #[.string ByteArray.empty, .int .i64 0, .int .i64 0, .int .i64 0, .int .i64 0, .int .i64 0]), 6, 56) := by kernel_rfl
theorem one_tgts (l : List Tgt) : ∀ u ∈ tgtCells l, u.oneCell' = true := by
  intro u hu
  unfold tgtCells at hu
  rw [List.mem_flatMap] at hu
  obtain ⟨p, -, hp⟩ := hu
  simp [Tgt.cells] at hp
  rcases hp with rfl | rfl | rfl | rfl | rfl | rfl <;> rfl
theorem ctargets_any (A : Option Addr) (n c N : Nat) (l : List Tgt) (w : World) (hx : Reads w N 6 A n (tgtCells l)) (hN : N ≤ w.heap.size) (hn : n ≤ 1000000) :
    Calls Try.prog 33 #[.slice A n c] w (CopyPost w 75 6 n (tgtCells l)) := by
  obtain ⟨v', W2, hrun, ho, hb⟩ := copy_run (P := Try.prog) 59 59 75 _ 6 56 Try.underlying59 info_tgt rfl (by omega) w N A n c (tgtCells l) hx hN (one_tgts l) (by unfold maxLen; omega) (by omega)
  have HRUN := Lib.hid hrun
  have HO := Lib.hid ho
  have HB := Lib.hid hb
  clear hrun ho hb
  go_enter Try.func33, Try.ntmps33
  go_wp2_with (first | (at_builtin; refine wpList_app _ W2 v' rfl _ _ _ rfl _ _ rfl rfl HRUN.out ?_))
  go_ret
  exact CopyPost.of HO.out HB.out

def lightB (m : Mnt) : Bool := rowsB m.n1 && rowsB m.n2
theorem light_is (m : Mnt) (t : Bool) (h : lightB m = t) (w : World) : Calls Try.prog 87 #[m.val] w fun e w' => e = .returned (.bool t) ∧ Below w.heap.size w w' := by
  obtain ⟨ls, ms, lo, hi, sp, A1, n1, c1, l1, A2, n2, c2, l2⟩ := m
  unfold lightB at h
  simp only at h
  unfold Mnt.val
  simp only
  cases h1 : rowsB n1
  · rw [h1] at h
    have ht : t = false := by simpa using h.symm
    subst ht
    have H1 := Lib.hid h1
    clear h h1
    go_enter Try.func87, Try.ntmps87
    go_wp2_with fail
    refine (rows_is A1 n1 c1 false H1.out _).mono ?_
    rintro e w' ⟨rfl, rfl⟩
    go_wp2
    go_ret
    exact ⟨rfl, by repeat' (first | exact Below.refl _ _ | refine below_drewN ?_ _ | refine Below.drew ?_ | refine Below.alloc ?_ (by first | omega | (simp; done) | (simp; omega) | (simp [World.setCell]; omega)) _ | refine Below.setCell ?_ (by first | omega | (simp; done) | (simp; omega)) _)⟩
  · rw [h1, Bool.true_and] at h
    have H1 := Lib.hid h1
    have H := Lib.hid h
    clear h h1
    go_enter Try.func87, Try.ntmps87
    go_wp2_with fail
    refine (rows_is A1 n1 c1 true H1.out _).mono ?_
    rintro e w' ⟨rfl, rfl⟩
    go_wp2_with fail
    refine (rows_is A2 n2 c2 t H.out _).mono ?_
    rintro e w' ⟨rfl, rfl⟩
    go_wp2
    go_ret
    exact ⟨rfl, by repeat' (first | exact Below.refl _ _ | refine below_drewN ?_ _ | refine Below.drew ?_ | refine Below.alloc ?_ (by first | omega | (simp; done) | (simp; omega) | (simp [World.setCell]; omega)) _ | refine Below.setCell ?_ (by first | omega | (simp; done) | (simp; omega)) _)⟩

/-- A mounting with its tables elsewhere. -/
def Mnt.to (m : Mnt) (A1 : Option Addr) (c1 : Nat) (A2 : Option Addr) (c2 : Nat) : Mnt := { m with A1 := A1, c1 := c1, A2 := A2, c2 := c2 }
def MountPost (m : Mnt) (w : World) (e : Ending) (w' : World) : Prop := ∃ A1 c1 A2 c2, e = .returned (m.to A1 c1 A2 c2).val ∧ Below w.heap.size w w' ∧ MntAt (m.to A1 c1 A2 c2) w'

/-- The mounting in its block, while its tables are copied. -/
def slC (n : Nat) (u : Value) (f : Bool) : Option Pick → Value
  | some x => if f then .slice x.1 n x.2 else u
  | none => u
theorem slC_no (n : Nat) (u : Value) (o : Option Pick) : slC n u false o = u := by cases o <;> rfl
structure MtD (rs : Array Value) (T e : TypeId) (b n1 n2 : Nat) (l1 l2 : List Value) (v0 v1 v2 v3 v4 u1 u2 : Value) (W : World) (g : Nat → Option Pick) (f : Nat → Bool) (w' : World) : Prop where
  bel : Below b W w'
  two : Blk w' (b + 1) T rs
  blk : Blk w' b T #[v0, v1, v2, v3, v4, slC n1 u1 (f 7) (g 2), slC n2 u2 (f 9) (g 5)]
  o1 : ∀ x, g 2 = some x → w'.ownsRow (b + 2) e 2 (.slice x.1 n1 x.2) n1 l1
  o2 : ∀ x, g 5 = some x → w'.ownsRow (b + 2) e 2 (.slice x.1 n2 x.2) n2 l2
section
variable {rs : Array Value} {T e : TypeId} {b n1 n2 k : Nat} {l1 l2 : List Value} {v0 v1 v2 v3 v4 u1 u2 : Value} {W w' w'' : World} {g : Nat → Option Pick} {f : Nat → Bool}
theorem MtD.same (h : MtD rs T e b n1 n2 l1 l2 v0 v1 v2 v3 v4 u1 u2 W g f w') (k7 : k ≠ 7) (k9 : k ≠ 9) : MtD rs T e b n1 n2 l1 l2 v0 v1 v2 v3 v4 u1 u2 W g (Fx.add f k) w' :=
  ⟨h.bel, h.two, by rw [add_ne' k7, add_ne' k9]; exact h.blk, h.o1, h.o2⟩
theorem MtD.call1 {x : Pick} (h : MtD rs T e b n1 n2 l1 l2 v0 v1 v2 v3 v4 u1 u2 W g f w') (hf : f 7 = false) (hg : g 2 = none) (hb : Below w'.heap.size w' w'') (ho : w''.ownsRow w'.heap.size e 2 (.slice x.1 n1 x.2) n1 l1) : MtD rs T e b n1 n2 l1 l2 v0 v1 v2 v3 v4 u1 u2 W (Fx.upd g 2 x) (Fx.add f 2) w'' := by
  have hlt := h.blk.lt
  have hlt2 := h.two.lt
  refine ⟨h.bel.trans (hb.mono (by omega)), h.two.below hb h.two.lt, ?_, fun y hy => ?_, fun y hy => ?_⟩
  · rw [add_ne' (by decide), add_ne' (by decide), Fx.upd_same, upd_ne (by decide), hf]
    have := h.blk.below hb hlt
    rw [hg] at this
    exact this
  · rw [Fx.upd_same] at hy
    cases hy
    exact own_base (by omega) ho
  · rw [upd_ne (by decide)] at hy
    exact own_below (h.o2 y hy) hb (Nat.le_refl _)
theorem MtD.call2 {x : Pick} (h : MtD rs T e b n1 n2 l1 l2 v0 v1 v2 v3 v4 u1 u2 W g f w') (hf : f 9 = false) (hg : g 5 = none) (hb : Below w'.heap.size w' w'') (ho : w''.ownsRow w'.heap.size e 2 (.slice x.1 n2 x.2) n2 l2) : MtD rs T e b n1 n2 l1 l2 v0 v1 v2 v3 v4 u1 u2 W (Fx.upd g 5 x) (Fx.add f 5) w'' := by
  have hlt := h.blk.lt
  have hlt2 := h.two.lt
  refine ⟨h.bel.trans (hb.mono (by omega)), h.two.below hb h.two.lt, ?_, fun y hy => ?_, fun y hy => ?_⟩
  · rw [add_ne' (by decide), add_ne' (by decide), Fx.upd_same, upd_ne (by decide), hf]
    have := h.blk.below hb hlt
    rw [hg] at this
    exact this
  · rw [upd_ne (by decide)] at hy
    exact own_below (h.o1 y hy) hb (Nat.le_refl _)
  · rw [Fx.upd_same] at hy
    cases hy
    exact own_base (by omega) ho
theorem own_far {w : World} {v : Value} {size n : Nat} {xs : List Value} (h : w.ownsRow (b + 2) e size v n xs) (q i : Nat) (hq : q ≤ b + 1) (u : Value) : (w.setCell ⟨q, i, none⟩ u).ownsRow (b + 2) e size v n xs :=
  own_set h (fun e => by have := (own_lt h e).1; simp at this; omega) u
theorem MtD.store1 {x : Pick} (h : MtD rs T e b n1 n2 l1 l2 v0 v1 v2 v3 v4 u1 u2 W g f w') (hg : g 2 = some x) : MtD rs T e b n1 n2 l1 l2 v0 v1 v2 v3 v4 u1 u2 W g (Fx.add f 7) (w'.setCell ⟨b, 5, none⟩ (.slice x.1 n1 x.2)) := by
  refine ⟨h.bel.setCell (p := ⟨b, 5, none⟩) (Nat.le_refl _) _, h.two.far (p := ⟨b, 5, none⟩) (by simp) _, ?_, fun y hy => own_far (h.o1 y hy) _ _ (by omega) _, fun y hy => own_far (h.o2 y hy) _ _ (by omega) _⟩
  rw [add_same, add_ne' (by decide)]
  have := h.blk.set_ 5 (.slice x.1 n1 x.2)
  simp only [List.setIfInBounds_toArray, List.set_cons_zero, List.set_cons_succ] at this
  rw [show slC n1 u1 true (g 2) = .slice x.1 n1 x.2 by rw [hg]; rfl]
  exact this
theorem MtD.store2 {x : Pick} (h : MtD rs T e b n1 n2 l1 l2 v0 v1 v2 v3 v4 u1 u2 W g f w') (hg : g 5 = some x) : MtD rs T e b n1 n2 l1 l2 v0 v1 v2 v3 v4 u1 u2 W g (Fx.add f 9) (w'.setCell ⟨b, 6, none⟩ (.slice x.1 n2 x.2)) := by
  refine ⟨h.bel.setCell (p := ⟨b, 6, none⟩) (Nat.le_refl _) _, h.two.far (p := ⟨b, 6, none⟩) (by simp) _, ?_, fun y hy => own_far (h.o1 y hy) _ _ (by omega) _, fun y hy => own_far (h.o2 y hy) _ _ (by omega) _⟩
  rw [add_same, add_ne' (by decide)]
  have := h.blk.set_ 6 (.slice x.1 n2 x.2)
  simp only [List.setIfInBounds_toArray, List.set_cons_zero, List.set_cons_succ] at this
  rw [show slC n2 u2 true (g 5) = .slice x.1 n2 x.2 by rw [hg]; rfl]
  exact this
end

set_option maxRecDepth 100000 in
set_option maxHeartbeats 2000000 in
theorem mount_any (m : Mnt) (w : World) (hx : MntAt m w) (h1 : m.n1 ≤ 1000) (h2 : m.n2 ≤ 1000) : Calls Try.prog 32 #[m.val] w (MountPost m w) := by
  obtain ⟨ls, ms, lo, hi, sp, A1, n1, c1, l1, A2, n2, c2, l2⟩ := m
  have HX := Lib.hid hx
  simp only at h1 h2
  unfold Mnt.val
  simp only
  clear hx
  go_enter Try.func32, Try.ntmps32
  go_wp2
  refine Fx.regionM (fun W g f w' => MtD #[.int .i64 0, .int .i64 0, .int .i64 0, .int .i64 0, .int .i64 0, .slice none 0 0, .slice none 0 0] 58 141 w.heap.size n1 n2 (cells2 l1) (cells2 l2) (.int .i64 ls) (.int .i64 ms) (.int .i64 lo) (.int .i64 hi) (.int .i64 sp) (.slice A1 n1 c1) (.slice A2 n2 c2) w g f w') (fun i (x : Pick) => if i = 2 then .slice x.1 n1 x.2 else .slice x.1 n2 x.2) (by kernel_rfl) ?_ ?_
  · intro f hf0
    refine ⟨by repeat' (first | exact Below.refl _ _ | refine below_drewN ?_ _ | refine Below.drew ?_ | refine Below.alloc ?_ (by first | omega | (simp; done) | (simp; omega) | (simp [World.setCell]; omega)) _ | refine Below.setCell ?_ (by first | omega | (simp; done) | (simp; omega)) _), by repeat' (first | assumption | exact Blk.at_ _ (by first | rfl | (simp; done) | (simp; omega)) _ _ | refine Blk.drewN ?_ _ | refine Blk.drew ?_ | refine Blk.alloc ?_ _ | refine Blk.far ?_ (by first | omega | (simp; done) | (simp; omega)) _), ?_, fun x h => (nomatch h), fun x h => (nomatch h)⟩
    rw [hf0 7, hf0 9]
    repeat' (first | assumption | exact Blk.at_ _ (by first | rfl | (simp; done) | (simp; omega)) _ _ | refine Blk.drewN ?_ _ | refine Blk.drew ?_ | refine Blk.alloc ?_ _ | refine Blk.far ?_ (by first | omega | (simp; done) | (simp; omega)) _)
  first
  | (refine Fx.WM.skip 0 (by rfl) (by kernel_rfl) (by kernel_rfl) (by kernel_rfl) (by rfl) (fun g f w h => h.same (by decide) (by decide)) ?_; simp only [Act.put, List.setIfInBounds_toArray, List.set_cons_zero, List.set_cons_succ])
  | (refine Fx.WM.val_ 0 ?_ (by rfl) (by kernel_rfl) (by kernel_rfl) (by kernel_rfl) (by rfl) ?_ (fun g f w h => h.same (by decide) (by decide)) ?_
     rotate_left
     · intro g f w' hx hD hk
       obtain hmt := id hD
       clear hx hk hD hmt
       go_simp
       try rfl
     simp only [Act.put, List.setIfInBounds_toArray, List.set_cons_zero, List.set_cons_succ])
  first
  | (refine Fx.WM.skip 1 (by rfl) (by kernel_rfl) (by kernel_rfl) (by kernel_rfl) (by rfl) (fun g f w h => h.same (by decide) (by decide)) ?_; simp only [Act.put, List.setIfInBounds_toArray, List.set_cons_zero, List.set_cons_succ])
  | (refine Fx.WM.val_ 1 ?_ (by rfl) (by kernel_rfl) (by kernel_rfl) (by kernel_rfl) (by rfl) ?_ (fun g f w h => h.same (by decide) (by decide)) ?_
     rotate_left
     · intro g f w' hx hD hk
       obtain hmt := id hD
       have h7 : f 7 = false := hk.2.1 7 (by kernel_rfl)
       have y5 := hmt.blk.cell 5
       simp only [h7, slC_no] at y5
       clear hx hk hD hmt h7
       go_simp
       try rfl
     simp only [Act.put, List.setIfInBounds_toArray, List.set_cons_zero, List.set_cons_succ])
  first
  | (refine Fx.WM.skip 3 (by rfl) (by kernel_rfl) (by kernel_rfl) (by kernel_rfl) (by rfl) (fun g f w h => h.same (by decide) (by decide)) ?_; simp only [Act.put, List.setIfInBounds_toArray, List.set_cons_zero, List.set_cons_succ])
  | (refine Fx.WM.val_ 3 ?_ (by rfl) (by kernel_rfl) (by kernel_rfl) (by kernel_rfl) (by rfl) ?_ (fun g f w h => h.same (by decide) (by decide)) ?_
     rotate_left
     · intro g f w' hx hD hk
       obtain hmt := id hD
       clear hx hk hD hmt
       go_simp
       try rfl
     simp only [Act.put, List.setIfInBounds_toArray, List.set_cons_zero, List.set_cons_succ])
  first
  | (refine Fx.WM.skip 4 (by rfl) (by kernel_rfl) (by kernel_rfl) (by kernel_rfl) (by rfl) (fun g f w h => h.same (by decide) (by decide)) ?_; simp only [Act.put, List.setIfInBounds_toArray, List.set_cons_zero, List.set_cons_succ])
  | (refine Fx.WM.val_ 4 ?_ (by rfl) (by kernel_rfl) (by kernel_rfl) (by kernel_rfl) (by rfl) ?_ (fun g f w h => h.same (by decide) (by decide)) ?_
     rotate_left
     · intro g f w' hx hD hk
       obtain hmt := id hD
       have h9 : f 9 = false := hk.2.1 9 (by kernel_rfl)
       have y6 := hmt.blk.cell 6
       simp only [h9, slC_no] at y6
       clear hx hk hD hmt h9
       go_simp
       try rfl
     simp only [Act.put, List.setIfInBounds_toArray, List.set_cons_zero, List.set_cons_succ])
  refine Fx.WM.choose 2 (by rfl) (by kernel_rfl) (by rfl) ?_ ?_
  · skip
    refine Fx.Chooses.call ?_ ?_ (by rfl) ?_ ?_
    rotate_left 2
    · intro w'
      go_simp
      refine ⟨?_, ?_⟩ <;> rfl
    · intro f w' hD hk
      exact (ctable_any A1 n1 c1 w.heap.size l1 w' (HX.out.r1.below hD.bel) hD.bel.size (by omega)).mono fun e w'' ⟨A', c', he, hb, _, ho⟩ => ⟨(A', c'), he, hD.call1 (hk.2.1 7 (by kernel_rfl)) (by rfl) hb ho⟩
  intro x
  simp only [Act.put, List.setIfInBounds_toArray, List.set_cons_zero, List.set_cons_succ]
  first
  | (refine Fx.WM.skip 6 (by rfl) (by kernel_rfl) (by kernel_rfl) (by kernel_rfl) (by rfl) (fun g f w h => h.same (by decide) (by decide)) ?_; simp only [Act.put, List.setIfInBounds_toArray, List.set_cons_zero, List.set_cons_succ])
  | (refine Fx.WM.val_ 6 ?_ (by rfl) (by kernel_rfl) (by kernel_rfl) (by kernel_rfl) (by rfl) ?_ (fun g f w h => h.same (by decide) (by decide)) ?_
     rotate_left
     · intro g f w' hx hD hk
       obtain hmt := id hD
       clear hx hk hD hmt
       go_simp
       try rfl
     simp only [Act.put, List.setIfInBounds_toArray, List.set_cons_zero, List.set_cons_succ])
  refine Fx.WM.choose 5 (by rfl) (by kernel_rfl) (by rfl) ?_ ?_
  · skip
    refine Fx.Chooses.call ?_ ?_ (by rfl) ?_ ?_
    rotate_left 2
    · intro w'
      go_simp
      refine ⟨?_, ?_⟩ <;> rfl
    · intro f w' hD hk
      exact (ctable_any A2 n2 c2 w.heap.size l2 w' (HX.out.r2.below hD.bel) hD.bel.size (by omega)).mono fun e w'' ⟨A', c', he, hb, _, ho⟩ => ⟨(A', c'), he, hD.call2 (hk.2.1 9 (by kernel_rfl)) (by rfl) hb ho⟩
  intro y
  simp only [Act.put, List.setIfInBounds_toArray, List.set_cons_zero, List.set_cons_succ]
  refine Fx.WM.eff 7 undef (by rfl) (by kernel_rfl) (by kernel_rfl) (by kernel_rfl) (by rfl) ?_ ?_
  · intro g f w' hx hD hk
    have hmt := hD
    have h7 : f 7 = false := hk.1
    have y5 := hmt.blk.cell 5
    simp only [h7, slC_no] at y5
    have f5 := hmt.blk.frozen 5
    refine Fx.gives_skip (w' := (w'.setCell ⟨w.heap.size, 5, none⟩ (.slice x.1 n1 x.2))) ?_ ?_
    · clear hx hk hD hmt h7
      go_simp
      try rfl
    · exact MtD.store1 hD (hx 2 _ (by rfl))
  simp only [Act.put, List.setIfInBounds_toArray, List.set_cons_zero, List.set_cons_succ]
  first
  | (refine Fx.WM.skip 8 (by rfl) (by kernel_rfl) (by kernel_rfl) (by kernel_rfl) (by rfl) (fun g f w h => h.same (by decide) (by decide)) ?_; simp only [Act.put, List.setIfInBounds_toArray, List.set_cons_zero, List.set_cons_succ])
  | (refine Fx.WM.val_ 8 ?_ (by rfl) (by kernel_rfl) (by kernel_rfl) (by kernel_rfl) (by rfl) ?_ (fun g f w h => h.same (by decide) (by decide)) ?_
     rotate_left
     · intro g f w' hx hD hk
       obtain hmt := id hD
       clear hx hk hD hmt
       go_simp
       try rfl
     simp only [Act.put, List.setIfInBounds_toArray, List.set_cons_zero, List.set_cons_succ])
  refine Fx.WM.eff 9 undef (by rfl) (by kernel_rfl) (by kernel_rfl) (by kernel_rfl) (by rfl) ?_ ?_
  · intro g f w' hx hD hk
    have hmt := hD
    have h9 : f 9 = false := hk.1
    have y6 := hmt.blk.cell 6
    simp only [h9, slC_no] at y6
    have f6 := hmt.blk.frozen 6
    refine Fx.gives_skip (w' := (w'.setCell ⟨w.heap.size, 6, none⟩ (.slice y.1 n2 y.2))) ?_ ?_
    · clear hx hk hD hmt h9
      go_simp
      try rfl
    · exact MtD.store2 hD (hx 5 _ (by rfl))
  simp only [Act.put, List.setIfInBounds_toArray, List.set_cons_zero, List.set_cons_succ]
  refine Fx.WM.nil (by kernel_rfl) ?_
  intro wz hmt
  have hb := hmt.bel
  have hblk : Blk wz w.heap.size 58 #[.int .i64 ls, .int .i64 ms, .int .i64 lo, .int .i64 hi, .int .i64 sp, .slice x.1 n1 x.2, .slice y.1 n2 y.2] := hmt.blk
  have hr1 := hmt.o1 x (by rfl)
  have hr2 := hmt.o2 y (by rfl)
  have hres := hmt.two
  clear hmt
  obtain ⟨B1, d1⟩ := x
  obtain ⟨B2, d2⟩ := y
  simp only at hblk hr1 hr2
  simp only [if_true, show ((5 : Nat) = 2) = False from by simp, if_false]
  have HB1 := Lib.hid hb
  have K0_1 := Lib.hid (show Blk wz (w.heap.size) 58 #[.int .i64 (ls), .int .i64 (ms), .int .i64 (lo), .int .i64 (hi), .int .i64 (sp), .slice B1 n1 d1, .slice B2 n2 d2] from hblk)
  have K1_1 := Lib.hid (show Blk wz (w.heap.size + 1) 58 #[.int .i64 (0), .int .i64 (0), .int .i64 (0), .int .i64 (0), .int .i64 (0), .slice none 0 0, .slice none 0 0] from hres)
  clear hb hblk hres
  have l0_1 : w.heap.size < wz.heap.size := K0_1.out.lt
  have z0_0_1 : wz.cell? ⟨w.heap.size, 0, none⟩ = some (.int .i64 (ls)) := K0_1.out.cell 0
  have z0_1_1 : wz.cell? ⟨w.heap.size, 1, none⟩ = some (.int .i64 (ms)) := K0_1.out.cell 1
  have z0_2_1 : wz.cell? ⟨w.heap.size, 2, none⟩ = some (.int .i64 (lo)) := K0_1.out.cell 2
  have z0_3_1 : wz.cell? ⟨w.heap.size, 3, none⟩ = some (.int .i64 (hi)) := K0_1.out.cell 3
  have z0_4_1 : wz.cell? ⟨w.heap.size, 4, none⟩ = some (.int .i64 (sp)) := K0_1.out.cell 4
  have z0_5_1 : wz.cell? ⟨w.heap.size, 5, none⟩ = some (.slice B1 n1 d1) := K0_1.out.cell 5
  have z0_6_1 : wz.cell? ⟨w.heap.size, 6, none⟩ = some (.slice B2 n2 d2) := K0_1.out.cell 6
  have l1_1 : w.heap.size + 1 < wz.heap.size := K1_1.out.lt
  have z1_0_1 : wz.cell? ⟨w.heap.size + 1, 0, none⟩ = some (.int .i64 (0)) := K1_1.out.cell 0
  have z1_1_1 : wz.cell? ⟨w.heap.size + 1, 1, none⟩ = some (.int .i64 (0)) := K1_1.out.cell 1
  have z1_2_1 : wz.cell? ⟨w.heap.size + 1, 2, none⟩ = some (.int .i64 (0)) := K1_1.out.cell 2
  have z1_3_1 : wz.cell? ⟨w.heap.size + 1, 3, none⟩ = some (.int .i64 (0)) := K1_1.out.cell 3
  have z1_4_1 : wz.cell? ⟨w.heap.size + 1, 4, none⟩ = some (.int .i64 (0)) := K1_1.out.cell 4
  have z1_5_1 : wz.cell? ⟨w.heap.size + 1, 5, none⟩ = some (.slice none 0 0) := K1_1.out.cell 5
  have z1_6_1 : wz.cell? ⟨w.heap.size + 1, 6, none⟩ = some (.slice none 0 0) := K1_1.out.cell 6
  have zf1_0 := K1_1.out.frozen 0
  have zf1_1 := K1_1.out.frozen 1
  have zf1_2 := K1_1.out.frozen 2
  have zf1_3 := K1_1.out.frozen 3
  have zf1_4 := K1_1.out.frozen 4
  have zf1_5 := K1_1.out.frozen 5
  have zf1_6 := K1_1.out.frozen 6
  have HR1 := Lib.hid hr1
  have HR2 := Lib.hid hr2
  clear hr1 hr2
  go_wp2
  generalize hwq : World.setCell _ _ _ = wq
  have hq : Blk wq (w.heap.size + 1) 58 #[.int .i64 ls, .int .i64 ms, .int .i64 lo, .int .i64 hi, .int .i64 sp, .slice B1 n1 d1, .slice B2 n2 d2] := by
    rw [← hwq]
    have := ((((((K1_1.out.set_ 0 (.int .i64 ls)).set_ 1 (.int .i64 ms)).set_ 2 (.int .i64 lo)).set_ 3 (.int .i64 hi)).set_ 4 (.int .i64 sp)).set_ 5 (.slice B1 n1 d1)).set_ 6 (.slice B2 n2 d2)
    simpa only [List.setIfInBounds_toArray, List.set_cons_zero, List.set_cons_succ] using this
  have hbq : Below (w.heap.size + 1) wz wq := by rw [← hwq]; exact (Below.setCell (Below.setCell (Below.setCell (Below.setCell (Below.setCell (Below.setCell (Below.setCell (Below.refl _ _) (p := ⟨w.heap.size + 1, 0, none⟩) (Nat.le_refl _) _) (p := ⟨w.heap.size + 1, 1, none⟩) (Nat.le_refl _) _) (p := ⟨w.heap.size + 1, 2, none⟩) (Nat.le_refl _) _) (p := ⟨w.heap.size + 1, 3, none⟩) (Nat.le_refl _) _) (p := ⟨w.heap.size + 1, 4, none⟩) (Nat.le_refl _) _) (p := ⟨w.heap.size + 1, 5, none⟩) (Nat.le_refl _) _) (p := ⟨w.heap.size + 1, 6, none⟩) (Nat.le_refl _) _)
  have HWQ := Lib.hid hwq
  clear hwq
  have hbz : Below w.heap.size w wq := HB1.out.trans (hbq.mono (by omega))
  have hr1 : Reads wq wq.heap.size 2 B1 n1 (cells2 l1) := own_reads2 (show wq.ownsRow (w.heap.size + 2) 141 2 _ _ _ by rw [← HWQ.out]; exact own_far (own_far (own_far (own_far (own_far (own_far (own_far HR1.out _ _ (Nat.le_refl _) _) _ _ (Nat.le_refl _) _) _ _ (Nat.le_refl _) _) _ _ (Nat.le_refl _) _) _ _ (Nat.le_refl _) _) _ _ (Nat.le_refl _) _) _ _ (Nat.le_refl _) _)
  have hr2 : Reads wq wq.heap.size 2 B2 n2 (cells2 l2) := own_reads2 (show wq.ownsRow (w.heap.size + 2) 141 2 _ _ _ by rw [← HWQ.out]; exact own_far (own_far (own_far (own_far (own_far (own_far (own_far HR2.out _ _ (Nat.le_refl _) _) _ _ (Nat.le_refl _) _) _ _ (Nat.le_refl _) _) _ _ (Nat.le_refl _) _) _ _ (Nat.le_refl _) _) _ _ (Nat.le_refl _) _) _ _ (Nat.le_refl _) _)
  have q0 := hq.cell 0
  have q1 := hq.cell 1
  have q2 := hq.cell 2
  have q3 := hq.cell 3
  have q4 := hq.cell 4
  have q5 := hq.cell 5
  have q6 := hq.cell 6
  have ql := hq.lt
  refine bodyPost_ret (v := .agg #[.int .i64 ls, .int .i64 ms, .int .i64 lo, .int .i64 hi, .int .i64 sp, .slice B1 n1 d1, .slice B2 n2 d2]) ?_ rfl ?_
  · simp [results, Try.results32, go_sem, q0, q1, q2, q3, q4, q5, q6, ql]
  · exact ⟨B1, d1, B2, d2, rfl, hbz, hr1, hr2, by show n1 ≤ _; omega, by show n2 ≤ _; omega⟩
end Go.Proofs.Ytdidcpealabaiaa

end
