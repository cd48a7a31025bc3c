import Derived.Test.YtclnffpfbngjoaaQ19
import Derived.Test.YtclnffpfbngjoaaQ11
import Derived.Test.YtclnffpfbngjoaaQ2
import Derived.Test.YtclnffpfbngjoaaQ9
import Derived.Test.YtclnffpfbngjoaaQ13
import Derived.Test.YtclnffpfbngjoaaQ16

section
/- The examples with which each statement begins are so: the walk. -/
namespace Go.Proofs.Ytclnffpfbngjoaa
open Go Go.RowKit

set_option maxRecDepth 100000 in
set_option maxHeartbeats 2000000 in
theorem awakept_any (w : World) : Calls Try.prog 4 #[] w fun e w' => e = .returned (.bool true) ∧ Below w.heap.size w w' := by
  go_enter Try.func4, Try.ntmps4
  go_wp2_with fail
  refine (awake_fit (w.heap.size) (w.heap.size + 1) (w.heap.size + 1 + 1) _ _ _ (stars3_at (t := 3) (u := 52) (by repeat' (first | assumption | exact Blk.at_ _ (by first | rfl | (simp; done) | (simp; omega)) _ _ | refine Blk.drewN ?_ _ | refine Blk.drew ?_ | refine Blk.alloc ?_ _ | refine Blk.far ?_ (by first | omega | (simp; done) | (simp; omega)) _)) (by repeat' (first | assumption | exact Blk.at_ _ (by first | rfl | (simp; done) | (simp; omega)) _ _ | refine Blk.drewN ?_ _ | refine Blk.drew ?_ | refine Blk.alloc ?_ _ | refine Blk.far ?_ (by first | omega | (simp; done) | (simp; omega)) _)) (by repeat' (first | assumption | exact Blk.at_ _ (by first | rfl | (simp; done) | (simp; omega)) _ _ | refine Blk.drewN ?_ _ | refine Blk.drew ?_ | refine Blk.alloc ?_ _ | refine Blk.far ?_ (by first | omega | (simp; done) | (simp; omega)) _)) (by repeat' (first | assumption | exact Blk.at_ _ (by first | rfl | (simp; done) | (simp; omega)) _ _ | refine Blk.drewN ?_ _ | refine Blk.drew ?_ | refine Blk.alloc ?_ _ | refine Blk.far ?_ (by first | omega | (simp; done) | (simp; omega)) _)))).mono ?_
  rintro e w1 ⟨A, c, rfl, hb, hr⟩
  have HB1 := Lib.hid (show Below w.heap.size w w1 from step_below hb (by repeat' (first | exact Below.refl _ _ | exact HB0.out | refine below_drewN ?_ _ | refine Below.drew ?_ | refine Below.alloc ?_ (by first | omega | (simp; done) | (simp; omega) | (simp [World.setCell]; omega)) _ | refine Below.setCell ?_ (by first | omega | (simp; done) | (simp; omega)) _ | assumption)))
  have hz1 := hb.size
  try simp only [World.size_alloc, World.drewN, World.drew] at hz1
  clear hb
  have R0_1 := Lib.hid hr
  clear hr
  go_wp2_with fail
  refine (fork_any _).mono ?_
  rintro e w2 ⟨a, b, rfl, hb, hr1, hr2⟩
  have HB2 := Lib.hid (show Below w.heap.size w w2 from step_below hb (by repeat' (first | exact Below.refl _ _ | exact HB1.out | refine below_drewN ?_ _ | refine Below.drew ?_ | refine Below.alloc ?_ (by first | omega | (simp; done) | (simp; omega) | (simp [World.setCell]; omega)) _ | refine Below.setCell ?_ (by first | omega | (simp; done) | (simp; omega)) _ | assumption)))
  have K0_2 := Lib.hid (step_blk hb (show Blk _ (w1.heap.size) 48 #[.slice A 2 c, .int .i64 (6)] by repeat' (first | exact Blk.at_ _ (by first | rfl | (simp; done) | (simp; omega)) _ _ | refine Blk.drewN ?_ _ | refine Blk.drew ?_ | refine Blk.alloc ?_ _ | refine Blk.far ?_ (by first | omega | (simp; done) | (simp; omega)) _ | assumption)))
  have hL2 := Lib.hid (show Below w1.heap.size w1 _ from reads_mid hb (by repeat' (first | exact Below.refl _ _ | refine below_drewN ?_ _ | refine Below.drew ?_ | refine Below.alloc ?_ (by first | omega | (simp; done) | (simp; omega) | (simp [World.setCell]; omega)) _ | refine Below.setCell ?_ (by first | omega | (simp; done) | (simp; omega)) _)))
  have R0_2 := Lib.hid (reads_lay hb hL2.out R0_1.out)
  clear hL2 R0_1
  have hz2 := hb.size
  try simp only [World.size_alloc, World.drewN, World.drew] at hz2
  clear hb
  have l0_2 : w1.heap.size < w2.heap.size := K0_2.out.lt
  have z0_0_2 : w2.cell? ⟨w1.heap.size, 0, none⟩ = some (.slice A 2 c) := K0_2.out.cell 0
  have z0_1_2 : w2.cell? ⟨w1.heap.size, 1, none⟩ = some (.int .i64 (6)) := K0_2.out.cell 1
  have R1_2 := Lib.hid hr1
  clear hr1
  have R2_2 := Lib.hid hr2
  clear hr2
  go_wp2_with fail
  refine (night_any _).mono ?_
  rintro e w3 ⟨g, rfl, hb, -, hr3⟩
  have HB3 := Lib.hid (show Below w.heap.size w w3 from step_below hb (by repeat' (first | exact Below.refl _ _ | exact HB2.out | refine below_drewN ?_ _ | refine Below.drew ?_ | refine Below.alloc ?_ (by first | omega | (simp; done) | (simp; omega) | (simp [World.setCell]; omega)) _ | refine Below.setCell ?_ (by first | omega | (simp; done) | (simp; omega)) _ | assumption)))
  have K0_3 := Lib.hid (step_blk hb (show Blk _ (w1.heap.size) 48 #[.slice A 2 c, .int .i64 (6)] by repeat' (first | exact K0_2.out | exact Blk.at_ _ (by first | rfl | (simp; done) | (simp; omega)) _ _ | refine Blk.drewN ?_ _ | refine Blk.drew ?_ | refine Blk.alloc ?_ _ | refine Blk.far ?_ (by first | omega | (simp; done) | (simp; omega)) _ | assumption)))
  have hL3 := Lib.hid (show Below w2.heap.size w2 _ from reads_mid hb (by repeat' (first | exact Below.refl _ _ | refine below_drewN ?_ _ | refine Below.drew ?_ | refine Below.alloc ?_ (by first | omega | (simp; done) | (simp; omega) | (simp [World.setCell]; omega)) _ | refine Below.setCell ?_ (by first | omega | (simp; done) | (simp; omega)) _)))
  have R0_3 := Lib.hid (reads_lay hb hL3.out R0_2.out)
  have R1_3 := Lib.hid (reads_lay hb hL3.out R1_2.out)
  have R2_3 := Lib.hid (reads_lay hb hL3.out R2_2.out)
  clear hL3 R0_2 R1_2 R2_2
  have hz3 := hb.size
  try simp only [World.size_alloc, World.drewN, World.drew] at hz3
  clear hb K0_2 z0_0_2 z0_1_2 l0_2
  have l0_3 : w1.heap.size < w3.heap.size := K0_3.out.lt
  have z0_0_3 : w3.cell? ⟨w1.heap.size, 0, none⟩ = some (.slice A 2 c) := K0_3.out.cell 0
  have z0_1_3 : w3.cell? ⟨w1.heap.size, 1, none⟩ = some (.int .i64 (6)) := K0_3.out.cell 1
  have R3_3 := Lib.hid hr3
  clear hr3
  go_wp2_with fail
  refine (pchoice_is (forkM a b) 0 0 nightL (some ⟨g, 0, none⟩) 3 3 (some ⟨w3.heap.size, 0, none⟩) 3 3 [0, -1, 0] 10001892000 0 (awake_choice a b) _ ⟨(R1_3.out.alloc (Nat.le_refl _) _).more (by simp), (R2_3.out.alloc (Nat.le_refl _) _).more (by simp), (by show 1 ≤ _; omega), (by show 1 ≤ _; omega)⟩ ((R3_3.out.alloc (Nat.le_refl _) _).more (by simp)) ⟨Nat.le_refl 3, by omega⟩ night_fits (Blk.reads (Blk.at_ _ rfl _ _) (by rfl)) ⟨Nat.le_refl 3, by omega⟩ (awake_tour a b)).mono ?_
  rintro e w4 ⟨rfl, hb⟩
  have HB4 := Lib.hid (show Below w.heap.size w w4 from step_below hb (by repeat' (first | exact Below.refl _ _ | exact HB3.out | refine below_drewN ?_ _ | refine Below.drew ?_ | refine Below.alloc ?_ (by first | omega | (simp; done) | (simp; omega) | (simp [World.setCell]; omega)) _ | refine Below.setCell ?_ (by first | omega | (simp; done) | (simp; omega)) _ | assumption)))
  have K0_4 := Lib.hid (step_blk hb (show Blk _ (w1.heap.size) 48 #[.slice A 2 c, .int .i64 (6)] by repeat' (first | exact K0_3.out | exact Blk.at_ _ (by first | rfl | (simp; done) | (simp; omega)) _ _ | refine Blk.drewN ?_ _ | refine Blk.drew ?_ | refine Blk.alloc ?_ _ | refine Blk.far ?_ (by first | omega | (simp; done) | (simp; omega)) _ | assumption)))
  have hL4 := Lib.hid (show Below w3.heap.size w3 _ from reads_mid hb (by repeat' (first | exact Below.refl _ _ | refine below_drewN ?_ _ | refine Below.drew ?_ | refine Below.alloc ?_ (by first | omega | (simp; done) | (simp; omega) | (simp [World.setCell]; omega)) _ | refine Below.setCell ?_ (by first | omega | (simp; done) | (simp; omega)) _)))
  have R0_4 := Lib.hid (reads_lay hb hL4.out R0_3.out)
  have R1_4 := Lib.hid (reads_lay hb hL4.out R1_3.out)
  have R2_4 := Lib.hid (reads_lay hb hL4.out R2_3.out)
  have R3_4 := Lib.hid (reads_lay hb hL4.out R3_3.out)
  clear hL4 R0_3 R1_3 R2_3 R3_3
  have hz4 := hb.size
  try simp only [World.size_alloc, World.drewN, World.drew] at hz4
  clear hb K0_3 z0_0_3 z0_1_3 l0_3
  have l0_4 : w1.heap.size < w4.heap.size := K0_4.out.lt
  have z0_0_4 : w4.cell? ⟨w1.heap.size, 0, none⟩ = some (.slice A 2 c) := K0_4.out.cell 0
  have z0_1_4 : w4.cell? ⟨w1.heap.size, 1, none⟩ = some (.int .i64 (6)) := K0_4.out.cell 1
  go_wp2_with fail
  refine (pTable_ok (some ⟨w4.heap.size, 0, none⟩) 2 2 [(0, 10), (100, 0)] 35 6 awake_taberr (by kernel_rfl) awake_tab _ (Blk.reads (Blk.at_ _ rfl _ _) (by rfl)) (by omega)).mono ?_
  rintro e w5 ⟨rfl, hb⟩
  have HB5 := Lib.hid (show Below w.heap.size w w5 from step_below hb (by repeat' (first | exact Below.refl _ _ | exact HB4.out | refine below_drewN ?_ _ | refine Below.drew ?_ | refine Below.alloc ?_ (by first | omega | (simp; done) | (simp; omega) | (simp [World.setCell]; omega)) _ | refine Below.setCell ?_ (by first | omega | (simp; done) | (simp; omega)) _ | assumption)))
  have K0_5 := Lib.hid (step_blk hb (show Blk _ (w1.heap.size) 48 #[.slice A 2 c, .int .i64 (6)] by repeat' (first | exact K0_4.out | exact Blk.at_ _ (by first | rfl | (simp; done) | (simp; omega)) _ _ | refine Blk.drewN ?_ _ | refine Blk.drew ?_ | refine Blk.alloc ?_ _ | refine Blk.far ?_ (by first | omega | (simp; done) | (simp; omega)) _ | assumption)))
  have hL5 := Lib.hid (show Below w4.heap.size w4 _ from reads_mid hb (by repeat' (first | exact Below.refl _ _ | refine below_drewN ?_ _ | refine Below.drew ?_ | refine Below.alloc ?_ (by first | omega | (simp; done) | (simp; omega) | (simp [World.setCell]; omega)) _ | refine Below.setCell ?_ (by first | omega | (simp; done) | (simp; omega)) _)))
  have R0_5 := Lib.hid (reads_lay hb hL5.out R0_4.out)
  have R1_5 := Lib.hid (reads_lay hb hL5.out R1_4.out)
  have R2_5 := Lib.hid (reads_lay hb hL5.out R2_4.out)
  have R3_5 := Lib.hid (reads_lay hb hL5.out R3_4.out)
  clear hL5 R0_4 R1_4 R2_4 R3_4
  have hz5 := hb.size
  try simp only [World.size_alloc, World.drewN, World.drew] at hz5
  clear hb K0_4 z0_0_4 z0_1_4 l0_4
  have l0_5 : w1.heap.size < w5.heap.size := K0_5.out.lt
  have z0_0_5 : w5.cell? ⟨w1.heap.size, 0, none⟩ = some (.slice A 2 c) := K0_5.out.cell 0
  have z0_1_5 : w5.cell? ⟨w1.heap.size, 1, none⟩ = some (.int .i64 (6)) := K0_5.out.cell 1
  go_wp2_with fail
  refine (ints_eqd A (some ⟨w5.heap.size, 0, none⟩) c 2 2 2 [5, 9] [5, 9] true (by decide) _ _ _ (R0_5.out.alloc (Nat.le_refl _) _) (Blk.reads (Blk.at_ _ rfl _ _) (by rfl)) (by omega) (by omega)).mono ?_
  rintro e w' ⟨rfl, q, rfl⟩
  go_wp2
  go_ret
  exact ⟨rfl, by repeat' (first | exact Below.refl _ _ | exact HB5.out | refine below_drewN ?_ _ | refine Below.drew ?_ | refine Below.alloc ?_ (by first | omega | (simp; done) | (simp; omega) | (simp [World.setCell]; omega)) _ | refine Below.setCell ?_ (by first | omega | (simp; done) | (simp; omega)) _ | assumption)⟩
end Go.Proofs.Ytclnffpfbngjoaa

end

section
/- Arguments that are slices of structs of texts and whole numbers; the list of rockers. -/
namespace Go.Proofs.Ytclnffpfbngjoaa
open Go Go.RowKit Go.ChangeShapes Go.WideShapes Go.ChangeAt Go.Joins Go.Deep

theorem choose_vals {R : Nat → Value → Prop} (m : Nat) (h : ∀ q, q < m → ∃ z, R q z) : ∃ xs : List Value, xs.length = m ∧ ∀ q z, xs[q]? = some z → R q z := by
  induction m with
  | zero => exact ⟨[], rfl, fun q z h => by simp at h⟩
  | succ m ih =>
    obtain ⟨xs, hl, hx⟩ := ih fun q hq => h q (by omega)
    obtain ⟨z, hz⟩ := h m (by omega)
    refine ⟨xs ++ [z], by simp [hl], fun q u hu => ?_⟩
    rcases Nat.lt_trichotomy q m with hq | hq | hq
    · rw [List.getElem?_append_left (by omega)] at hu
      exact hx q u hu
    · subst hq
      rw [List.getElem?_append_right (by omega), hl, Nat.sub_self] at hu
      simp at hu
      exact hu ▸ hz
    · rw [List.getElem?_eq_none (by simp; omega)] at hu
      cases hu

section
variable {H : Type} {enc : TypeId × Value → H} {P : Program} {w : World} {base b0 : Nat} {spare : Nat → Bool} {held : Bool} {r : Reach} {t e tI tS : TypeId} {v : Value} {d : DataW H} {p : List MemPlace}
/-- A slice of structs of fields of one cell. -/
theorem open_slice_cells {fs : Array Field} {fuel : Nat} {cs : List Value} {x : DataW H × List MemPlace} (ht : P.underlying t = some (.slice e)) (he : P.underlying e = some (.struct fs))
    (hone : oneCellFields P fs = true) (hC : P.cellsOf e = fs.size) (hk : 0 < fs.size) (h : DataW.trod enc P w base spare held fuel t cs = some x) :
    ∃ (A : Option Addr) (n c : Nat) (us : List Value), cs = [.slice A n c] ∧ (n ≤ c ∧ c ≤ 9223372036854775807) ∧ us.length = n * fs.size ∧ Reads w w.heap.size fs.size A n us ∧
      ∀ q u, us[q]? = some u → ∃ (y : DataW H × List MemPlace) (m : Nat) (f : Field), fs[q % fs.size]? = some f ∧ DataW.trod enc P w base spare held m f.type [u] = some y := by
  rcases open_slice_fields ht he hone hC h with ⟨h0, -⟩ | ⟨a, len, cap, hcs, hl, hi⟩
  · exact ⟨none, 0, 0, [], h0, by omega, by simp, Reads.none_, fun q u h => by simp at h⟩
  have hq : ∀ q, q < len * fs.size → ∃ z, w.cell? (a.add q) = some z ∧ ∃ (y : DataW H × List MemPlace) (m : Nat) (f : Field), fs[q % fs.size]? = some f ∧ DataW.trod enc P w base spare held m f.type [z] = some y := by
    intro q hq
    have h1 : q / fs.size < len := Nat.div_lt_of_lt_mul (by rwa [Nat.mul_comm])
    have h2 : q % fs.size < fs.size := Nat.mod_lt _ hk
    obtain ⟨v, y, n, hc, ht'⟩ := hi _ h1 _ _ (Array.getElem?_eq_getElem h2)
    rw [show q / fs.size * fs.size + q % fs.size = q by rw [Nat.mul_comm]; exact Nat.div_add_mod _ _] at hc
    exact ⟨v, hc, y, n, _, Array.getElem?_eq_getElem h2, ht'⟩
  obtain ⟨us, hxl, hx⟩ := choose_vals _ hq
  refine ⟨some a, len, cap, us, hcs, ⟨hl.1, by simpa [maxLen] using hl.2⟩, hxl, ?_, fun q u hu => (hx q u hu).2⟩
  rcases Nat.eq_zero_or_pos len with rfl | hp
  · obtain rfl : us = [] := List.length_eq_zero_iff.1 (by simpa using hxl)
    exact Reads.none_
  refine Reads.of_adds hk hxl ?_ (fun j u hu => (hx j u hu).1)
  have h0 : 0 < us.length := by rw [hxl]; exact Nat.mul_pos hp hk
  have := block_of_cell (hx 0 _ (List.getElem?_eq_getElem h0)).1
  simpa [Addr.add] using this

/-- The kinds of fields: texts and whole numbers. -/
def KindIs (b : Bool) (u : Value) : Prop := if b then ∃ s : ByteArray, u = .string s ∧ s.size ≤ maxLen else ∃ z, u = .int .i64 z ∧ I64 z
end

section
variable {H : Type} {enc : TypeId × Value → H} {P : Program} {w : World} {base b0 : Nat} {spare : Nat → Bool} {held : Bool} {r : Reach} {t e tI tS : TypeId} {v : Value} {d : DataW H} {p : List MemPlace}
end

end Go.Proofs.Ytclnffpfbngjoaa

end

section
/- Arguments of the statements on pointing: mountings, targets, tours, stars, models. -/
namespace Go.Proofs.Ytclnffpfbngjoaa
open Go Go.RowKit Go.ChangeShapes Go.WideShapes Go.ChangeAt Go.Joins Go.Deep

section
variable {H : Type} {enc : TypeId × Value → H} {P : Program} {w : World} {base b0 : Nat} {spare : Nat → Bool} {held : Bool} {r : Reach} {t e tI tS tR tL tA tM tN : TypeId} {v : Value} {d : DataW H} {p : List MemPlace} {fs gs : Array Field} {fuel : Nat} {cs : List Value} {x : DataW H × List MemPlace}
theorem open_fields (he : P.underlying t = some (.struct fs)) (hone : oneCellFields P fs = true) (hC : P.cellsOf t = fs.size) (h : DataW.trod enc P w base spare held fuel t cs = some x) :
    cs.length = fs.size ∧ ∃ n, ∀ (j : Nat) (f : Field), fs[j]? = some f → ∃ u y, cs[j]? = some u ∧ DataW.trod enc P w base spare held n f.type [u] = some y := by
  obtain ⟨ys, n', -, -, hlen, hyl, hf⟩ := DataW.trod_struct he h
  rw [hC] at hlen
  refine ⟨hlen, n', fun j f hj => ?_⟩
  obtain ⟨ho, hk⟩ := hone_of hone j f hj
  have hjl : j < fs.size := (Array.getElem?_eq_some_iff.1 hj).1
  have h1 := hf j f hj
  rw [ho, hk] at h1
  have hone' : (cs.drop j).take 1 = [cs[j]'(by omega)] := by rw [List.drop_eq_getElem_cons (by omega)]; rfl
  rw [hone'] at h1
  exact ⟨_, _, List.getElem?_eq_getElem (by omega), h1.trans (List.getElem?_eq_getElem (by omega))⟩
theorem field_at {L : List TypeId} (hf : fs.toList.map (·.type) = L) {j : Nat} {t : TypeId} (hj : L[j]? = some t) : ∃ f, fs[j]? = some f ∧ f.type = t := by
  rw [← hf, List.getElem?_map, Array.getElem?_toList] at hj
  cases h : fs[j]? with
  | none => rw [h] at hj; cases hj
  | some f => rw [h] at hj; exact ⟨f, rfl, Option.some.inj hj⟩
/-- The fields of one cell, by their types. -/
theorem open_typed {L : List TypeId} (he : P.underlying t = some (.struct fs)) (hone : oneCellFields P fs = true) (hC : P.cellsOf t = fs.size) (hf : fs.toList.map (·.type) = L) (h : DataW.trod enc P w base spare held fuel t cs = some x) :
    cs.length = L.length ∧ ∃ n, ∀ (j : Nat) (t : TypeId), L[j]? = some t → ∃ u y, cs[j]? = some u ∧ DataW.trod enc P w base spare held n t [u] = some y := by
  obtain ⟨h1, n, h2⟩ := open_fields he hone hC h
  refine ⟨by rw [h1, ← hf]; simp, n, fun j t hj => ?_⟩
  obtain ⟨f, hfj, rfl⟩ := field_at hf hj
  exact h2 j f hfj
theorem cell_int {n : Nat} {u : Value} {y : DataW H × List MemPlace} (hI : P.underlying tI = some (.int .i64)) (h : DataW.trod enc P w base spare held n tI [u] = some y) : ∃ z, u = .int .i64 z ∧ I64 z := by
  obtain ⟨z, e0, -, hwf⟩ := DataW.trod_int hI h
  simp at e0
  exact ⟨z, e0, I64.of_wf hwf⟩
theorem cell_str {n : Nat} {u : Value} {y : DataW H × List MemPlace} (hS : P.underlying tS = some .string) (h : DataW.trod enc P w base spare held n tS [u] = some y) : ∃ s : ByteArray, u = .string s ∧ s.size ≤ maxLen := by
  obtain ⟨s, e0, -, hs⟩ := DataW.trod_string hS h
  simp at e0
  exact ⟨s, e0, hs⟩
theorem cell_pairs {n : Nat} {u : Value} {y : DataW H × List MemPlace} (ht : P.underlying t = some (.slice e)) (he : P.underlying e = some (.struct gs)) (hone : oneCellFields P gs = true) (hC : P.cellsOf e = gs.size) (hI : P.underlying tI = some (.int .i64)) (hf : gs.toList.all (fun f => f.type == tI) = true) (hk : gs.size = 2) (h : DataW.trod enc P w base spare held n t [u] = some y) :
    ∃ (A : Option Addr) (n c : Nat) (l : List (Int × Int)), u = .slice A n c ∧ (n ≤ c ∧ c ≤ 9223372036854775807) ∧ l.length = n ∧ (∀ p ∈ l, I64 p.1 ∧ I64 p.2) ∧ Reads w w.heap.size 2 A n (cells2 l) := by
  obtain ⟨A, n, c, l, h1, h2⟩ := open_pairs ht he hone hC hI hf hk h
  exact ⟨A, n, c, l, by simpa using h1, h2⟩

/-- What is known of the numbers of a mounting that is an argument. -/
structure MntIn (m : Mnt) (w : World) : Prop where
  at_ : MntAt m w
  c1 : m.n1 ≤ m.c1 ∧ m.c1 ≤ 9223372036854775807
  c2 : m.n2 ≤ m.c2 ∧ m.c2 ≤ 9223372036854775807
  i1 : I64 m.ls
  i2 : I64 m.ms
  i3 : ∀ p ∈ m.l2, I64 p.1 ∧ I64 p.2
theorem open_mnt (he : P.underlying tM = some (.struct fs)) (hone : oneCellFields P fs = true) (hC : P.cellsOf tM = fs.size) (hf : fs.toList.map (·.type) = [tI, tI, tI, tI, tI, tR, tR]) (hI : P.underlying tI = some (.int .i64))
    (ht : P.underlying tR = some (.slice e)) (hg : P.underlying e = some (.struct gs)) (hone' : oneCellFields P gs = true) (hC' : P.cellsOf e = gs.size) (hf' : gs.toList.all (fun f => f.type == tI) = true) (hk : gs.size = 2)
    (h : DataW.trod enc P w base spare held fuel tM cs = some x) : ∃ m : Mnt, cs = [.int .i64 m.ls, .int .i64 m.ms, .int .i64 m.lo, .int .i64 m.hi, .int .i64 m.sp, .slice m.A1 m.n1 m.c1, .slice m.A2 m.n2 m.c2] ∧ MntIn m w := by
  obtain ⟨hl, n, hx⟩ := open_typed he hone hC hf h
  obtain ⟨u0, y0, c0, t0⟩ := hx 0 _ rfl
  obtain ⟨u1, y1, c1, t1⟩ := hx 1 _ rfl
  obtain ⟨u2, y2, c2, t2⟩ := hx 2 _ rfl
  obtain ⟨u3, y3, c3, t3⟩ := hx 3 _ rfl
  obtain ⟨u4, y4, c4, t4⟩ := hx 4 _ rfl
  obtain ⟨u5, y5, c5, t5⟩ := hx 5 _ rfl
  obtain ⟨u6, y6, c6, t6⟩ := hx 6 _ rfl
  obtain ⟨z0, rfl, i0⟩ := cell_int hI t0
  obtain ⟨z1, rfl, i1⟩ := cell_int hI t1
  obtain ⟨z2, rfl, -⟩ := cell_int hI t2
  obtain ⟨z3, rfl, -⟩ := cell_int hI t3
  obtain ⟨z4, rfl, -⟩ := cell_int hI t4
  obtain ⟨A1, n1, k1, l1, rfl, b1, e1, -, r1⟩ := cell_pairs ht hg hone' hC' hI hf' hk t5
  obtain ⟨A2, n2, k2, l2, rfl, b2, e2, j2, r2⟩ := cell_pairs ht hg hone' hC' hI hf' hk t6
  match cs, hl with
  | [d0, d1, d2, d3, d4, d5, d6], _ =>
    simp at c0 c1 c2 c3 c4 c5 c6
    exact ⟨⟨z0, z1, z2, z3, z4, A1, n1, k1, l1, A2, n2, k2, l2⟩, by rw [c0, c1, c2, c3, c4, c5, c6], ⟨r1, r2, by show n1 ≤ _; omega, by show n2 ≤ _; omega⟩, b1, b2, i0, i1, j2⟩
structure TgtIn (t : Tgt) : Prop where
  s : t.name.size ≤ maxLen
  i1 : I64 t.az
end
end Go.Proofs.Ytclnffpfbngjoaa

end
