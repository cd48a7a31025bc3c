import Derived.Test.YtdidcpealabaiaaQ12
import Derived.Test.YtdidcpealabaiaaQ10

section
/- Lists of targets in memory; the check of a target behind others. -/
namespace Go.Proofs.Ytdidcpealabaiaa
open Go Go.RowKit

def Tgt.cells (t : Tgt) : List Value := [.string t.name, .int .i64 t.az, .int .i64 t.ht, .int .i64 t.fr, .int .i64 t.to, .int .i64 t.dw]
def tgtCells (l : List Tgt) : List Value := l.flatMap Tgt.cells
theorem tgtCells_length (l : List Tgt) : (tgtCells l).length = l.length * 6 := by
  unfold tgtCells
  induction l with
  | nil => rfl
  | cons t l ih => rw [List.flatMap_cons, List.length_append, ih, List.length_cons]; simp [Tgt.cells]; omega
theorem tgtCells_get (l : List Tgt) : ∀ (i : Nat) (h : i < l.length) (j : Nat), j < 6 → (tgtCells l)[i * 6 + j]? = (l[i]).cells[j]? := by
  unfold tgtCells
  induction l with
  | nil => intro i h; exact absurd h (by simp)
  | cons t l ih =>
    intro i h j hj
    rw [List.flatMap_cons]
    have ht : t.cells.length = 6 := rfl
    cases i with
    | zero => rw [Nat.zero_mul, Nat.zero_add, List.getElem?_append_left (by omega)]; rfl
    | succ i =>
      rw [List.getElem?_append_right (by omega), ht, show (i + 1) * 6 + j - 6 = i * 6 + j by omega]
      exact ih i (by simpa using h) j hj
theorem Reads.tlen {w : World} {B n : Nat} {A : Option Addr} {l : List Tgt} (h : Reads w B 6 A n (tgtCells l)) : l.length = n := by
  have := h.1; rw [tgtCells_length] at this; omega
theorem Reads.tgt {w : World} {B n : Nat} {A : Option Addr} {l : List Tgt} (h : Reads w B 6 A n (tgtCells l)) {i : Nat} (hi : i < n) :
    ∃ b o t, A = some ⟨b, o, none⟩ ∧ b < B ∧ l[i]? = some t ∧ w.cell? ⟨b, o + i * 6, none⟩ = some (.string t.name) ∧ w.cell? ⟨b, o + i * 6 + 1, none⟩ = some (.int .i64 t.az) ∧ w.cell? ⟨b, o + i * 6 + 2, none⟩ = some (.int .i64 t.ht) ∧ w.cell? ⟨b, o + i * 6 + 3, none⟩ = some (.int .i64 t.fr) ∧ w.cell? ⟨b, o + i * 6 + 4, none⟩ = some (.int .i64 t.to) ∧ w.cell? ⟨b, o + i * 6 + 5, none⟩ = some (.int .i64 t.dw) := by
  obtain ⟨b, o, e, hb, hc⟩ := h.2 (by omega)
  have hl := h.tlen
  have hil : i < l.length := by omega
  have g : ∀ j, j < 6 → ∀ u, (l[i]).cells[j]? = some u → w.cell? ⟨b, o + i * 6 + j, none⟩ = some u := fun j hj u hu => by
    rw [Nat.add_assoc]; exact hc _ u (by rw [tgtCells_get l i hil j hj, hu])
  exact ⟨b, o, l[i], e, hb, List.getElem?_eq_getElem hil, g 0 (by omega) _ rfl, g 1 (by omega) _ rfl, g 2 (by omega) _ rfl, g 3 (by omega) _ rfl, g 4 (by omega) _ rfl, g 5 (by omega) _ rfl⟩
theorem tgtCells_take (l : List Tgt) (k : Nat) : (tgtCells l).take (k * 6) = tgtCells (l.take k) := by
  unfold tgtCells
  induction l generalizing k with
  | nil => simp
  | cons t l ih =>
    cases k with
    | zero => simp
    | succ k =>
      rw [List.take_succ_cons, List.flatMap_cons, List.flatMap_cons, ← ih k, List.take_append]
      have ht : t.cells.length = 6 := rfl
      rw [List.take_of_length_le (by omega), ht, show (k + 1) * 6 - 6 = k * 6 by omega]

def sameN (s : ByteArray) (t : Tgt) : Bool := decide (t.name = s)
/-- The error of a target behind others. -/
def nextErr (before : List Tgt) (t : Tgt) : Int := if tgtErr t ≠ 0 then tgtErr t else if before.any (sameN t.name) then 5 else 0

set_option maxRecDepth 100000 in
theorem next1_call (t x : Tgt) (vb : Nat) (b : Bool) (hb : sameN x.name t = b) (w : World) (hv : w.cell? ⟨vb, 0, none⟩ = some (.string x.name)) :
    Calls Try.prog 174 #[.agg #[.string t.name, .int .i64 t.az, .int .i64 t.ht, .int .i64 t.fr, .int .i64 t.to, .int .i64 t.dw], .pointer (some ⟨vb, 0, none⟩)] w fun e w' => e = .returned (.bool b) ∧ Below w.heap.size w w' := by
  have e : (t.name.toList == x.name.toList) = b := by
    rw [← hb]; unfold sameN
    by_cases h : t.name = x.name
    · rw [h]; simp
    · rw [beq_eq_false_iff_ne.2 (fun e => h (toList_inj e)), decide_eq_false h]
  have hvl : vb < w.heap.size := by
    rcases Nat.lt_or_ge vb w.heap.size with h | h
    · exact h
    · exfalso; simp [World.cell?, Array.getElem?_eq_none h] at hv
  clear hb
  go_enter Try.func174, Try.ntmps174
  go_wp2
  go_ret
  exact ⟨rfl, (Below.refl _ _).alloc (Nat.le_refl _) _⟩

set_option maxRecDepth 100000 in
theorem indextgt_any (A : Option Addr) (n c vb : Nat) (l : List Tgt) (x : Tgt) (w : World) (hx : Reads w w.heap.size 6 A n (tgtCells l)) (hn : n ≤ 9223372036854775807) (hv : w.cell? ⟨vb, 0, none⟩ = some (.string x.name)) (hvb : vb < w.heap.size) :
    Calls Try.prog 184 #[.slice A n c, .func (.func 174) #[] #[.pointer (some ⟨vb, 0, none⟩)]] w fun e w' => (∃ r : Int, e = .returned (.int .i64 r) ∧ (0 ≤ r ↔ l.any (sameN x.name) = true)) ∧ Below w.heap.size w w' := by
  have hxl := hx.tlen
  have HX := Lib.hid hx
  have HXL := Lib.hid hxl
  have hent : ∀ (args : Array Value) (w : World), (callFunc 174 args).run Try.prog w = .ok (.enter 174 args) w := fun _ _ => by kernel_rfl
  clear hx hxl
  go_enter Try.func184, Try.ntmps184
  go_wp2
  go_loopw [8] (fun i wr => ∃ q : Nat, q ≤ n ∧ i = .int .i64 q ∧ (l.take q).any (sameN x.name) = false ∧ Below w.heap.size w wr) (fun i _ => n - (intOf i).toNat)
  case atStart => exact ⟨0, by omega, rfl, by simp, Below.refl _ _⟩
  case round =>
    obtain ⟨q, hq, rfl, ht, hb⟩ := hrel
    have HT := Lib.hid ht
    have HB := Lib.hid hb
    have hbs := hb.size
    clear ht hb
    by_cases hlt : q < n
    · obtain ⟨xb, xo, t, rfl, hxb, hr, c0, c1, c2, c3, c4, c5⟩ := ((HX.out.below HB.out).more hbs).tgt hlt
      have fv := (HB.out.cell (p := ⟨vb, 0, none⟩) hvb).trans hv
      have HR := Lib.hid hr
      clear hr
      obtain ⟨b, hb⟩ : ∃ b, sameN x.name t = b := ⟨_, rfl⟩
      have HP := Lib.hid hb
      clear hb
      go_wp2_with fail
      refine (next1_call t x vb b HP.out _ fv).mono ?_
      rintro e w' ⟨rfl, hb⟩
      have HB2 := Lib.hid (HB.out.trans (hb.mono hbs))
      clear hb c0 c1 c2 c3 c4 c5
      cases b
      · go_wp2
        go_roundw
        case rel => exact ⟨q + 1, by omega, by go_num, any_takeT HR.out HT.out HP.out, HB2.out⟩
        case measure => simp [intOf]; omega
      · go_wp2
        go_ret
        refine ⟨⟨_, rfl, ?_⟩, HB2.out⟩
        have : l.any (sameN x.name) = true := List.any_eq_true.2 ⟨t, List.mem_of_getElem? HR.out, HP.out⟩
        simp [this]
    · go_wp2
      go_ret
      refine ⟨⟨_, rfl, ?_⟩, HB.out⟩
      have ht := HT.out
      rw [List.take_of_length_le (by rw [HXL.out]; omega)] at ht
      rw [ht]
      simp
where
  any_takeT {α : Type} {pr : α → Bool} {l : List α} {k : Nat} {z : α} (hz : l[k]? = some z) (h : (l.take k).any pr = false) (hp : pr z = false) : (l.take (k + 1)).any pr = false := by
    rw [List.take_add_one, hz]
    simp [List.any_append, h, hp]

theorem containstgt_is (A : Option Addr) (n c vb : Nat) (l : List Tgt) (x : Tgt) (b : Bool) (hb : l.any (sameN x.name) = b) (w : World) (hx : Reads w w.heap.size 6 A n (tgtCells l)) (hn : n ≤ 9223372036854775807) (hv : w.cell? ⟨vb, 0, none⟩ = some (.string x.name)) (hvb : vb < w.heap.size) :
    Calls Try.prog 173 #[.slice A n c, .func (.func 174) #[] #[.pointer (some ⟨vb, 0, none⟩)]] w fun e w' => e = .returned (.bool b) ∧ Below w.heap.size w w' := by
  have HX := Lib.hid hx
  have HT := Lib.hid hb
  have HI := Lib.hid (indextgt_any A n c vb l x)
  have HV := Lib.hid hv
  clear hx hb hv
  go_enter Try.func173, Try.ntmps173
  go_wp2_with fail
  refine (HI.out w HX.out hn HV.out hvb).mono ?_
  rintro e w1 ⟨⟨r, rfl, hr⟩, hb⟩
  have HR := Lib.hid hr
  have HB := Lib.hid hb
  clear hr hb
  cases b with
  | false =>
    have h : ¬ 0 ≤ r := fun h => by have := HR.out.1 h; rw [HT.out] at this; cases this
    have h' : r < 0 := by omega
    go_wp2
    go_ret
    exact ⟨by first | rfl | (simp; done) | (simp; omega), HB.out⟩
  | true =>
    have h := HR.out.2 HT.out
    go_wp2
    go_ret
    exact ⟨by first | rfl | (simp; done) | (simp; omega), HB.out⟩

set_option maxRecDepth 100000 in
set_option maxHeartbeats 2000000 in
theorem pnext_is (A : Option Addr) (n c : Nat) (l : List Tgt) (t : Tgt) (E : Int) (hE : nextErr l t = E) (w : World) (hx : Reads w w.heap.size 6 A n (tgtCells l)) (hn : n ≤ 9223372036854775807) (hs : t.name.size ≤ maxLen) :
    Calls Try.prog 145 #[.slice A n c, t.val] w fun e w' => e = .returned (.int .i64 E) ∧ Below w.heap.size w w' := by
  have hmf : ∀ (fn : Fn) (first cap : Array Value) (w : World), (Instr.makeFunc fn first cap).run Try.prog w = .ok (.func fn first cap) w := fun _ _ _ _ => rfl
  obtain ⟨e1, he1⟩ : ∃ z, tgtErr t = z := ⟨_, rfl⟩
  unfold nextErr at hE
  rw [he1] at hE
  have H1 := Lib.hid he1
  unfold Tgt.val
  by_cases h0 : e1 = 0
  · rw [if_neg (by simp [h0])] at hE
    subst h0
    obtain ⟨b, hb⟩ : ∃ b, l.any (sameN t.name) = b := ⟨_, rfl⟩
    rw [hb] at hE
    have H2 := Lib.hid hb
    cases b with
    | false =>
      rw [if_neg (by simp)] at hE
      subst hE
      clear he1 hb
      go_enter Try.func145, Try.ntmps145
      have R0_0 := Lib.hid hx
      clear hx
      go_wp2_with fail
      refine (ptarget_is t 0 H1.out _ hs).mono ?_
      rintro e w1 ⟨rfl, hb⟩
      have HB1 := Lib.hid (show Below w.heap.size w w1 from step_below hb (by repeat' (first | exact Below.refl _ _ | exact HB0.out | refine below_drewN ?_ _ | refine Below.drew ?_ | refine Below.alloc ?_ (by first | omega | (simp; done) | (simp; omega) | (simp [World.setCell]; omega)) _ | refine Below.setCell ?_ (by first | omega | (simp; done) | (simp; omega)) _ | assumption)))
      have K0_1 := Lib.hid (step_blk hb (show Blk _ (w.heap.size) 75 #[.string t.name, .int .i64 (t.az), .int .i64 (t.ht), .int .i64 (t.fr), .int .i64 (t.to), .int .i64 (t.dw)] by repeat' (first | exact Blk.at_ _ (by first | rfl | (simp; done) | (simp; omega)) _ _ | refine Blk.drewN ?_ _ | refine Blk.drew ?_ | refine Blk.alloc ?_ _ | refine Blk.far ?_ (by first | omega | (simp; done) | (simp; omega)) _ | assumption)))
      have hL1 := Lib.hid (show Below w.heap.size w _ from reads_mid hb (by repeat' (first | exact Below.refl _ _ | refine below_drewN ?_ _ | refine Below.drew ?_ | refine Below.alloc ?_ (by first | omega | (simp; done) | (simp; omega) | (simp [World.setCell]; omega)) _ | refine Below.setCell ?_ (by first | omega | (simp; done) | (simp; omega)) _)))
      have R0_1 := Lib.hid (reads_lay hb hL1.out R0_0.out)
      clear hL1 R0_0
      have hz1 := hb.size
      try simp only [World.size_alloc, World.drewN, World.drew] at hz1
      clear hb
      have l0_1 : w.heap.size < w1.heap.size := K0_1.out.lt
      have z0_0_1 : w1.cell? ⟨w.heap.size, 0, none⟩ = some (.string t.name) := K0_1.out.cell 0
      have z0_1_1 : w1.cell? ⟨w.heap.size, 1, none⟩ = some (.int .i64 (t.az)) := K0_1.out.cell 1
      have z0_2_1 : w1.cell? ⟨w.heap.size, 2, none⟩ = some (.int .i64 (t.ht)) := K0_1.out.cell 2
      have z0_3_1 : w1.cell? ⟨w.heap.size, 3, none⟩ = some (.int .i64 (t.fr)) := K0_1.out.cell 3
      have z0_4_1 : w1.cell? ⟨w.heap.size, 4, none⟩ = some (.int .i64 (t.to)) := K0_1.out.cell 4
      have z0_5_1 : w1.cell? ⟨w.heap.size, 5, none⟩ = some (.int .i64 (t.dw)) := K0_1.out.cell 5
      go_wp2_with fail
      refine (containstgt_is A n c w.heap.size l t false H2.out _ R0_1.out hn z0_0_1 l0_1).mono ?_
      rintro e w2 ⟨rfl, hb⟩
      have HB2 := Lib.hid (show Below w.heap.size w w2 from step_below hb (by repeat' (first | exact Below.refl _ _ | exact HB1.out | refine below_drewN ?_ _ | refine Below.drew ?_ | refine Below.alloc ?_ (by first | omega | (simp; done) | (simp; omega) | (simp [World.setCell]; omega)) _ | refine Below.setCell ?_ (by first | omega | (simp; done) | (simp; omega)) _ | assumption)))
      have K0_2 := Lib.hid (step_blk hb (show Blk _ (w.heap.size) 75 #[.string t.name, .int .i64 (t.az), .int .i64 (t.ht), .int .i64 (t.fr), .int .i64 (t.to), .int .i64 (t.dw)] by repeat' (first | exact K0_1.out | exact Blk.at_ _ (by first | rfl | (simp; done) | (simp; omega)) _ _ | refine Blk.drewN ?_ _ | refine Blk.drew ?_ | refine Blk.alloc ?_ _ | refine Blk.far ?_ (by first | omega | (simp; done) | (simp; omega)) _ | assumption)))
      have hL2 := Lib.hid (show Below w1.heap.size w1 _ from reads_mid hb (by repeat' (first | exact Below.refl _ _ | refine below_drewN ?_ _ | refine Below.drew ?_ | refine Below.alloc ?_ (by first | omega | (simp; done) | (simp; omega) | (simp [World.setCell]; omega)) _ | refine Below.setCell ?_ (by first | omega | (simp; done) | (simp; omega)) _)))
      have R0_2 := Lib.hid (reads_lay hb hL2.out R0_1.out)
      clear hL2 R0_1
      have hz2 := hb.size
      try simp only [World.size_alloc, World.drewN, World.drew] at hz2
      clear hb K0_1 z0_0_1 z0_1_1 z0_2_1 z0_3_1 z0_4_1 z0_5_1 l0_1
      have l0_2 : w.heap.size < w2.heap.size := K0_2.out.lt
      have z0_0_2 : w2.cell? ⟨w.heap.size, 0, none⟩ = some (.string t.name) := K0_2.out.cell 0
      have z0_1_2 : w2.cell? ⟨w.heap.size, 1, none⟩ = some (.int .i64 (t.az)) := K0_2.out.cell 1
      have z0_2_2 : w2.cell? ⟨w.heap.size, 2, none⟩ = some (.int .i64 (t.ht)) := K0_2.out.cell 2
      have z0_3_2 : w2.cell? ⟨w.heap.size, 3, none⟩ = some (.int .i64 (t.fr)) := K0_2.out.cell 3
      have z0_4_2 : w2.cell? ⟨w.heap.size, 4, none⟩ = some (.int .i64 (t.to)) := K0_2.out.cell 4
      have z0_5_2 : w2.cell? ⟨w.heap.size, 5, none⟩ = some (.int .i64 (t.dw)) := K0_2.out.cell 5
      go_wp2
      go_ret
      exact ⟨rfl, HB2.out⟩
    | true =>
      rw [if_pos rfl] at hE
      subst hE
      clear he1 hb
      go_enter Try.func145, Try.ntmps145
      have R0_0 := Lib.hid hx
      clear hx
      go_wp2_with fail
      refine (ptarget_is t 0 H1.out _ hs).mono ?_
      rintro e w1 ⟨rfl, hb⟩
      have HB1 := Lib.hid (show Below w.heap.size w w1 from step_below hb (by repeat' (first | exact Below.refl _ _ | exact HB0.out | refine below_drewN ?_ _ | refine Below.drew ?_ | refine Below.alloc ?_ (by first | omega | (simp; done) | (simp; omega) | (simp [World.setCell]; omega)) _ | refine Below.setCell ?_ (by first | omega | (simp; done) | (simp; omega)) _ | assumption)))
      have K0_1 := Lib.hid (step_blk hb (show Blk _ (w.heap.size) 75 #[.string t.name, .int .i64 (t.az), .int .i64 (t.ht), .int .i64 (t.fr), .int .i64 (t.to), .int .i64 (t.dw)] by repeat' (first | exact Blk.at_ _ (by first | rfl | (simp; done) | (simp; omega)) _ _ | refine Blk.drewN ?_ _ | refine Blk.drew ?_ | refine Blk.alloc ?_ _ | refine Blk.far ?_ (by first | omega | (simp; done) | (simp; omega)) _ | assumption)))
      have hL1 := Lib.hid (show Below w.heap.size w _ from reads_mid hb (by repeat' (first | exact Below.refl _ _ | refine below_drewN ?_ _ | refine Below.drew ?_ | refine Below.alloc ?_ (by first | omega | (simp; done) | (simp; omega) | (simp [World.setCell]; omega)) _ | refine Below.setCell ?_ (by first | omega | (simp; done) | (simp; omega)) _)))
      have R0_1 := Lib.hid (reads_lay hb hL1.out R0_0.out)
      clear hL1 R0_0
      have hz1 := hb.size
      try simp only [World.size_alloc, World.drewN, World.drew] at hz1
      clear hb
      have l0_1 : w.heap.size < w1.heap.size := K0_1.out.lt
      have z0_0_1 : w1.cell? ⟨w.heap.size, 0, none⟩ = some (.string t.name) := K0_1.out.cell 0
      have z0_1_1 : w1.cell? ⟨w.heap.size, 1, none⟩ = some (.int .i64 (t.az)) := K0_1.out.cell 1
      have z0_2_1 : w1.cell? ⟨w.heap.size, 2, none⟩ = some (.int .i64 (t.ht)) := K0_1.out.cell 2
      have z0_3_1 : w1.cell? ⟨w.heap.size, 3, none⟩ = some (.int .i64 (t.fr)) := K0_1.out.cell 3
      have z0_4_1 : w1.cell? ⟨w.heap.size, 4, none⟩ = some (.int .i64 (t.to)) := K0_1.out.cell 4
      have z0_5_1 : w1.cell? ⟨w.heap.size, 5, none⟩ = some (.int .i64 (t.dw)) := K0_1.out.cell 5
      go_wp2_with fail
      refine (containstgt_is A n c w.heap.size l t true H2.out _ R0_1.out hn z0_0_1 l0_1).mono ?_
      rintro e w2 ⟨rfl, hb⟩
      have HB2 := Lib.hid (show Below w.heap.size w w2 from step_below hb (by repeat' (first | exact Below.refl _ _ | exact HB1.out | refine below_drewN ?_ _ | refine Below.drew ?_ | refine Below.alloc ?_ (by first | omega | (simp; done) | (simp; omega) | (simp [World.setCell]; omega)) _ | refine Below.setCell ?_ (by first | omega | (simp; done) | (simp; omega)) _ | assumption)))
      have K0_2 := Lib.hid (step_blk hb (show Blk _ (w.heap.size) 75 #[.string t.name, .int .i64 (t.az), .int .i64 (t.ht), .int .i64 (t.fr), .int .i64 (t.to), .int .i64 (t.dw)] by repeat' (first | exact K0_1.out | exact Blk.at_ _ (by first | rfl | (simp; done) | (simp; omega)) _ _ | refine Blk.drewN ?_ _ | refine Blk.drew ?_ | refine Blk.alloc ?_ _ | refine Blk.far ?_ (by first | omega | (simp; done) | (simp; omega)) _ | assumption)))
      have hL2 := Lib.hid (show Below w1.heap.size w1 _ from reads_mid hb (by repeat' (first | exact Below.refl _ _ | refine below_drewN ?_ _ | refine Below.drew ?_ | refine Below.alloc ?_ (by first | omega | (simp; done) | (simp; omega) | (simp [World.setCell]; omega)) _ | refine Below.setCell ?_ (by first | omega | (simp; done) | (simp; omega)) _)))
      have R0_2 := Lib.hid (reads_lay hb hL2.out R0_1.out)
      clear hL2 R0_1
      have hz2 := hb.size
      try simp only [World.size_alloc, World.drewN, World.drew] at hz2
      clear hb K0_1 z0_0_1 z0_1_1 z0_2_1 z0_3_1 z0_4_1 z0_5_1 l0_1
      have l0_2 : w.heap.size < w2.heap.size := K0_2.out.lt
      have z0_0_2 : w2.cell? ⟨w.heap.size, 0, none⟩ = some (.string t.name) := K0_2.out.cell 0
      have z0_1_2 : w2.cell? ⟨w.heap.size, 1, none⟩ = some (.int .i64 (t.az)) := K0_2.out.cell 1
      have z0_2_2 : w2.cell? ⟨w.heap.size, 2, none⟩ = some (.int .i64 (t.ht)) := K0_2.out.cell 2
      have z0_3_2 : w2.cell? ⟨w.heap.size, 3, none⟩ = some (.int .i64 (t.fr)) := K0_2.out.cell 3
      have z0_4_2 : w2.cell? ⟨w.heap.size, 4, none⟩ = some (.int .i64 (t.to)) := K0_2.out.cell 4
      have z0_5_2 : w2.cell? ⟨w.heap.size, 5, none⟩ = some (.int .i64 (t.dw)) := K0_2.out.cell 5
      go_wp2
      go_ret
      exact ⟨rfl, HB2.out⟩
  · rw [if_pos h0] at hE
    subst hE
    have e1' : (e1 != 0) = true := by simpa using h0
    clear he1 hx
    go_enter Try.func145, Try.ntmps145
    go_wp2_with fail
    refine (ptarget_is t e1 H1.out _ hs).mono ?_
    rintro e w1 ⟨rfl, hb⟩
    have HB1 := Lib.hid (show Below w.heap.size w w1 from step_below hb (by repeat' (first | exact Below.refl _ _ | exact HB0.out | refine below_drewN ?_ _ | refine Below.drew ?_ | refine Below.alloc ?_ (by first | omega | (simp; done) | (simp; omega) | (simp [World.setCell]; omega)) _ | refine Below.setCell ?_ (by first | omega | (simp; done) | (simp; omega)) _ | assumption)))
    have K0_1 := Lib.hid (step_blk hb (show Blk _ (w.heap.size) 75 #[.string t.name, .int .i64 (t.az), .int .i64 (t.ht), .int .i64 (t.fr), .int .i64 (t.to), .int .i64 (t.dw)] by repeat' (first | exact Blk.at_ _ (by first | rfl | (simp; done) | (simp; omega)) _ _ | refine Blk.drewN ?_ _ | refine Blk.drew ?_ | refine Blk.alloc ?_ _ | refine Blk.far ?_ (by first | omega | (simp; done) | (simp; omega)) _ | assumption)))
    have hz1 := hb.size
    try simp only [World.size_alloc, World.drewN, World.drew] at hz1
    clear hb
    have l0_1 : w.heap.size < w1.heap.size := K0_1.out.lt
    have z0_0_1 : w1.cell? ⟨w.heap.size, 0, none⟩ = some (.string t.name) := K0_1.out.cell 0
    have z0_1_1 : w1.cell? ⟨w.heap.size, 1, none⟩ = some (.int .i64 (t.az)) := K0_1.out.cell 1
    have z0_2_1 : w1.cell? ⟨w.heap.size, 2, none⟩ = some (.int .i64 (t.ht)) := K0_1.out.cell 2
    have z0_3_1 : w1.cell? ⟨w.heap.size, 3, none⟩ = some (.int .i64 (t.fr)) := K0_1.out.cell 3
    have z0_4_1 : w1.cell? ⟨w.heap.size, 4, none⟩ = some (.int .i64 (t.to)) := K0_1.out.cell 4
    have z0_5_1 : w1.cell? ⟨w.heap.size, 5, none⟩ = some (.int .i64 (t.dw)) := K0_1.out.cell 5
    go_wp2
    go_ret
    exact ⟨rfl, HB1.out⟩

end Go.Proofs.Ytdidcpealabaiaa

end

section
/- The class of worlds of a region whose order is left open, in which one list is appended to and the new list is stored into a cell: 's.f = append(s.f, x)'. -/
namespace Go.Proofs.Ytdidcpealabaiaa
open Go Go.RowKit

def rowL (g : Option Pick) (xs us : List Value) : List Value := match g with | some _ => xs ++ us | none => xs

/-- The list is appended to by operation pa, whose element us lies in memory that operation sb makes; operation st stores it into cell ix of block fb. -/
structure As (B : Nat) (e : TypeId) (sz : Nat) (va : Value) (n : Nat) (xs us : List Value) (sb pa st : Nat) (fb : Nat) (ft : TypeId) (cs : Array Value) (ix : Nat) (W : World) (g : Nat → Option Pick) (f : Nat → Bool) (w' : World) : Prop where
  os : w'.os = W.os
  tape : w'.tape = W.tape
  output : w'.output = W.output
  size : W.heap.size ≤ w'.heap.size
  keep : ∀ i, i < W.heap.size → va.ownBlock ≠ some i → i ≠ fb → w'.heap[i]? = W.heap[i]?
  fld : f st = false → Blk w' fb ft cs
  fld' : f st = true → Blk w' fb ft (cs.setIfInBounds ix (rowV (g pa) va n))
  own : w'.ownsRow B e sz (rowV (g pa) va n) (rowN (g pa) n) (rowL (g pa) xs us)
  ownf : (rowV (g pa) va n).ownBlock ≠ some fb
  flt : fb < W.heap.size
  lit : ∀ x, g sb = some x → g pa = none → ∃ b, x.1 = some ⟨b, 0, none⟩ ∧ W.heap.size ≤ b ∧ Blk w' b e us.toArray ∧ va.ownBlock ≠ some b

section
variable {B : Nat} {e : TypeId} {sz : Nat} {va : Value} {n : Nat} {xs us : List Value} {sb pa st : Nat} {fb : Nat} {ft : TypeId} {cs : Array Value} {ix : Nat} {W w' w'' : World} {g : Nat → Option Pick} {f : Nat → Bool}

theorem As.start (ho : W.ownsRow B e sz va n xs) (hf : Blk W fb ft cs) (hne : va.ownBlock ≠ some fb) (h0 : f st = false) (k : Nat) : As B e sz va n xs us sb pa st fb ft cs ix W (fun _ => none) f (W.drewN k) :=
  ⟨rfl, rfl, rfl, Nat.le_refl _, fun _ _ _ _ => rfl, fun _ => hf, fun h => (by rw [h0] at h; cases h), ho, hne, hf.lt, fun x h => by cases h⟩
theorem As.same {k : Nat} (h : As B e sz va n xs us sb pa st fb ft cs ix W g f w') (hk : k ≠ st) : As B e sz va n xs us sb pa st fb ft cs ix W g (Fx.add f k) w' :=
  ⟨h.os, h.tape, h.output, h.size, h.keep, fun q => h.fld (by rwa [add_ne' hk] at q), fun q => h.fld' (by rwa [add_ne' hk] at q), h.own, h.ownf, h.flt, h.lit⟩
theorem As.call {k : Nat} (h : As B e sz va n xs us sb pa st fb ft cs ix W g f w') (hb : Below w'.heap.size w' w'') (hk : k ≠ st) : As B e sz va n xs us sb pa st fb ft cs ix W g (Fx.add f k) w'' := by
  have hbl : ∀ i, i < w'.heap.size → w''.heap[i]? = w'.heap[i]? := fun i hi => hb.block i hi
  refine ⟨hb.os.trans h.os, hb.tape.trans h.tape, hb.output.trans h.output, Nat.le_trans h.size hb.size, fun i hi k1 k2 => (hbl i (Nat.lt_of_lt_of_le hi h.size)).trans (h.keep i hi k1 k2), fun q => ?_, fun q => ?_, own_below h.own hb (Nat.le_refl _), h.ownf, h.flt, fun x hx hn => ?_⟩
  · rw [add_ne' hk] at q; exact step_blk' hb (h.fld q)
  · rw [add_ne' hk] at q; exact step_blk' hb (h.fld' q)
  · obtain ⟨b, h1, h2, h3, h4⟩ := h.lit x hx hn
    exact ⟨b, h1, h2, step_blk' hb h3, h4⟩
where
  step_blk' {q : Nat} {t : TypeId} {c : Array Value} {w1 w2 : World} (hb : Below w1.heap.size w1 w2) (h : Blk w1 q t c) : Blk w2 q t c := h.below hb h.lt
theorem As.mk_lit (h : As B e sz va n xs us sb pa st fb ft cs ix W g f w') (h1 : pa ≠ sb) (h2 : sb ≠ st) :
    As B e sz va n xs us sb pa st fb ft cs ix W (Fx.upd g sb (some ⟨w'.heap.size, 0, none⟩, 0)) (Fx.add f sb) (w'.alloc (.cells us.toArray e)) := by
  have e1 : Fx.upd g sb (some ⟨w'.heap.size, 0, none⟩, 0) pa = g pa := upd_ne h1
  refine ⟨h.os, h.tape, h.output, Nat.le_trans h.size (by simp), fun i hi k1 k2 => (Below.heap_alloc w' _ i (Nat.lt_of_lt_of_le hi h.size)).trans (h.keep i hi k1 k2), fun q => ?_, fun q => ?_, ?_, ?_, h.flt, fun x hx hn => ?_⟩
  · rw [add_ne' h2] at q; exact (h.fld q).alloc _
  · rw [add_ne' h2] at q; rw [e1]; exact (h.fld' q).alloc _
  · rw [e1]; exact h.own.alloc _
  · rw [e1]; exact h.ownf
  · rw [Fx.upd_same] at hx
    cases hx
    rw [e1] at hn
    have ho := h.own
    simp only [hn, rowV, rowN, rowL] at ho
    exact ⟨w'.heap.size, rfl, h.size, Blk.new _ _ _, fun hq => by have := (own_lt ho hq).2; omega⟩
theorem As.app {P : Program} {t ty : TypeId} {z : Value} {bytes c : Nat} (h : As B e sz va n xs us sb pa st fb ft cs ix W g f w') (ht : P.underlying t = some (.slice e)) (hi : (P.info? e).map (fun i => (i.zero, i.size, i.bytes)) = some (some z, sz, bytes)) (hzs : z.cells.size = sz) (hsz : 0 < sz) (hu : ∀ x ∈ us, x.oneCell' = true) (hul : us.length = sz)
    (hB : B ≤ W.heap.size) (hn : n + 1 ≤ maxLen) (hby : (n + 1) * bytes ≤ 140737488355328) {x : Pick} (hx : g sb = some x) (hp : g pa = none) (h1 : sb ≠ pa) (h2 : pa ≠ st) (hst : f st = false) :
    ∃ (y : Pick) (w2 : World), (Builtin.append_ #[t, t] ty #[va, .slice x.1 1 c]).run P w' = .ok (.slice y.1 (n + 1) y.2) w2 ∧ As B e sz va n xs us sb pa st fb ft cs ix W (Fx.upd g pa y) (Fx.add f pa) w2 := by
  obtain ⟨b, hb, hle, hk, q1⟩ := h.lit x hx hp
  have ho := h.own
  have hof := h.ownf
  simp only [hp, rowV, rowN, rowL] at ho hof
  obtain ⟨i0, hi0, hz0, hz1, hz2⟩ := info_parts hi
  obtain ⟨v', w2, hrun, ho2, hg, hrow⟩ := run_append_any (P := P) w' B t ty e i0 z sz bytes ht hi0 hz0 hz1 hz2 hzs hsz va n xs ho w'.heap.size x.1 1 c us (by rw [hb]; exact Blk.reads hk (by omega)) hu hn hby (Nat.le_trans hB h.size)
  obtain ⟨A', c', rfl, -⟩ := own_reads ho2
  have e3 : Fx.upd g pa (A', c') pa = some (A', c') := Fx.upd_same
  have hbl : ∀ i, va.ownBlock ≠ some i → i < w'.heap.size → w2.heap[i]? = w'.heap[i]? := fun i hne hlt => hg.block i hlt (fun e => hne e.symm)
  have hflt : fb < w'.heap.size := Nat.lt_of_lt_of_le h.flt h.size
  refine ⟨(A', c'), w2, hrun, hg.os.trans h.os, hg.tape.trans h.tape, hg.output.trans h.output, Nat.le_trans h.size hg.size, fun i hi k1 k2 => (hbl i k1 (Nat.lt_of_lt_of_le hi h.size)).trans (h.keep i hi k1 k2), fun _ => (hbl fb hof hflt).trans (h.fld hst), fun q => ?_, ?_, ?_, h.flt, fun y _ hn => ?_⟩
  · rw [add_ne' (Ne.symm (Ne.symm h2)), hst] at q; cases q
  · rw [e3]; exact ho2
  · rw [e3]
    show (Value.slice A' (n + 1) c').ownBlock ≠ some fb
    rcases hrow with e | e
    · rw [e]; exact hof
    · rw [e]; intro q; have := Option.some.inj q; omega
  · rw [e3] at hn; cases hn
theorem As.store {y : Pick} (h : As B e sz va n xs us sb pa st fb ft cs ix W g f w') (hy : g pa = some y) (hst : f st = false) : As B e sz va n xs us sb pa st fb ft cs ix W g (Fx.add f st) (w'.setCell ⟨fb, ix, none⟩ (.slice y.1 (n + 1) y.2)) := by
  have hk := h.fld hst
  have ho := h.own
  have hof := h.ownf
  refine ⟨h.os, h.tape, h.output, by simpa [World.setCell] using h.size, fun i hi k1 k2 => (Below.heap_setCell w' _ _ i k2).trans (h.keep i hi k1 k2), fun q => (by rw [add_same] at q; cases q), fun _ => ?_, own_set ho hof _, hof, h.flt, fun x hx hn => (by rw [hy] at hn; cases hn)⟩
  rw [hy]
  exact hk.set_ ix _
theorem As.cell (h : As B e sz va n xs us sb pa st fb ft cs ix W g f w') (hst : f st = false) (j : Nat) : w'.cell? ⟨fb, j, none⟩ = cs[j]? ∧ w'.frozen? ⟨fb, j, none⟩ = false := ⟨(h.fld hst).cell j, (h.fld hst).frozen j⟩
theorem As.blk (h : As B e sz va n xs us sb pa st fb ft cs ix W g f w') {q : Nat} {t : TypeId} {c : Array Value} (hq : Blk W q t c) (h1 : va.ownBlock ≠ some q) (h2 : q ≠ fb) : Blk w' q t c := (h.keep q hq.lt h1 h2).trans hq
/-- All below a bound is as it was, if the list and the cell lie behind it. -/
theorem As.below {N : Nat} (h : As B e sz va n xs us sb pa st fb ft cs ix W g f w') (hA : ∀ q, va.ownBlock = some q → N ≤ q) (hf : N ≤ fb) (hle : N ≤ W.heap.size) : Below N W w' :=
  ⟨h.os, h.tape, h.output, h.size, fun i hi => h.keep i (by omega) (fun e => by have := hA i e; omega) (by omega)⟩
theorem As.ends {y : Pick} (h : As B e sz va n xs us sb pa st fb ft cs ix W g f w') (hy : g pa = some y) (hst : f st = true) :
    w'.ownsRow B e sz (.slice y.1 (n + 1) y.2) (n + 1) (xs ++ us) ∧ Blk w' fb ft (cs.setIfInBounds ix (.slice y.1 (n + 1) y.2)) := by
  have h1 := h.own
  have h2 := h.fld' hst
  simp only [hy, rowV, rowN, rowL] at h1 h2
  exact ⟨h1, h2⟩
end

end Go.Proofs.Ytdidcpealabaiaa

end
