import Derived.Test.YtclnffpfbngjoaaQ4

section
/- Contracts of the small functions of the package of pointing: bounds of lists, the greatest common divisor, rounding, the first error. -/
namespace Go.Proofs.Ytclnffpfbngjoaa
open Go Go.RowKit

theorem floorpt_any (a b : Int) (w : World) (h1 : -4000000000000000000 ≤ a) (h2 : a ≤ 4000000000000000000) (h3 : 1 ≤ b) (h4 : b ≤ 9223372036854775807) :
    Calls Try.prog 66 #[.int .i64 a, .int .i64 b] w fun e w' => e = .returned (.int .i64 (a / b)) ∧ w = w' := by
  have b0 : ¬ b = 0 := by omega
  have he := floor_eq (a := a) h3
  obtain ⟨f1, f2, f3, f4⟩ := floor_in (a := a) h3 h1 h2
  have hm := tmod_in a b (by omega) h4 b0
  obtain ⟨q, hq⟩ : ∃ q, a.tdiv b = q := ⟨_, rfl⟩
  obtain ⟨r, hr⟩ : ∃ r, a.tmod b = r := ⟨_, rfl⟩
  rw [hq] at f3 f4 he
  rw [hr] at he hm
  have v1 := IntWalk.i64_in q ⟨by omega, by omega⟩
  have v2 := IntWalk.i64_in (q - 1) ⟨by omega, by omega⟩
  have v3 := IntWalk.i64_in r hm
  have HE := Lib.hid he
  clear he
  by_cases hneg : r < 0
  · have hv : a / b = q - 1 := by rw [← HE.out, if_pos hneg]
    have HV := Lib.hid hv
    clear hv
    go_enter Try.func66, Try.ntmps66
    go_wp2
    go_ret
    exact ⟨ret_int HV.out.symm, rfl⟩
  · have hv : a / b = q := by rw [← HE.out, if_neg hneg]
    have HV := Lib.hid hv
    clear hv
    go_enter Try.func66, Try.ntmps66
    go_wp2
    go_ret
    exact ⟨ret_int HV.out.symm, rfl⟩

theorem ceilpt_any (a b : Int) (w : World) (h1 : -4000000000000000000 ≤ a) (h2 : a ≤ 4000000000000000000) (h3 : 1 ≤ b) (h4 : b ≤ 9223372036854775807) :
    Calls Try.prog 72 #[.int .i64 a, .int .i64 b] w fun e w' => e = .returned (.int .i64 (-((-a) / b))) ∧ w = w' := by
  obtain ⟨f1, f2, f3, f4⟩ := floor_in (a := -a) h3 (by omega) (by omega)
  have v1 := IntWalk.i64_in (-a) ⟨by omega, by omega⟩
  obtain ⟨q, hq⟩ : ∃ q, (-a) / b = q := ⟨_, rfl⟩
  have HQ := Lib.hid hq
  rw [hq] at f1 f2
  rw [hq]
  clear hq
  have v2 := IntWalk.i64_in (-q) ⟨by omega, by omega⟩
  go_enter Try.func72, Try.ntmps72
  go_wp2_with fail
  refine (floorpt_any (-a) b _ (by omega) (by omega) h3 h4).mono ?_
  rintro e w' ⟨rfl, rfl⟩
  rw [HQ.out]
  go_wp2
  go_ret
  exact ⟨rfl, rfl⟩

/-- A function value that has captured a pointer and asks something of a number, and changes nothing. -/
structure AsksP (k : FuncId) (vb : Nat) (pr : Int → Bool) (P : World → Prop) : Prop where
  ent : ∀ (args : Array Value) (w : World), (callFunc k args).run Try.prog w = .ok (.enter k args) w
  call : ∀ (z : Int) (t : Bool) (w : World), pr z = t → P w → Calls Try.prog k #[.int .i64 z, .pointer (some ⟨vb, 0, none⟩)] w fun e w' => e = .returned (.bool t) ∧ w = w'

set_option maxRecDepth 100000 in
theorem indexfuncP_any (k : FuncId) (vb : Nat) (pr : Int → Bool) (P : World → Prop) (hk : AsksP k vb pr P) (A : Option Addr) (n c N : Nat) (l : List Int) (w : World) (hP : ∀ wr, Below w.heap.size w wr → P wr) (hx : Reads w N 1 A n (l.map (.int .i64))) (hN : N ≤ w.heap.size) (hn : n ≤ 9223372036854775807) :
    Calls Try.prog 81 #[.slice A n c, .func (.func k) #[] #[.pointer (some ⟨vb, 0, none⟩)]] w fun e w' => (∃ r : Int, e = .returned (.int .i64 r) ∧ (0 ≤ r ↔ l.any pr = true)) ∧ Below w.heap.size w w' := by
  have hxl : l.length = n := by have := hx.1; simpa using this
  have HX := Lib.hid hx
  have HXL := Lib.hid hxl
  have hent := hk.ent
  have HK := Lib.hid hk
  have HP := Lib.hid hP
  clear hx hxl hk hP
  go_enter Try.func81, Try.ntmps81
  go_wp2
  go_loopw [8] (fun i wr => ∃ q : Nat, q ≤ n ∧ i = .int .i64 q ∧ (l.take q).any pr = false ∧ Below w.heap.size w wr) (fun i _ => n - (intOf i).toNat)
  case atStart => exact ⟨0, by omega, rfl, by simp, Below.refl _ _⟩
  case round =>
    obtain ⟨q, hq, rfl, ht, hb⟩ := hrel
    have HT := Lib.hid ht
    have HB := Lib.hid hb
    clear ht hb
    by_cases hlt : q < n
    · obtain ⟨xb, xo, u, rfl, hxb, hu, c0⟩ := (HX.out.belowLe HB.out hN).at_ hlt
      obtain ⟨z, hz, rfl⟩ : ∃ z, l[q]? = some z ∧ .int .i64 z = u := by
        rw [List.getElem?_map] at hu
        cases h : l[q]? with
        | none => rw [h] at hu; cases hu
        | some t => rw [h] at hu; exact ⟨t, rfl, Option.some.inj hu⟩
      have HZ := Lib.hid hz
      clear hu hz
      cases hp : pr z with
      | false =>
        have HPR := Lib.hid hp
        clear hp
        go_wp2_with fail
        refine (HK.out.call z false _ HPR.out (HP.out _ HB.out)).mono ?_
        rintro e w' ⟨rfl, rfl⟩
        go_wp2
        go_roundw
        case rel => exact ⟨q + 1, by omega, by go_num, any_take HZ.out HT.out HPR.out, HB.out⟩
        case measure => simp [intOf]; omega
      | true =>
        have HPR := Lib.hid hp
        clear hp
        go_wp2_with fail
        refine (HK.out.call z true _ HPR.out (HP.out _ HB.out)).mono ?_
        rintro e w' ⟨rfl, rfl⟩
        go_wp2
        go_ret
        refine ⟨⟨_, rfl, ?_⟩, HB.out⟩
        have : l.any pr = true := List.any_eq_true.2 ⟨z, List.mem_of_getElem? HZ.out, HPR.out⟩
        simp [this]
    · go_wp2
      go_ret
      refine ⟨⟨_, rfl, ?_⟩, HB.out⟩
      have ht := HT.out
      rw [List.take_of_length_le (by rw [HXL.out]; omega)] at ht
      rw [ht]
      simp

theorem containsfuncP_any (k : FuncId) (vb : Nat) (pr : Int → Bool) (P : World → Prop) (hk : AsksP k vb pr P) (A : Option Addr) (n c N : Nat) (l : List Int) (w : World) (hP : ∀ wr, Below w.heap.size w wr → P wr) (hx : Reads w N 1 A n (l.map (.int .i64))) (hN : N ≤ w.heap.size) (hn : n ≤ 9223372036854775807) (t : Bool) (ht : l.any pr = t) :
    Calls Try.prog 60 #[.slice A n c, .func (.func k) #[] #[.pointer (some ⟨vb, 0, none⟩)]] w fun e w' => e = .returned (.bool t) ∧ Below w.heap.size w w' := by
  have HX := Lib.hid hx
  have HT := Lib.hid ht
  have HI := Lib.hid (indexfuncP_any k vb pr P hk A n c N l)
  have HP := Lib.hid hP
  clear hx ht hP
  go_enter Try.func60, Try.ntmps60
  go_wp2_with fail
  refine (HI.out w HP.out HX.out hN hn).mono ?_
  rintro e w1 ⟨⟨r, rfl, hr⟩, hb⟩
  have HR := Lib.hid hr
  have HB := Lib.hid hb
  clear hr hb
  cases t with
  | false =>
    have h : ¬ 0 ≤ r := fun h => by have := HR.out.1 h; rw [HT.out] at this; cases this
    have h' : r < 0 := by omega
    go_wp2
    go_ret
    exact ⟨by first | rfl | (simp; done) | (simp; omega), HB.out⟩
  | true =>
    have h := HR.out.2 HT.out
    go_wp2
    go_ret
    exact ⟨by first | rfl | (simp; done) | (simp; omega), HB.out⟩

/-- Whether no number is greater in size than a limit. -/
def smallL (m : Int) (l : List Int) : Bool := l.all fun z => withinB z (-m) m

set_option maxRecDepth 100000 in
theorem small1_call (m z : Int) (vb : Nat) (t : Bool) (w : World) (h1 : 0 ≤ m) (h2 : m ≤ 1000000000000000000) (ht : withinB z (-m) m = t) (hv : w.cell? ⟨vb, 0, none⟩ = some (.int .i64 m)) :
    Calls Try.prog 61 #[.int .i64 z, .pointer (some ⟨vb, 0, none⟩)] w fun e w' => e = .returned (.bool (!t)) ∧ w = w' := by
  have H := Lib.hid ht
  clear ht
  go_enter Try.func61, Try.ntmps61
  go_wp2_with fail
  refine (withinpt_is _ _ _ _ H.out _).mono ?_
  rintro e w' ⟨rfl, rfl⟩
  cases t with
  | false =>
    go_wp2
    go_ret
    exact ⟨rfl, rfl⟩
  | true =>
    go_wp2
    go_ret
    exact ⟨rfl, rfl⟩
theorem small1_asks (m : Int) (vb : Nat) (h1 : 0 ≤ m) (h2 : m ≤ 1000000000000000000) : AsksP 61 vb (fun z => !(withinB z (-m) m)) (fun w => w.cell? ⟨vb, 0, none⟩ = some (.int .i64 m)) where
  ent := fun _ _ => by kernel_rfl
  call := fun z t w ht hv => by
    subst ht
    exact small1_call m z vb _ w h1 h2 rfl hv
theorem smallL_any (m : Int) (l : List Int) : (l.any fun z => !(withinB z (-m) m)) = !smallL m l := by
  unfold smallL
  induction l with
  | nil => rfl
  | cons a l ih => simp only [List.any_cons, List.all_cons, Bool.not_and, ih]

set_option maxRecDepth 100000 in
theorem smallpt_is (m : Int) (A : Option Addr) (n c N : Nat) (l : List Int) (t : Bool) (ht : smallL m l = t) (w : World) (h1 : 0 ≤ m) (h2 : m ≤ 1000000000000000000) (hx : Reads w N 1 A n (l.map (.int .i64))) (hN : N ≤ w.heap.size) (hn : n ≤ 9223372036854775807) :
    Calls Try.prog 34 #[.int .i64 m, .slice A n c] w fun e w' => e = .returned (.bool t) ∧ Below w.heap.size w w' := by
  have hmf : ∀ (fn : Fn) (first cap : Array Value) (w : World), (Instr.makeFunc fn first cap).run Try.prog w = .ok (.func fn first cap) w := fun _ _ _ _ => rfl
  obtain ⟨W, hW⟩ : ∃ W, W = w.alloc (.cells #[.int .i64 m] 3) := ⟨_, rfl⟩
  have kW : Blk W w.heap.size 3 #[.int .i64 m] := by rw [hW]; exact Blk.new _ _ _
  have hbW : Below w.heap.size w W := by rw [hW]; exact (Below.refl _ _).alloc (Nat.le_refl _) _
  have hsz : W.heap.size = w.heap.size + 1 := by rw [hW]; simp
  have hc := (containsfuncP_any 61 w.heap.size _ _ (small1_asks m w.heap.size h1 h2) A n c N l W (fun wr hb => (hb.cell (p := ⟨w.heap.size, 0, none⟩) (by show w.heap.size < _; omega)).trans (kW.cell 0)) (hx.belowLe hbW hN) (by omega) hn (!t) (by rw [smallL_any, ht]))
  have HC := Lib.hid hc
  have HBW := Lib.hid hbW
  have hle : w.heap.size ≤ W.heap.size := by omega
  clear hc hbW kW hsz ht hx
  go_enter Try.func34, Try.ntmps34
  go_wp2_with fail
  rw [← hW]
  refine HC.out.mono ?_
  rintro e w1 ⟨rfl, hb⟩
  have HB := Lib.hid (HBW.out.trans (hb.mono hle))
  clear hb
  cases t with
  | false =>
    go_wp2
    go_ret
    exact ⟨rfl, HB.out⟩
  | true =>
    go_wp2
    go_ret
    exact ⟨rfl, HB.out⟩
/-- The same of numbers that are written out. -/
theorem smallpt_lit (m : Int) (l : List Int) (n : Nat) (t : TypeId) (g : Nat) (b : Bool) (hb : smallL m l = b) (w : World) (hg : g = w.heap.size) (hl : l.length = n) (h1 : 0 ≤ m) (h2 : m ≤ 1000000000000000000) (hn : n ≤ 1000) :
    Calls Try.prog 34 #[.int .i64 m, .slice (some ⟨g, 0, none⟩) n n] (w.alloc (.cells (l.map (Value.int .i64)).toArray t)) fun e w' => e = .returned (.bool b) ∧ Below (w.alloc (.cells (l.map (Value.int .i64)).toArray t)).heap.size (w.alloc (.cells (l.map (Value.int .i64)).toArray t)) w' := by
  subst hg
  exact smallpt_is m _ n n _ l b hb _ h1 h2 (Blk.reads (Blk.new _ _ _) (by simpa using hl)) (Nat.le_refl _) (by omega)

/-- The first error of some. -/
def orE : List Int → Int
  | [] => 0
  | a :: l => if a ≠ 0 then a else orE l
theorem orE_at : ∀ (l : List Int) (k : Nat), (∀ j, j < k → ∀ z, l[j]? = some z → z = 0) → orE l = orE (l.drop k)
  | l, 0, _ => by simp
  | [], k + 1, _ => by simp
  | a :: l, k + 1, h => by
    have h0 : a = 0 := h 0 (by omega) a rfl
    rw [orE, if_neg (by simp [h0])]
    exact orE_at l k fun j hj z hz => h (j + 1) (by omega) z (by simpa using hz)

set_option maxRecDepth 100000 in
theorem orerr_is (A : Option Addr) (n c N : Nat) (l : List Int) (E : Int) (hE : orE l = E) (w : World) (hx : Reads w N 1 A n (l.map (.int .i64))) (hN : N ≤ w.heap.size) (hn : n ≤ 1000000) :
    Calls Try.prog 67 #[.slice A n c] w fun e w' => e = .returned (.int .i64 E) ∧ w = w' := by
  have hxl : l.length = n := by have := hx.1; simpa using this
  have HX := Lib.hid hx
  have HXL := Lib.hid hxl
  have HE := Lib.hid hE
  clear hx hxl hE
  go_enter Try.func67, Try.ntmps67
  go_wp2
  go_loop [8] (fun i => ∃ q : Nat, q ≤ n ∧ i = .int .i64 q ∧ ∀ j, j < q → ∀ z, l[j]? = some z → z = 0) (fun i => n - (intOf i).toNat)
  case atStart => exact ⟨0, by omega, rfl, fun j hj => absurd hj (by omega)⟩
  case round =>
    obtain ⟨q, hq, rfl, ht⟩ := hrel
    have HT := Lib.hid ht
    clear ht
    by_cases hlt : q < n
    · obtain ⟨xb, xo, u, rfl, hxb, hu, c0⟩ := HX.out.at_ hlt
      obtain ⟨z, hz, rfl⟩ : ∃ z, l[q]? = some z ∧ .int .i64 z = u := by
        rw [List.getElem?_map] at hu
        cases h : l[q]? with
        | none => rw [h] at hu; cases hu
        | some t => rw [h] at hu; exact ⟨t, rfl, Option.some.inj hu⟩
      have HZ := Lib.hid hz
      clear hu hz
      by_cases h0 : z = 0
      · subst h0
        go_wp2
        go_round
        case rel =>
          refine ⟨q + 1, by omega, by go_num, fun j hj z hz => ?_⟩
          rcases Nat.lt_or_ge j q with h | h
          · exact HT.out j h z hz
          · obtain rfl : j = q := by omega
            rw [HZ.out] at hz
            exact (Option.some.inj hz).symm
        case measure => simp [intOf]; omega
      · have h1 : (z != 0) = true := by simpa using h0
        have he : z = E := by
          rw [← HE.out, orE_at l q HT.out]
          obtain ⟨hi, hz⟩ := List.getElem?_eq_some_iff.1 HZ.out
          rw [List.drop_eq_getElem_cons hi, hz, orE, if_pos h0]
        have HEE := Lib.hid he
        clear he
        go_wp2
        go_ret
        exact ⟨ret_int HEE.out, rfl⟩
    · have he : 0 = E := by
        rw [← HE.out, orE_at l q HT.out, List.drop_of_length_le (by rw [HXL.out]; omega)]
        rfl
      have HEE := Lib.hid he
      clear he
      go_wp2
      go_ret
      exact ⟨ret_int HEE.out, rfl⟩
/-- The way from one place to another, and its cost. -/
def wayF (a b : Int) : Int := ((a - b).natAbs : Int)
def costF (a b : Int) : Int := if 648000 < wayF a b then wayF a b + 10000000000 else wayF a b
def PosR (a : Int) : Prop := -100000000000 ≤ a ∧ a ≤ 100000000000

theorem waypt_is (a b : Int) (n : Int) (t : Bool) (hn : wayF a b = n) (ht : decide (648000 < n) = t) (w : World) (h1 : PosR a) (h2 : PosR b) :
    Calls Try.prog 62 #[.int .i64 a, .int .i64 b] w fun e w' => e = .returned (.tuple #[.int .i64 n, .bool t]) ∧ w = w' := by
  obtain ⟨a1, a2⟩ := h1
  obtain ⟨b1, b2⟩ := h2
  by_cases hlt : a - b < b - a
  · have e : n = b - a := by rw [← hn]; unfold wayF; omega
    subst e
    have HT := Lib.hid ht
    clear ht hn
    go_enter Try.func62, Try.ntmps62
    go_wp2
    go_ret2
    exact ⟨by rw [← HT.out]; first | done | rfl, rfl⟩
  · have e : n = a - b := by rw [← hn]; unfold wayF; omega
    subst e
    have HT := Lib.hid ht
    clear ht hn
    go_enter Try.func62, Try.ntmps62
    go_wp2
    go_ret2
    exact ⟨by rw [← HT.out]; first | done | rfl, rfl⟩

theorem costpt_is (a b : Int) (n : Int) (hn : costF a b = n) (w : World) (h1 : PosR a) (h2 : PosR b) :
    Calls Try.prog 36 #[.int .i64 a, .int .i64 b] w fun e w' => e = .returned (.int .i64 n) ∧ w = w' := by
  obtain ⟨m, hm⟩ : ∃ m, wayF a b = m := ⟨_, rfl⟩
  have hmb : 0 ≤ m ∧ m ≤ 200000000000 := by rw [← hm]; unfold wayF; unfold PosR at h1 h2; omega
  obtain ⟨m1, m2⟩ := hmb
  unfold costF at hn
  rw [hm] at hn
  by_cases hl : 648000 < m
  · rw [if_pos hl] at hn
    subst hn
    have HM := Lib.hid hm
    clear hm
    go_enter Try.func36, Try.ntmps36
    go_wp2_with fail
    refine (waypt_is a b m true HM.out (by simpa using hl) _ h1 h2).mono ?_
    rintro e w' ⟨rfl, rfl⟩
    go_wp2
    go_ret
    exact ⟨rfl, rfl⟩
  · rw [if_neg hl] at hn
    subst hn
    have HM := Lib.hid hm
    clear hm
    go_enter Try.func36, Try.ntmps36
    go_wp2_with fail
    refine (waypt_is a b m false HM.out (by simpa using hl) _ h1 h2).mono ?_
    rintro e w' ⟨rfl, rfl⟩
    go_wp2
    go_ret
    exact ⟨rfl, rfl⟩


end Go.Proofs.Ytclnffpfbngjoaa

end

section
/- Contracts of the tables of the package of pointing: the check, the search by halves, the value. -/
namespace Go.Proofs.Ytclnffpfbngjoaa
open Go Go.RowKit

/-- The first rows are right. -/
def TabUp (l : List (Int × Int)) (k : Nat) : Prop := ∀ j, j < k → ∀ p, l[j]? = some p → rowErr (prevOf l j) p = 0
theorem TabUp.step {l : List (Int × Int)} {k : Nat} {p : Int × Int} (h : TabUp l k) (hp : l[k]? = some p) (h0 : rowErr (prevOf l k) p = 0) : TabUp l (k + 1) := fun j hj q hq => by
  rcases Nat.lt_or_ge j k with hlt | hge
  · exact h j hlt q hq
  · obtain rfl : j = k := by omega
    rw [hp] at hq
    cases hq
    exact h0
theorem TabUp.stop {l : List (Int × Int)} {k : Nat} {p : Int × Int} {E : Int} (h : TabUp l k) (hp : l[k]? = some p) (hl : ¬ (l.length < 1 ∨ 40 < l.length)) (h0 : rowErr (prevOf l k) p = E) (hE : E ≠ 0) : tabErr l = E := by
  obtain ⟨hk, he⟩ := List.getElem?_eq_some_iff.1 hp
  unfold tabErr
  rw [if_neg hl]
  rcases rowsErr_at l k none (fun j hj q hq => h j hj q hq) with e | e
  · rw [e, if_pos (show k ≤ l.length by omega), List.drop_eq_getElem_cons hk, he]
    have : (if k = 0 then none else (l[k - 1]?).map (·.1)) = prevOf l k := rfl
    rw [this, rowsErr, h0, if_pos hE]
  · subst e; simp at hl
theorem TabUp.all {l : List (Int × Int)} (h : TabUp l l.length) (hl : ¬ (l.length < 1 ∨ 40 < l.length)) : tabErr l = 0 := by
  unfold tabErr
  rw [if_neg hl]
  rcases rowsErr_at l l.length none (fun j hj q hq => h j hj q hq) with e | e
  · rw [e, List.drop_length]; rfl
  · subst e; simp at hl
theorem mil_small (a b : Int) : smallL 1000000 [a, b] = (mil a && mil b) := by unfold smallL mil; simp
theorem row_2 {prev : Option Int} {p : Int × Int} (h : smallL 1000000 [p.1, p.2] = false) : rowErr prev p = 2 := by
  rw [mil_small] at h
  unfold rowErr
  rw [if_pos (by cases h1 : mil p.1 <;> cases h2 : mil p.2 <;> simp_all)]
theorem row_first {p : Int × Int} (h : smallL 1000000 [p.1, p.2] = true) : rowErr none p = 0 := by
  rw [mil_small, Bool.and_eq_true] at h
  unfold rowErr
  rw [if_neg (by rw [h.1, h.2]; simp)]
theorem row_next {p : Int × Int} {q : Int} (h : smallL 1000000 [p.1, p.2] = true) : rowErr (some q) p = if p.1 ≤ q then 9 else 0 := by
  rw [mil_small, Bool.and_eq_true] at h
  unfold rowErr
  rw [if_neg (by rw [h.1, h.2]; simp)]
theorem prev_zero (l : List (Int × Int)) : prevOf l 0 = none := rfl
theorem prev_succ {l : List (Int × Int)} {k : Nat} {q : Int × Int} (h : l[k]? = some q) : prevOf l (k + 1) = some q.1 := by
  unfold prevOf
  rw [if_neg (by omega), Nat.add_sub_cancel, h]
  rfl

set_option maxRecDepth 100000 in
theorem pchecktab_is (A : Option Addr) (n c N : Nat) (l : List (Int × Int)) (E : Int) (hE : tabErr l = E) (w : World) (hx : Reads w N 2 A n (cells2 l)) (hN : N ≤ w.heap.size) (hn : n ≤ 9223372036854775807) :
    Calls Try.prog 38 #[.slice A n c] w fun e w' => e = .returned (.int .i64 E) ∧ Below w.heap.size w w' := by
  have hxl : l.length = n := by have := hx.1; rw [cells2_length] at this; omega
  have hx := hx.more hN
  have HE := Lib.hid hE
  have HXL := Lib.hid hxl
  clear hE
  cases hw : withinB (n : Int) 1 40 with
  | false =>
    have e : (10 : Int) = E := by
      rw [← HE.out]; unfold tabErr; rw [hxl, if_pos (by have : ¬ (1 ≤ (n : Int) ∧ (n : Int) ≤ 40) := fun h => by rw [(withinB_iff _ _ _).2 h] at hw; cases hw
                                                        omega)]
    have HW := Lib.hid hw
    have HEE := Lib.hid e
    clear hw hxl hx e
    go_enter Try.func38, Try.ntmps38
    go_wp2_with fail
    refine (withinpt_is _ _ _ false HW.out _).mono ?_
    rintro e w' ⟨rfl, rfl⟩
    go_wp2
    go_ret
    exact ⟨ret_int HEE.out, Below.refl _ _⟩
  | true =>
    have hnw := (withinB_iff _ _ _).1 hw
    obtain ⟨n1, n2⟩ := hnw
    have HW := Lib.hid hw
    have HX := Lib.hid hx
    have HL : Hid (¬ (l.length < 1 ∨ 40 < l.length)) := by show ¬ _; rw [hxl]; omega
    clear hw hxl hx
    go_enter Try.func38, Try.ntmps38
    go_wp2_with fail
    refine (withinpt_is _ _ _ true HW.out _).mono ?_
    rintro e w' ⟨rfl, rfl⟩
    go_wp2
    go_loopw [11] (fun i wr => ∃ k : Nat, k ≤ n ∧ i = .int .i64 k ∧ Below w.heap.size w wr ∧ TabUp l k) (fun i _ => n - (intOf i).toNat)
    case atStart => exact ⟨0, by omega, rfl, Below.refl _ _, fun j hj => absurd hj (by omega)⟩
    case round =>
      obtain ⟨k, hk, rfl, hb, hup⟩ := hrel
      obtain ⟨w1, hnm⟩ : ∃ z : World, z = wr := ⟨_, rfl⟩
      subst hnm
      have HUP := Lib.hid hup
      have hrd : Reads w1 w1.heap.size 2 A n (cells2 l) := (HX.out.below hb).more hb.size
      clear hup
      by_cases hlt : k < n
      · have hzb := hb.size
        have HB1 := Lib.hid hb
        clear hb
        obtain ⟨xb, xo, p, rfl, hxb, hp, c0, c1⟩ := hrd.pair hlt
        have HP := Lib.hid hp
        clear hp
        obtain ⟨pa, pv⟩ := p
        simp only at c0 c1
        have R0_1 := Lib.hid hrd
        clear hrd
        cases hs : smallL 1000000 [pa, pv] with
        | false =>
          have HS := Lib.hid hs
          have HEE := Lib.hid (HUP.out.stop HP.out HL.out (row_2 HS.out) (by decide))
          clear hs
          go_wp2_with fail
          refine (smallpt_lit 1000000 [pa, pv] 2 _ _ false HS.out _ (by simp) rfl (by omega) (by omega) (by omega)).mono ?_
          rintro e w2 ⟨rfl, hb⟩
          have HB2 := Lib.hid (show Below w.heap.size w w2 from step_below hb (by repeat' (first | exact Below.refl _ _ | exact HB1.out | refine below_drewN ?_ _ | refine Below.drew ?_ | refine Below.alloc ?_ (by first | omega | (simp; done) | (simp; omega) | (simp [World.setCell]; omega)) _ | refine Below.setCell ?_ (by first | omega | (simp; done) | (simp; omega)) _ | assumption)))
          have K0_2 := Lib.hid (step_blk hb (show Blk _ (w1.heap.size) 60 #[.int .i64 (pa), .int .i64 (pv)] by repeat' (first | exact Blk.at_ _ (by first | rfl | (simp; done) | (simp; omega)) _ _ | refine Blk.drewN ?_ _ | refine Blk.drew ?_ | refine Blk.alloc ?_ _ | refine Blk.far ?_ (by first | omega | (simp; done) | (simp; omega)) _ | assumption)))
          have hL2 := Lib.hid (show Below w1.heap.size w1 _ from reads_mid hb (by repeat' (first | exact Below.refl _ _ | refine below_drewN ?_ _ | refine Below.drew ?_ | refine Below.alloc ?_ (by first | omega | (simp; done) | (simp; omega) | (simp [World.setCell]; omega)) _ | refine Below.setCell ?_ (by first | omega | (simp; done) | (simp; omega)) _)))
          have R0_2 := Lib.hid (reads_lay hb hL2.out R0_1.out)
          clear hL2 R0_1
          have hz2 := hb.size
          try simp only [World.size_alloc, World.drewN, World.drew] at hz2
          clear hb
          have l0_2 : w1.heap.size < w2.heap.size := K0_2.out.lt
          have z0_0_2 : w2.cell? ⟨w1.heap.size, 0, none⟩ = some (.int .i64 (pa)) := K0_2.out.cell 0
          have z0_1_2 : w2.cell? ⟨w1.heap.size, 1, none⟩ = some (.int .i64 (pv)) := K0_2.out.cell 1
          go_wp2
          go_ret
          exact ⟨ret_int (HEE.out.symm.trans HE.out), HB2.out⟩
        | true =>
          have HS := Lib.hid hs
          clear hs
          go_wp2_with fail
          refine (smallpt_lit 1000000 [pa, pv] 2 _ _ true HS.out _ (by simp) rfl (by omega) (by omega) (by omega)).mono ?_
          rintro e w2 ⟨rfl, hb⟩
          have HB2 := Lib.hid (show Below w.heap.size w w2 from step_below hb (by repeat' (first | exact Below.refl _ _ | exact HB1.out | refine below_drewN ?_ _ | refine Below.drew ?_ | refine Below.alloc ?_ (by first | omega | (simp; done) | (simp; omega) | (simp [World.setCell]; omega)) _ | refine Below.setCell ?_ (by first | omega | (simp; done) | (simp; omega)) _ | assumption)))
          have K0_2 := Lib.hid (step_blk hb (show Blk _ (w1.heap.size) 60 #[.int .i64 (pa), .int .i64 (pv)] by repeat' (first | exact Blk.at_ _ (by first | rfl | (simp; done) | (simp; omega)) _ _ | refine Blk.drewN ?_ _ | refine Blk.drew ?_ | refine Blk.alloc ?_ _ | refine Blk.far ?_ (by first | omega | (simp; done) | (simp; omega)) _ | assumption)))
          have hL2 := Lib.hid (show Below w1.heap.size w1 _ from reads_mid hb (by repeat' (first | exact Below.refl _ _ | refine below_drewN ?_ _ | refine Below.drew ?_ | refine Below.alloc ?_ (by first | omega | (simp; done) | (simp; omega) | (simp [World.setCell]; omega)) _ | refine Below.setCell ?_ (by first | omega | (simp; done) | (simp; omega)) _)))
          have R0_2 := Lib.hid (reads_lay hb hL2.out R0_1.out)
          clear hL2 R0_1
          have hz2 := hb.size
          try simp only [World.size_alloc, World.drewN, World.drew] at hz2
          clear hb
          have l0_2 : w1.heap.size < w2.heap.size := K0_2.out.lt
          have z0_0_2 : w2.cell? ⟨w1.heap.size, 0, none⟩ = some (.int .i64 (pa)) := K0_2.out.cell 0
          have z0_1_2 : w2.cell? ⟨w1.heap.size, 1, none⟩ = some (.int .i64 (pv)) := K0_2.out.cell 1
          rcases Nat.eq_zero_or_pos k with h0 | h0
          · subst h0
            have HU := Lib.hid (HUP.out.step HP.out (by rw [prev_zero]; exact row_first HS.out))
            have hd : decide ((0 : Int) < 0) = false := by decide
            go_wp2
            go_quiet (fail)
            go_wp2
            go_roundw
            case rel => exact ⟨1, by omega, by go_num, below_drewN HB2.out _, HU.out⟩
            case measure => simp [intOf]; omega
          · obtain ⟨k', rfl⟩ : ∃ k', k = k' + 1 := ⟨k - 1, by omega⟩
            obtain ⟨yb, yo, q, hA, hyb, hq, d0, -⟩ := R0_2.out.pair (i := k') (by omega)
            obtain ⟨rfl, rfl⟩ : xb = yb ∧ xo = yo := by simpa using hA
            have hd : decide ((0 : Int) < ((k' + 1 : Nat) : Int)) = true := by first | (simp; done) | (simp; omega)
            obtain ⟨qa, qv⟩ := q
            simp only at d0
            have HQ := Lib.hid hq
            clear hq hA
            have hk1 : 0 ≤ ((k' + 1 : Nat) : Int) - 1 := by omega
            have hk2 : (((k' + 1 : Nat) : Int) - 1).toNat = k' := by omega
            have hk3 : ((k' + 1 : Nat) : Int) - 1 < (n : Int) := by omega
            by_cases hle : pa ≤ qa
            · have HEE := Lib.hid (HUP.out.stop HP.out HL.out (by rw [prev_succ HQ.out, row_next HS.out, if_pos hle]) (by decide))
              go_wp2
              go_quiet (fail)
              go_wp2
              go_ret
              exact ⟨ret_int (HEE.out.symm.trans HE.out), below_drewN HB2.out _⟩
            · have HU := Lib.hid (HUP.out.step HP.out (by rw [prev_succ HQ.out, row_next HS.out, if_neg hle]))
              go_wp2
              go_quiet (fail)
              go_wp2
              go_roundw
              case rel => exact ⟨k' + 1 + 1, by omega, by go_num, below_drewN HB2.out _, HU.out⟩
              case measure => simp [intOf]; omega
      · have hkn : k = n := by omega
        have HEE : Hid (tabErr l = 0) := TabUp.all (by rw [HXL.out, ← hkn]; exact HUP.out) HL.out
        clear hkn
        go_wp2
        go_ret
        exact ⟨ret_int (HEE.out.symm.trans HE.out), hb⟩

theorem comp_is (a b : Int) (t : Int) (ht : (if a < b then -1 else if b < a then 1 else 0) = t) (w : World) :
    Calls Try.prog 65 #[.int .i64 a, .int .i64 b] w fun e w' => e = .returned (.int .i64 t) ∧ w = w' := by
  by_cases h1 : a < b
  · rw [if_pos h1] at ht
    subst ht
    go_enter Try.func65, Try.ntmps65
    go_wp2
    go_ret
    exact ⟨rfl, rfl⟩
  · rw [if_neg h1] at ht
    by_cases h2 : b < a
    · rw [if_pos h2] at ht
      subst ht
      go_enter Try.func65, Try.ntmps65
      go_wp2
      go_ret
      exact ⟨rfl, rfl⟩
    · rw [if_neg h2] at ht
      subst ht
      go_enter Try.func65, Try.ntmps65
      go_wp2
      go_ret
      exact ⟨rfl, rfl⟩

theorem tableat1_call (a v x : Int) (t : Int) (ht : (if a < x then -1 else if x < a then 1 else 0) = t) (w : World) :
    Calls Try.prog 64 #[.agg #[.int .i64 a, .int .i64 v], .int .i64 x] w fun e w' => e = .returned (.int .i64 t) ∧ Below w.heap.size w w' := by
  have HT := Lib.hid ht
  clear ht
  go_enter Try.func64, Try.ntmps64
  go_wp2_with fail
  refine (comp_is a x t HT.out _).mono ?_
  rintro e w' ⟨rfl, rfl⟩
  go_wp2
  go_ret
  exact ⟨rfl, (Below.refl _ _).alloc (Nat.le_refl _) _⟩

/-- Where a search by halves ends: all before i lie before x, all from i on at or behind it. -/
def Cut (l : List (Int × Int)) (x : Int) (i j : Nat) : Prop := (∀ q p, q < i → l[q]? = some p → p.1 < x) ∧ (∀ q p, j ≤ q → l[q]? = some p → x ≤ p.1)
theorem pairwise_lt {l : List (Int × Int)} (hs : l.Pairwise (fun a b => a.1 < b.1)) {i j : Nat} {p q : Int × Int} (hp : l[i]? = some p) (hq : l[j]? = some q) (h : i < j) : p.1 < q.1 := by
  obtain ⟨h1, e1⟩ := List.getElem?_eq_some_iff.1 hp
  obtain ⟨h2, e2⟩ := List.getElem?_eq_some_iff.1 hq
  have := (List.pairwise_iff_getElem.1 hs) i j h1 h2 h
  rw [e1, e2] at this
  exact this
theorem Cut.left {l : List (Int × Int)} {x : Int} {i j h : Nat} {p : Int × Int} (hc : Cut l x i j) (hs : l.Pairwise (fun a b => a.1 < b.1)) (hp : l[h]? = some p) (hlt : p.1 < x) : Cut l x (h + 1) j :=
  ⟨fun q r hq hr => by
    rcases Nat.lt_or_ge q h with hh | hh
    · have := pairwise_lt hs hr hp hh; omega
    · obtain rfl : q = h := by omega
      rw [hp] at hr; cases hr; exact hlt, hc.2⟩
theorem Cut.right {l : List (Int × Int)} {x : Int} {i j h : Nat} {p : Int × Int} (hc : Cut l x i j) (hs : l.Pairwise (fun a b => a.1 < b.1)) (hp : l[h]? = some p) (hge : x ≤ p.1) : Cut l x i h :=
  ⟨hc.1, fun q r hq hr => by
    rcases Nat.lt_or_ge h q with hh | hh
    · have := pairwise_lt hs hp hr hh; omega
    · obtain rfl : q = h := by omega
      rw [hp] at hr; cases hr; exact hge⟩

set_option maxRecDepth 100000 in
theorem bsearch_any (A : Option Addr) (n c : Nat) (l : List (Int × Int)) (x : Int) (w : World) (hx : Reads w w.heap.size 2 A n (cells2 l)) (hs : l.Pairwise (fun a b => a.1 < b.1)) (hn : n ≤ 1000000) :
    Calls Try.prog 63 #[.slice A n c, .int .i64 x, .func (.func 64) #[] #[]] w fun e w' => (∃ (i : Nat) (t : Bool), e = .returned (.tuple #[.int .i64 i, .bool t]) ∧ i ≤ n ∧ Cut l x i i ∧ (t = true ↔ ∃ p, l[i]? = some p ∧ p.1 = x)) ∧ Below w.heap.size w w' := by
  have hxl : l.length = n := by have := hx.1; rw [cells2_length] at this; omega
  have hent : ∀ (args : Array Value) (w : World), (callFunc 64 args).run Try.prog w = .ok (.enter 64 args) w := fun _ _ => by kernel_rfl
  have HX := Lib.hid hx
  have HXL := Lib.hid hxl
  have HS := Lib.hid hs
  clear hx hxl hs
  go_enter Try.func63, Try.ntmps63
  go_wp2
  go_loopw [9, 10] (fun a b wr => ∃ i j : Nat, i ≤ j ∧ j ≤ n ∧ a = .int .i64 i ∧ b = .int .i64 j ∧ Below w.heap.size w wr ∧ Cut l x i j) (fun a b _ => (intOf b - intOf a).toNat)
  case atStart => exact ⟨0, n, by omega, by omega, rfl, rfl, Below.refl _ _, fun q p hq => absurd hq (by omega), fun q p hq hp => by rw [List.getElem?_eq_none (by rw [HXL.out]; exact hq)] at hp; cases hp⟩
  case round =>
    obtain ⟨i, j, hij, hj, rfl, rfl, hb, hc⟩ := hrel
    have HC := Lib.hid hc
    have hrd : Reads wr wr.heap.size 2 A n (cells2 l) := (HX.out.below hb).more hb.size
    have hbs := hb.size
    have HB := Lib.hid hb
    clear hc hb
    by_cases hlt : i < j
    · obtain ⟨h, hh⟩ : ∃ h : Nat, ((i : Int) + (j : Int)) / 2 = (h : Int) := ⟨(i + j) / 2, by omega⟩
      have h1 : i ≤ h := by omega
      have h2 : h < j := by omega
      obtain ⟨xb, xo, p, rfl, hxb, hp, c0, c1⟩ := hrd.pair (i := h) (by omega)
      obtain ⟨pa, pv⟩ := p
      simp only at c0 c1
      have HP := Lib.hid hp
      clear hp
      by_cases hc : pa < x
      · have HC2 := Lib.hid (HC.out.left HS.out HP.out hc)
        have e1 : ((-1 : Int) < 0) := by decide
        go_wp2_with fail
        refine (tableat1_call pa pv x (-1) (by rw [if_pos hc]) _).mono ?_
        rintro e w' ⟨rfl, hb'⟩
        have HB2 := Lib.hid (HB.out.trans (hb'.mono hbs))
        clear hb' hrd
        go_wp2
        go_roundw
        case rel => exact ⟨h + 1, j, by omega, hj, by go_num, rfl, HB2.out, HC2.out⟩
        case measure => simp [intOf]; omega
      · have HC2 := Lib.hid (HC.out.right HS.out HP.out (by show x ≤ pa; omega))
        obtain ⟨t, ht⟩ : ∃ t : Int, (if pa < x then (-1 : Int) else if x < pa then 1 else 0) = t := ⟨_, rfl⟩
        have ht0 : ¬ t < 0 := by rw [← ht, if_neg hc]; split <;> omega
        have HT := Lib.hid ht
        clear ht
        go_wp2_with fail
        refine (tableat1_call pa pv x t HT.out _).mono ?_
        rintro e w' ⟨rfl, hb'⟩
        have HB2 := Lib.hid (HB.out.trans (hb'.mono hbs))
        clear hb' hrd
        go_wp2
        go_roundw
        case rel => exact ⟨i, h, by omega, by omega, rfl, rfl, HB2.out, HC2.out⟩
        case measure => simp [intOf]; omega
    · have hji : j = i := by omega
      subst hji
      by_cases hin : j < n
      · obtain ⟨xb, xo, p, rfl, hxb, hp, c0, c1⟩ := hrd.pair (i := j) hin
        obtain ⟨pa, pv⟩ := p
        simp only at c0 c1
        have HP := Lib.hid hp
        clear hp
        obtain ⟨t, ht⟩ : ∃ t : Int, (if pa < x then (-1 : Int) else if x < pa then 1 else 0) = t := ⟨_, rfl⟩
        have hge : x ≤ pa := HC.out.2 j _ (Nat.le_refl _) HP.out
        have hte : t = 0 ↔ pa = x := by rw [← ht, if_neg (by omega)]; split <;> omega
        have HT := Lib.hid ht
        have HTE := Lib.hid hte
        clear ht hte
        go_wp2_with fail
        refine (tableat1_call pa pv x t HT.out _).mono ?_
        rintro e w' ⟨rfl, hb'⟩
        have HB2 := Lib.hid (HB.out.trans (hb'.mono hbs))
        clear hb' hrd c0 c1
        go_wp2
        go_ret2
        refine ⟨⟨j, _, rfl, hj, HC.out, ?_⟩, HB2.out⟩
        show (decide (t = 0) = true ↔ _)
        rw [decide_eq_true_iff, HTE.out, HP.out]
        constructor
        · intro h; exact ⟨_, rfl, h⟩
        · rintro ⟨p, hp, he⟩
          cases hp
          exact he
      · go_wp2
        go_ret2
        refine ⟨⟨j, _, rfl, hj, HC.out, ?_⟩, HB.out⟩
        constructor
        · intro h; exact absurd h (by first | decide | simp)
        · rintro ⟨p, hp, he⟩
          rw [List.getElem?_eq_none (by rw [HXL.out]; omega)] at hp
          cases hp

/-- What a right table is good for. -/
theorem tab_right {l : List (Int × Int)} (h : tabErr l = 0) : 1 ≤ l.length ∧ l.length ≤ 40 ∧ l.Pairwise (fun a b => a.1 < b.1) ∧ ∀ p ∈ l, (-1000000 ≤ p.1 ∧ p.1 ≤ 1000000) ∧ (-1000000 ≤ p.2 ∧ p.2 ≤ 1000000) := by
  unfold tabErr at h
  by_cases hl : l.length < 1 ∨ 40 < l.length
  · rw [if_pos hl] at h; cases h
  rw [if_neg hl] at h
  obtain ⟨h1, h2, -⟩ := rows_ok l none h
  exact ⟨by omega, by omega, h2, h1⟩

end Go.Proofs.Ytclnffpfbngjoaa

end
