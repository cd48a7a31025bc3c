import Derived.Test.YtdidcpealabaiaaQ1
import Derived.Test.YtdidcpealabaiaaQ4

section
/- The plain law of tables: what a search by halves finds is what a search row by row finds. -/
namespace Go.Proofs.Ytdidcpealabaiaa
open Go.RowKit

def mil (z : Int) : Bool := withinB z (-1000000) 1000000
/-- The error of a row behind another one. -/
def rowErr (prev : Option Int) (p : Int × Int) : Int :=
  if mil p.1 = false ∨ mil p.2 = false then 2 else match prev with
    | some q => if p.1 ≤ q then 9 else 0
    | none => 0
def rowsErr : Option Int → List (Int × Int) → Int
  | _, [] => 0
  | prev, p :: l => if rowErr prev p ≠ 0 then rowErr prev p else rowsErr (some p.1) l
/-- The error of a table. -/
def tabErr (l : List (Int × Int)) : Int := if l.length < 1 ∨ 40 < l.length then 10 else rowsErr none l

def prevOf (l : List (Int × Int)) (k : Nat) : Option Int := if k = 0 then none else (l[k - 1]?).map (·.1)

theorem rowsErr_at : ∀ (l : List (Int × Int)) (k : Nat) (prev : Option Int), (∀ j, j < k → ∀ p, l[j]? = some p → rowErr (if j = 0 then prev else (l[j - 1]?).map (·.1)) p = 0) →
    rowsErr prev l = rowsErr (if k = 0 then prev else if k ≤ l.length then (l[k - 1]?).map (·.1) else (l[l.length - 1]?).map (·.1)) (l.drop k) ∨ l = []
  | [], k, prev, _ => .inr rfl
  | p :: l, 0, prev, _ => .inl (by simp)
  | p :: l, k + 1, prev, h => by
    left
    have h0 := h 0 (by omega) p rfl
    simp only [if_true] at h0
    rw [rowsErr, if_neg (by rw [h0]; simp)]
    cases l with
    | nil => simp [rowsErr]
    | cons q l =>
      have := rowsErr_at (q :: l) k (some p.1) (fun j hj x hx => by
        have := h (j + 1) (by omega) x (by simpa using hx)
        rw [if_neg (by omega), Nat.add_sub_cancel] at this
        cases j with
        | zero => simpa using this
        | succ j => simpa using this)
      rcases this with e | e
      · rw [e]
        congr 1
        cases k with
        | zero => simp
        | succ k =>
          simp only [Nat.add_eq_zero_iff, Nat.succ_ne_zero, and_false, if_false]
          simp
      · cases e

/-- The rows of a right table: in range, and ascending. -/
theorem rows_ok : ∀ (l : List (Int × Int)) (prev : Option Int), rowsErr prev l = 0 → (∀ p ∈ l, (-1000000 ≤ p.1 ∧ p.1 ≤ 1000000) ∧ (-1000000 ≤ p.2 ∧ p.2 ≤ 1000000)) ∧ l.Pairwise (fun a b => a.1 < b.1) ∧ ∀ q, prev = some q → ∀ p ∈ l, q < p.1
  | [], prev, _ => ⟨by simp, by simp, by simp⟩
  | p :: l, prev, h => by
    unfold rowsErr at h
    by_cases h0 : rowErr prev p ≠ 0
    · rw [if_pos h0] at h; exact absurd h h0
    rw [if_neg h0] at h
    have h0 := Decidable.not_not.1 h0
    obtain ⟨i1, i2, i3⟩ := rows_ok l (some p.1) h
    have i3 := i3 p.1 rfl
    unfold rowErr at h0
    by_cases hm : mil p.1 = false ∨ mil p.2 = false
    · rw [if_pos hm] at h0; cases h0
    rw [if_neg hm] at h0
    have hm1 : mil p.1 = true := by cases hx : mil p.1 <;> simp_all
    have hm2 : mil p.2 = true := by cases hx : mil p.2 <;> simp_all
    refine ⟨fun x hx => ?_, List.pairwise_cons.2 ⟨fun x hx => i3 x hx, i2⟩, fun q hq x hx => ?_⟩
    · rcases List.mem_cons.1 hx with rfl | hx
      · exact ⟨(withinB_iff _ _ _).1 hm1, (withinB_iff _ _ _).1 hm2⟩
      · exact i1 x hx
    · rw [hq] at h0
      simp only at h0
      have hlt : q < p.1 := by
        by_cases hle : p.1 ≤ q
        · rw [if_pos hle] at h0; cases h0
        · omega
      rcases List.mem_cons.1 hx with rfl | hx
      · exact hlt
      · have := i3 x hx; omega

/-- The value of a table behind a row. -/
def tabGo (p : Int × Int) : List (Int × Int) → Int → Int
  | [], _ => p.2
  | q :: t, x => if x < q.1 then p.2 + (q.2 - p.2) * (x - p.1) / (q.1 - p.1) else tabGo q t x
/-- The value of a table at a place. -/
def tabAt (l : List (Int × Int)) (x : Int) : Int := match l with
  | [] => 0
  | p :: t => if x ≤ p.1 then p.2 else tabGo p t x

theorem tabGo_skip {x : Int} : ∀ (t1 t2 : List (Int × Int)) (p q : Int × Int), (∀ r ∈ t1, r.1 ≤ x) → q.1 ≤ x → tabGo p (t1 ++ q :: t2) x = tabGo q t2 x
  | [], t2, p, q, _, hq => by simp only [List.nil_append, tabGo]; rw [if_neg (by omega)]
  | r :: t1, t2, p, q, h, hq => by
    simp only [List.cons_append, tabGo]
    rw [if_neg (by have := h r (by simp); omega)]
    exact tabGo_skip t1 t2 r q (fun y hy => h y (by simp [hy])) hq
/-- Behind rows that lie at or before the place, from the last of them on. -/
theorem tabAt_skip {x : Int} {t1 t2 : List (Int × Int)} {q : Int × Int} (hs : (t1 ++ q :: t2).Pairwise (fun a b => a.1 < b.1)) (hq : q.1 ≤ x) : tabAt (t1 ++ q :: t2) x = tabGo q t2 x := by
  have hle : ∀ r ∈ t1, r.1 < q.1 := fun r hr => (List.pairwise_append.1 hs).2.2 r hr q (by simp)
  cases t1 with
  | nil =>
    simp only [List.nil_append, tabAt]
    by_cases e : x ≤ q.1
    · rw [if_pos e]
      have ex : x = q.1 := by omega
      cases t2 with
      | nil => rfl
      | cons r t2 =>
        have : q.1 < r.1 := (List.pairwise_cons.1 hs).1 r (by simp)
        simp only [tabGo]
        rw [if_pos (by omega), ex, Int.sub_self, Int.mul_zero]
        simp
    · rw [if_neg e]
  | cons r t1 =>
    simp only [List.cons_append, tabAt]
    rw [if_neg (by have := hle r (by simp); omega)]
    exact tabGo_skip t1 t2 r q (fun y hy => by have := hle y (by simp [hy]); omega) hq

/-- A search that finds the first row at or behind the place. -/
theorem tab_found {l : List (Int × Int)} {x : Int} {i : Nat} {q : Int × Int} (hs : l.Pairwise (fun a b => a.1 < b.1)) (hq : l[i]? = some q) (he : q.1 = x) : tabAt l x = q.2 := by
  obtain ⟨hi, hqe⟩ := List.getElem?_eq_some_iff.1 hq
  have e : l = l.take i ++ q :: l.drop (i + 1) := by rw [← hqe, ← List.drop_eq_getElem_cons hi, List.take_append_drop]
  obtain ⟨t1, ht1⟩ : ∃ t, l.take i = t := ⟨_, rfl⟩
  obtain ⟨t2, ht2⟩ : ∃ t, l.drop (i + 1) = t := ⟨_, rfl⟩
  rw [ht1, ht2] at e
  rw [e] at hs ⊢
  rw [tabAt_skip hs (by omega)]
  cases t2 with
  | nil => simp [tabGo]
  | cons r t =>
    have hr : q.1 < r.1 := (List.pairwise_cons.1 (List.pairwise_append.1 hs).2.1).1 r (by simp)
    simp only [tabGo]
    rw [if_pos (by omega), he, Int.sub_self, Int.mul_zero]
    simp
theorem tab_first {l : List (Int × Int)} {x : Int} {q : Int × Int} (hq : l[0]? = some q) (he : x < q.1) : tabAt l x = q.2 := by
  cases l with
  | nil => simp at hq
  | cons p t =>
    simp at hq
    subst hq
    simp only [tabAt]
    rw [if_pos (by omega)]
theorem tab_last {l : List (Int × Int)} {x : Int} {i : Nat} {q : Int × Int} (hs : l.Pairwise (fun a b => a.1 < b.1)) (hi : i + 1 = l.length) (hq : l[i]? = some q) (he : q.1 < x) : tabAt l x = q.2 := by
  obtain ⟨hi', hqe⟩ := List.getElem?_eq_some_iff.1 hq
  have e : l = l.take i ++ q :: l.drop (i + 1) := by rw [← hqe, ← List.drop_eq_getElem_cons hi', List.take_append_drop]
  have hd : l.drop (i + 1) = [] := List.drop_of_length_le (by omega)
  rw [hd] at e
  obtain ⟨t1, ht1⟩ : ∃ t, l.take i = t := ⟨_, rfl⟩
  rw [ht1] at e
  rw [e] at hs ⊢
  rw [tabAt_skip hs (by omega)]
  rfl
theorem tab_mid {l : List (Int × Int)} {x : Int} {i : Nat} {a b : Int × Int} (hs : l.Pairwise (fun a b => a.1 < b.1)) (ha : l[i]? = some a) (hb : l[i + 1]? = some b) (h1 : a.1 < x) (h2 : x < b.1) : tabAt l x = a.2 + (b.2 - a.2) * (x - a.1) / (b.1 - a.1) := by
  obtain ⟨hi, hae⟩ := List.getElem?_eq_some_iff.1 ha
  obtain ⟨hj, hbe⟩ := List.getElem?_eq_some_iff.1 hb
  have e2 : l.drop (i + 1) = b :: l.drop (i + 2) := by rw [← hbe]; exact List.drop_eq_getElem_cons hj
  have e : l = l.take i ++ a :: b :: l.drop (i + 2) := by rw [← e2, ← hae, ← List.drop_eq_getElem_cons hi, List.take_append_drop]
  obtain ⟨t1, ht1⟩ : ∃ t, l.take i = t := ⟨_, rfl⟩
  obtain ⟨t2, ht2⟩ : ∃ t, l.drop (i + 2) = t := ⟨_, rfl⟩
  rw [ht1, ht2] at e
  rw [e] at hs ⊢
  rw [tabAt_skip hs (by omega)]
  simp only [tabGo]
  rw [if_pos h2]

end Go.Proofs.Ytdidcpealabaiaa

end

section
/- Contracts of the small functions of the package of pointing: bounds of lists, the greatest common divisor, rounding, the first error. -/
namespace Go.Proofs.Ytdidcpealabaiaa
open Go Go.RowKit

theorem floorpt_any (a b : Int) (w : World) (h1 : -4000000000000000000 ≤ a) (h2 : a ≤ 4000000000000000000) (h3 : 1 ≤ b) (h4 : b ≤ 9223372036854775807) :
    Calls Try.prog 149 #[.int .i64 a, .int .i64 b] w fun e w' => e = .returned (.int .i64 (a / b)) ∧ w = w' := by
  have b0 : ¬ b = 0 := by omega
  have he := floor_eq (a := a) h3
  obtain ⟨f1, f2, f3, f4⟩ := floor_in (a := a) h3 h1 h2
  have hm := tmod_in a b (by omega) h4 b0
  obtain ⟨q, hq⟩ : ∃ q, a.tdiv b = q := ⟨_, rfl⟩
  obtain ⟨r, hr⟩ : ∃ r, a.tmod b = r := ⟨_, rfl⟩
  rw [hq] at f3 f4 he
  rw [hr] at he hm
  have v1 := IntWalk.i64_in q ⟨by omega, by omega⟩
  have v2 := IntWalk.i64_in (q - 1) ⟨by omega, by omega⟩
  have v3 := IntWalk.i64_in r hm
  have HE := Lib.hid he
  clear he
  by_cases hneg : r < 0
  · have hv : a / b = q - 1 := by rw [← HE.out, if_pos hneg]
    have HV := Lib.hid hv
    clear hv
    go_enter Try.func149, Try.ntmps149
    go_wp2
    go_ret
    exact ⟨ret_int HV.out.symm, rfl⟩
  · have hv : a / b = q := by rw [← HE.out, if_neg hneg]
    have HV := Lib.hid hv
    clear hv
    go_enter Try.func149, Try.ntmps149
    go_wp2
    go_ret
    exact ⟨ret_int HV.out.symm, rfl⟩

theorem ceilpt_any (a b : Int) (w : World) (h1 : -4000000000000000000 ≤ a) (h2 : a ≤ 4000000000000000000) (h3 : 1 ≤ b) (h4 : b ≤ 9223372036854775807) :
    Calls Try.prog 120 #[.int .i64 a, .int .i64 b] w fun e w' => e = .returned (.int .i64 (-((-a) / b))) ∧ w = w' := by
  obtain ⟨f1, f2, f3, f4⟩ := floor_in (a := -a) h3 (by omega) (by omega)
  have v1 := IntWalk.i64_in (-a) ⟨by omega, by omega⟩
  obtain ⟨q, hq⟩ : ∃ q, (-a) / b = q := ⟨_, rfl⟩
  have HQ := Lib.hid hq
  rw [hq] at f1 f2
  rw [hq]
  clear hq
  have v2 := IntWalk.i64_in (-q) ⟨by omega, by omega⟩
  go_enter Try.func120, Try.ntmps120
  go_wp2_with fail
  refine (floorpt_any (-a) b _ (by omega) (by omega) h3 h4).mono ?_
  rintro e w' ⟨rfl, rfl⟩
  rw [HQ.out]
  go_wp2
  go_ret
  exact ⟨rfl, rfl⟩

/-- A function value that has captured a pointer and asks something of a number, and changes nothing. -/
structure AsksP (k : FuncId) (vb : Nat) (pr : Int → Bool) (P : World → Prop) : Prop where
  ent : ∀ (args : Array Value) (w : World), (callFunc k args).run Try.prog w = .ok (.enter k args) w
  call : ∀ (z : Int) (t : Bool) (w : World), pr z = t → P w → Calls Try.prog k #[.int .i64 z, .pointer (some ⟨vb, 0, none⟩)] w fun e w' => e = .returned (.bool t) ∧ w = w'

set_option maxRecDepth 100000 in
theorem indexfuncP_any (k : FuncId) (vb : Nat) (pr : Int → Bool) (P : World → Prop) (hk : AsksP k vb pr P) (A : Option Addr) (n c N : Nat) (l : List Int) (w : World) (hP : ∀ wr, Below w.heap.size w wr → P wr) (hx : Reads w N 1 A n (l.map (.int .i64))) (hN : N ≤ w.heap.size) (hn : n ≤ 9223372036854775807) :
    Calls Try.prog 163 #[.slice A n c, .func (.func k) #[] #[.pointer (some ⟨vb, 0, none⟩)]] w fun e w' => (∃ r : Int, e = .returned (.int .i64 r) ∧ (0 ≤ r ↔ l.any pr = true)) ∧ Below w.heap.size w w' := by
  have hxl : l.length = n := by have := hx.1; simpa using this
  have HX := Lib.hid hx
  have HXL := Lib.hid hxl
  have hent := hk.ent
  have HK := Lib.hid hk
  have HP := Lib.hid hP
  clear hx hxl hk hP
  go_enter Try.func163, Try.ntmps163
  go_wp2
  go_loopw [8] (fun i wr => ∃ q : Nat, q ≤ n ∧ i = .int .i64 q ∧ (l.take q).any pr = false ∧ Below w.heap.size w wr) (fun i _ => n - (intOf i).toNat)
  case atStart => exact ⟨0, by omega, rfl, by simp, Below.refl _ _⟩
  case round =>
    obtain ⟨q, hq, rfl, ht, hb⟩ := hrel
    have HT := Lib.hid ht
    have HB := Lib.hid hb
    clear ht hb
    by_cases hlt : q < n
    · obtain ⟨xb, xo, u, rfl, hxb, hu, c0⟩ := (HX.out.belowLe HB.out hN).at_ hlt
      obtain ⟨z, hz, rfl⟩ : ∃ z, l[q]? = some z ∧ .int .i64 z = u := by
        rw [List.getElem?_map] at hu
        cases h : l[q]? with
        | none => rw [h] at hu; cases hu
        | some t => rw [h] at hu; exact ⟨t, rfl, Option.some.inj hu⟩
      have HZ := Lib.hid hz
      clear hu hz
      cases hp : pr z with
      | false =>
        have HPR := Lib.hid hp
        clear hp
        go_wp2_with fail
        refine (HK.out.call z false _ HPR.out (HP.out _ HB.out)).mono ?_
        rintro e w' ⟨rfl, rfl⟩
        go_wp2
        go_roundw
        case rel => exact ⟨q + 1, by omega, by go_num, any_take HZ.out HT.out HPR.out, HB.out⟩
        case measure => simp [intOf]; omega
      | true =>
        have HPR := Lib.hid hp
        clear hp
        go_wp2_with fail
        refine (HK.out.call z true _ HPR.out (HP.out _ HB.out)).mono ?_
        rintro e w' ⟨rfl, rfl⟩
        go_wp2
        go_ret
        refine ⟨⟨_, rfl, ?_⟩, HB.out⟩
        have : l.any pr = true := List.any_eq_true.2 ⟨z, List.mem_of_getElem? HZ.out, HPR.out⟩
        simp [this]
    · go_wp2
      go_ret
      refine ⟨⟨_, rfl, ?_⟩, HB.out⟩
      have ht := HT.out
      rw [List.take_of_length_le (by rw [HXL.out]; omega)] at ht
      rw [ht]
      simp

theorem containsfuncP_any (k : FuncId) (vb : Nat) (pr : Int → Bool) (P : World → Prop) (hk : AsksP k vb pr P) (A : Option Addr) (n c N : Nat) (l : List Int) (w : World) (hP : ∀ wr, Below w.heap.size w wr → P wr) (hx : Reads w N 1 A n (l.map (.int .i64))) (hN : N ≤ w.heap.size) (hn : n ≤ 9223372036854775807) (t : Bool) (ht : l.any pr = t) :
    Calls Try.prog 117 #[.slice A n c, .func (.func k) #[] #[.pointer (some ⟨vb, 0, none⟩)]] w fun e w' => e = .returned (.bool t) ∧ Below w.heap.size w w' := by
  have HX := Lib.hid hx
  have HT := Lib.hid ht
  have HI := Lib.hid (indexfuncP_any k vb pr P hk A n c N l)
  have HP := Lib.hid hP
  clear hx ht hP
  go_enter Try.func117, Try.ntmps117
  go_wp2_with fail
  refine (HI.out w HP.out HX.out hN hn).mono ?_
  rintro e w1 ⟨⟨r, rfl, hr⟩, hb⟩
  have HR := Lib.hid hr
  have HB := Lib.hid hb
  clear hr hb
  cases t with
  | false =>
    have h : ¬ 0 ≤ r := fun h => by have := HR.out.1 h; rw [HT.out] at this; cases this
    have h' : r < 0 := by omega
    go_wp2
    go_ret
    exact ⟨by first | rfl | (simp; done) | (simp; omega), HB.out⟩
  | true =>
    have h := HR.out.2 HT.out
    go_wp2
    go_ret
    exact ⟨by first | rfl | (simp; done) | (simp; omega), HB.out⟩

/-- Whether no number is greater in size than a limit. -/
def smallL (m : Int) (l : List Int) : Bool := l.all fun z => withinB z (-m) m

set_option maxRecDepth 100000 in
theorem small1_call (m z : Int) (vb : Nat) (t : Bool) (w : World) (h1 : 0 ≤ m) (h2 : m ≤ 1000000000000000000) (ht : withinB z (-m) m = t) (hv : w.cell? ⟨vb, 0, none⟩ = some (.int .i64 m)) :
    Calls Try.prog 143 #[.int .i64 z, .pointer (some ⟨vb, 0, none⟩)] w fun e w' => e = .returned (.bool (!t)) ∧ w = w' := by
  have H := Lib.hid ht
  clear ht
  go_enter Try.func143, Try.ntmps143
  go_wp2_with fail
  refine (withinpt_is _ _ _ _ H.out _).mono ?_
  rintro e w' ⟨rfl, rfl⟩
  cases t with
  | false =>
    go_wp2
    go_ret
    exact ⟨rfl, rfl⟩
  | true =>
    go_wp2
    go_ret
    exact ⟨rfl, rfl⟩
theorem small1_asks (m : Int) (vb : Nat) (h1 : 0 ≤ m) (h2 : m ≤ 1000000000000000000) : AsksP 143 vb (fun z => !(withinB z (-m) m)) (fun w => w.cell? ⟨vb, 0, none⟩ = some (.int .i64 m)) where
  ent := fun _ _ => by kernel_rfl
  call := fun z t w ht hv => by
    subst ht
    exact small1_call m z vb _ w h1 h2 rfl hv
theorem smallL_any (m : Int) (l : List Int) : (l.any fun z => !(withinB z (-m) m)) = !smallL m l := by
  unfold smallL
  induction l with
  | nil => rfl
  | cons a l ih => simp only [List.any_cons, List.all_cons, Bool.not_and, ih]

set_option maxRecDepth 100000 in
theorem smallpt_is (m : Int) (A : Option Addr) (n c N : Nat) (l : List Int) (t : Bool) (ht : smallL m l = t) (w : World) (h1 : 0 ≤ m) (h2 : m ≤ 1000000000000000000) (hx : Reads w N 1 A n (l.map (.int .i64))) (hN : N ≤ w.heap.size) (hn : n ≤ 9223372036854775807) :
    Calls Try.prog 78 #[.int .i64 m, .slice A n c] w fun e w' => e = .returned (.bool t) ∧ Below w.heap.size w w' := by
  have hmf : ∀ (fn : Fn) (first cap : Array Value) (w : World), (Instr.makeFunc fn first cap).run Try.prog w = .ok (.func fn first cap) w := fun _ _ _ _ => rfl
  obtain ⟨W, hW⟩ : ∃ W, W = w.alloc (.cells #[.int .i64 m] 3) := ⟨_, rfl⟩
  have kW : Blk W w.heap.size 3 #[.int .i64 m] := by rw [hW]; exact Blk.new _ _ _
  have hbW : Below w.heap.size w W := by rw [hW]; exact (Below.refl _ _).alloc (Nat.le_refl _) _
  have hsz : W.heap.size = w.heap.size + 1 := by rw [hW]; simp
  have hc := (containsfuncP_any 143 w.heap.size _ _ (small1_asks m w.heap.size h1 h2) A n c N l W (fun wr hb => (hb.cell (p := ⟨w.heap.size, 0, none⟩) (by show w.heap.size < _; omega)).trans (kW.cell 0)) (hx.belowLe hbW hN) (by omega) hn (!t) (by rw [smallL_any, ht]))
  have HC := Lib.hid hc
  have HBW := Lib.hid hbW
  have hle : w.heap.size ≤ W.heap.size := by omega
  clear hc hbW kW hsz ht hx
  go_enter Try.func78, Try.ntmps78
  go_wp2_with fail
  rw [← hW]
  refine HC.out.mono ?_
  rintro e w1 ⟨rfl, hb⟩
  have HB := Lib.hid (HBW.out.trans (hb.mono hle))
  clear hb
  cases t with
  | false =>
    go_wp2
    go_ret
    exact ⟨rfl, HB.out⟩
  | true =>
    go_wp2
    go_ret
    exact ⟨rfl, HB.out⟩
/-- The same of numbers that are written out. -/
theorem smallpt_lit (m : Int) (l : List Int) (n : Nat) (t : TypeId) (g : Nat) (b : Bool) (hb : smallL m l = b) (w : World) (hg : g = w.heap.size) (hl : l.length = n) (h1 : 0 ≤ m) (h2 : m ≤ 1000000000000000000) (hn : n ≤ 1000) :
    Calls Try.prog 78 #[.int .i64 m, .slice (some ⟨g, 0, none⟩) n n] (w.alloc (.cells (l.map (Value.int .i64)).toArray t)) fun e w' => e = .returned (.bool b) ∧ Below (w.alloc (.cells (l.map (Value.int .i64)).toArray t)).heap.size (w.alloc (.cells (l.map (Value.int .i64)).toArray t)) w' := by
  subst hg
  exact smallpt_is m _ n n _ l b hb _ h1 h2 (Blk.reads (Blk.new _ _ _) (by simpa using hl)) (Nat.le_refl _) (by omega)

/-- The first error of some. -/
def orE : List Int → Int
  | [] => 0
  | a :: l => if a ≠ 0 then a else orE l
theorem orE_at : ∀ (l : List Int) (k : Nat), (∀ j, j < k → ∀ z, l[j]? = some z → z = 0) → orE l = orE (l.drop k)
  | l, 0, _ => by simp
  | [], k + 1, _ => by simp
  | a :: l, k + 1, h => by
    have h0 : a = 0 := h 0 (by omega) a rfl
    rw [orE, if_neg (by simp [h0])]
    exact orE_at l k fun j hj z hz => h (j + 1) (by omega) z (by simpa using hz)

set_option maxRecDepth 100000 in
theorem orerr_is (A : Option Addr) (n c N : Nat) (l : List Int) (E : Int) (hE : orE l = E) (w : World) (hx : Reads w N 1 A n (l.map (.int .i64))) (hN : N ≤ w.heap.size) (hn : n ≤ 1000000) :
    Calls Try.prog 91 #[.slice A n c] w fun e w' => e = .returned (.int .i64 E) ∧ w = w' := by
  have hxl : l.length = n := by have := hx.1; simpa using this
  have HX := Lib.hid hx
  have HXL := Lib.hid hxl
  have HE := Lib.hid hE
  clear hx hxl hE
  go_enter Try.func91, Try.ntmps91
  go_wp2
  go_loop [8] (fun i => ∃ q : Nat, q ≤ n ∧ i = .int .i64 q ∧ ∀ j, j < q → ∀ z, l[j]? = some z → z = 0) (fun i => n - (intOf i).toNat)
  case atStart => exact ⟨0, by omega, rfl, fun j hj => absurd hj (by omega)⟩
  case round =>
    obtain ⟨q, hq, rfl, ht⟩ := hrel
    have HT := Lib.hid ht
    clear ht
    by_cases hlt : q < n
    · obtain ⟨xb, xo, u, rfl, hxb, hu, c0⟩ := HX.out.at_ hlt
      obtain ⟨z, hz, rfl⟩ : ∃ z, l[q]? = some z ∧ .int .i64 z = u := by
        rw [List.getElem?_map] at hu
        cases h : l[q]? with
        | none => rw [h] at hu; cases hu
        | some t => rw [h] at hu; exact ⟨t, rfl, Option.some.inj hu⟩
      have HZ := Lib.hid hz
      clear hu hz
      by_cases h0 : z = 0
      · subst h0
        go_wp2
        go_round
        case rel =>
          refine ⟨q + 1, by omega, by go_num, fun j hj z hz => ?_⟩
          rcases Nat.lt_or_ge j q with h | h
          · exact HT.out j h z hz
          · obtain rfl : j = q := by omega
            rw [HZ.out] at hz
            exact (Option.some.inj hz).symm
        case measure => simp [intOf]; omega
      · have h1 : (z != 0) = true := by simpa using h0
        have he : z = E := by
          rw [← HE.out, orE_at l q HT.out]
          obtain ⟨hi, hz⟩ := List.getElem?_eq_some_iff.1 HZ.out
          rw [List.drop_eq_getElem_cons hi, hz, orE, if_pos h0]
        have HEE := Lib.hid he
        clear he
        go_wp2
        go_ret
        exact ⟨ret_int HEE.out, rfl⟩
    · have he : 0 = E := by
        rw [← HE.out, orE_at l q HT.out, List.drop_of_length_le (by rw [HXL.out]; omega)]
        rfl
      have HEE := Lib.hid he
      clear he
      go_wp2
      go_ret
      exact ⟨ret_int HEE.out, rfl⟩
/-- The way from one place to another, and its cost. -/
def wayF (a b : Int) : Int := ((a - b).natAbs : Int)
def costF (a b : Int) : Int := if 648000 < wayF a b then wayF a b + 10000000000 else wayF a b
def PosR (a : Int) : Prop := -100000000000 ≤ a ∧ a ≤ 100000000000

theorem waypt_is (a b : Int) (n : Int) (t : Bool) (hn : wayF a b = n) (ht : decide (648000 < n) = t) (w : World) (h1 : PosR a) (h2 : PosR b) :
    Calls Try.prog 96 #[.int .i64 a, .int .i64 b] w fun e w' => e = .returned (.tuple #[.int .i64 n, .bool t]) ∧ w = w' := by
  obtain ⟨a1, a2⟩ := h1
  obtain ⟨b1, b2⟩ := h2
  by_cases hlt : a - b < b - a
  · have e : n = b - a := by rw [← hn]; unfold wayF; omega
    subst e
    have HT := Lib.hid ht
    clear ht hn
    go_enter Try.func96, Try.ntmps96
    go_wp2
    go_ret2
    exact ⟨by rw [← HT.out]; first | done | rfl, rfl⟩
  · have e : n = a - b := by rw [← hn]; unfold wayF; omega
    subst e
    have HT := Lib.hid ht
    clear ht hn
    go_enter Try.func96, Try.ntmps96
    go_wp2
    go_ret2
    exact ⟨by rw [← HT.out]; first | done | rfl, rfl⟩

theorem costpt_is (a b : Int) (n : Int) (hn : costF a b = n) (w : World) (h1 : PosR a) (h2 : PosR b) :
    Calls Try.prog 105 #[.int .i64 a, .int .i64 b] w fun e w' => e = .returned (.int .i64 n) ∧ w = w' := by
  obtain ⟨m, hm⟩ : ∃ m, wayF a b = m := ⟨_, rfl⟩
  have hmb : 0 ≤ m ∧ m ≤ 200000000000 := by rw [← hm]; unfold wayF; unfold PosR at h1 h2; omega
  obtain ⟨m1, m2⟩ := hmb
  unfold costF at hn
  rw [hm] at hn
  by_cases hl : 648000 < m
  · rw [if_pos hl] at hn
    subst hn
    have HM := Lib.hid hm
    clear hm
    go_enter Try.func105, Try.ntmps105
    go_wp2_with fail
    refine (waypt_is a b m true HM.out (by simpa using hl) _ h1 h2).mono ?_
    rintro e w' ⟨rfl, rfl⟩
    go_wp2
    go_ret
    exact ⟨rfl, rfl⟩
  · rw [if_neg hl] at hn
    subst hn
    have HM := Lib.hid hm
    clear hm
    go_enter Try.func105, Try.ntmps105
    go_wp2_with fail
    refine (waypt_is a b m false HM.out (by simpa using hl) _ h1 h2).mono ?_
    rintro e w' ⟨rfl, rfl⟩
    go_wp2
    go_ret
    exact ⟨rfl, rfl⟩

set_option maxRecDepth 100000 in
theorem Waypt_ok (a b n : Int) (t : Bool) (h : smallL 25920000 [a, b] = true) (hn : wayF a b = n) (ht : decide (648000 < n) = t) (w : World) :
    Calls Try.prog 35 #[.int .i64 a, .int .i64 b] w fun e w' => e = .returned (.tuple #[.int .i64 n, .bool t, .int .i64 0]) ∧ Below w.heap.size w w' := by
  have H := Lib.hid h
  have HN := Lib.hid hn
  have HT := Lib.hid ht
  have hp : PosR a ∧ PosR b := by
    unfold smallL at h
    simp only [List.all_cons, List.all_nil, Bool.and_true, Bool.and_eq_true, withinB_iff] at h
    unfold PosR
    omega
  obtain ⟨p1, p2⟩ := hp
  clear h hn ht
  go_enter Try.func35, Try.ntmps35
  go_wp2_with fail
  refine (smallpt_lit 25920000 [a, b] 2 _ _ true H.out _ rfl rfl (by omega) (by omega) (by omega)).mono ?_
  rintro e w1 ⟨rfl, hb⟩
  have HB1 := Lib.hid (show Below w.heap.size w w1 from step_below hb (by repeat' (first | exact Below.refl _ _ | exact HB0.out | refine below_drewN ?_ _ | refine Below.drew ?_ | refine Below.alloc ?_ (by first | omega | (simp; done) | (simp; omega) | (simp [World.setCell]; omega)) _ | refine Below.setCell ?_ (by first | omega | (simp; done) | (simp; omega)) _ | assumption)))
  have hz1 := hb.size
  try simp only [World.size_alloc, World.drewN, World.drew] at hz1
  clear hb
  go_wp2_with fail
  refine (waypt_is a b n t HN.out HT.out _ p1 p2).mono ?_
  rintro e w' ⟨rfl, rfl⟩
  go_wp2
  go_ret3
  exact ⟨rfl, HB1.out⟩

end Go.Proofs.Ytdidcpealabaiaa

end
