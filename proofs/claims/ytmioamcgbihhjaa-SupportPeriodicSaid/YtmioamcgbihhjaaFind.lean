/- Contracts of the search of a list by a function value, and of the copy of a train. -/
import Derived.Test.YtmioamcgbihhjaaCopy
import Derived.Test.YtmioamcgbihhjaaTrain
namespace Go.Proofs.Ytmioamcgbihhjaa
open Go Go.RowKit

/-- A function value that asks something of a number, and changes nothing. -/
structure Asks (k : FuncId) (pr : Int → Bool) : Prop where
  ent : ∀ (args : Array Value) (w : World), (callFunc k args).run Try.prog w = .ok (.enter k args) w
  call : ∀ (z : Int) (w : World), Calls Try.prog k #[.int .i64 z] w fun e w' => e = .returned (.bool (pr z)) ∧ w = w'

theorem Asks.is {k : FuncId} {pr : Int → Bool} (h : Asks k pr) (z : Int) (t : Bool) (ht : pr z = t) (w : World) : Calls Try.prog k #[.int .i64 z] w fun e w' => e = .returned (.bool t) ∧ w = w' := ht ▸ h.call z w

theorem any_take {pr : Int → Bool} {l : List Int} {k : Nat} {z : Int} (hz : l[k]? = some z) (h : (l.take k).any pr = false) (hp : pr z = false) : (l.take (k + 1)).any pr = false := by
  rw [List.take_add_one, hz]
  simp [List.any_append, h, hp]

set_option maxRecDepth 100000 in
theorem indexfunc_any (k : FuncId) (pr : Int → Bool) (hk : Asks k pr) (A : Option Addr) (n c N : Nat) (l : List Int) (w : World) (hx : Reads w N 1 A n (l.map (.int .i64))) (hN : N ≤ w.heap.size) (hn : n ≤ 9223372036854775807) :
    Calls Try.prog 129 #[.slice A n c, .func (.func k) #[] #[]] w fun e w' => (∃ r : Int, e = .returned (.int .i64 r) ∧ (0 ≤ r ↔ l.any pr = true)) ∧ Below w.heap.size w w' := by
  have hxl : l.length = n := by have := hx.1; simpa using this
  have HX := Lib.hid hx
  have HXL := Lib.hid hxl
  have hent := hk.ent
  have HK := Lib.hid hk
  clear hx hxl hk
  go_enter Try.func129, Try.ntmps129
  go_wp2
  go_loopw [8] (fun i wr => ∃ q : Nat, q ≤ n ∧ i = .int .i64 q ∧ (l.take q).any pr = false ∧ Below w.heap.size w wr) (fun i _ => n - (intOf i).toNat)
  case atStart => exact ⟨0, by omega, rfl, by simp, Below.refl _ _⟩
  case round =>
    obtain ⟨q, hq, rfl, ht, hb⟩ := hrel
    have HT := Lib.hid ht
    have HB := Lib.hid hb
    clear ht hb
    by_cases hlt : q < n
    · obtain ⟨xb, xo, u, rfl, hxb, hu, c0⟩ := (HX.out.belowLe HB.out hN).at_ hlt
      obtain ⟨z, hz, rfl⟩ : ∃ z, l[q]? = some z ∧ .int .i64 z = u := by
        rw [List.getElem?_map] at hu
        cases h : l[q]? with
        | none => rw [h] at hu; cases hu
        | some t => rw [h] at hu; exact ⟨t, rfl, Option.some.inj hu⟩
      have HZ := Lib.hid hz
      clear hu hz
      cases hp : pr z with
      | false =>
        have HP := Lib.hid hp
        clear hp
        go_wp2
        refine (HK.out.is z false HP.out _).mono ?_
        rintro e w' ⟨rfl, rfl⟩
        go_wp2
        go_roundw
        case rel => exact ⟨q + 1, by omega, by go_num, any_take HZ.out HT.out HP.out, HB.out⟩
        case measure => simp [intOf]; omega
      | true =>
        have HP := Lib.hid hp
        clear hp
        go_wp2
        refine (HK.out.is z true HP.out _).mono ?_
        rintro e w' ⟨rfl, rfl⟩
        go_wp2
        go_ret
        refine ⟨⟨_, rfl, ?_⟩, HB.out⟩
        have : l.any pr = true := List.any_eq_true.2 ⟨z, List.mem_of_getElem? HZ.out, HP.out⟩
        simp [this]
    · go_wp2
      go_ret
      refine ⟨⟨_, rfl, ?_⟩, HB.out⟩
      have ht := HT.out
      rw [List.take_of_length_le (by rw [HXL.out]; omega)] at ht
      rw [ht]
      simp

theorem containsfunc_any (k : FuncId) (pr : Int → Bool) (hk : Asks k pr) (A : Option Addr) (n c N : Nat) (l : List Int) (w : World) (hx : Reads w N 1 A n (l.map (.int .i64))) (hN : N ≤ w.heap.size) (hn : n ≤ 9223372036854775807) (t : Bool) (ht : l.any pr = t) :
    Calls Try.prog 107 #[.slice A n c, .func (.func k) #[] #[]] w fun e w' => e = .returned (.bool t) ∧ Below w.heap.size w w' := by
  have HX := Lib.hid hx
  have HT := Lib.hid ht
  have HI := Lib.hid (indexfunc_any k pr hk A n c N l)
  clear hx ht
  go_enter Try.func107, Try.ntmps107
  go_wp2_with fail
  refine (HI.out w HX.out hN hn).mono ?_
  rintro e w1 ⟨⟨r, rfl, hr⟩, hb⟩
  have HR := Lib.hid hr
  have HB := Lib.hid hb
  clear hr hb
  cases t with
  | false =>
    have h : ¬ 0 ≤ r := fun h => by have := HR.out.1 h; rw [HT.out] at this; cases this
    have h' : r < 0 := by omega
    go_wp2
    go_ret
    exact ⟨by first | rfl | (simp; done) | (simp; omega), HB.out⟩
  | true =>
    have h := HR.out.2 HT.out
    go_wp2
    go_ret
    exact ⟨by first | rfl | (simp; done) | (simp; omega), HB.out⟩

set_option maxRecDepth 100000 in
theorem periodic1_call (z : Int) (t : Bool) (ht : withinB z 0 1000000 = t) (w : World) : Calls Try.prog 108 #[.int .i64 z] w fun e w' => e = .returned (.bool (!t)) ∧ w = w' := by
  have H := Lib.hid ht
  clear ht
  go_enter Try.func108, Try.ntmps108
  go_wp2_with fail
  refine (withinsup_is _ _ _ _ H.out _).mono ?_
  rintro e w' ⟨rfl, rfl⟩
  cases t with
  | false =>
    go_wp2
    go_ret
    exact ⟨rfl, rfl⟩
  | true =>
    go_wp2
    go_ret
    exact ⟨rfl, rfl⟩
theorem periodic1_asks : Asks 108 (fun z => !(withinB z 0 1000000)) where
  ent := fun _ _ => by kernel_rfl
  call := fun z w => periodic1_call z _ rfl w

theorem eq_nil_pairs (A : Option Addr) (n c : Nat) (w : World) : (Op.equalIn 10000 34 (.slice A n c) (.slice none 0 0)).run Try.prog w = .ok A.isNone w := by
  show (Op.equalIn (9999 + 1) _ _ _).run _ w = _
  rw [Op.equalIn.eq_def]
  cases A <;> simp [Sem.run_bind, run_underlying Try.underlying34]
@[go_sem ↓ high] theorem eql_nil_pairs (A : Option Addr) (n c : Nat) (w : World) : (binOp .eql 34 (.slice A n c) (.slice none 0 0)).run Try.prog w = .ok (.bool A.isNone) w := by
  simp only [binOp]
  simp [Op.equal, Op.maxDepth, eq_nil_pairs]

set_option maxRecDepth 100000 in
theorem clone_any (A : Option Addr) (n c N : Nat) (l : List (Int × Int)) (w : World) (hx : Reads w N 2 A n (cells2 l)) (hN : N ≤ w.heap.size) (hn : n ≤ 1000000) :
    Calls Try.prog 109 #[.slice A n c] w (CopyPost w 45 2 n (cells2 l)) := by
  cases A with
  | none =>
    have hn0 : n = 0 := by
      rcases Nat.eq_zero_or_pos n with h | h
      · exact h
      · obtain ⟨_, _, e, _⟩ := hx.2 h
        cases e
    subst hn0
    have hl : cells2 l = [] := List.length_eq_zero_iff.1 (by simpa using hx.1)
    have HL := Lib.hid hl
    clear hx hl
    go_enter Try.func109, Try.ntmps109
    go_wp2
    go_ret
    exact ⟨none, 0, rfl, Below.refl _ _, by rw [HL.out]; exact Reads.none_, by rw [HL.out]; exact World.ownsRow_nil _ _ _ _⟩
  | some a =>
    obtain ⟨v', W2, hrun, ho, hb⟩ := copy_run (P := Try.prog) 34 34 45 _ 2 16 Try.underlying34 info_pair rfl (by omega) w N (some a) n c (cells2 l) hx hN (one_cells2 l) (by unfold maxLen; omega) (by omega)
    have HRUN := Lib.hid hrun
    have HO := Lib.hid ho
    have HB := Lib.hid hb
    clear hrun ho hb hx
    go_enter Try.func109, Try.ntmps109
    go_wp2_with (first | (at_builtin; refine wpList_app _ W2 v' rfl _ _ _ rfl _ _ rfl rfl HRUN.out ?_))
    go_ret
    exact CopyPost.of HO.out HB.out

end Go.Proofs.Ytmioamcgbihhjaa
