import Derived.Test.YtoiconebcmneiabQ5
import Derived.Test.YtoiconebcmneiabQ8
import Derived.Test.YtoiconebcmneiabQ9
import Derived.Test.YtoiconebcmneiabQ6

section
/- The contracts of the check of a train of gears, of its products, and of Returns. -/
namespace Go.Proofs.Ytoiconebcmneiab
open Go.RowKit

/-- Both numbers are those of teeth. -/
def okP (p : Int × Int) : Bool := withinB p.1 1 500 && withinB p.2 1 500
def trainErr (l : List (Int × Int)) : Int := if 12 < l.length then 8 else if l.all okP then 0 else 2

theorem okP_yes {p : Int × Int} (h1 : withinB p.1 1 500 = true) (h2 : withinB p.2 1 500 = true) : okP p = true := by unfold okP; rw [h1, h2]; rfl
theorem okP_no1 {p : Int × Int} (h1 : withinB p.1 1 500 = false) : okP p = false := by unfold okP; rw [h1]; rfl
theorem okP_no2 {p : Int × Int} (h1 : withinB p.2 1 500 = false) : okP p = false := by unfold okP; rw [h1]; simp
theorem okP_part {p : Int × Int} (h : okP p = true) : 1 ≤ p.1 ∧ p.1 ≤ 500 ∧ 1 ≤ p.2 ∧ p.2 ≤ 500 := by
  unfold okP at h
  rw [Bool.and_eq_true, withinB_iff, withinB_iff] at h
  exact ⟨h.1.1, h.1.2, h.2.1, h.2.2⟩
theorem all_take_succ {l : List (Int × Int)} {k : Nat} {p : Int × Int} (h : (l.take k).all okP = true) (hp : l[k]? = some p) (ho : okP p = true) : (l.take (k + 1)).all okP = true := by
  rw [List.take_add_one, hp, List.all_append, h]; simp [ho]
theorem all_no {l : List (Int × Int)} {k : Nat} {p : Int × Int} (hp : l[k]? = some p) (ho : okP p = false) : l.all okP = false := by
  rw [List.all_eq_false]
  exact ⟨p, List.mem_of_getElem? hp, by rw [ho]; exact Bool.false_ne_true⟩

set_option maxHeartbeats 1000000 in
theorem checktrain_any (A : Option Addr) (n c N : Nat) (l : List (Int × Int)) (w : World) (hx : Reads w N 2 A n (cells2 l)) (hN : N ≤ w.heap.size) (hn : n ≤ 9223372036854775807) :
    Calls Try.prog 71 #[.slice A n c] w fun e w' => e = .returned (.int .i64 (trainErr l)) ∧ Below w.heap.size w w' := by
  have hxl := Lib.hid hx.len2
  have HX := Lib.hid hx
  clear hx
  by_cases h12 : (12 : Int) < n
  · have HE : Hid (trainErr l = 8) := by show _ = _; unfold trainErr; rw [if_pos (by rw [hxl.out]; omega)]
    go_enter Try.func71, Try.ntmps71
    go_wp2
    go_ret
    exact ⟨ret_int HE.out.symm, Below.refl _ _⟩
  have HE : Hid (trainErr l = if l.all okP then 0 else 2) := by show _ = _; unfold trainErr; rw [if_neg (by rw [hxl.out]; omega)]
  go_enter Try.func71, Try.ntmps71
  go_wp2
  go_loopw [10] (fun i wr => ∃ k : Nat, k ≤ n ∧ i = .int .i64 k ∧ (l.take k).all okP = true ∧ Below w.heap.size w wr) (fun i _ => n - (intOf i).toNat)
  case atStart => exact ⟨0, by omega, rfl, rfl, Below.refl _ _⟩
  case round =>
    obtain ⟨k, hk, rfl, ht, hb⟩ := hrel
    have HT := Lib.hid ht
    have HB := Lib.hid hb
    clear ht hb
    by_cases hlt : k < n
    · obtain ⟨xb, xo, p, rfl, hxb, hp, c0, c1⟩ := (HX.out.belowLe HB.out hN).pair hlt
      have HP := Lib.hid hp
      clear hp
      cases h1 : withinB p.1 1 500 with
      | false =>
        have HO := Lib.hid (okP_no1 h1)
        go_wp2_with (first | (go_at_call 46; refine (withinsup_is _ _ _ _ (by assumption) _).mono ?_; rintro e w' ⟨rfl, rfl⟩))
        go_ret
        exact ⟨ret_int (by rw [HE.out, all_no HP.out HO.out]; rfl), HB.out.alloc HB.out.size _⟩
      | true =>
        cases h2 : withinB p.2 1 500 with
        | false =>
          have HO := Lib.hid (okP_no2 h2)
          go_wp2_with (first | (go_at_call 46; refine (withinsup_is _ _ _ _ (by assumption) _).mono ?_; rintro e w' ⟨rfl, rfl⟩))
          go_ret
          exact ⟨ret_int (by rw [HE.out, all_no HP.out HO.out]; rfl), HB.out.alloc HB.out.size _⟩
        | true =>
          have HO := Lib.hid (okP_yes h1 h2)
          go_wp2_with (first | (go_at_call 46; refine (withinsup_is _ _ _ _ (by assumption) _).mono ?_; rintro e w' ⟨rfl, rfl⟩))
          go_roundw
          case rel => exact ⟨k + 1, by omega, by go_num, all_take_succ HT.out HP.out HO.out, HB.out.alloc HB.out.size _⟩
          case measure => simp [intOf]; omega
    · go_wp2
      go_ret
      have e : l.take k = l := List.take_of_length_le (by rw [hxl.out]; omega)
      exact ⟨ret_int (by rw [HE.out, ← e, HT.out]; rfl), HB.out⟩

theorem checktrain_is (A : Option Addr) (n c N : Nat) (l : List (Int × Int)) (t : Int) (h : trainErr l = t) (w : World) (hx : Reads w N 2 A n (cells2 l)) (hN : N ≤ w.heap.size) (hn : n ≤ 9223372036854775807) :
    Calls Try.prog 71 #[.slice A n c] w fun e w' => e = .returned (.int .i64 t) ∧ Below w.heap.size w w' := h ▸ checktrain_any A n c N l w hx hN hn

/-- What a train does: each product is handed to a step; false: one is not small. -/
def trainF {σ : Type} (step : σ → Int × Int → σ) : σ → Int × Int → List (Int × Int) → σ × Bool
  | s, _, [] => (s, true)
  | s, f, g :: l => if smallB (f.1 * g.1) (f.2 * g.2) then trainF step (step s (redN (f.1 * g.1) (f.2 * g.2), redD (f.1 * g.1) (f.2 * g.2))) (redN (f.1 * g.1) (f.2 * g.2), redD (f.1 * g.1) (f.2 * g.2)) l else (s, false)

/-- What a function value that is called leaves as it was: all blocks from B on. -/
structure Keeps (B : Nat) (w w' : World) : Prop where
  size : w.heap.size ≤ w'.heap.size
  block : ∀ k, B ≤ k → k < w.heap.size → w'.heap[k]? = w.heap[k]?

theorem Keeps.blk {B : Nat} {w w' : World} (h : Keeps B w w') {g : Nat} {t : TypeId} {cs : Array Value} (hg : Blk w g t cs) (hB : B ≤ g) : Blk w' g t cs := (h.block g hB hg.lt).trans hg

/-- What a function value does with a state that lies below B. -/
structure Each (B : Nat) (k : FuncId) (caps : Array Value) {σ : Type} (Inv : σ → World → Prop) (step : σ → Int × Int → σ) : Prop where
  ent : ∀ (args : Array Value) (w : World), (callFunc k args).run Try.prog w = .ok (.enter k args) w
  call : ∀ (s : σ) (w : World) (f : Int × Int), B ≤ w.heap.size → Inv s w → Part f.1 → Part f.2 →
    Calls Try.prog k (#[.agg #[.int .i64 f.1, .int .i64 f.2]] ++ caps) w fun e w' => e = .returned (.tuple #[]) ∧ Inv (step s f) w' ∧ Keeps B w w'
  keep : ∀ (s : σ) (w w' : World), Inv s w → Below B w w' → Inv s w'

theorem part_bound {a b : Int} (h : Part a) (h1 : 1 ≤ b) (h2 : b ≤ 500) : 1 ≤ a * b ∧ a * b ≤ 500000000000 := by
  obtain ⟨p1, p2⟩ := h
  have m1 := Int.mul_le_mul p1 h1 (by omega) (by omega)
  have m2 := Int.mul_le_mul p2 h2 (by omega) (by omega)
  omega

set_option maxRecDepth 100000 in
set_option maxHeartbeats 1000000 in
theorem train_any {σ : Type} (B : Nat) (k : FuncId) (caps : Array Value) (Inv : σ → World → Prop) (step : σ → Int × Int → σ) (he : Each B k caps Inv step) (A : Option Addr) (n c N : Nat) (l : List (Int × Int)) (w : World) (s : σ)
    (hB : B = w.heap.size) (hN : N ≤ B) (hread : ∀ s w, Inv s w → Reads w N 2 A n (cells2 l)) (hi : Inv s w) (hn : n ≤ 9223372036854775807) (hok : l.all okP = true) :
    Calls Try.prog 72 #[.slice A n c, .func (.func k) #[] caps] w fun e w' => e = .returned (.bool (trainF step (step s (1, 1)) (1, 1) l).2) ∧ Inv (trainF step (step s (1, 1)) (1, 1) l).1 w' := by
  have HI := Lib.hid hi
  have hent := he.ent
  have HE := Lib.hid he
  have HR := Lib.hid hread
  have HOK := Lib.hid hok
  have hs0 := HR.out s w hi
  have hxl := Lib.hid hs0.len2
  clear hi he hread hok hs0
  go_enter Try.func72, Try.ntmps72
  go_wp2
  refine (HE.out.call s _ (1, 1) (by simp; omega) (HE.out.keep s _ _ HI.out (by rw [hB]; exact (Below.refl _ _).alloc (Nat.le_refl _) _)) ⟨by decide, by decide⟩ ⟨by decide, by decide⟩).mono ?_
  rintro e w1 ⟨rfl, hi1, hk1⟩
  have hf1 : Blk w1 w.heap.size 53 #[.int .i64 1, .int .i64 1] := hk1.blk (Blk.at_ _ rfl _ _) (by omega)
  have hz1 := hk1.size
  simp only [World.size_alloc] at hz1
  have HI1 := Lib.hid hi1
  have HF1 := Lib.hid hf1
  clear hi1 hk1 hf1
  go_wp2
  go_loopw [15] (fun i wr => ∃ (q : Nat) (s1 : σ) (f : Int × Int), q ≤ n ∧ i = .int .i64 q ∧ Part f.1 ∧ Part f.2 ∧ Hid (trainF step (step s (1, 1)) (1, 1) l = trainF step s1 f (l.drop q)) ∧ Inv s1 wr ∧ Blk wr w.heap.size 53 #[.int .i64 f.1, .int .i64 f.2] ∧ w.heap.size < wr.heap.size) (fun i _ => n - (intOf i).toNat)
  case atStart => exact ⟨0, step s (1, 1), (1, 1), by omega, rfl, ⟨by decide, by decide⟩, ⟨by decide, by decide⟩, by show _ = _; rw [List.drop_zero], HI1.out, HF1.out, by omega⟩
  case round =>
    obtain ⟨q, s1, f, hq, rfl, pf1, pf2, HT, hi2, hf2, hz2⟩ := hrel
    have HI2 := Lib.hid hi2
    have HF2 := Lib.hid hf2
    clear hi2 hf2
    by_cases hlt : q < n
    · obtain ⟨xb, xo, p, rfl, hxb, hp, c0, c1⟩ := (HR.out s1 _ HI2.out).pair hlt
      obtain ⟨p1, p2, p3, p4⟩ := okP_part (List.all_eq_true.1 HOK.out p (List.mem_of_getElem? hp))
      have m1 := part_bound pf1 p1 p2
      have m2 := part_bound pf2 p3 p4
      have hd : l.drop q = p :: l.drop (q + 1) := by
        obtain ⟨h1, h2⟩ := List.getElem?_eq_some_iff.1 hp
        rw [List.drop_eq_getElem_cons h1, h2]
      have y0 : ∀ o, (wr.alloc o).cell? ⟨w.heap.size, 0, none⟩ = some (.int .i64 f.1) := fun o => (HF2.out.alloc o).cell 0
      have y1 : ∀ o, (wr.alloc o).cell? ⟨w.heap.size, 1, none⟩ = some (.int .i64 f.2) := fun o => (HF2.out.alloc o).cell 1
      have HP := Lib.hid hp
      have HD := Lib.hid hd
      clear hp hd
      go_wp2_with fail
      refine (small_red _ _ _ (by omega) (by omega) (by omega) (by omega)).mono ?_
      rintro e w2 ⟨rfl, hb2⟩
      simp only [World.size_alloc] at hb2
      have hb3 : Below wr.heap.size wr w2 := ((Below.refl _ _).alloc (Nat.le_refl _) _).trans (hb2.mono (by omega))
      have hf3 := HF2.out.below hb3 HF2.out.lt
      have hz3 := hb3.size
      have HB3 := Lib.hid hb3
      have HF3 := Lib.hid hf3
      clear hb2 hb3 hf3
      cases h1 : smallB (f.1 * p.1) (f.2 * p.2) with
      | false =>
        have H1 := Lib.hid h1
        clear h1
        have y2 : w2.cell? ⟨w.heap.size, 0, none⟩ = some (.int .i64 f.1) := HF3.out.cell 0
        have y3 : w2.frozen? ⟨w.heap.size, 0, none⟩ = false := HF3.out.frozen 0
        have y4 : w2.cell? ⟨w.heap.size, 1, none⟩ = some (.int .i64 f.2) := HF3.out.cell 1
        have y5 : w2.frozen? ⟨w.heap.size, 1, none⟩ = false := HF3.out.frozen 1
        go_wp2
        go_ret
        have hT : trainF step (step s (1, 1)) (1, 1) l = (s1, false) := by
          rw [HT.out, HD.out]
          simp only [trainF, H1.out, Bool.false_eq_true, if_false]
        rw [hT]
        refine ⟨rfl, HE.out.keep s1 _ _ HI2.out ?_⟩
        exact (((HB3.out.mono (by omega)).setCell (p := ⟨w.heap.size, 0, none⟩) (by simp; omega) _).setCell (p := ⟨w.heap.size, 1, none⟩) (by simp; omega) _)
      | true =>
        have hpart := red_part m1.1 m2.1 h1
        have H1 := Lib.hid h1
        have HPART := Lib.hid hpart
        clear h1 hpart
        have y2 : w2.cell? ⟨w.heap.size, 0, none⟩ = some (.int .i64 f.1) := HF3.out.cell 0
        have y3 : w2.frozen? ⟨w.heap.size, 0, none⟩ = false := HF3.out.frozen 0
        have y4 : w2.cell? ⟨w.heap.size, 1, none⟩ = some (.int .i64 f.2) := HF3.out.cell 1
        have y5 : w2.frozen? ⟨w.heap.size, 1, none⟩ = false := HF3.out.frozen 1
        have hf4 := (HF3.out.set_ 0 (.int .i64 (redN (f.1 * p.1) (f.2 * p.2)))).set_ 1 (.int .i64 (redD (f.1 * p.1) (f.2 * p.2)))
        have hi4 := HE.out.keep s1 _ ((w2.setCell ⟨w.heap.size, 0, none⟩ (.int .i64 (redN (f.1 * p.1) (f.2 * p.2)))).setCell ⟨w.heap.size, 1, none⟩ (.int .i64 (redD (f.1 * p.1) (f.2 * p.2)))) HI2.out (((HB3.out.mono (by omega)).setCell (p := ⟨w.heap.size, 0, none⟩) (by simp; omega) _).setCell (p := ⟨w.heap.size, 1, none⟩) (by simp; omega) _)
        have HF4 := Lib.hid hf4
        have HI4 := Lib.hid hi4
        clear hf4 hi4
        go_wp2
        refine (HE.out.call s1 _ (redN (f.1 * p.1) (f.2 * p.2), redD (f.1 * p.1) (f.2 * p.2)) (by simp [World.setCell]; omega) HI4.out HPART.out.1 HPART.out.2).mono ?_
        rintro e w5 ⟨rfl, hi5, hk5⟩
        have hf5 := hk5.blk HF4.out (by omega)
        have hz5 := hk5.size
        have HF5 := Lib.hid hf5
        have HI5 := Lib.hid hi5
        clear hf5 hi5 hk5
        go_wp2
        go_roundw
        case rel =>
          refine ⟨q + 1, _, (redN (f.1 * p.1) (f.2 * p.2), redD (f.1 * p.1) (f.2 * p.2)), by omega, by go_num, HPART.out.1, HPART.out.2, ?_, HI5.out, ?_, ?_⟩
          · show _ = _
            rw [HT.out, HD.out]
            simp only [trainF, H1.out, if_true]
          · simpa using HF5.out
          · simp [World.setCell] at hz5; omega
        case measure => simp [intOf]; omega
    · go_wp2
      go_ret
      have hqn : q = n := by omega
      have e := HT.out
      rw [List.drop_of_length_le (by rw [hxl.out]; omega)] at e
      rw [e]
      exact ⟨rfl, HI2.out⟩

theorem train_is {σ : Type} (B : Nat) (k : FuncId) (caps : Array Value) (Inv : σ → World → Prop) (step : σ → Int × Int → σ) (he : Each B k caps Inv step) (A : Option Addr) (n c N : Nat) (l : List (Int × Int)) (w : World) (s t : σ) (ok : Bool)
    (ht : trainF step (step s (1, 1)) (1, 1) l = (t, ok)) (hB : B = w.heap.size) (hN : N ≤ B) (hread : ∀ s w, Inv s w → Reads w N 2 A n (cells2 l)) (hi : Inv s w) (hn : n ≤ 9223372036854775807) (hok : l.all okP = true) :
    Calls Try.prog 72 #[.slice A n c, .func (.func k) #[] caps] w fun e w' => e = .returned (.bool ok) ∧ Inv t w' :=
  (train_any B k caps Inv step he A n c N l w s hB hN hread hi hn hok).mono fun e w' h => by rw [ht] at h; exact h

end Go.Proofs.Ytoiconebcmneiab

end

section
/- Contracts of the search of a list by a function value, and of the copy of a train. -/
namespace Go.Proofs.Ytoiconebcmneiab
open Go Go.RowKit

/-- A function value that asks something of a number, and changes nothing. -/
structure Asks (k : FuncId) (pr : Int → Bool) : Prop where
  ent : ∀ (args : Array Value) (w : World), (callFunc k args).run Try.prog w = .ok (.enter k args) w
  call : ∀ (z : Int) (w : World), Calls Try.prog k #[.int .i64 z] w fun e w' => e = .returned (.bool (pr z)) ∧ w = w'

theorem Asks.is {k : FuncId} {pr : Int → Bool} (h : Asks k pr) (z : Int) (t : Bool) (ht : pr z = t) (w : World) : Calls Try.prog k #[.int .i64 z] w fun e w' => e = .returned (.bool t) ∧ w = w' := ht ▸ h.call z w

theorem any_take {pr : Int → Bool} {l : List Int} {k : Nat} {z : Int} (hz : l[k]? = some z) (h : (l.take k).any pr = false) (hp : pr z = false) : (l.take (k + 1)).any pr = false := by
  rw [List.take_add_one, hz]
  simp [List.any_append, h, hp]

set_option maxRecDepth 100000 in
theorem indexfunc_any (k : FuncId) (pr : Int → Bool) (hk : Asks k pr) (A : Option Addr) (n c N : Nat) (l : List Int) (w : World) (hx : Reads w N 1 A n (l.map (.int .i64))) (hN : N ≤ w.heap.size) (hn : n ≤ 9223372036854775807) :
    Calls Try.prog 86 #[.slice A n c, .func (.func k) #[] #[]] w fun e w' => (∃ r : Int, e = .returned (.int .i64 r) ∧ (0 ≤ r ↔ l.any pr = true)) ∧ Below w.heap.size w w' := by
  have hxl : l.length = n := by have := hx.1; simpa using this
  have HX := Lib.hid hx
  have HXL := Lib.hid hxl
  have hent := hk.ent
  have HK := Lib.hid hk
  clear hx hxl hk
  go_enter Try.func86, Try.ntmps86
  go_wp2
  go_loopw [8] (fun i wr => ∃ q : Nat, q ≤ n ∧ i = .int .i64 q ∧ (l.take q).any pr = false ∧ Below w.heap.size w wr) (fun i _ => n - (intOf i).toNat)
  case atStart => exact ⟨0, by omega, rfl, by simp, Below.refl _ _⟩
  case round =>
    obtain ⟨q, hq, rfl, ht, hb⟩ := hrel
    have HT := Lib.hid ht
    have HB := Lib.hid hb
    clear ht hb
    by_cases hlt : q < n
    · obtain ⟨xb, xo, u, rfl, hxb, hu, c0⟩ := (HX.out.belowLe HB.out hN).at_ hlt
      obtain ⟨z, hz, rfl⟩ : ∃ z, l[q]? = some z ∧ .int .i64 z = u := by
        rw [List.getElem?_map] at hu
        cases h : l[q]? with
        | none => rw [h] at hu; cases hu
        | some t => rw [h] at hu; exact ⟨t, rfl, Option.some.inj hu⟩
      have HZ := Lib.hid hz
      clear hu hz
      cases hp : pr z with
      | false =>
        have HP := Lib.hid hp
        clear hp
        go_wp2
        refine (HK.out.is z false HP.out _).mono ?_
        rintro e w' ⟨rfl, rfl⟩
        go_wp2
        go_roundw
        case rel => exact ⟨q + 1, by omega, by go_num, any_take HZ.out HT.out HP.out, HB.out⟩
        case measure => simp [intOf]; omega
      | true =>
        have HP := Lib.hid hp
        clear hp
        go_wp2
        refine (HK.out.is z true HP.out _).mono ?_
        rintro e w' ⟨rfl, rfl⟩
        go_wp2
        go_ret
        refine ⟨⟨_, rfl, ?_⟩, HB.out⟩
        have : l.any pr = true := List.any_eq_true.2 ⟨z, List.mem_of_getElem? HZ.out, HP.out⟩
        simp [this]
    · go_wp2
      go_ret
      refine ⟨⟨_, rfl, ?_⟩, HB.out⟩
      have ht := HT.out
      rw [List.take_of_length_le (by rw [HXL.out]; omega)] at ht
      rw [ht]
      simp

theorem containsfunc_any (k : FuncId) (pr : Int → Bool) (hk : Asks k pr) (A : Option Addr) (n c N : Nat) (l : List Int) (w : World) (hx : Reads w N 1 A n (l.map (.int .i64))) (hN : N ≤ w.heap.size) (hn : n ≤ 9223372036854775807) (t : Bool) (ht : l.any pr = t) :
    Calls Try.prog 53 #[.slice A n c, .func (.func k) #[] #[]] w fun e w' => e = .returned (.bool t) ∧ Below w.heap.size w w' := by
  have HX := Lib.hid hx
  have HT := Lib.hid ht
  have HI := Lib.hid (indexfunc_any k pr hk A n c N l)
  clear hx ht
  go_enter Try.func53, Try.ntmps53
  go_wp2_with fail
  refine (HI.out w HX.out hN hn).mono ?_
  rintro e w1 ⟨⟨r, rfl, hr⟩, hb⟩
  have HR := Lib.hid hr
  have HB := Lib.hid hb
  clear hr hb
  cases t with
  | false =>
    have h : ¬ 0 ≤ r := fun h => by have := HR.out.1 h; rw [HT.out] at this; cases this
    have h' : r < 0 := by omega
    go_wp2
    go_ret
    exact ⟨by first | rfl | (simp; done) | (simp; omega), HB.out⟩
  | true =>
    have h := HR.out.2 HT.out
    go_wp2
    go_ret
    exact ⟨by first | rfl | (simp; done) | (simp; omega), HB.out⟩



theorem eq_nil_pairs (A : Option Addr) (n c : Nat) (w : World) : (Op.equalIn 10000 64 (.slice A n c) (.slice none 0 0)).run Try.prog w = .ok A.isNone w := by
  show (Op.equalIn (9999 + 1) _ _ _).run _ w = _
  rw [Op.equalIn.eq_def]
  cases A <;> simp [Sem.run_bind, run_underlying Try.underlying64]

@[go_sem ↓ high] theorem eql_nil_pairs (A : Option Addr) (n c : Nat) (w : World) : (binOp .eql 64 (.slice A n c) (.slice none 0 0)).run Try.prog w = .ok (.bool A.isNone) w := by
  simp only [binOp]
  simp [Op.equal, Op.maxDepth, eq_nil_pairs]


end Go.Proofs.Ytoiconebcmneiab

end

section
/- The checks of tables, the program's and the reference's; how large a table may be. -/
namespace Go.Proofs.Ytoiconebcmneiab
open Go Go.RowKit

theorem any_takeR {α : Type} {pr : α → Bool} {l : List α} {k : Nat} {z : α} (hz : l[k]? = some z) (h : (l.take k).any pr = false) (hp : pr z = false) : (l.take (k + 1)).any pr = false := by
  rw [List.take_add_one, hz]
  simp [List.any_append, h, hp]
def headLen (t : List TRow) : Nat := ((t[0]?).map TRow.n).getD 0
def oddB (t : List TRow) (r : TRow) : Bool := decide (r.n ≠ headLen t)
def outZ (z : Int) : Bool := !(withinB z (-10000) 10000)
def outR (r : TRow) : Bool := r.xs.any outZ
/-- The error of a table. -/
def tblErr (t : List TRow) : Int :=
  if withinB (t.length : Int) 1 40 = false then 10 else if t.any (oddB t) then 10 else if 41 < headLen t then 8 else if t.any outR then 2 else 0

theorem chk1_call (A : Option Addr) (n c : Nat) (t : List TRow) (r : TRow) (hr : r.n ≤ 9223372036854775807) (vb : Nat) (w : World) (hx : ReadsT w w.heap.size A n t) (hn : 0 < n) (hv : w.cell? ⟨vb, 0, none⟩ = some (.slice A n c)) (b : Bool) (hb : oddB t r = b) :
    Calls Try.prog 52 #[.slice r.A r.n r.c, .pointer (some ⟨vb, 0, none⟩)] w fun e w' => e = .returned (.bool b) ∧ w = w' := by
  obtain ⟨yb, yo, q, rfl, hyb, hq, c0, hqc, -, -⟩ := hx.at_ hn
  have hh : headLen t = q.n := by unfold headLen; rw [hq]; rfl
  have e : ((r.n : Int) != (q.n : Int)) = b := by
    rw [← hb]
    unfold oddB
    rw [hh]
    by_cases h : r.n = q.n
    · simp [h]
    · have : ¬ (r.n : Int) = (q.n : Int) := by omega
      simp [h, this]
  clear hb hh hq hx
  simp only [Nat.add_zero] at c0
  go_enter Try.func52, Try.ntmps52
  go_wp2
  go_ret
  exact ⟨rfl, rfl⟩

theorem chk2_call (z : Int) (t : Bool) (ht : withinB z (-10000) 10000 = t) (w : World) : Calls Try.prog 54 #[.int .i64 z] w fun e w' => e = .returned (.bool (!t)) ∧ w = w' := by
  have HT := Lib.hid ht
  clear ht
  go_enter Try.func54, Try.ntmps54
  go_wp2_with fail
  refine (withinsup_is _ _ _ t HT.out _).mono ?_
  rintro e w' ⟨rfl, rfl⟩
  go_wp2
  go_ret
  exact ⟨rfl, rfl⟩
theorem chk2_asks : Asks 54 outZ where
  ent := enters_of Try.func54 (by kernel_rfl) rfl
  call := fun z w => chk2_call z _ rfl w

set_option maxRecDepth 100000 in
theorem indextab_any (A : Option Addr) (n c vb : Nat) (t : List TRow) (w : World) (hx : ReadsT w w.heap.size A n t) (hn : n ≤ 9223372036854775807) (hv : w.cell? ⟨vb, 0, none⟩ = some (.slice A n c)) (hvb : vb < w.heap.size) :
    Calls Try.prog 85 #[.slice A n c, .func (.func 52) #[] #[.pointer (some ⟨vb, 0, none⟩)]] w fun e w' => (∃ r : Int, e = .returned (.int .i64 r) ∧ (0 ≤ r ↔ t.any (oddB t) = true)) ∧ Below w.heap.size w w' := by
  have hxl := hx.len
  have HX := Lib.hid hx
  have HXL := Lib.hid hxl
  have hent : ∀ (args : Array Value) (w : World), (callFunc 52 args).run Try.prog w = .ok (.enter 52 args) w := enters_of Try.func52 (by kernel_rfl) rfl
  clear hx hxl
  go_enter Try.func85, Try.ntmps85
  go_wp2
  go_loopw [8] (fun i wr => ∃ q : Nat, q ≤ n ∧ i = .int .i64 q ∧ (t.take q).any (oddB t) = false ∧ Below w.heap.size w wr) (fun i _ => n - (intOf i).toNat)
  case atStart => exact ⟨0, by omega, rfl, by simp, Below.refl _ _⟩
  case round =>
    obtain ⟨q, hq, rfl, ht, hb⟩ := hrel
    have HT := Lib.hid ht
    have HB := Lib.hid hb
    have hbs := hb.size
    clear ht hb
    by_cases hlt : q < n
    · obtain ⟨xb, xo, r, rfl, hxb, hr, c0, hrc, -, -⟩ := HX.out.at_ hlt
      have f0 := (HB.out.cell (p := ⟨xb, xo + q, none⟩) hxb).trans c0
      have fv := (HB.out.cell (p := ⟨vb, 0, none⟩) hvb).trans hv
      have HXR := Lib.hid ((HX.out.below HB.out).more hbs)
      have HR := Lib.hid hr
      have hr1 : r.n ≤ 9223372036854775807 := by omega
      clear hr c0
      obtain ⟨b, hb⟩ : ∃ b, oddB t r = b := ⟨_, rfl⟩
      have HP := Lib.hid hb
      clear hb
      go_wp2_with fail
      refine (chk1_call _ n c t r hr1 vb _ HXR.out (by omega) fv b HP.out).mono ?_
      rintro e w' ⟨rfl, rfl⟩
      cases b
      · go_wp2
        go_roundw
        case rel => exact ⟨q + 1, by omega, by go_num, any_takeR HR.out HT.out HP.out, HB.out⟩
        case measure => simp [intOf]; omega
      · go_wp2
        go_ret
        refine ⟨⟨_, rfl, ?_⟩, HB.out⟩
        have : t.any (oddB t) = true := List.any_eq_true.2 ⟨r, List.mem_of_getElem? HR.out, HP.out⟩
        simp [this]
    · go_wp2
      go_ret
      refine ⟨⟨_, rfl, ?_⟩, HB.out⟩
      have ht := HT.out
      rw [List.take_of_length_le (by rw [HXL.out]; omega)] at ht
      rw [ht]
      simp
theorem containstab_any (A : Option Addr) (n c vb : Nat) (t : List TRow) (w : World) (hx : ReadsT w w.heap.size A n t) (hn : n ≤ 9223372036854775807) (hv : w.cell? ⟨vb, 0, none⟩ = some (.slice A n c)) (hvb : vb < w.heap.size) (b : Bool) (ht : t.any (oddB t) = b) :
    Calls Try.prog 51 #[.slice A n c, .func (.func 52) #[] #[.pointer (some ⟨vb, 0, none⟩)]] w fun e w' => e = .returned (.bool b) ∧ Below w.heap.size w w' := by
  have HX := Lib.hid hx
  have HT := Lib.hid ht
  have HI := Lib.hid (indextab_any A n c vb t)
  have HV := Lib.hid hv
  clear hx ht hv
  go_enter Try.func51, Try.ntmps51
  go_wp2_with fail
  refine (HI.out w HX.out hn HV.out hvb).mono ?_
  rintro e w1 ⟨⟨r, rfl, hr⟩, hb⟩
  have HR := Lib.hid hr
  have HB := Lib.hid hb
  clear hr hb
  cases b with
  | false =>
    have h : ¬ 0 ≤ r := fun h => by have := HR.out.1 h; rw [HT.out] at this; cases this
    have h' : r < 0 := by omega
    go_wp2
    go_ret
    exact ⟨by first | rfl | (simp; done) | (simp; omega), HB.out⟩
  | true =>
    have h := HR.out.2 HT.out
    go_wp2
    go_ret
    exact ⟨by first | rfl | (simp; done) | (simp; omega), HB.out⟩

theorem tbl_10 {t : List TRow} (h : withinB (t.length : Int) 1 40 = false) : tblErr t = 10 := by unfold tblErr; rw [if_pos h]
theorem tbl_odd {t : List TRow} (h : withinB (t.length : Int) 1 40 = true) (h2 : t.any (oddB t) = true) : tblErr t = 10 := by unfold tblErr; rw [if_neg (by simp [h]), if_pos h2]
theorem tbl_8 {t : List TRow} (h : withinB (t.length : Int) 1 40 = true) (h2 : t.any (oddB t) = false) (h3 : 41 < headLen t) : tblErr t = 8 := by unfold tblErr; rw [if_neg (by simp [h]), if_neg (by simp [h2]), if_pos h3]
theorem tbl_2 {t : List TRow} (h : withinB (t.length : Int) 1 40 = true) (h2 : t.any (oddB t) = false) (h3 : ¬ 41 < headLen t) (h4 : t.any outR = true) : tblErr t = 2 := by unfold tblErr; rw [if_neg (by simp [h]), if_neg (by simp [h2]), if_neg h3, if_pos h4]
theorem tbl_0 {t : List TRow} (h : withinB (t.length : Int) 1 40 = true) (h2 : t.any (oddB t) = false) (h3 : ¬ 41 < headLen t) (h4 : t.any outR = false) : tblErr t = 0 := by unfold tblErr; rw [if_neg (by simp [h]), if_neg (by simp [h2]), if_neg h3, if_neg (by simp [h4])]

set_option maxRecDepth 100000 in
theorem checktable_any (A : Option Addr) (n c : Nat) (t : List TRow) (w : World) (hx : ReadsT w w.heap.size A n t) (hn : n ≤ 9223372036854775807) (E : Int) (hE : tblErr t = E) :
    Calls Try.prog 15 #[.slice A n c] w fun e w' => e = .returned (.int .i64 E) ∧ Below w.heap.size w w' := by
  have hmf : ∀ (fn : Fn) (first cap : Array Value) (w : World), (Instr.makeFunc fn first cap).run Try.prog w = .ok (.func fn first cap) w := fun _ _ _ _ => rfl
  have hxl := hx.len
  have HE := Lib.hid hE
  have HXL := Lib.hid hxl
  clear hE
  cases hw : withinB (t.length : Int) 1 40 with
  | false =>
    have e := HE.out.symm.trans (tbl_10 hw)
    subst e
    rw [hxl] at hw
    have HW := Lib.hid hw
    clear hw hxl hx
    go_enter Try.func15, Try.ntmps15
    go_wp2_with fail
    refine (withinsup_is _ _ _ false HW.out _).mono ?_
    rintro e w' ⟨rfl, rfl⟩
    go_wp2
    go_ret
    exact ⟨rfl, by first | exact below_drewN ((Below.refl _ _).alloc (Nat.le_refl _) _) _ | exact (Below.refl _ _).alloc (Nat.le_refl _) _⟩
  | true =>
    have hw0 := hw
    rw [hxl] at hw
    have HW := Lib.hid hw
    have hn1 := (withinB_iff _ _ _).1 hw
    obtain ⟨W, hW⟩ : ∃ W, W = w.alloc (.cells #[.slice A n c] 22) := ⟨_, rfl⟩
    have kW : Blk W w.heap.size 22 #[.slice A n c] := by rw [hW]; exact Blk.new _ _ _
    have hsW : W.heap.size = w.heap.size + 1 := by rw [hW]; simp
    have hbW : Below w.heap.size w W := by rw [hW]; exact (Below.refl _ _).alloc (Nat.le_refl _) _
    have HXW : Hid (ReadsT W W.heap.size A n t) := (hx.below hbW).more (by omega)
    obtain ⟨yb, yo, q, hA, hyb, hq, c0, hqc, -, -⟩ := HXW.out.at_ (i := 0) (by omega)
    have hh : headLen t = q.n := by unfold headLen; rw [hq]; rfl
    clear hq hw hx
    subst hA
    simp only [Nat.add_zero] at c0
    cases hodd : t.any (oddB t) with
    | true =>
      have e := HE.out.symm.trans (tbl_odd hw0 hodd)
      subst e
      have HODD := Lib.hid hodd
      have HKW := Lib.hid kW
      clear hw0 hodd hh c0 kW
      go_enter Try.func15, Try.ntmps15
      go_wp2_with fail
      refine (withinsup_is _ _ _ true HW.out _).mono ?_
      rintro e w' ⟨rfl, rfl⟩
      go_wp2_with fail
      rw [← hW]
      refine (containstab_any _ n c w.heap.size t W HXW.out (by omega) (HKW.out.cell 0) (by omega) true HODD.out).mono ?_
      rintro e w' ⟨rfl, hb⟩
      have HBE := Lib.hid (hbW.trans (hb.mono (by omega)))
      clear hb
      go_wp2
      go_ret
      exact ⟨rfl, HBE.out⟩
    | false =>
      have HODD := Lib.hid hodd
      have HKW := Lib.hid kW
      clear hodd kW
      by_cases h41 : 41 < headLen t
      · have e := HE.out.symm.trans (tbl_8 hw0 HODD.out h41)
        subst e
        rw [hh] at h41
        clear hw0 hh
        go_enter Try.func15, Try.ntmps15
        go_wp2_with fail
        refine (withinsup_is _ _ _ true HW.out _).mono ?_
        rintro e w' ⟨rfl, rfl⟩
        go_wp2_with fail
        rw [← hW]
        refine (containstab_any _ n c w.heap.size t W HXW.out (by omega) (HKW.out.cell 0) (by omega) false HODD.out).mono ?_
        rintro e w1 ⟨rfl, hb⟩
        have f0 := (hb.cell (p := ⟨yb, yo, none⟩) hyb).trans c0
        have fv := (hb.cell (p := ⟨w.heap.size, 0, none⟩) (by show w.heap.size < _; omega)).trans (HKW.out.cell 0)
        have HBE := Lib.hid (hbW.trans (hb.mono (by omega)))
        clear hb c0
        go_wp2
        go_ret
        exact ⟨rfl, HBE.out⟩
      · have HHH := Lib.hid hh
        have HW0 := Lib.hid hw0
        have hle : q.n ≤ 41 := by omega
        have H41 := Lib.hid h41
        clear hw0 hh h41
        go_enter Try.func15, Try.ntmps15
        go_wp2_with fail
        refine (withinsup_is _ _ _ true HW.out _).mono ?_
        rintro e w' ⟨rfl, rfl⟩
        go_wp2_with fail
        rw [← hW]
        refine (containstab_any _ n c w.heap.size t W HXW.out (by omega) (HKW.out.cell 0) (by omega) false HODD.out).mono ?_
        rintro e w1 ⟨rfl, hb⟩
        have f0 := (hb.cell (p := ⟨yb, yo, none⟩) hyb).trans c0
        have fv := (hb.cell (p := ⟨w.heap.size, 0, none⟩) (by show w.heap.size < _; omega)).trans (HKW.out.cell 0)
        have hb1s := hb.size
        have HB1 := Lib.hid (hbW.trans (hb.mono (by omega)))
        have HX1 : Hid (ReadsT w1 w1.heap.size _ n t) := (HXW.out.below hb).more hb1s
        clear hb c0 hW HKW HXW
        go_wp2
        go_loopw [22] (fun i wr => ∃ k : Nat, k ≤ n ∧ i = .int .i64 k ∧ (t.take k).any outR = false ∧ Below w1.heap.size w1 wr) (fun i _ => n - (intOf i).toNat)
        case atStart => exact ⟨0, by omega, rfl, by simp, Below.refl _ _⟩
        case round =>
          obtain ⟨k, hk, rfl, ht, hb⟩ := hrel
          have HT := Lib.hid ht
          have HB := Lib.hid hb
          have hbs := hb.size
          clear ht hb
          by_cases hlt : k < n
          · obtain ⟨xb, xo, r, hA2, hxb, hr, c1, hrc, hrl, hrr⟩ := HX1.out.at_ hlt
            obtain ⟨rfl, rfl⟩ : yb = xb ∧ yo = xo := by simpa using hA2
            have f1 := (HB.out.cell (p := ⟨yb, yo + k, none⟩) hxb).trans c1
            have HRR : Hid (Reads wr wr.heap.size 1 r.A r.n (r.xs.map (.int .i64))) := (hrr.below HB.out).more hbs
            have HR := Lib.hid hr
            obtain ⟨b, hb⟩ : ∃ b, outR r = b := ⟨_, rfl⟩
            have HP := Lib.hid hb
            clear hr c1 hrr hb hA2
            go_wp2_with fail
            refine (containsfunc_any _ outZ chk2_asks r.A r.n r.c _ r.xs _ HRR.out (Nat.le_refl _) (by omega) b HP.out).mono ?_
            rintro e w2 ⟨rfl, hb2⟩
            have HB2 := Lib.hid (HB.out.trans (hb2.mono hbs))
            clear hb2
            cases b
            · go_wp2
              go_roundw
              case rel => exact ⟨k + 1, by omega, by go_num, any_takeR HR.out HT.out HP.out, HB2.out⟩
              case measure => simp [intOf]; omega
            · have e := HE.out.symm.trans (tbl_2 HW0.out HODD.out H41.out (List.any_eq_true.2 ⟨r, List.mem_of_getElem? HR.out, HP.out⟩))
              subst e
              have HBE := Lib.hid (HB1.out.trans (HB2.out.mono (by omega)))
              go_wp2
              go_ret
              exact ⟨rfl, HBE.out⟩
          · have hno : t.any outR = false := by
              have ht := HT.out
              rwa [List.take_of_length_le (by rw [HXL.out]; omega)] at ht
            have e := HE.out.symm.trans (tbl_0 HW0.out HODD.out H41.out hno)
            subst e
            have HBE := Lib.hid (HB1.out.trans (HB.out.mono (by omega)))
            clear hno
            go_wp2
            go_ret
            exact ⟨rfl, HBE.out⟩

end Go.Proofs.Ytoiconebcmneiab

end

section
/- The plain law of shares: the points of a tree are different from each other. -/
namespace Go.Proofs.Ytoiconebcmneiab
open Go.RowKit

theorem pts_up {l : List Rk} (hn : (borneAll l).Nodup) : ∀ (f : Nat) (s : ByteArray) (ps : List ByteArray), pts l f s = some ps → ∀ x ∈ ps, ∃ d, upN l d x = some s := by
  intro f
  induction f with
  | zero =>
    intro s ps hp x hx
    unfold pts at hp
    cases hi : idxOf l s with
    | none => rw [hi] at hp; obtain rfl := Option.some.inj hp; simp at hx; exact ⟨0, by rw [hx]; rfl⟩
    | some i => rw [hi] at hp; cases hp
  | succ f ih =>
    intro s ps hp x hx
    unfold pts at hp
    cases hi : idxOf l s with
    | none => rw [hi] at hp; obtain rfl := Option.some.inj hp; simp at hx; exact ⟨0, by rw [hx]; rfl⟩
    | some i =>
      obtain ⟨r0, hr0, hs0⟩ := idx_get hi
      rw [hi] at hp
      simp only at hp
      cases hr : l[i]? with
      | none => rw [hr] at hp; cases hp
      | some r =>
        rw [hr] at hp
        simp only at hp
        obtain rfl := Option.some.inj (hr0.symm.trans hr)
        cases ha : pts l f r0.left with
        | none => rw [ha] at hp; cases hp
        | some a =>
          cases hb : pts l f r0.right with
          | none => rw [ha, hb] at hp; cases hp
          | some b =>
            rw [ha, hb] at hp
            obtain rfl := Option.some.inj hp
            rcases List.mem_append.1 hx with hx | hx
            · obtain ⟨d, hd⟩ := ih _ _ ha x hx
              refine ⟨d + 1, ?_⟩
              show (upN l d x).bind (upOf l) = _
              rw [hd, ← hs0]
              exact up_of_child hn hr (.inl rfl)
            · obtain ⟨d, hd⟩ := ih _ _ hb x hx
              refine ⟨d + 1, ?_⟩
              show (upN l d x).bind (upOf l) = _
              rw [hd, ← hs0]
              exact up_of_child hn hr (.inr rfl)

theorem borne_ne {l : List Rk} (hn : (borneAll l).Nodup) {i : Nat} {r : Rk} (hr : l[i]? = some r) : r.left ≠ r.right := by
  intro e
  induction l generalizing i with
  | nil => simp at hr
  | cons x l ih =>
    have e2 : borneAll (x :: l) = [x.left, x.right] ++ borneAll l := rfl
    rw [e2, List.nodup_append] at hn
    cases i with
    | zero => simp at hr; subst hr; have := hn.1; simp at this; exact this e
    | succ i => exact ih hn.2.1 (by simpa using hr)

theorem pts_nodup {l : List Rk} (hn : (borneAll l).Nodup) (hc : l.any (fun r => climbs l (l.length + 1) r.name) = false) : ∀ (f : Nat) (s : ByteArray) (ps : List ByteArray), pts l f s = some ps → ps.Nodup := by
  intro f
  induction f with
  | zero =>
    intro s ps hp
    unfold pts at hp
    cases hi : idxOf l s with
    | none => rw [hi] at hp; obtain rfl := Option.some.inj hp; simp
    | some i => rw [hi] at hp; cases hp
  | succ f ih =>
    intro s ps hp
    unfold pts at hp
    cases hi : idxOf l s with
    | none => rw [hi] at hp; obtain rfl := Option.some.inj hp; simp
    | some i =>
      rw [hi] at hp
      simp only at hp
      cases hr : l[i]? with
      | none => rw [hr] at hp; cases hp
      | some r =>
        rw [hr] at hp
        simp only at hp
        cases ha : pts l f r.left with
        | none => rw [ha] at hp; cases hp
        | some a =>
          cases hb : pts l f r.right with
          | none => rw [ha, hb] at hp; cases hp
          | some b =>
            rw [ha, hb] at hp
            obtain rfl := Option.some.inj hp
            refine List.nodup_append.2 ⟨ih _ _ ha, ih _ _ hb, fun x hx y hy => ?_⟩
            rintro rfl
            have hu1 : upN l 1 r.left = some r.name := up_of_child hn hr (.inl rfl)
            have hu2 : upN l 1 r.right = some r.name := up_of_child hn hr (.inr rfl)
            have hno : ∀ k, upN l (k + 1) r.name ≠ some r.name := fun k hk => by
              have := circ_yes (List.mem_of_getElem? hr) ⟨k + 1, by omega, Nat.le_refl _, hk⟩
              rw [hc] at this
              cases this
            -- from one side up to the other: round
            have key : ∀ (p q : ByteArray) (d1 k : Nat), upN l d1 x = some p → upN l (d1 + k) x = some q → upN l 1 p = some r.name → upN l 1 q = some r.name → p ≠ q → False := by
              intro p q d1 k h1 h2 u1 u2 hne
              rw [upN_add l d1 k x p h1] at h2
              cases k with
              | zero => exact hne (Option.some.inj h2)
              | succ k =>
                rw [show k + 1 = 1 + k by omega, upN_add l 1 k p _ u1] at h2
                refine hno k ?_
                rw [upN_add l k 1 _ q h2]
                exact u2
            obtain ⟨d1, h1⟩ := pts_up hn _ _ _ ha x hx
            obtain ⟨d2, h2⟩ := pts_up hn _ _ _ hb x hy
            have hne := borne_ne hn hr
            rcases Nat.le_total d1 d2 with h | h
            · exact key _ _ d1 (d2 - d1) h1 (by rw [show d1 + (d2 - d1) = d2 by omega]; exact h2) hu1 hu2 hne
            · exact key _ _ d2 (d1 - d2) h2 (by rw [show d2 + (d1 - d2) = d1 by omega]; exact h1) hu2 hu1 (Ne.symm hne)

theorem points_nodup {l : List Rk} (h : openErr l = 0) {ps : List ByteArray} (hp : ptsOf l = some ps) : ps.Nodup := by
  obtain ⟨-, -, -, hn, hc, -⟩ := open_zero h
  exact pts_nodup hn hc _ _ _ hp

theorem cells2_set (l : List (Int × Int)) : ∀ (i : Nat) (a b : Int), ((cells2 l).set (i * 2) (.int .i64 a)).set (i * 2 + 1) (.int .i64 b) = cells2 (l.set i (a, b)) := by
  induction l with
  | nil => intro i a b; simp [cells2]
  | cons p l ih =>
    intro i a b
    have e : cells2 (p :: l) = .int .i64 p.1 :: .int .i64 p.2 :: cells2 l := rfl
    cases i with
    | zero => rfl
    | succ i =>
      rw [e, show (i + 1) * 2 = i * 2 + 1 + 1 by omega]
      simp only [List.set_cons_succ]
      rw [ih]
      rfl

theorem set_mid {α : Type} (o1 om o2 : List α) (x : α) (h : om.length = 1) : (o1 ++ om ++ o2).set o1.length x = o1 ++ [x] ++ o2 := by
  match om, h with
  | [y], _ => rw [List.append_assoc, List.set_append_right _ _ (Nat.le_refl _), Nat.sub_self]; simp

/-- A list cut in three. -/
theorem cut3 {α : Type} (zs : List α) (a b : Nat) : zs = zs.take a ++ (zs.drop a).take b ++ zs.drop (a + b) := by
  rw [List.append_assoc, ← List.drop_drop, List.take_append_drop, List.take_append_drop]

end Go.Proofs.Ytoiconebcmneiab

end

section
/- The plain law of sums below a thing: all that lies below a rocker lies below the top. -/
namespace Go.Proofs.Ytoiconebcmneiab
open Go.RowKit

theorem pts_mono {l : List Rk} : ∀ (f : Nat) (s : ByteArray) (ps : List ByteArray), pts l f s = some ps → pts l (f + 1) s = some ps := by
  intro f
  induction f with
  | zero =>
    intro s ps hp
    unfold pts at hp
    cases hi : idxOf l s with
    | none => rw [hi] at hp; unfold pts; rw [hi]; exact hp
    | some i => rw [hi] at hp; cases hp
  | succ f ih =>
    intro s ps hp
    unfold pts at hp
    cases hi : idxOf l s with
    | none => rw [hi] at hp; unfold pts; rw [hi]; exact hp
    | some i =>
      rw [hi] at hp
      simp only at hp
      cases hr : l[i]? with
      | none => rw [hr] at hp; cases hp
      | some r =>
        rw [hr] at hp
        simp only at hp
        cases ha : pts l f r.left with
        | none => rw [ha] at hp; cases hp
        | some a =>
          cases hb : pts l f r.right with
          | none => rw [ha, hb] at hp; cases hp
          | some b =>
            rw [ha, hb] at hp
            unfold pts
            rw [hi]
            simp only [hr]
            rw [ih _ _ ha, ih _ _ hb]
            exact hp

/-- The points below a thing. -/
def below_ (l : List Rk) (s : ByteArray) : List ByteArray := (pts l l.length s).getD []
theorem below_pts {l : List Rk} (h : openErr l = 0) (s : ByteArray) : pts l l.length s = some (below_ l s) := by
  unfold below_
  cases hp : pts l l.length s with
  | none => exact absurd hp (pts_ok h s)
  | some ps => rfl

theorem idx_name {l : List Rk} (h : err1 [] l = 0) {i : Nat} {r : Rk} (hr : l[i]? = some r) : idxOf l r.name = some i := by
  have hall : ∀ (m seen : List Rk), err1 seen m = 0 → ∀ (j : Nat) (x : Rk), m[j]? = some x → idxOf (seen ++ m) x.name = some (seen.length + j) := by
    intro m
    induction m with
    | nil => intro seen _ j x hx; simp at hx
    | cons y m ih =>
      intro seen he j x hx
      unfold err1 at he
      split at he
      · rename_i h0
        cases j with
        | zero =>
          simp at hx
          subst hx
          have hno : idxOf seen y.name = none := by
            cases hi : idxOf seen y.name with
            | none => rfl
            | some q =>
              have : (idxM seen y.name).isSome = true := by unfold idxM; rw [hi]; rfl
              rw [this] at h0
              unfold rkErr at h0
              cases hn : nameB y.name <;> simp [hn] at h0
          have hy : idxOf (y :: m) y.name = some 0 := by unfold idxOf; rw [List.findIdx?_cons]; simp
          rw [idxOf_append, hno, hy]
          simp
        | succ j =>
          have := ih (seen ++ [y]) he j x (by simpa using hx)
          rw [List.append_assoc] at this
          rw [show y :: m = [y] ++ m from rfl, this, List.length_append]
          simp; omega
      · rename_i h0; exact absurd he h0
  have := hall l [] h i r hr
  simpa using this

/-- What lies below a thing lies below its bearer. -/
theorem below_up {l : List Rk} (h : openErr l = 0) {s t : ByteArray} (hu : upOf l s = some t) : ∀ x ∈ below_ l s, x ∈ below_ l t := by
  obtain ⟨h0, h1, h2, hn, h4, h5⟩ := open_zero h
  unfold upOf at hu
  cases hb : bearerOf l s with
  | none => rw [hb] at hu; cases hu
  | some i =>
    obtain ⟨r, hr, hs⟩ := bearer_get hb
    rw [hb] at hu
    simp only [Option.bind_some, hr, Option.map_some, Option.some.injEq] at hu
    subst hu
    have hidx := idx_name h2 hr
    have hp := below_pts h r.name
    obtain ⟨f, hf⟩ : ∃ f, l.length = f + 1 := ⟨l.length - 1, by omega⟩
    intro x hx
    have hps := below_pts h s
    rw [hf] at hp hps
    unfold pts at hp
    rw [hidx] at hp
    simp only [hr] at hp
    cases ha : pts l f r.left with
    | none => rw [ha] at hp; cases hp
    | some a =>
      cases hbb : pts l f r.right with
      | none => rw [ha, hbb] at hp; cases hp
      | some b =>
        rw [ha, hbb] at hp
        have e := Option.some.inj hp
        rw [← e]
        rcases hs with e2 | e2
        · rw [← e2, pts_mono _ _ _ ha] at hps
          rw [← e2, ← Option.some.inj hps] at hx
          exact List.mem_append_left _ hx
        · rw [← e2, pts_mono _ _ _ hbb] at hps
          rw [← e2, ← Option.some.inj hps] at hx
          exact List.mem_append_right _ hx

theorem below_top {l : List Rk} (h : openErr l = 0) : ∀ (f : Nat) (i : Nat) (r : Rk), l[i]? = some r → climbs l f r.name = false → ∀ x ∈ below_ l r.name, x ∈ below_ l (topName l)
  | f, i, r, hr, hc => by
    cases hb : bearerOf l r.name with
    | none =>
      have hT : hasB (borneAll l) r.name = false := by
        have := bearer_mem (l := l) (s := r.name)
        rw [hb] at this
        cases hh : hasB (borneAll l) r.name with
        | false => rfl
        | true => rw [hh] at this; cases this
      rw [top_name h hr hT]
      exact fun x hx => hx
    | some j =>
      obtain ⟨r', hr', hs⟩ := bearer_get hb
      have hu : upOf l r.name = some r'.name := by unfold upOf; rw [hb]; simp [hr']
      cases f with
      | zero => simp [climbs, hb] at hc
      | succ f =>
        have ih := below_top h f j r' hr' (by simpa [climbs, hb, hr'] using hc)
        exact fun x hx => ih x (below_up h hu x hx)

theorem below_side {l : List Rk} (h : openErr l = 0) {r : Rk} {i : Nat} (hr : l[i]? = some r) {s : ByteArray} (hs : r.left = s ∨ r.right = s) : ∀ x ∈ below_ l s, x ∈ below_ l (topName l) := by
  obtain ⟨h0, h1, h2, hn, h4, h5⟩ := open_zero h
  intro x hx
  have hc : climbs l (l.length + 1) r.name = false := by simpa using List.any_eq_false.1 h4 r (List.mem_of_getElem? hr)
  exact below_top h _ i r hr hc x (below_up h (up_of_child hn hr hs) x hx)

/-- The number of a point. -/
def posOf (ps : List ByteArray) (s : ByteArray) : Option Nat := ps.findIdx? fun x => decide (x = s)
theorem posOf_some {ps : List ByteArray} {s : ByteArray} {i : Nat} (h : posOf ps s = some i) : ps[i]? = some s ∧ ∀ j, j < i → ∀ x, ps[j]? = some x → x ≠ s := by
  unfold posOf at h
  obtain ⟨hi, hp, hn⟩ := List.findIdx?_eq_some_iff_getElem.1 h
  refine ⟨?_, fun j hj x hx e => ?_⟩
  · rw [List.getElem?_eq_getElem hi, of_decide_eq_true hp]
  · obtain ⟨g1, g2⟩ := List.getElem?_eq_some_iff.1 hx
    have := hn j hj
    rw [g2] at this
    exact absurd e (of_decide_eq_false (by simpa using this))
theorem posOf_mem {ps : List ByteArray} {s : ByteArray} (h : s ∈ ps) : ∃ i, posOf ps s = some i := by
  cases hp : posOf ps s with
  | some i => exact ⟨i, rfl⟩
  | none =>
    unfold posOf at hp
    have := List.findIdx?_eq_none_iff.1 hp s h
    simp at this
/-- What a point carries. -/
def loadOf (ps : List ByteArray) (xs : List Int) (s : ByteArray) : Int := match posOf ps s with | some i => xs.getD i 0 | none => 0
/-- What things carry together. -/
def sumF (g : ByteArray → Int) (qs : List ByteArray) : Int := qs.foldl (fun t s => t + g s) 0
theorem sumF_snoc (g : ByteArray → Int) (qs : List ByteArray) (s : ByteArray) : sumF g (qs ++ [s]) = sumF g qs + g s := by
  unfold sumF; rw [List.foldl_append]; rfl
theorem sumF_acc {g : ByteArray → Int} {b : Int} : ∀ (qs : List ByteArray) (t : Int), (∀ s ∈ qs, 0 ≤ g s ∧ g s ≤ b) → t ≤ qs.foldl (fun t s => t + g s) t ∧ qs.foldl (fun t s => t + g s) t ≤ t + b * qs.length
  | [], t, _ => by simp
  | s :: qs, t, h => by
    have h1 := sumF_acc qs (t + g s) fun x hx => h x (by simp [hx])
    have h2 := h s (by simp)
    have e : b * (((s :: qs).length : Nat) : Int) = b * qs.length + b := by simp [Int.mul_add]
    rw [List.foldl_cons, e]
    omega
theorem sumF_bound {g : ByteArray → Int} {b : Int} (qs : List ByteArray) (h : ∀ s ∈ qs, 0 ≤ g s ∧ g s ≤ b) : 0 ≤ sumF g qs ∧ sumF g qs ≤ b * qs.length := by
  have := sumF_acc qs 0 h
  unfold sumF
  omega
def underI (l : List Rk) (ps : List ByteArray) (xs : List Int) (s : ByteArray) : Int := sumF (loadOf ps xs) (below_ l s)
theorem loadOf_bound {ps : List ByteArray} {xs : List Int} {b : Int} (hb : 0 ≤ b) (h : ∀ z ∈ xs, 0 ≤ z ∧ z ≤ b) (s : ByteArray) : 0 ≤ loadOf ps xs s ∧ loadOf ps xs s ≤ b := by
  unfold loadOf
  cases posOf ps s with
  | none => simp; exact hb
  | some i =>
    simp only
    rw [List.getD]
    cases hx : xs[i]? with
    | none => simp; exact hb
    | some z => exact h z (List.mem_of_getElem? hx)
theorem below_len {l : List Rk} (h : openErr l = 0) (s : ByteArray) : (below_ l s).length ≤ 2 ^ l.length := (pts_len _ _ _ (below_pts h s)).2

end Go.Proofs.Ytoiconebcmneiab

end
