import Derived.Test.YtfigbdhfmlhjdaaQ5
import Derived.Test.YtfigbdhfmlhjdaaQ12

section
/- The contracts of the check of a train of gears, of its products, and of Returns. -/
namespace Go.Proofs.Ytfigbdhfmlhjdaa
open Go.RowKit

/-- Both numbers are those of teeth. -/
def okP (p : Int × Int) : Bool := withinB p.1 1 500 && withinB p.2 1 500
def trainErr (l : List (Int × Int)) : Int := if 12 < l.length then 8 else if l.all okP then 0 else 2

theorem okP_yes {p : Int × Int} (h1 : withinB p.1 1 500 = true) (h2 : withinB p.2 1 500 = true) : okP p = true := by unfold okP; rw [h1, h2]; rfl
theorem okP_no1 {p : Int × Int} (h1 : withinB p.1 1 500 = false) : okP p = false := by unfold okP; rw [h1]; rfl
theorem okP_no2 {p : Int × Int} (h1 : withinB p.2 1 500 = false) : okP p = false := by unfold okP; rw [h1]; simp
theorem okP_part {p : Int × Int} (h : okP p = true) : 1 ≤ p.1 ∧ p.1 ≤ 500 ∧ 1 ≤ p.2 ∧ p.2 ≤ 500 := by
  unfold okP at h
  rw [Bool.and_eq_true, withinB_iff, withinB_iff] at h
  exact ⟨h.1.1, h.1.2, h.2.1, h.2.2⟩
theorem all_take_succ {l : List (Int × Int)} {k : Nat} {p : Int × Int} (h : (l.take k).all okP = true) (hp : l[k]? = some p) (ho : okP p = true) : (l.take (k + 1)).all okP = true := by
  rw [List.take_add_one, hp, List.all_append, h]; simp [ho]
theorem all_no {l : List (Int × Int)} {k : Nat} {p : Int × Int} (hp : l[k]? = some p) (ho : okP p = false) : l.all okP = false := by
  rw [List.all_eq_false]
  exact ⟨p, List.mem_of_getElem? hp, by rw [ho]; exact Bool.false_ne_true⟩

set_option maxHeartbeats 1000000 in
theorem checktrain_any (A : Option Addr) (n c N : Nat) (l : List (Int × Int)) (w : World) (hx : Reads w N 2 A n (cells2 l)) (hN : N ≤ w.heap.size) (hn : n ≤ 9223372036854775807) :
    Calls Try.prog 45 #[.slice A n c] w fun e w' => e = .returned (.int .i64 (trainErr l)) ∧ Below w.heap.size w w' := by
  have hxl := Lib.hid hx.len2
  have HX := Lib.hid hx
  clear hx
  by_cases h12 : (12 : Int) < n
  · have HE : Hid (trainErr l = 8) := by show _ = _; unfold trainErr; rw [if_pos (by rw [hxl.out]; omega)]
    go_enter Try.func45, Try.ntmps45
    go_wp2
    go_ret
    exact ⟨ret_int HE.out.symm, Below.refl _ _⟩
  have HE : Hid (trainErr l = if l.all okP then 0 else 2) := by show _ = _; unfold trainErr; rw [if_neg (by rw [hxl.out]; omega)]
  go_enter Try.func45, Try.ntmps45
  go_wp2
  go_loopw [10] (fun i wr => ∃ k : Nat, k ≤ n ∧ i = .int .i64 k ∧ (l.take k).all okP = true ∧ Below w.heap.size w wr) (fun i _ => n - (intOf i).toNat)
  case atStart => exact ⟨0, by omega, rfl, rfl, Below.refl _ _⟩
  case round =>
    obtain ⟨k, hk, rfl, ht, hb⟩ := hrel
    have HT := Lib.hid ht
    have HB := Lib.hid hb
    clear ht hb
    by_cases hlt : k < n
    · obtain ⟨xb, xo, p, rfl, hxb, hp, c0, c1⟩ := (HX.out.belowLe HB.out hN).pair hlt
      have HP := Lib.hid hp
      clear hp
      cases h1 : withinB p.1 1 500 with
      | false =>
        have HO := Lib.hid (okP_no1 h1)
        go_wp2_with (first | (go_at_call 28; refine (withinsup_is _ _ _ _ (by assumption) _).mono ?_; rintro e w' ⟨rfl, rfl⟩))
        go_ret
        exact ⟨ret_int (by rw [HE.out, all_no HP.out HO.out]; rfl), HB.out.alloc HB.out.size _⟩
      | true =>
        cases h2 : withinB p.2 1 500 with
        | false =>
          have HO := Lib.hid (okP_no2 h2)
          go_wp2_with (first | (go_at_call 28; refine (withinsup_is _ _ _ _ (by assumption) _).mono ?_; rintro e w' ⟨rfl, rfl⟩))
          go_ret
          exact ⟨ret_int (by rw [HE.out, all_no HP.out HO.out]; rfl), HB.out.alloc HB.out.size _⟩
        | true =>
          have HO := Lib.hid (okP_yes h1 h2)
          go_wp2_with (first | (go_at_call 28; refine (withinsup_is _ _ _ _ (by assumption) _).mono ?_; rintro e w' ⟨rfl, rfl⟩))
          go_roundw
          case rel => exact ⟨k + 1, by omega, by go_num, all_take_succ HT.out HP.out HO.out, HB.out.alloc HB.out.size _⟩
          case measure => simp [intOf]; omega
    · go_wp2
      go_ret
      have e : l.take k = l := List.take_of_length_le (by rw [hxl.out]; omega)
      exact ⟨ret_int (by rw [HE.out, ← e, HT.out]; rfl), HB.out⟩

theorem checktrain_is (A : Option Addr) (n c N : Nat) (l : List (Int × Int)) (t : Int) (h : trainErr l = t) (w : World) (hx : Reads w N 2 A n (cells2 l)) (hN : N ≤ w.heap.size) (hn : n ≤ 9223372036854775807) :
    Calls Try.prog 45 #[.slice A n c] w fun e w' => e = .returned (.int .i64 t) ∧ Below w.heap.size w w' := h ▸ checktrain_any A n c N l w hx hN hn

/-- What a train does: each product is handed to a step; false: one is not small. -/
def trainF {σ : Type} (step : σ → Int × Int → σ) : σ → Int × Int → List (Int × Int) → σ × Bool
  | s, _, [] => (s, true)
  | s, f, g :: l => if smallB (f.1 * g.1) (f.2 * g.2) then trainF step (step s (redN (f.1 * g.1) (f.2 * g.2), redD (f.1 * g.1) (f.2 * g.2))) (redN (f.1 * g.1) (f.2 * g.2), redD (f.1 * g.1) (f.2 * g.2)) l else (s, false)

/-- What a function value that is called leaves as it was: all blocks from B on. -/
structure Keeps (B : Nat) (w w' : World) : Prop where
  size : w.heap.size ≤ w'.heap.size
  block : ∀ k, B ≤ k → k < w.heap.size → w'.heap[k]? = w.heap[k]?

theorem Keeps.blk {B : Nat} {w w' : World} (h : Keeps B w w') {g : Nat} {t : TypeId} {cs : Array Value} (hg : Blk w g t cs) (hB : B ≤ g) : Blk w' g t cs := (h.block g hB hg.lt).trans hg

/-- What a function value does with a state that lies below B. -/
structure Each (B : Nat) (k : FuncId) (caps : Array Value) {σ : Type} (Inv : σ → World → Prop) (step : σ → Int × Int → σ) : Prop where
  ent : ∀ (args : Array Value) (w : World), (callFunc k args).run Try.prog w = .ok (.enter k args) w
  call : ∀ (s : σ) (w : World) (f : Int × Int), B ≤ w.heap.size → Inv s w → Part f.1 → Part f.2 →
    Calls Try.prog k (#[.agg #[.int .i64 f.1, .int .i64 f.2]] ++ caps) w fun e w' => e = .returned (.tuple #[]) ∧ Inv (step s f) w' ∧ Keeps B w w'
  keep : ∀ (s : σ) (w w' : World), Inv s w → Below B w w' → Inv s w'

theorem part_bound {a b : Int} (h : Part a) (h1 : 1 ≤ b) (h2 : b ≤ 500) : 1 ≤ a * b ∧ a * b ≤ 500000000000 := by
  obtain ⟨p1, p2⟩ := h
  have m1 := Int.mul_le_mul p1 h1 (by omega) (by omega)
  have m2 := Int.mul_le_mul p2 h2 (by omega) (by omega)
  omega

set_option maxRecDepth 100000 in
set_option maxHeartbeats 1000000 in
theorem train_any {σ : Type} (B : Nat) (k : FuncId) (caps : Array Value) (Inv : σ → World → Prop) (step : σ → Int × Int → σ) (he : Each B k caps Inv step) (A : Option Addr) (n c N : Nat) (l : List (Int × Int)) (w : World) (s : σ)
    (hB : B = w.heap.size) (hN : N ≤ B) (hread : ∀ s w, Inv s w → Reads w N 2 A n (cells2 l)) (hi : Inv s w) (hn : n ≤ 9223372036854775807) (hok : l.all okP = true) :
    Calls Try.prog 46 #[.slice A n c, .func (.func k) #[] caps] w fun e w' => e = .returned (.bool (trainF step (step s (1, 1)) (1, 1) l).2) ∧ Inv (trainF step (step s (1, 1)) (1, 1) l).1 w' := by
  have HI := Lib.hid hi
  have hent := he.ent
  have HE := Lib.hid he
  have HR := Lib.hid hread
  have HOK := Lib.hid hok
  have hs0 := HR.out s w hi
  have hxl := Lib.hid hs0.len2
  clear hi he hread hok hs0
  go_enter Try.func46, Try.ntmps46
  go_wp2
  refine (HE.out.call s _ (1, 1) (by simp; omega) (HE.out.keep s _ _ HI.out (by rw [hB]; exact (Below.refl _ _).alloc (Nat.le_refl _) _)) ⟨by decide, by decide⟩ ⟨by decide, by decide⟩).mono ?_
  rintro e w1 ⟨rfl, hi1, hk1⟩
  have hf1 : Blk w1 w.heap.size 35 #[.int .i64 1, .int .i64 1] := hk1.blk (Blk.at_ _ rfl _ _) (by omega)
  have hz1 := hk1.size
  simp only [World.size_alloc] at hz1
  have HI1 := Lib.hid hi1
  have HF1 := Lib.hid hf1
  clear hi1 hk1 hf1
  go_wp2
  go_loopw [15] (fun i wr => ∃ (q : Nat) (s1 : σ) (f : Int × Int), q ≤ n ∧ i = .int .i64 q ∧ Part f.1 ∧ Part f.2 ∧ Hid (trainF step (step s (1, 1)) (1, 1) l = trainF step s1 f (l.drop q)) ∧ Inv s1 wr ∧ Blk wr w.heap.size 35 #[.int .i64 f.1, .int .i64 f.2] ∧ w.heap.size < wr.heap.size) (fun i _ => n - (intOf i).toNat)
  case atStart => exact ⟨0, step s (1, 1), (1, 1), by omega, rfl, ⟨by decide, by decide⟩, ⟨by decide, by decide⟩, by show _ = _; rw [List.drop_zero], HI1.out, HF1.out, by omega⟩
  case round =>
    obtain ⟨q, s1, f, hq, rfl, pf1, pf2, HT, hi2, hf2, hz2⟩ := hrel
    have HI2 := Lib.hid hi2
    have HF2 := Lib.hid hf2
    clear hi2 hf2
    by_cases hlt : q < n
    · obtain ⟨xb, xo, p, rfl, hxb, hp, c0, c1⟩ := (HR.out s1 _ HI2.out).pair hlt
      obtain ⟨p1, p2, p3, p4⟩ := okP_part (List.all_eq_true.1 HOK.out p (List.mem_of_getElem? hp))
      have m1 := part_bound pf1 p1 p2
      have m2 := part_bound pf2 p3 p4
      have hd : l.drop q = p :: l.drop (q + 1) := by
        obtain ⟨h1, h2⟩ := List.getElem?_eq_some_iff.1 hp
        rw [List.drop_eq_getElem_cons h1, h2]
      have y0 : ∀ o, (wr.alloc o).cell? ⟨w.heap.size, 0, none⟩ = some (.int .i64 f.1) := fun o => (HF2.out.alloc o).cell 0
      have y1 : ∀ o, (wr.alloc o).cell? ⟨w.heap.size, 1, none⟩ = some (.int .i64 f.2) := fun o => (HF2.out.alloc o).cell 1
      have HP := Lib.hid hp
      have HD := Lib.hid hd
      clear hp hd
      go_wp2_with fail
      refine (small_red _ _ _ (by omega) (by omega) (by omega) (by omega)).mono ?_
      rintro e w2 ⟨rfl, hb2⟩
      simp only [World.size_alloc] at hb2
      have hb3 : Below wr.heap.size wr w2 := ((Below.refl _ _).alloc (Nat.le_refl _) _).trans (hb2.mono (by omega))
      have hf3 := HF2.out.below hb3 HF2.out.lt
      have hz3 := hb3.size
      have HB3 := Lib.hid hb3
      have HF3 := Lib.hid hf3
      clear hb2 hb3 hf3
      cases h1 : smallB (f.1 * p.1) (f.2 * p.2) with
      | false =>
        have H1 := Lib.hid h1
        clear h1
        have y2 : w2.cell? ⟨w.heap.size, 0, none⟩ = some (.int .i64 f.1) := HF3.out.cell 0
        have y3 : w2.frozen? ⟨w.heap.size, 0, none⟩ = false := HF3.out.frozen 0
        have y4 : w2.cell? ⟨w.heap.size, 1, none⟩ = some (.int .i64 f.2) := HF3.out.cell 1
        have y5 : w2.frozen? ⟨w.heap.size, 1, none⟩ = false := HF3.out.frozen 1
        go_wp2
        go_ret
        have hT : trainF step (step s (1, 1)) (1, 1) l = (s1, false) := by
          rw [HT.out, HD.out]
          simp only [trainF, H1.out, Bool.false_eq_true, if_false]
        rw [hT]
        refine ⟨rfl, HE.out.keep s1 _ _ HI2.out ?_⟩
        exact (((HB3.out.mono (by omega)).setCell (p := ⟨w.heap.size, 0, none⟩) (by simp; omega) _).setCell (p := ⟨w.heap.size, 1, none⟩) (by simp; omega) _)
      | true =>
        have hpart := red_part m1.1 m2.1 h1
        have H1 := Lib.hid h1
        have HPART := Lib.hid hpart
        clear h1 hpart
        have y2 : w2.cell? ⟨w.heap.size, 0, none⟩ = some (.int .i64 f.1) := HF3.out.cell 0
        have y3 : w2.frozen? ⟨w.heap.size, 0, none⟩ = false := HF3.out.frozen 0
        have y4 : w2.cell? ⟨w.heap.size, 1, none⟩ = some (.int .i64 f.2) := HF3.out.cell 1
        have y5 : w2.frozen? ⟨w.heap.size, 1, none⟩ = false := HF3.out.frozen 1
        have hf4 := (HF3.out.set_ 0 (.int .i64 (redN (f.1 * p.1) (f.2 * p.2)))).set_ 1 (.int .i64 (redD (f.1 * p.1) (f.2 * p.2)))
        have hi4 := HE.out.keep s1 _ ((w2.setCell ⟨w.heap.size, 0, none⟩ (.int .i64 (redN (f.1 * p.1) (f.2 * p.2)))).setCell ⟨w.heap.size, 1, none⟩ (.int .i64 (redD (f.1 * p.1) (f.2 * p.2)))) HI2.out (((HB3.out.mono (by omega)).setCell (p := ⟨w.heap.size, 0, none⟩) (by simp; omega) _).setCell (p := ⟨w.heap.size, 1, none⟩) (by simp; omega) _)
        have HF4 := Lib.hid hf4
        have HI4 := Lib.hid hi4
        clear hf4 hi4
        go_wp2
        refine (HE.out.call s1 _ (redN (f.1 * p.1) (f.2 * p.2), redD (f.1 * p.1) (f.2 * p.2)) (by simp [World.setCell]; omega) HI4.out HPART.out.1 HPART.out.2).mono ?_
        rintro e w5 ⟨rfl, hi5, hk5⟩
        have hf5 := hk5.blk HF4.out (by omega)
        have hz5 := hk5.size
        have HF5 := Lib.hid hf5
        have HI5 := Lib.hid hi5
        clear hf5 hi5 hk5
        go_wp2
        go_roundw
        case rel =>
          refine ⟨q + 1, _, (redN (f.1 * p.1) (f.2 * p.2), redD (f.1 * p.1) (f.2 * p.2)), by omega, by go_num, HPART.out.1, HPART.out.2, ?_, HI5.out, ?_, ?_⟩
          · show _ = _
            rw [HT.out, HD.out]
            simp only [trainF, H1.out, if_true]
          · simpa using HF5.out
          · simp [World.setCell] at hz5; omega
        case measure => simp [intOf]; omega
    · go_wp2
      go_ret
      have hqn : q = n := by omega
      have e := HT.out
      rw [List.drop_of_length_le (by rw [hxl.out]; omega)] at e
      rw [e]
      exact ⟨rfl, HI2.out⟩

theorem train_is {σ : Type} (B : Nat) (k : FuncId) (caps : Array Value) (Inv : σ → World → Prop) (step : σ → Int × Int → σ) (he : Each B k caps Inv step) (A : Option Addr) (n c N : Nat) (l : List (Int × Int)) (w : World) (s t : σ) (ok : Bool)
    (ht : trainF step (step s (1, 1)) (1, 1) l = (t, ok)) (hB : B = w.heap.size) (hN : N ≤ B) (hread : ∀ s w, Inv s w → Reads w N 2 A n (cells2 l)) (hi : Inv s w) (hn : n ≤ 9223372036854775807) (hok : l.all okP = true) :
    Calls Try.prog 46 #[.slice A n c, .func (.func k) #[] caps] w fun e w' => e = .returned (.bool ok) ∧ Inv t w' :=
  (train_any B k caps Inv step he A n c N l w s hB hN hread hi hn hok).mono fun e w' h => by rw [ht] at h; exact h

end Go.Proofs.Ytfigbdhfmlhjdaa

end

section
/- Contracts of the reference's products of fractions, and of the ratio of a pair of gears. -/
namespace Go.Proofs.Ytfigbdhfmlhjdaa
open Go.RowKit

theorem small_err {a b : Int} (hb : 1 ≤ b) : smallB a b = true ↔ fracErr (redN a b) (redD a b) = 0 := by
  have hp : 0 < Int.gcd a b := Int.gcd_pos_of_ne_zero_right a (by omega)
  have hg : Int.gcd (a / (Int.gcd a b : Int)) (b / (Int.gcd a b : Int)) = 1 := Int.gcd_ediv_gcd_ediv_gcd hp
  have hd : 0 < b / (Int.gcd a b : Int) := Int.ediv_pos_of_pos_of_dvd (by omega) (by omega) (Int.gcd_dvd_right a b)
  unfold smallB fracErr redN redD
  rw [hg]
  simp only [Bool.and_eq_true, withinB_iff, decide_eq_true_eq]
  constructor
  · rintro ⟨⟨h1, h2⟩, h3⟩
    rw [if_neg (by omega), if_neg (by omega)]
  · intro h
    rw [if_neg (by omega)] at h
    split at h
    · cases h
    · omega

theorem red_in {a b : Int} (h1 : -9223372036854775808 < a) (h2 : a ≤ 9223372036854775807) (h3 : 1 ≤ b) (h4 : b ≤ 9223372036854775807) :
    -9223372036854775808 < redN a b ∧ redN a b ≤ 9223372036854775807 ∧ -9223372036854775808 < redD a b ∧ redD a b ≤ 9223372036854775807 := by
  have hp : 0 < Int.gcd a b := Int.gcd_pos_of_ne_zero_right a (by omega)
  have x := div_gcd_in a b h1 h2 (by omega)
  have y := div_gcd_in b a (by omega) h4 (by rw [Int.gcd_comm]; omega)
  rw [Int.gcd_comm] at y
  exact ⟨x.1, x.2, y.1, y.2⟩

theorem lowest_red (a b x y : Int) (hx : redN a b = x) (hy : redD a b = y) (w : World) (h1 : -9223372036854775808 < a) (h2 : a ≤ 9223372036854775807) (h3 : 1 ≤ b) (h4 : b ≤ 9223372036854775807) :
    Calls Try.prog 61 #[.int .i64 a, .int .i64 b] w fun e w' => e = .returned (.agg #[.int .i64 x, .int .i64 y]) ∧ Below w.heap.size w w' :=
  hx ▸ hy ▸ lowest_any a b w h1 h2 h3 h4

theorem fracref_is (n d t : Int) (h : fracErr n d = t) (w : World) (h1 : -9223372036854775808 ≤ n) (h2 : n ≤ 9223372036854775807) (h3 : -9223372036854775808 ≤ d) (h4 : d ≤ 9223372036854775807) :
    Calls Try.prog 17 #[.agg #[.int .i64 n, .int .i64 d]] w fun e w' => e = .returned (.int .i64 t) ∧ Below w.heap.size w w' := h ▸ checkfracref_any n d w h1 h2 h3 h4

set_option maxRecDepth 100000 in
theorem made_ok (a b : Int) (ht : smallB a b = true) (w : World) (h1 : -9223372036854775808 < a) (h2 : a ≤ 9223372036854775807) (h3 : 1 ≤ b) (h4 : b ≤ 9223372036854775807) :
    Calls Try.prog 74 #[.int .i64 a, .int .i64 b] w fun e w' => e = .returned (.tuple #[.agg #[.int .i64 (redN a b), .int .i64 (redD a b)], .int .i64 0]) ∧ Below w.heap.size w w' := by
  have hE := (small_err h3).1 ht
  obtain ⟨b1, b2, b3, b4⟩ := red_in h1 h2 h3 h4
  obtain ⟨X, hX⟩ : ∃ X, redN a b = X := ⟨_, rfl⟩
  obtain ⟨Y, hY⟩ : ∃ Y, redD a b = Y := ⟨_, rfl⟩
  rw [hX, hY]
  rw [hX, hY] at hE
  rw [hX] at b1 b2
  rw [hY] at b3 b4
  have HX := Lib.hid hX
  have HY := Lib.hid hY
  have HE := Lib.hid hE
  clear hX hY hE ht
  go_enter Try.func74, Try.ntmps74
  go_wp2_with fail
  refine (lowest_red a b X Y HX.out HY.out _ h1 h2 h3 h4).mono ?_
  rintro e w1 ⟨rfl, hb⟩
  have HB1 := Lib.hid (show Below w.heap.size w w1 from step_below hb (by repeat' (first | exact Below.refl _ _ | exact HB0.out | refine below_drewN ?_ _ | refine Below.drew ?_ | refine Below.alloc ?_ (by first | omega | (simp; done) | (simp; omega) | (simp [World.setCell]; omega)) _ | refine Below.setCell ?_ (by first | omega | (simp; done) | (simp; omega)) _ | assumption)))
  have K0_1 := Lib.hid (step_blk hb (show Blk _ (w.heap.size) 35 #[.int .i64 (0), .int .i64 (0)] by repeat' (first | exact Blk.at_ _ (by first | rfl | (simp; done) | (simp; omega)) _ _ | refine Blk.drewN ?_ _ | refine Blk.drew ?_ | refine Blk.alloc ?_ _ | refine Blk.far ?_ (by first | omega | (simp; done) | (simp; omega)) _ | assumption)))
  have hz1 := hb.size
  try simp only [World.size_alloc, World.drewN, World.drew] at hz1
  clear hb
  have l0_1 : w.heap.size < w1.heap.size := K0_1.out.lt
  have z0_0_1 : w1.cell? ⟨w.heap.size, 0, none⟩ = some (.int .i64 (0)) := K0_1.out.cell 0
  have z0_1_1 : w1.cell? ⟨w.heap.size, 1, none⟩ = some (.int .i64 (0)) := K0_1.out.cell 1
  go_wp2_with fail
  refine (fracref_is _ _ _ HE.out _ (by omega) b2 (by omega) b4).mono ?_
  rintro e w2 ⟨rfl, hb⟩
  have HB2 := Lib.hid (show Below w.heap.size w w2 from step_below hb (by repeat' (first | exact Below.refl _ _ | exact HB1.out | refine below_drewN ?_ _ | refine Below.drew ?_ | refine Below.alloc ?_ (by first | omega | (simp; done) | (simp; omega) | (simp [World.setCell]; omega)) _ | refine Below.setCell ?_ (by first | omega | (simp; done) | (simp; omega)) _ | assumption)))
  have K0_2 := Lib.hid (step_blk hb (show Blk _ (w.heap.size) 35 #[.int .i64 (0), .int .i64 (0)] by repeat' (first | exact K0_1.out | exact Blk.at_ _ (by first | rfl | (simp; done) | (simp; omega)) _ _ | refine Blk.drewN ?_ _ | refine Blk.drew ?_ | refine Blk.alloc ?_ _ | refine Blk.far ?_ (by first | omega | (simp; done) | (simp; omega)) _ | assumption)))
  have K1_2 := Lib.hid (step_blk hb (show Blk _ (w1.heap.size) 35 #[.int .i64 (X), .int .i64 (Y)] by repeat' (first | exact K0_1.out | exact Blk.at_ _ (by first | rfl | (simp; done) | (simp; omega)) _ _ | refine Blk.drewN ?_ _ | refine Blk.drew ?_ | refine Blk.alloc ?_ _ | refine Blk.far ?_ (by first | omega | (simp; done) | (simp; omega)) _ | assumption)))
  have hz2 := hb.size
  try simp only [World.size_alloc, World.drewN, World.drew] at hz2
  clear hb K0_1 z0_0_1 z0_1_1 l0_1
  have l0_2 : w.heap.size < w2.heap.size := K0_2.out.lt
  have z0_0_2 : w2.cell? ⟨w.heap.size, 0, none⟩ = some (.int .i64 (0)) := K0_2.out.cell 0
  have z0_1_2 : w2.cell? ⟨w.heap.size, 1, none⟩ = some (.int .i64 (0)) := K0_2.out.cell 1
  have l1_2 : w1.heap.size < w2.heap.size := K1_2.out.lt
  have z1_0_2 : w2.cell? ⟨w1.heap.size, 0, none⟩ = some (.int .i64 (X)) := K1_2.out.cell 0
  have z1_1_2 : w2.cell? ⟨w1.heap.size, 1, none⟩ = some (.int .i64 (Y)) := K1_2.out.cell 1
  have zf0_0 := K0_2.out.frozen 0
  have zf0_1 := K0_2.out.frozen 1
  go_wp2
  exact bodyPost_ret (v := .tuple #[.agg #[.int .i64 X, .int .i64 Y], .int .i64 0]) (by simp [results, Try.results74, go_sem, z0_0_2, z0_1_2, z1_0_2, z1_1_2, l0_2, l1_2]) rfl ⟨rfl, by repeat' (first | exact Below.refl _ _ | exact HB2.out | refine below_drewN ?_ _ | refine Below.drew ?_ | refine Below.alloc ?_ (by first | omega | (simp; done) | (simp; omega) | (simp [World.setCell]; omega)) _ | refine Below.setCell ?_ (by first | omega | (simp; done) | (simp; omega)) _ | assumption)⟩

set_option maxRecDepth 100000 in
theorem made_no (a b : Int) (ht : smallB a b = false) (w : World) (h1 : -9223372036854775808 < a) (h2 : a ≤ 9223372036854775807) (h3 : 1 ≤ b) (h4 : b ≤ 9223372036854775807) :
    Calls Try.prog 74 #[.int .i64 a, .int .i64 b] w fun e w' => e = .returned (.tuple #[.agg #[.int .i64 0, .int .i64 0], .int .i64 8]) ∧ Below w.heap.size w w' := by
  have hE : fracErr (redN a b) (redD a b) ≠ 0 := fun h => by have := (small_err h3).2 h; rw [ht] at this; cases this
  obtain ⟨b1, b2, b3, b4⟩ := red_in h1 h2 h3 h4
  obtain ⟨X, hX⟩ : ∃ X, redN a b = X := ⟨_, rfl⟩
  obtain ⟨Y, hY⟩ : ∃ Y, redD a b = Y := ⟨_, rfl⟩
  rw [hX, hY] at hE
  rw [hX] at b1 b2
  rw [hY] at b3 b4
  obtain ⟨T, hT⟩ : ∃ T, fracErr X Y = T := ⟨_, rfl⟩
  rw [hT] at hE
  have e0 : (T != 0) = true := by simpa using hE
  have HX := Lib.hid hX
  have HY := Lib.hid hY
  have HT := Lib.hid hT
  clear hX hY hE ht hT
  go_enter Try.func74, Try.ntmps74
  go_wp2_with fail
  refine (lowest_red a b X Y HX.out HY.out _ h1 h2 h3 h4).mono ?_
  rintro e w1 ⟨rfl, hb⟩
  have HB1 := Lib.hid (show Below w.heap.size w w1 from step_below hb (by repeat' (first | exact Below.refl _ _ | exact HB0.out | refine below_drewN ?_ _ | refine Below.drew ?_ | refine Below.alloc ?_ (by first | omega | (simp; done) | (simp; omega) | (simp [World.setCell]; omega)) _ | refine Below.setCell ?_ (by first | omega | (simp; done) | (simp; omega)) _ | assumption)))
  have K0_1 := Lib.hid (step_blk hb (show Blk _ (w.heap.size) 35 #[.int .i64 (0), .int .i64 (0)] by repeat' (first | exact Blk.at_ _ (by first | rfl | (simp; done) | (simp; omega)) _ _ | refine Blk.drewN ?_ _ | refine Blk.drew ?_ | refine Blk.alloc ?_ _ | refine Blk.far ?_ (by first | omega | (simp; done) | (simp; omega)) _ | assumption)))
  have hz1 := hb.size
  try simp only [World.size_alloc, World.drewN, World.drew] at hz1
  clear hb
  have l0_1 : w.heap.size < w1.heap.size := K0_1.out.lt
  have z0_0_1 : w1.cell? ⟨w.heap.size, 0, none⟩ = some (.int .i64 (0)) := K0_1.out.cell 0
  have z0_1_1 : w1.cell? ⟨w.heap.size, 1, none⟩ = some (.int .i64 (0)) := K0_1.out.cell 1
  go_wp2_with fail
  refine (fracref_is _ _ T HT.out _ (by omega) b2 (by omega) b4).mono ?_
  rintro e w2 ⟨rfl, hb⟩
  have HB2 := Lib.hid (show Below w.heap.size w w2 from step_below hb (by repeat' (first | exact Below.refl _ _ | exact HB1.out | refine below_drewN ?_ _ | refine Below.drew ?_ | refine Below.alloc ?_ (by first | omega | (simp; done) | (simp; omega) | (simp [World.setCell]; omega)) _ | refine Below.setCell ?_ (by first | omega | (simp; done) | (simp; omega)) _ | assumption)))
  have K0_2 := Lib.hid (step_blk hb (show Blk _ (w.heap.size) 35 #[.int .i64 (0), .int .i64 (0)] by repeat' (first | exact K0_1.out | exact Blk.at_ _ (by first | rfl | (simp; done) | (simp; omega)) _ _ | refine Blk.drewN ?_ _ | refine Blk.drew ?_ | refine Blk.alloc ?_ _ | refine Blk.far ?_ (by first | omega | (simp; done) | (simp; omega)) _ | assumption)))
  have K1_2 := Lib.hid (step_blk hb (show Blk _ (w1.heap.size) 35 #[.int .i64 (X), .int .i64 (Y)] by repeat' (first | exact K0_1.out | exact Blk.at_ _ (by first | rfl | (simp; done) | (simp; omega)) _ _ | refine Blk.drewN ?_ _ | refine Blk.drew ?_ | refine Blk.alloc ?_ _ | refine Blk.far ?_ (by first | omega | (simp; done) | (simp; omega)) _ | assumption)))
  have hz2 := hb.size
  try simp only [World.size_alloc, World.drewN, World.drew] at hz2
  clear hb K0_1 z0_0_1 z0_1_1 l0_1
  have l0_2 : w.heap.size < w2.heap.size := K0_2.out.lt
  have z0_0_2 : w2.cell? ⟨w.heap.size, 0, none⟩ = some (.int .i64 (0)) := K0_2.out.cell 0
  have z0_1_2 : w2.cell? ⟨w.heap.size, 1, none⟩ = some (.int .i64 (0)) := K0_2.out.cell 1
  have l1_2 : w1.heap.size < w2.heap.size := K1_2.out.lt
  have z1_0_2 : w2.cell? ⟨w1.heap.size, 0, none⟩ = some (.int .i64 (X)) := K1_2.out.cell 0
  have z1_1_2 : w2.cell? ⟨w1.heap.size, 1, none⟩ = some (.int .i64 (Y)) := K1_2.out.cell 1
  have zf0_0 := K0_2.out.frozen 0
  have zf0_1 := K0_2.out.frozen 1
  go_wp2
  exact bodyPost_ret (v := .tuple #[.agg #[.int .i64 0, .int .i64 0], .int .i64 8]) (by simp [results, Try.results74, go_sem, z0_0_2, z0_1_2, z1_0_2, z1_1_2, l0_2, l1_2]) rfl ⟨rfl, by repeat' (first | exact Below.refl _ _ | exact HB2.out | refine below_drewN ?_ _ | refine Below.drew ?_ | refine Below.alloc ?_ (by first | omega | (simp; done) | (simp; omega) | (simp [World.setCell]; omega)) _ | refine Below.setCell ?_ (by first | omega | (simp; done) | (simp; omega)) _ | assumption)⟩

/-- What the reference's product answers. -/
def madeV (a b : Int) : Value := if smallB a b then .tuple #[.agg #[.int .i64 (redN a b), .int .i64 (redD a b)], .int .i64 0] else .tuple #[.agg #[.int .i64 0, .int .i64 0], .int .i64 8]

end Go.Proofs.Ytfigbdhfmlhjdaa

end

section
/- The contract of Returns: the function value that it hands to the train, then the whole. -/
namespace Go.Proofs.Ytfigbdhfmlhjdaa
open Go.RowKit

/-- The turns so far, and whether they were too many. -/
def stepR (s : Int × Bool) (f : Int × Int) : Int × Bool := if s.2 then s else (s.1 / (Int.gcd s.1 f.2 : Int) * f.2, decide (1000000000 < s.1 / (Int.gcd s.1 f.2 : Int) * f.2))

theorem gcd_ret (a b : Int) (w : World) (h1 : 1 ≤ a) (h2 : a ≤ 9223372036854775807) (h3 : 1 ≤ b) (h4 : b ≤ 9223372036854775807) :
    Calls Try.prog 48 #[.int .i64 a, .int .i64 b] w fun e w' => e = .returned (.int .i64 (Int.gcd a b : Int)) ∧ ∃ n, w' = w.drewN n := by
  have hg := gcd_small a b (by omega) h4
  exact (gcdsup_any a b w (by omega) h2 (by omega) h4).mono fun e w' ⟨he, hw⟩ => ⟨by rw [he]; exact ret_int hg, hw⟩

theorem lcm_bound {a b : Int} (h1 : 1 ≤ a) (h2 : a ≤ 1000000000) (h3 : Part b) : 1 ≤ a / (Int.gcd a b : Int) * b ∧ a / (Int.gcd a b : Int) * b ≤ 1000000000000000000 := by
  obtain ⟨b1, b2⟩ := h3
  have hg : 0 < Int.gcd a b := Int.gcd_pos_of_ne_zero_left b (by omega)
  have d1 : (Int.gcd a b : Int) ∣ a := Int.gcd_dvd_left a b
  have p1 : 0 < a / (Int.gcd a b : Int) := Int.ediv_pos_of_pos_of_dvd (by omega) (by omega) d1
  have p2 : a / (Int.gcd a b : Int) ≤ a := Int.ediv_le_self _ (by omega)
  have m1 := Int.mul_le_mul (show 1 ≤ a / (Int.gcd a b : Int) by omega) b1 (by omega) (by omega)
  have m2 := Int.mul_le_mul (show a / (Int.gcd a b : Int) ≤ 1000000000 by omega) b2 (by omega) (by omega)
  omega

/-- What the function value of Returns finds: its two variables, and all below them as it was. -/
structure InvR (w0 : World) (lb tb : Nat) (s : Int × Bool) (w : World) : Prop where
  low : Below w0.heap.size w0 w
  large : Blk w lb 4 #[.bool s.2]
  turns : Blk w tb 3 #[.int .i64 s.1]
  pos : 1 ≤ s.1
  most : s.1 ≤ 1000000000000000000
  small : s.2 = false → s.1 ≤ 1000000000

set_option maxRecDepth 100000 in
set_option maxHeartbeats 1000000 in
theorem returns1_any (w0 : World) (lb tb B : Nat) (hl : w0.heap.size ≤ lb) (ht : w0.heap.size ≤ tb) (hlt : lb ≠ tb) (hlB : lb < B) (htB : tb < B) (s : Int × Bool) (w : World) (f : Int × Int) (hB : B ≤ w.heap.size) (hi : InvR w0 lb tb s w) (p1 : Part f.1) (p2 : Part f.2) :
    Calls Try.prog 47 #[.agg #[.int .i64 f.1, .int .i64 f.2], .pointer (some ⟨lb, 0, none⟩), .pointer (some ⟨tb, 0, none⟩)] w fun e w' => e = .returned (.tuple #[]) ∧ InvR w0 lb tb (stepR s f) w' ∧ Keeps B w w' := by
  obtain ⟨t, lg⟩ := s
  obtain ⟨fn, fd⟩ := f
  obtain ⟨i1, i2, i3, i4, i5, i6⟩ := hi
  have y0 : ∀ o, (w.alloc o).cell? ⟨lb, 0, none⟩ = some (.bool lg) := fun o => (i2.alloc o).cell 0
  have y1 : ∀ o, (w.alloc o).cell? ⟨tb, 0, none⟩ = some (.int .i64 t) := fun o => (i3.alloc o).cell 0
  have I1 := Lib.hid i1
  have I2 := Lib.hid i2
  have I3 := Lib.hid i3
  clear i1 i2 i3
  cases lg with
  | true =>
    go_enter Try.func47, Try.ntmps47
    go_wp2
    go_end0
    refine ⟨rfl, ⟨I1.out.alloc I1.out.size _, I2.out.alloc _, I3.out.alloc _, i4, i5, i6⟩, by simp, fun k _ hk => Below.heap_alloc _ _ _ hk⟩
  | false =>
    have i6' := i6 rfl
    have hb : 1 ≤ t / (Int.gcd t fd : Int) * fd ∧ t / (Int.gcd t fd : Int) * fd ≤ 1000000000000000000 := lcm_bound i4 i6' p2
    obtain ⟨b1, b2⟩ := p2
    have t0 : ¬ t = 0 := by omega
    have hg0 : (Int.gcd t fd : Int) ≠ 0 := by have := Int.gcd_pos_of_ne_zero_left (a := t) fd (by omega); omega
    have hd := div_gcd_in t fd (by omega) (by omega) hg0
    have e1 := tdiv_gcd_left t fd
    have e2 := IntWalk.i64_in (t / (Int.gcd t fd : Int)) ⟨by omega, by omega⟩
    have e3 := IntWalk.i64_in (t / (Int.gcd t fd : Int) * fd) ⟨by omega, by omega⟩
    clear i6
    have y2 : ∀ o v, ((w.alloc o).setCell ⟨tb, 0, none⟩ v).cell? ⟨tb, 0, none⟩ = some v := fun o v => ((I3.out.alloc o).set_ 0 v).cell 0
    have y3 : ∀ o v, ((w.alloc o).setCell ⟨tb, 0, none⟩ v).cell? ⟨lb, 0, none⟩ = some (.bool false) := fun o v => ((I2.out.alloc o).far (by omega) v).cell 0
    go_enter Try.func47, Try.ntmps47
    go_wp2
    refine Fx.regionW (fun W f w' => (f 9 = false → ∃ q, w' = W.drewN q) ∧ (f 9 = true → ∃ q, w' = (W.drewN q).setCell ⟨tb, 0, none⟩ (.int .i64 (t / (Int.gcd t fd : Int) * fd)))) (by kernel_rfl) (by kernel_rfl) ?_ ?_
    · intro f hf0
      exact ⟨fun _ => ⟨1, rfl⟩, fun h => by rw [hf0 9] at h; cases h⟩
    repeat (first
      | (refine Fx.skip_ (by rfl) (fun f w h => h) ?_; simp only [Act.put, List.setIfInBounds_toArray, List.set_cons_zero, List.set_cons_succ])
      | (refine Fx.val_ ?_ (by rfl) ?_ (fun f w h => h) ?_
         rotate_left
         · intro f w' hD hk
           obtain ⟨h1, h2⟩ := id hD
           obtain ⟨q, rfl⟩ := h1 (by first | exact hk.1 | exact (hk.2.1 9 (by kernel_rfl)) | exact (hk.un 9 8 (by kernel_rfl) (hk.2.1 8 (by kernel_rfl))) | exact (hk.un 9 8 (by kernel_rfl) (hk.un 8 5 (by kernel_rfl) (hk.2.1 5 (by kernel_rfl)))) | exact (hk.un 9 8 (by kernel_rfl) (hk.un 8 7 (by kernel_rfl) (hk.2.1 7 (by kernel_rfl)))) | exact (hk.un 9 8 (by kernel_rfl) (hk.un 8 5 (by kernel_rfl) (hk.un 5 4 (by kernel_rfl) (hk.2.1 4 (by kernel_rfl))))) | exact (hk.un 9 8 (by kernel_rfl) (hk.un 8 5 (by kernel_rfl) (hk.un 5 4 (by kernel_rfl) (hk.un 4 3 (by kernel_rfl) (hk.2.1 3 (by kernel_rfl)))))))
           clear hk hD h1 h2
           go_simp
           try rfl
         simp only [Act.put, List.setIfInBounds_toArray, List.set_cons_zero, List.set_cons_succ]))
    refine Fx.call_ (.int .i64 (Int.gcd t fd : Int)) ?_ ?_ (by rfl) ?_ ?_ ?_
    rotate_left 2
    · intro w'
      go_simp
      refine ⟨?_, ?_⟩ <;> rfl
    · intro f w' hD hk
      obtain ⟨h1, h2⟩ := id hD
      obtain ⟨q, rfl⟩ := h1 (by first | exact hk.1 | exact (hk.2.1 9 (by kernel_rfl)) | exact (hk.un 9 8 (by kernel_rfl) (hk.2.1 8 (by kernel_rfl))) | exact (hk.un 9 8 (by kernel_rfl) (hk.un 8 5 (by kernel_rfl) (hk.2.1 5 (by kernel_rfl)))) | exact (hk.un 9 8 (by kernel_rfl) (hk.un 8 7 (by kernel_rfl) (hk.2.1 7 (by kernel_rfl)))) | exact (hk.un 9 8 (by kernel_rfl) (hk.un 8 5 (by kernel_rfl) (hk.un 5 4 (by kernel_rfl) (hk.2.1 4 (by kernel_rfl))))) | exact (hk.un 9 8 (by kernel_rfl) (hk.un 8 5 (by kernel_rfl) (hk.un 5 4 (by kernel_rfl) (hk.un 4 3 (by kernel_rfl) (hk.2.1 3 (by kernel_rfl)))))))
      have h9 : f 9 = false := by first | exact hk.1 | exact (hk.2.1 9 (by kernel_rfl)) | exact (hk.un 9 8 (by kernel_rfl) (hk.2.1 8 (by kernel_rfl))) | exact (hk.un 9 8 (by kernel_rfl) (hk.un 8 5 (by kernel_rfl) (hk.2.1 5 (by kernel_rfl)))) | exact (hk.un 9 8 (by kernel_rfl) (hk.un 8 7 (by kernel_rfl) (hk.2.1 7 (by kernel_rfl)))) | exact (hk.un 9 8 (by kernel_rfl) (hk.un 8 5 (by kernel_rfl) (hk.un 5 4 (by kernel_rfl) (hk.2.1 4 (by kernel_rfl))))) | exact (hk.un 9 8 (by kernel_rfl) (hk.un 8 5 (by kernel_rfl) (hk.un 5 4 (by kernel_rfl) (hk.un 4 3 (by kernel_rfl) (hk.2.1 3 (by kernel_rfl))))))
      exact (gcd_ret t fd _ i4 (by omega) b1 (by omega)).mono fun e w'' ⟨he, q', hw⟩ => ⟨he, fun _ => ⟨q + q', by rw [hw, World.drewN_drewN]⟩, fun h => by simp [Fx.add, h9] at h⟩
    simp only [Act.put, List.setIfInBounds_toArray, List.set_cons_zero, List.set_cons_succ]
    repeat (first
      | (refine Fx.skip_ (by rfl) (fun f w h => h) ?_; simp only [Act.put, List.setIfInBounds_toArray, List.set_cons_zero, List.set_cons_succ])
      | (refine Fx.val_ ?_ (by rfl) ?_ (fun f w h => h) ?_
         rotate_left
         · intro f w' hD hk
           obtain ⟨h1, h2⟩ := id hD
           obtain ⟨q, rfl⟩ := h1 (by first | exact hk.1 | exact (hk.2.1 9 (by kernel_rfl)) | exact (hk.un 9 8 (by kernel_rfl) (hk.2.1 8 (by kernel_rfl))) | exact (hk.un 9 8 (by kernel_rfl) (hk.un 8 5 (by kernel_rfl) (hk.2.1 5 (by kernel_rfl)))) | exact (hk.un 9 8 (by kernel_rfl) (hk.un 8 7 (by kernel_rfl) (hk.2.1 7 (by kernel_rfl)))) | exact (hk.un 9 8 (by kernel_rfl) (hk.un 8 5 (by kernel_rfl) (hk.un 5 4 (by kernel_rfl) (hk.2.1 4 (by kernel_rfl))))) | exact (hk.un 9 8 (by kernel_rfl) (hk.un 8 5 (by kernel_rfl) (hk.un 5 4 (by kernel_rfl) (hk.un 4 3 (by kernel_rfl) (hk.2.1 3 (by kernel_rfl)))))))
           clear hk hD h1 h2
           go_simp
           try rfl
         simp only [Act.put, List.setIfInBounds_toArray, List.set_cons_zero, List.set_cons_succ]))
    refine Fx.store_ (fun w' => w'.setCell ⟨tb, 0, none⟩ (.int .i64 (t / (Int.gcd t fd : Int) * fd))) (by rfl) ?_ ?_ ?_
    · intro f w' hD hk
      obtain ⟨h1, h2⟩ := id hD
      obtain ⟨q, rfl⟩ := h1 hk.1
      have z1 := y1 (.cells #[.int .i64 fn, .int .i64 fd] 35)
      have z2 := (I3.out.alloc (.cells #[.int .i64 fn, .int .i64 fd] 35)).frozen 0
      clear hk hD
      go_simp
    · intro f w' hD hk
      obtain ⟨h1, h2⟩ := id hD
      obtain ⟨q, rfl⟩ := h1 hk.1
      exact ⟨fun h => by simp [Fx.add] at h, fun _ => ⟨q, rfl⟩⟩
    simp only [Act.put, List.setIfInBounds_toArray, List.set_cons_zero, List.set_cons_succ]
    refine Fx.nil_ ?_
    intro f w1 hall hD
    have hf9 := hall 9 (by simp)
    obtain ⟨_, h2⟩ := hD
    simp only [hf9, if_true] at *
    obtain ⟨q, rfl⟩ := h2 (by first | rfl | trivial)
    try clear hall
    clear h2
    have y4 := y2 (.cells #[.int .i64 fn, .int .i64 fd] 35) (.int .i64 (t / (Int.gcd t fd : Int) * fd))
    have y5 := y3 (.cells #[.int .i64 fn, .int .i64 fd] 35) (.int .i64 (t / (Int.gcd t fd : Int) * fd))
    have x1 := Lib.hid ((below_drewN (I1.out.alloc I1.out.size (.cells #[.int .i64 fn, .int .i64 fd] 35)) q).setCell (p := ⟨tb, 0, none⟩) ht (.int .i64 (t / (Int.gcd t fd : Int) * fd)))
    have y6 : (w.alloc (.cells #[.int .i64 fn, .int .i64 fd] 35)).frozen? ⟨lb, 0, none⟩ = false := (I2.out.alloc _).frozen 0
    go_wp2
    go_end0
    refine ⟨rfl, ?_, ?_⟩
    · refine ⟨x1.out.setCell (p := ⟨lb, 0, none⟩) hl _, (((I2.out.alloc _).far (p := ⟨tb, 0, none⟩) (by show lb ≠ tb; omega) _)).set_ 0 _, ((((I3.out.alloc _)).set_ 0 _).far (p := ⟨lb, 0, none⟩) (by show tb ≠ lb; omega) _), hb.1, hb.2, fun h => ?_⟩
      have : decide (1000000000 < t / (Int.gcd t fd : Int) * fd) = false := h
      have := of_decide_eq_false this
      show t / (Int.gcd t fd : Int) * fd ≤ _
      omega
    · refine ⟨by simp [World.setCell], fun k hk1 hk2 => ?_⟩
      have n1 : k ≠ lb := by omega
      have n2 : k ≠ tb := by omega
      rw [Below.heap_setCell _ ⟨lb, 0, none⟩ _ _ n1, Below.heap_setCell _ ⟨tb, 0, none⟩ _ _ n2]
      exact Below.heap_alloc _ _ _ hk2

theorem returns1_each (w0 : World) (lb tb B : Nat) (hl : w0.heap.size ≤ lb) (ht : w0.heap.size ≤ tb) (hlt : lb ≠ tb) (hlB : lb < B) (htB : tb < B) :
    Each B 47 #[.pointer (some ⟨lb, 0, none⟩), .pointer (some ⟨tb, 0, none⟩)] (InvR w0 lb tb) stepR where
  ent := fun _ _ => by kernel_rfl
  call := fun s w f hB hi p1 p2 => returns1_any w0 lb tb B hl ht hlt hlB htB s w f hB hi p1 p2
  keep := fun s w w' hi hb => ⟨hi.low.trans (hb.mono (by omega)), hi.large.below hb hlB, hi.turns.below hb htB, hi.pos, hi.most, hi.small⟩

def trainR (l : List (Int × Int)) : (Int × Bool) × Bool := trainF stepR (stepR (1, false) (1, 1)) (1, 1) l
/-- When all axes are back, or an error. -/
def returnsF (l : List (Int × Int)) : Int × Int := if trainErr l ≠ 0 then (0, trainErr l) else if (trainR l).2 = false ∨ (trainR l).1.2 = true then (0, 8) else ((trainR l).1.1, 0)

theorem trainErr_ok {l : List (Int × Int)} (h : trainErr l = 0) : l.length ≤ 12 ∧ l.all okP = true := by
  unfold trainErr at h
  split at h
  · exact absurd h (by decide)
  · split at h
    · exact ⟨by omega, by assumption⟩
    · exact absurd h (by decide)

def ReturnsPost (l : List (Int × Int)) (w : World) (e : Ending) (w' : World) : Prop := e = .returned (.tuple #[.int .i64 (returnsF l).1, .int .i64 (returnsF l).2]) ∧ Below w.heap.size w w'

set_option maxHeartbeats 1000000 in
theorem returns_any (A : Option Addr) (n c N : Nat) (l : List (Int × Int)) (w : World) (hx : Reads w N 2 A n (cells2 l)) (hN : N ≤ w.heap.size) (hn : n ≤ 9223372036854775807) :
    Calls Try.prog 23 #[.slice A n c] w (ReturnsPost l w) := by
  have HX := Lib.hid hx
  clear hx
  by_cases h0 : trainErr l = 0
  · obtain ⟨hlen, hok⟩ := trainErr_ok h0
    have hF : returnsF l = if (trainR l).2 = false ∨ (trainR l).1.2 = true then (0, 8) else ((trainR l).1.1, 0) := by unfold returnsF; rw [if_neg (by rw [h0]; simp)]
    have HF := Lib.hid hF
    have H0 := Lib.hid h0
    have HOK := Lib.hid hok
    clear hF hok
    go_enter Try.func23, Try.ntmps23
    go_wp2_with (first | (go_at_call 45; refine (checktrain_is A n c N l 0 H0.out _ HX.out hN hn).mono ?_; rintro e w1 ⟨rfl, hb⟩))
    have hz1 := hb.size
    have hrd := HX.out.belowLe hb hN
    have HB := Lib.hid hb
    have HRD := Lib.hid hrd
    clear hb hrd
    obtain ⟨⟨⟨t, lg⟩, ok⟩, htr⟩ : ∃ r, trainR l = r := ⟨_, rfl⟩
    have HTR := Lib.hid htr
    clear htr
    refine (train_is (w1.heap.size + 2) 47 #[.pointer (some ⟨w1.heap.size + 1, 0, none⟩), .pointer (some ⟨w1.heap.size, 0, none⟩)] (InvR w1 (w1.heap.size + 1) w1.heap.size) stepR (returns1_each w1 _ _ _ (by omega) (by omega) (by omega) (by omega) (by omega)) A n c N l _ (1, false) (t, lg) ok HTR.out (by simp) (by omega) (fun s w' hi => HRD.out.belowLe hi.low (by omega)) ⟨((Below.refl _ _).alloc (Nat.le_refl _) _).alloc (by simp) _, Blk.at_ _ (by simp) _ _, (Blk.new _ _ _).alloc _, by decide, by decide, fun _ => by decide⟩ hn HOK.out).mono ?_
    rintro e w2 ⟨rfl, hi⟩
    have y0 : w2.cell? ⟨w1.heap.size + 1, 0, none⟩ = some (.bool lg) := hi.large.cell 0
    have y1 : w2.cell? ⟨w1.heap.size, 0, none⟩ = some (.int .i64 t) := hi.turns.cell 0
    have hbb := HB.out.trans (hi.low.mono hz1)
    have HBB := Lib.hid hbb
    clear hi hbb
    cases ok with
    | false =>
      go_wp2
      go_ret2
      exact ⟨by rw [HF.out, HTR.out]; rfl, HBB.out⟩
    | true =>
      cases lg with
      | false =>
        go_wp2
        go_ret2
        exact ⟨by rw [HF.out, HTR.out]; rfl, HBB.out⟩
      | true =>
        go_wp2
        go_ret2
        exact ⟨by rw [HF.out, HTR.out]; rfl, HBB.out⟩
  · have hF : returnsF l = (0, trainErr l) := by unfold returnsF; rw [if_pos h0]
    have hne : (trainErr l != 0) = true := by simpa using h0
    have HF := Lib.hid hF
    clear hF h0
    go_enter Try.func23, Try.ntmps23
    go_wp2_with (first | (go_at_call 45; refine (checktrain_any A n c N l _ HX.out hN hn).mono ?_; rintro e w1 ⟨rfl, hb⟩))
    go_ret2
    exact ⟨by rw [HF.out]; rfl, hb⟩

end Go.Proofs.Ytfigbdhfmlhjdaa

end
