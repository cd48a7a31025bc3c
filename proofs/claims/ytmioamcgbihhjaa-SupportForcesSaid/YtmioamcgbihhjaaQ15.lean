import Derived.Test.YtmioamcgbihhjaaQ5
import Derived.Test.YtmioamcgbihhjaaQ14

section
/- The contracts of the check of a train of gears, of its products, and of Returns. -/
namespace Go.Proofs.Ytmioamcgbihhjaa
open Go.RowKit

/-- Both numbers are those of teeth. -/
def okP (p : Int × Int) : Bool := withinB p.1 1 500 && withinB p.2 1 500
def trainErr (l : List (Int × Int)) : Int := if 12 < l.length then 8 else if l.all okP then 0 else 2

theorem okP_yes {p : Int × Int} (h1 : withinB p.1 1 500 = true) (h2 : withinB p.2 1 500 = true) : okP p = true := by unfold okP; rw [h1, h2]; rfl
theorem okP_no1 {p : Int × Int} (h1 : withinB p.1 1 500 = false) : okP p = false := by unfold okP; rw [h1]; rfl
theorem okP_no2 {p : Int × Int} (h1 : withinB p.2 1 500 = false) : okP p = false := by unfold okP; rw [h1]; simp
theorem okP_part {p : Int × Int} (h : okP p = true) : 1 ≤ p.1 ∧ p.1 ≤ 500 ∧ 1 ≤ p.2 ∧ p.2 ≤ 500 := by
  unfold okP at h
  rw [Bool.and_eq_true, withinB_iff, withinB_iff] at h
  exact ⟨h.1.1, h.1.2, h.2.1, h.2.2⟩
theorem all_take_succ {l : List (Int × Int)} {k : Nat} {p : Int × Int} (h : (l.take k).all okP = true) (hp : l[k]? = some p) (ho : okP p = true) : (l.take (k + 1)).all okP = true := by
  rw [List.take_add_one, hp, List.all_append, h]; simp [ho]
theorem all_no {l : List (Int × Int)} {k : Nat} {p : Int × Int} (hp : l[k]? = some p) (ho : okP p = false) : l.all okP = false := by
  rw [List.all_eq_false]
  exact ⟨p, List.mem_of_getElem? hp, by rw [ho]; exact Bool.false_ne_true⟩

set_option maxHeartbeats 1000000 in
theorem checktrain_any (A : Option Addr) (n c N : Nat) (l : List (Int × Int)) (w : World) (hx : Reads w N 2 A n (cells2 l)) (hN : N ≤ w.heap.size) (hn : n ≤ 9223372036854775807) :
    Calls Try.prog 26 #[.slice A n c] w fun e w' => e = .returned (.int .i64 (trainErr l)) ∧ Below w.heap.size w w' := by
  have hxl := Lib.hid hx.len2
  have HX := Lib.hid hx
  clear hx
  by_cases h12 : (12 : Int) < n
  · have HE : Hid (trainErr l = 8) := by show _ = _; unfold trainErr; rw [if_pos (by rw [hxl.out]; omega)]
    go_enter Try.func26, Try.ntmps26
    go_wp2
    go_ret
    exact ⟨ret_int HE.out.symm, Below.refl _ _⟩
  have HE : Hid (trainErr l = if l.all okP then 0 else 2) := by show _ = _; unfold trainErr; rw [if_neg (by rw [hxl.out]; omega)]
  go_enter Try.func26, Try.ntmps26
  go_wp2
  go_loopw [10] (fun i wr => ∃ k : Nat, k ≤ n ∧ i = .int .i64 k ∧ (l.take k).all okP = true ∧ Below w.heap.size w wr) (fun i _ => n - (intOf i).toNat)
  case atStart => exact ⟨0, by omega, rfl, rfl, Below.refl _ _⟩
  case round =>
    obtain ⟨k, hk, rfl, ht, hb⟩ := hrel
    have HT := Lib.hid ht
    have HB := Lib.hid hb
    clear ht hb
    by_cases hlt : k < n
    · obtain ⟨xb, xo, p, rfl, hxb, hp, c0, c1⟩ := (HX.out.belowLe HB.out hN).pair hlt
      have HP := Lib.hid hp
      clear hp
      cases h1 : withinB p.1 1 500 with
      | false =>
        have HO := Lib.hid (okP_no1 h1)
        go_wp2_with (first | (go_at_call 79; refine (withinsup_is _ _ _ _ (by assumption) _).mono ?_; rintro e w' ⟨rfl, rfl⟩))
        go_ret
        exact ⟨ret_int (by rw [HE.out, all_no HP.out HO.out]; rfl), HB.out.alloc HB.out.size _⟩
      | true =>
        cases h2 : withinB p.2 1 500 with
        | false =>
          have HO := Lib.hid (okP_no2 h2)
          go_wp2_with (first | (go_at_call 79; refine (withinsup_is _ _ _ _ (by assumption) _).mono ?_; rintro e w' ⟨rfl, rfl⟩))
          go_ret
          exact ⟨ret_int (by rw [HE.out, all_no HP.out HO.out]; rfl), HB.out.alloc HB.out.size _⟩
        | true =>
          have HO := Lib.hid (okP_yes h1 h2)
          go_wp2_with (first | (go_at_call 79; refine (withinsup_is _ _ _ _ (by assumption) _).mono ?_; rintro e w' ⟨rfl, rfl⟩))
          go_roundw
          case rel => exact ⟨k + 1, by omega, by go_num, all_take_succ HT.out HP.out HO.out, HB.out.alloc HB.out.size _⟩
          case measure => simp [intOf]; omega
    · go_wp2
      go_ret
      have e : l.take k = l := List.take_of_length_le (by rw [hxl.out]; omega)
      exact ⟨ret_int (by rw [HE.out, ← e, HT.out]; rfl), HB.out⟩

theorem checktrain_is (A : Option Addr) (n c N : Nat) (l : List (Int × Int)) (t : Int) (h : trainErr l = t) (w : World) (hx : Reads w N 2 A n (cells2 l)) (hN : N ≤ w.heap.size) (hn : n ≤ 9223372036854775807) :
    Calls Try.prog 26 #[.slice A n c] w fun e w' => e = .returned (.int .i64 t) ∧ Below w.heap.size w w' := h ▸ checktrain_any A n c N l w hx hN hn

/-- What a train does: each product is handed to a step; false: one is not small. -/
def trainF {σ : Type} (step : σ → Int × Int → σ) : σ → Int × Int → List (Int × Int) → σ × Bool
  | s, _, [] => (s, true)
  | s, f, g :: l => if smallB (f.1 * g.1) (f.2 * g.2) then trainF step (step s (redN (f.1 * g.1) (f.2 * g.2), redD (f.1 * g.1) (f.2 * g.2))) (redN (f.1 * g.1) (f.2 * g.2), redD (f.1 * g.1) (f.2 * g.2)) l else (s, false)

/-- What a function value that is called leaves as it was: all blocks from B on. -/
structure Keeps (B : Nat) (w w' : World) : Prop where
  size : w.heap.size ≤ w'.heap.size
  block : ∀ k, B ≤ k → k < w.heap.size → w'.heap[k]? = w.heap[k]?

theorem Keeps.blk {B : Nat} {w w' : World} (h : Keeps B w w') {g : Nat} {t : TypeId} {cs : Array Value} (hg : Blk w g t cs) (hB : B ≤ g) : Blk w' g t cs := (h.block g hB hg.lt).trans hg

/-- What a function value does with a state that lies below B. -/
structure Each (B : Nat) (k : FuncId) (caps : Array Value) {σ : Type} (Inv : σ → World → Prop) (step : σ → Int × Int → σ) : Prop where
  ent : ∀ (args : Array Value) (w : World), (callFunc k args).run Try.prog w = .ok (.enter k args) w
  call : ∀ (s : σ) (w : World) (f : Int × Int), B ≤ w.heap.size → Inv s w → Part f.1 → Part f.2 →
    Calls Try.prog k (#[.agg #[.int .i64 f.1, .int .i64 f.2]] ++ caps) w fun e w' => e = .returned (.tuple #[]) ∧ Inv (step s f) w' ∧ Keeps B w w'
  keep : ∀ (s : σ) (w w' : World), Inv s w → Below B w w' → Inv s w'

theorem part_bound {a b : Int} (h : Part a) (h1 : 1 ≤ b) (h2 : b ≤ 500) : 1 ≤ a * b ∧ a * b ≤ 500000000000 := by
  obtain ⟨p1, p2⟩ := h
  have m1 := Int.mul_le_mul p1 h1 (by omega) (by omega)
  have m2 := Int.mul_le_mul p2 h2 (by omega) (by omega)
  omega

set_option maxRecDepth 100000 in
set_option maxHeartbeats 1000000 in
theorem train_any {σ : Type} (B : Nat) (k : FuncId) (caps : Array Value) (Inv : σ → World → Prop) (step : σ → Int × Int → σ) (he : Each B k caps Inv step) (A : Option Addr) (n c N : Nat) (l : List (Int × Int)) (w : World) (s : σ)
    (hB : B = w.heap.size) (hN : N ≤ B) (hread : ∀ s w, Inv s w → Reads w N 2 A n (cells2 l)) (hi : Inv s w) (hn : n ≤ 9223372036854775807) (hok : l.all okP = true) :
    Calls Try.prog 74 #[.slice A n c, .func (.func k) #[] caps] w fun e w' => e = .returned (.bool (trainF step (step s (1, 1)) (1, 1) l).2) ∧ Inv (trainF step (step s (1, 1)) (1, 1) l).1 w' := by
  have HI := Lib.hid hi
  have hent := he.ent
  have HE := Lib.hid he
  have HR := Lib.hid hread
  have HOK := Lib.hid hok
  have hs0 := HR.out s w hi
  have hxl := Lib.hid hs0.len2
  clear hi he hread hok hs0
  go_enter Try.func74, Try.ntmps74
  go_wp2
  refine (HE.out.call s _ (1, 1) (by simp; omega) (HE.out.keep s _ _ HI.out (by rw [hB]; exact (Below.refl _ _).alloc (Nat.le_refl _) _)) ⟨by decide, by decide⟩ ⟨by decide, by decide⟩).mono ?_
  rintro e w1 ⟨rfl, hi1, hk1⟩
  have hf1 : Blk w1 w.heap.size 23 #[.int .i64 1, .int .i64 1] := hk1.blk (Blk.at_ _ rfl _ _) (by omega)
  have hz1 := hk1.size
  simp only [World.size_alloc] at hz1
  have HI1 := Lib.hid hi1
  have HF1 := Lib.hid hf1
  clear hi1 hk1 hf1
  go_wp2
  go_loopw [15] (fun i wr => ∃ (q : Nat) (s1 : σ) (f : Int × Int), q ≤ n ∧ i = .int .i64 q ∧ Part f.1 ∧ Part f.2 ∧ Hid (trainF step (step s (1, 1)) (1, 1) l = trainF step s1 f (l.drop q)) ∧ Inv s1 wr ∧ Blk wr w.heap.size 23 #[.int .i64 f.1, .int .i64 f.2] ∧ w.heap.size < wr.heap.size) (fun i _ => n - (intOf i).toNat)
  case atStart => exact ⟨0, step s (1, 1), (1, 1), by omega, rfl, ⟨by decide, by decide⟩, ⟨by decide, by decide⟩, by show _ = _; rw [List.drop_zero], HI1.out, HF1.out, by omega⟩
  case round =>
    obtain ⟨q, s1, f, hq, rfl, pf1, pf2, HT, hi2, hf2, hz2⟩ := hrel
    have HI2 := Lib.hid hi2
    have HF2 := Lib.hid hf2
    clear hi2 hf2
    by_cases hlt : q < n
    · obtain ⟨xb, xo, p, rfl, hxb, hp, c0, c1⟩ := (HR.out s1 _ HI2.out).pair hlt
      obtain ⟨p1, p2, p3, p4⟩ := okP_part (List.all_eq_true.1 HOK.out p (List.mem_of_getElem? hp))
      have m1 := part_bound pf1 p1 p2
      have m2 := part_bound pf2 p3 p4
      have hd : l.drop q = p :: l.drop (q + 1) := by
        obtain ⟨h1, h2⟩ := List.getElem?_eq_some_iff.1 hp
        rw [List.drop_eq_getElem_cons h1, h2]
      have y0 : ∀ o, (wr.alloc o).cell? ⟨w.heap.size, 0, none⟩ = some (.int .i64 f.1) := fun o => (HF2.out.alloc o).cell 0
      have y1 : ∀ o, (wr.alloc o).cell? ⟨w.heap.size, 1, none⟩ = some (.int .i64 f.2) := fun o => (HF2.out.alloc o).cell 1
      have HP := Lib.hid hp
      have HD := Lib.hid hd
      clear hp hd
      go_wp2_with fail
      refine (small_red _ _ _ (by omega) (by omega) (by omega) (by omega)).mono ?_
      rintro e w2 ⟨rfl, hb2⟩
      simp only [World.size_alloc] at hb2
      have hb3 : Below wr.heap.size wr w2 := ((Below.refl _ _).alloc (Nat.le_refl _) _).trans (hb2.mono (by omega))
      have hf3 := HF2.out.below hb3 HF2.out.lt
      have hz3 := hb3.size
      have HB3 := Lib.hid hb3
      have HF3 := Lib.hid hf3
      clear hb2 hb3 hf3
      cases h1 : smallB (f.1 * p.1) (f.2 * p.2) with
      | false =>
        have H1 := Lib.hid h1
        clear h1
        have y2 : w2.cell? ⟨w.heap.size, 0, none⟩ = some (.int .i64 f.1) := HF3.out.cell 0
        have y3 : w2.frozen? ⟨w.heap.size, 0, none⟩ = false := HF3.out.frozen 0
        have y4 : w2.cell? ⟨w.heap.size, 1, none⟩ = some (.int .i64 f.2) := HF3.out.cell 1
        have y5 : w2.frozen? ⟨w.heap.size, 1, none⟩ = false := HF3.out.frozen 1
        go_wp2
        go_ret
        have hT : trainF step (step s (1, 1)) (1, 1) l = (s1, false) := by
          rw [HT.out, HD.out]
          simp only [trainF, H1.out, Bool.false_eq_true, if_false]
        rw [hT]
        refine ⟨rfl, HE.out.keep s1 _ _ HI2.out ?_⟩
        exact (((HB3.out.mono (by omega)).setCell (p := ⟨w.heap.size, 0, none⟩) (by simp; omega) _).setCell (p := ⟨w.heap.size, 1, none⟩) (by simp; omega) _)
      | true =>
        have hpart := red_part m1.1 m2.1 h1
        have H1 := Lib.hid h1
        have HPART := Lib.hid hpart
        clear h1 hpart
        have y2 : w2.cell? ⟨w.heap.size, 0, none⟩ = some (.int .i64 f.1) := HF3.out.cell 0
        have y3 : w2.frozen? ⟨w.heap.size, 0, none⟩ = false := HF3.out.frozen 0
        have y4 : w2.cell? ⟨w.heap.size, 1, none⟩ = some (.int .i64 f.2) := HF3.out.cell 1
        have y5 : w2.frozen? ⟨w.heap.size, 1, none⟩ = false := HF3.out.frozen 1
        have hf4 := (HF3.out.set_ 0 (.int .i64 (redN (f.1 * p.1) (f.2 * p.2)))).set_ 1 (.int .i64 (redD (f.1 * p.1) (f.2 * p.2)))
        have hi4 := HE.out.keep s1 _ ((w2.setCell ⟨w.heap.size, 0, none⟩ (.int .i64 (redN (f.1 * p.1) (f.2 * p.2)))).setCell ⟨w.heap.size, 1, none⟩ (.int .i64 (redD (f.1 * p.1) (f.2 * p.2)))) HI2.out (((HB3.out.mono (by omega)).setCell (p := ⟨w.heap.size, 0, none⟩) (by simp; omega) _).setCell (p := ⟨w.heap.size, 1, none⟩) (by simp; omega) _)
        have HF4 := Lib.hid hf4
        have HI4 := Lib.hid hi4
        clear hf4 hi4
        go_wp2
        refine (HE.out.call s1 _ (redN (f.1 * p.1) (f.2 * p.2), redD (f.1 * p.1) (f.2 * p.2)) (by simp [World.setCell]; omega) HI4.out HPART.out.1 HPART.out.2).mono ?_
        rintro e w5 ⟨rfl, hi5, hk5⟩
        have hf5 := hk5.blk HF4.out (by omega)
        have hz5 := hk5.size
        have HF5 := Lib.hid hf5
        have HI5 := Lib.hid hi5
        clear hf5 hi5 hk5
        go_wp2
        go_roundw
        case rel =>
          refine ⟨q + 1, _, (redN (f.1 * p.1) (f.2 * p.2), redD (f.1 * p.1) (f.2 * p.2)), by omega, by go_num, HPART.out.1, HPART.out.2, ?_, HI5.out, ?_, ?_⟩
          · show _ = _
            rw [HT.out, HD.out]
            simp only [trainF, H1.out, if_true]
          · simpa using HF5.out
          · simp [World.setCell] at hz5; omega
        case measure => simp [intOf]; omega
    · go_wp2
      go_ret
      have hqn : q = n := by omega
      have e := HT.out
      rw [List.drop_of_length_le (by rw [hxl.out]; omega)] at e
      rw [e]
      exact ⟨rfl, HI2.out⟩

theorem train_is {σ : Type} (B : Nat) (k : FuncId) (caps : Array Value) (Inv : σ → World → Prop) (step : σ → Int × Int → σ) (he : Each B k caps Inv step) (A : Option Addr) (n c N : Nat) (l : List (Int × Int)) (w : World) (s t : σ) (ok : Bool)
    (ht : trainF step (step s (1, 1)) (1, 1) l = (t, ok)) (hB : B = w.heap.size) (hN : N ≤ B) (hread : ∀ s w, Inv s w → Reads w N 2 A n (cells2 l)) (hi : Inv s w) (hn : n ≤ 9223372036854775807) (hok : l.all okP = true) :
    Calls Try.prog 74 #[.slice A n c, .func (.func k) #[] caps] w fun e w' => e = .returned (.bool ok) ∧ Inv t w' :=
  (train_any B k caps Inv step he A n c N l w s hB hN hread hi hn hok).mono fun e w' h => by rw [ht] at h; exact h

end Go.Proofs.Ytmioamcgbihhjaa

end

section
/- Contracts of the reference's products of fractions, and of the ratio of a pair of gears. -/
namespace Go.Proofs.Ytmioamcgbihhjaa
open Go.RowKit

theorem small_err {a b : Int} (hb : 1 ≤ b) : smallB a b = true ↔ fracErr (redN a b) (redD a b) = 0 := by
  have hp : 0 < Int.gcd a b := Int.gcd_pos_of_ne_zero_right a (by omega)
  have hg : Int.gcd (a / (Int.gcd a b : Int)) (b / (Int.gcd a b : Int)) = 1 := Int.gcd_ediv_gcd_ediv_gcd hp
  have hd : 0 < b / (Int.gcd a b : Int) := Int.ediv_pos_of_pos_of_dvd (by omega) (by omega) (Int.gcd_dvd_right a b)
  unfold smallB fracErr redN redD
  rw [hg]
  simp only [Bool.and_eq_true, withinB_iff, decide_eq_true_eq]
  constructor
  · rintro ⟨⟨h1, h2⟩, h3⟩
    rw [if_neg (by omega), if_neg (by omega)]
  · intro h
    rw [if_neg (by omega)] at h
    split at h
    · cases h
    · omega

/-- A common factor goes away. -/
theorem red_scale {k : Int} (hk : 0 < k) (a b : Int) : redN (k * a) (k * b) = redN a b ∧ redD (k * a) (k * b) = redD a b ∧ smallB (k * a) (k * b) = smallB a b := by
  have hg : (Int.gcd (k * a) (k * b) : Int) = k * (Int.gcd a b : Int) := by
    rw [Int.gcd_mul_left]
    push_cast
    rw [Int.natAbs_of_nonneg (by omega)]
  have h1 : redN (k * a) (k * b) = redN a b := by unfold redN; rw [hg, Int.mul_ediv_mul_of_pos _ _ hk]
  have h2 : redD (k * a) (k * b) = redD a b := by unfold redD; rw [hg, Int.mul_ediv_mul_of_pos _ _ hk]
  refine ⟨h1, h2, ?_⟩
  unfold redN at h1
  unfold redD at h2
  unfold smallB
  rw [h1, h2]

theorem red_in {a b : Int} (h1 : -9223372036854775808 < a) (h2 : a ≤ 9223372036854775807) (h3 : 1 ≤ b) (h4 : b ≤ 9223372036854775807) :
    -9223372036854775808 < redN a b ∧ redN a b ≤ 9223372036854775807 ∧ -9223372036854775808 < redD a b ∧ redD a b ≤ 9223372036854775807 := by
  have hp : 0 < Int.gcd a b := Int.gcd_pos_of_ne_zero_right a (by omega)
  have x := div_gcd_in a b h1 h2 (by omega)
  have y := div_gcd_in b a (by omega) h4 (by rw [Int.gcd_comm]; omega)
  rw [Int.gcd_comm] at y
  exact ⟨x.1, x.2, y.1, y.2⟩

theorem lowest_red (a b x y : Int) (hx : redN a b = x) (hy : redD a b = y) (w : World) (h1 : -9223372036854775808 < a) (h2 : a ≤ 9223372036854775807) (h3 : 1 ≤ b) (h4 : b ≤ 9223372036854775807) :
    Calls Try.prog 87 #[.int .i64 a, .int .i64 b] w fun e w' => e = .returned (.agg #[.int .i64 x, .int .i64 y]) ∧ Below w.heap.size w w' :=
  hx ▸ hy ▸ lowest_any a b w h1 h2 h3 h4
theorem fracref_is (n d t : Int) (h : fracErr n d = t) (w : World) (h1 : -9223372036854775808 ≤ n) (h2 : n ≤ 9223372036854775807) (h3 : -9223372036854775808 ≤ d) (h4 : d ≤ 9223372036854775807) :
    Calls Try.prog 17 #[.agg #[.int .i64 n, .int .i64 d]] w fun e w' => e = .returned (.int .i64 t) ∧ Below w.heap.size w w' := h ▸ checkfracref_any n d w h1 h2 h3 h4

set_option maxRecDepth 100000 in
theorem made_ok (a b : Int) (ht : smallB a b = true) (w : World) (h1 : -9223372036854775808 < a) (h2 : a ≤ 9223372036854775807) (h3 : 1 ≤ b) (h4 : b ≤ 9223372036854775807) :
    Calls Try.prog 126 #[.int .i64 a, .int .i64 b] w fun e w' => e = .returned (.tuple #[.agg #[.int .i64 (redN a b), .int .i64 (redD a b)], .int .i64 0]) ∧ Below w.heap.size w w' := by
  have hE := (small_err h3).1 ht
  obtain ⟨b1, b2, b3, b4⟩ := red_in h1 h2 h3 h4
  obtain ⟨X, hX⟩ : ∃ X, redN a b = X := ⟨_, rfl⟩
  obtain ⟨Y, hY⟩ : ∃ Y, redD a b = Y := ⟨_, rfl⟩
  rw [hX, hY]
  rw [hX, hY] at hE
  rw [hX] at b1 b2
  rw [hY] at b3 b4
  have HX := Lib.hid hX
  have HY := Lib.hid hY
  have HE := Lib.hid hE
  clear hX hY hE ht
  go_enter Try.func126, Try.ntmps126
  go_wp2_with fail
  refine (lowest_red a b X Y HX.out HY.out _ h1 h2 h3 h4).mono ?_
  rintro e w1 ⟨rfl, hb⟩
  have HB1 := Lib.hid (show Below w.heap.size w w1 from step_below hb (by repeat' (first | exact Below.refl _ _ | exact HB0.out | refine below_drewN ?_ _ | refine Below.drew ?_ | refine Below.alloc ?_ (by first | omega | (simp; done) | (simp; omega) | (simp [World.setCell]; omega)) _ | refine Below.setCell ?_ (by first | omega | (simp; done) | (simp; omega)) _ | assumption)))
  have K0_1 := Lib.hid (step_blk hb (show Blk _ (w.heap.size) 23 #[.int .i64 (0), .int .i64 (0)] by repeat' (first | exact Blk.at_ _ (by first | rfl | (simp; done) | (simp; omega)) _ _ | refine Blk.drewN ?_ _ | refine Blk.drew ?_ | refine Blk.alloc ?_ _ | refine Blk.far ?_ (by first | omega | (simp; done) | (simp; omega)) _ | assumption)))
  have hz1 := hb.size
  try simp only [World.size_alloc, World.drewN, World.drew] at hz1
  clear hb
  have l0_1 : w.heap.size < w1.heap.size := K0_1.out.lt
  have z0_0_1 : w1.cell? ⟨w.heap.size, 0, none⟩ = some (.int .i64 (0)) := K0_1.out.cell 0
  have z0_1_1 : w1.cell? ⟨w.heap.size, 1, none⟩ = some (.int .i64 (0)) := K0_1.out.cell 1
  go_wp2_with fail
  refine (fracref_is _ _ _ HE.out _ (by omega) b2 (by omega) b4).mono ?_
  rintro e w2 ⟨rfl, hb⟩
  have HB2 := Lib.hid (show Below w.heap.size w w2 from step_below hb (by repeat' (first | exact Below.refl _ _ | exact HB1.out | refine below_drewN ?_ _ | refine Below.drew ?_ | refine Below.alloc ?_ (by first | omega | (simp; done) | (simp; omega) | (simp [World.setCell]; omega)) _ | refine Below.setCell ?_ (by first | omega | (simp; done) | (simp; omega)) _ | assumption)))
  have K0_2 := Lib.hid (step_blk hb (show Blk _ (w.heap.size) 23 #[.int .i64 (0), .int .i64 (0)] by repeat' (first | exact K0_1.out | exact Blk.at_ _ (by first | rfl | (simp; done) | (simp; omega)) _ _ | refine Blk.drewN ?_ _ | refine Blk.drew ?_ | refine Blk.alloc ?_ _ | refine Blk.far ?_ (by first | omega | (simp; done) | (simp; omega)) _ | assumption)))
  have K1_2 := Lib.hid (step_blk hb (show Blk _ (w1.heap.size) 23 #[.int .i64 (X), .int .i64 (Y)] by repeat' (first | exact K0_1.out | exact Blk.at_ _ (by first | rfl | (simp; done) | (simp; omega)) _ _ | refine Blk.drewN ?_ _ | refine Blk.drew ?_ | refine Blk.alloc ?_ _ | refine Blk.far ?_ (by first | omega | (simp; done) | (simp; omega)) _ | assumption)))
  have hz2 := hb.size
  try simp only [World.size_alloc, World.drewN, World.drew] at hz2
  clear hb K0_1 z0_0_1 z0_1_1 l0_1
  have l0_2 : w.heap.size < w2.heap.size := K0_2.out.lt
  have z0_0_2 : w2.cell? ⟨w.heap.size, 0, none⟩ = some (.int .i64 (0)) := K0_2.out.cell 0
  have z0_1_2 : w2.cell? ⟨w.heap.size, 1, none⟩ = some (.int .i64 (0)) := K0_2.out.cell 1
  have l1_2 : w1.heap.size < w2.heap.size := K1_2.out.lt
  have z1_0_2 : w2.cell? ⟨w1.heap.size, 0, none⟩ = some (.int .i64 (X)) := K1_2.out.cell 0
  have z1_1_2 : w2.cell? ⟨w1.heap.size, 1, none⟩ = some (.int .i64 (Y)) := K1_2.out.cell 1
  have zf0_0 := K0_2.out.frozen 0
  have zf0_1 := K0_2.out.frozen 1
  go_wp2
  exact bodyPost_ret (v := .tuple #[.agg #[.int .i64 X, .int .i64 Y], .int .i64 0]) (by simp [results, Try.results126, go_sem, z0_0_2, z0_1_2, z1_0_2, z1_1_2, l0_2, l1_2]) rfl ⟨rfl, by repeat' (first | exact Below.refl _ _ | exact HB2.out | refine below_drewN ?_ _ | refine Below.drew ?_ | refine Below.alloc ?_ (by first | omega | (simp; done) | (simp; omega) | (simp [World.setCell]; omega)) _ | refine Below.setCell ?_ (by first | omega | (simp; done) | (simp; omega)) _ | assumption)⟩

set_option maxRecDepth 100000 in
theorem made_no (a b : Int) (ht : smallB a b = false) (w : World) (h1 : -9223372036854775808 < a) (h2 : a ≤ 9223372036854775807) (h3 : 1 ≤ b) (h4 : b ≤ 9223372036854775807) :
    Calls Try.prog 126 #[.int .i64 a, .int .i64 b] w fun e w' => e = .returned (.tuple #[.agg #[.int .i64 0, .int .i64 0], .int .i64 8]) ∧ Below w.heap.size w w' := by
  have hE : fracErr (redN a b) (redD a b) ≠ 0 := fun h => by have := (small_err h3).2 h; rw [ht] at this; cases this
  obtain ⟨b1, b2, b3, b4⟩ := red_in h1 h2 h3 h4
  obtain ⟨X, hX⟩ : ∃ X, redN a b = X := ⟨_, rfl⟩
  obtain ⟨Y, hY⟩ : ∃ Y, redD a b = Y := ⟨_, rfl⟩
  rw [hX, hY] at hE
  rw [hX] at b1 b2
  rw [hY] at b3 b4
  obtain ⟨T, hT⟩ : ∃ T, fracErr X Y = T := ⟨_, rfl⟩
  rw [hT] at hE
  have e0 : (T != 0) = true := by simpa using hE
  have HX := Lib.hid hX
  have HY := Lib.hid hY
  have HT := Lib.hid hT
  clear hX hY hE ht hT
  go_enter Try.func126, Try.ntmps126
  go_wp2_with fail
  refine (lowest_red a b X Y HX.out HY.out _ h1 h2 h3 h4).mono ?_
  rintro e w1 ⟨rfl, hb⟩
  have HB1 := Lib.hid (show Below w.heap.size w w1 from step_below hb (by repeat' (first | exact Below.refl _ _ | exact HB0.out | refine below_drewN ?_ _ | refine Below.drew ?_ | refine Below.alloc ?_ (by first | omega | (simp; done) | (simp; omega) | (simp [World.setCell]; omega)) _ | refine Below.setCell ?_ (by first | omega | (simp; done) | (simp; omega)) _ | assumption)))
  have K0_1 := Lib.hid (step_blk hb (show Blk _ (w.heap.size) 23 #[.int .i64 (0), .int .i64 (0)] by repeat' (first | exact Blk.at_ _ (by first | rfl | (simp; done) | (simp; omega)) _ _ | refine Blk.drewN ?_ _ | refine Blk.drew ?_ | refine Blk.alloc ?_ _ | refine Blk.far ?_ (by first | omega | (simp; done) | (simp; omega)) _ | assumption)))
  have hz1 := hb.size
  try simp only [World.size_alloc, World.drewN, World.drew] at hz1
  clear hb
  have l0_1 : w.heap.size < w1.heap.size := K0_1.out.lt
  have z0_0_1 : w1.cell? ⟨w.heap.size, 0, none⟩ = some (.int .i64 (0)) := K0_1.out.cell 0
  have z0_1_1 : w1.cell? ⟨w.heap.size, 1, none⟩ = some (.int .i64 (0)) := K0_1.out.cell 1
  go_wp2_with fail
  refine (fracref_is _ _ T HT.out _ (by omega) b2 (by omega) b4).mono ?_
  rintro e w2 ⟨rfl, hb⟩
  have HB2 := Lib.hid (show Below w.heap.size w w2 from step_below hb (by repeat' (first | exact Below.refl _ _ | exact HB1.out | refine below_drewN ?_ _ | refine Below.drew ?_ | refine Below.alloc ?_ (by first | omega | (simp; done) | (simp; omega) | (simp [World.setCell]; omega)) _ | refine Below.setCell ?_ (by first | omega | (simp; done) | (simp; omega)) _ | assumption)))
  have K0_2 := Lib.hid (step_blk hb (show Blk _ (w.heap.size) 23 #[.int .i64 (0), .int .i64 (0)] by repeat' (first | exact K0_1.out | exact Blk.at_ _ (by first | rfl | (simp; done) | (simp; omega)) _ _ | refine Blk.drewN ?_ _ | refine Blk.drew ?_ | refine Blk.alloc ?_ _ | refine Blk.far ?_ (by first | omega | (simp; done) | (simp; omega)) _ | assumption)))
  have K1_2 := Lib.hid (step_blk hb (show Blk _ (w1.heap.size) 23 #[.int .i64 (X), .int .i64 (Y)] by repeat' (first | exact K0_1.out | exact Blk.at_ _ (by first | rfl | (simp; done) | (simp; omega)) _ _ | refine Blk.drewN ?_ _ | refine Blk.drew ?_ | refine Blk.alloc ?_ _ | refine Blk.far ?_ (by first | omega | (simp; done) | (simp; omega)) _ | assumption)))
  have hz2 := hb.size
  try simp only [World.size_alloc, World.drewN, World.drew] at hz2
  clear hb K0_1 z0_0_1 z0_1_1 l0_1
  have l0_2 : w.heap.size < w2.heap.size := K0_2.out.lt
  have z0_0_2 : w2.cell? ⟨w.heap.size, 0, none⟩ = some (.int .i64 (0)) := K0_2.out.cell 0
  have z0_1_2 : w2.cell? ⟨w.heap.size, 1, none⟩ = some (.int .i64 (0)) := K0_2.out.cell 1
  have l1_2 : w1.heap.size < w2.heap.size := K1_2.out.lt
  have z1_0_2 : w2.cell? ⟨w1.heap.size, 0, none⟩ = some (.int .i64 (X)) := K1_2.out.cell 0
  have z1_1_2 : w2.cell? ⟨w1.heap.size, 1, none⟩ = some (.int .i64 (Y)) := K1_2.out.cell 1
  have zf0_0 := K0_2.out.frozen 0
  have zf0_1 := K0_2.out.frozen 1
  go_wp2
  exact bodyPost_ret (v := .tuple #[.agg #[.int .i64 0, .int .i64 0], .int .i64 8]) (by simp [results, Try.results126, go_sem, z0_0_2, z0_1_2, z1_0_2, z1_1_2, l0_2, l1_2]) rfl ⟨rfl, by repeat' (first | exact Below.refl _ _ | exact HB2.out | refine below_drewN ?_ _ | refine Below.drew ?_ | refine Below.alloc ?_ (by first | omega | (simp; done) | (simp; omega) | (simp [World.setCell]; omega)) _ | refine Below.setCell ?_ (by first | omega | (simp; done) | (simp; omega)) _ | assumption)⟩

/-- What the reference's product answers. -/
def madeV (a b : Int) : Value := if smallB a b then .tuple #[.agg #[.int .i64 (redN a b), .int .i64 (redD a b)], .int .i64 0] else .tuple #[.agg #[.int .i64 0, .int .i64 0], .int .i64 8]

set_option maxRecDepth 100000 in
theorem mulref_ok (an ad bn bd : Int) (ht : smallB (an * bn) (ad * bd) = true) (w : World) (h1 : -9223372036854775808 < an * bn) (h2 : an * bn ≤ 9223372036854775807) (h3 : 1 ≤ ad * bd) (h4 : ad * bd ≤ 9223372036854775807) :
    Calls Try.prog 112 #[.agg #[.int .i64 an, .int .i64 ad], .agg #[.int .i64 bn, .int .i64 bd]] w fun e w' => e = .returned (.tuple #[.agg #[.int .i64 (redN (an * bn) (ad * bd)), .int .i64 (redD (an * bn) (ad * bd))], .int .i64 0]) ∧ Below w.heap.size w w' := by
  have v1 := IntWalk.i64_in (an * bn) ⟨by omega, by omega⟩
  have v2 := IntWalk.i64_in (ad * bd) ⟨by omega, by omega⟩
  have HT := Lib.hid ht
  clear ht
  go_enter Try.func112, Try.ntmps112
  go_wp2_with fail
  refine (made_ok (an * bn) (ad * bd) HT.out _ h1 h2 h3 h4).mono ?_
  rintro e w1 ⟨rfl, hb⟩
  have HB1 := Lib.hid (show Below w.heap.size w w1 from step_below hb (by repeat' (first | exact Below.refl _ _ | exact HB0.out | refine below_drewN ?_ _ | refine Below.drew ?_ | refine Below.alloc ?_ (by first | omega | (simp; done) | (simp; omega) | (simp [World.setCell]; omega)) _ | refine Below.setCell ?_ (by first | omega | (simp; done) | (simp; omega)) _ | assumption)))
  have K0_1 := Lib.hid (step_blk hb (show Blk _ (w.heap.size) 23 #[.int .i64 (an), .int .i64 (ad)] by repeat' (first | exact Blk.at_ _ (by first | rfl | (simp; done) | (simp; omega)) _ _ | refine Blk.drewN ?_ _ | refine Blk.drew ?_ | refine Blk.alloc ?_ _ | refine Blk.far ?_ (by first | omega | (simp; done) | (simp; omega)) _ | assumption)))
  have K1_1 := Lib.hid (step_blk hb (show Blk _ (w.heap.size + 1) 23 #[.int .i64 (bn), .int .i64 (bd)] by repeat' (first | exact Blk.at_ _ (by first | rfl | (simp; done) | (simp; omega)) _ _ | refine Blk.drewN ?_ _ | refine Blk.drew ?_ | refine Blk.alloc ?_ _ | refine Blk.far ?_ (by first | omega | (simp; done) | (simp; omega)) _ | assumption)))
  have K2_1 := Lib.hid (step_blk hb (show Blk _ (w.heap.size + 2) 23 #[.int .i64 (0), .int .i64 (0)] by repeat' (first | exact Blk.at_ _ (by first | rfl | (simp; done) | (simp; omega)) _ _ | refine Blk.drewN ?_ _ | refine Blk.drew ?_ | refine Blk.alloc ?_ _ | refine Blk.far ?_ (by first | omega | (simp; done) | (simp; omega)) _ | assumption)))
  have hz1 := hb.size
  try simp only [World.size_alloc, World.drewN, World.drew] at hz1
  clear hb
  have l0_1 : w.heap.size < w1.heap.size := K0_1.out.lt
  have z0_0_1 : w1.cell? ⟨w.heap.size, 0, none⟩ = some (.int .i64 (an)) := K0_1.out.cell 0
  have z0_1_1 : w1.cell? ⟨w.heap.size, 1, none⟩ = some (.int .i64 (ad)) := K0_1.out.cell 1
  have l1_1 : w.heap.size + 1 < w1.heap.size := K1_1.out.lt
  have z1_0_1 : w1.cell? ⟨w.heap.size + 1, 0, none⟩ = some (.int .i64 (bn)) := K1_1.out.cell 0
  have z1_1_1 : w1.cell? ⟨w.heap.size + 1, 1, none⟩ = some (.int .i64 (bd)) := K1_1.out.cell 1
  have l2_1 : w.heap.size + 2 < w1.heap.size := K2_1.out.lt
  have z2_0_1 : w1.cell? ⟨w.heap.size + 2, 0, none⟩ = some (.int .i64 (0)) := K2_1.out.cell 0
  have z2_1_1 : w1.cell? ⟨w.heap.size + 2, 1, none⟩ = some (.int .i64 (0)) := K2_1.out.cell 1
  have zf2_0 := K2_1.out.frozen 0
  have zf2_1 := K2_1.out.frozen 1
  go_wp2
  exact bodyPost_ret (v := .tuple #[.agg #[.int .i64 (redN (an * bn) (ad * bd)), .int .i64 (redD (an * bn) (ad * bd))], .int .i64 0]) (by simp [results, Try.results112, go_sem, z2_0_1, z2_1_1, l2_1]) rfl ⟨rfl, by repeat' (first | exact Below.refl _ _ | exact HB1.out | refine below_drewN ?_ _ | refine Below.drew ?_ | refine Below.alloc ?_ (by first | omega | (simp; done) | (simp; omega) | (simp [World.setCell]; omega)) _ | refine Below.setCell ?_ (by first | omega | (simp; done) | (simp; omega)) _ | assumption)⟩

set_option maxRecDepth 100000 in
theorem mulref_no (an ad bn bd : Int) (ht : smallB (an * bn) (ad * bd) = false) (w : World) (h1 : -9223372036854775808 < an * bn) (h2 : an * bn ≤ 9223372036854775807) (h3 : 1 ≤ ad * bd) (h4 : ad * bd ≤ 9223372036854775807) :
    Calls Try.prog 112 #[.agg #[.int .i64 an, .int .i64 ad], .agg #[.int .i64 bn, .int .i64 bd]] w fun e w' => e = .returned (.tuple #[.agg #[.int .i64 0, .int .i64 0], .int .i64 8]) ∧ Below w.heap.size w w' := by
  have v1 := IntWalk.i64_in (an * bn) ⟨by omega, by omega⟩
  have v2 := IntWalk.i64_in (ad * bd) ⟨by omega, by omega⟩
  have HT := Lib.hid ht
  clear ht
  go_enter Try.func112, Try.ntmps112
  go_wp2_with fail
  refine (made_no (an * bn) (ad * bd) HT.out _ h1 h2 h3 h4).mono ?_
  rintro e w1 ⟨rfl, hb⟩
  have HB1 := Lib.hid (show Below w.heap.size w w1 from step_below hb (by repeat' (first | exact Below.refl _ _ | exact HB0.out | refine below_drewN ?_ _ | refine Below.drew ?_ | refine Below.alloc ?_ (by first | omega | (simp; done) | (simp; omega) | (simp [World.setCell]; omega)) _ | refine Below.setCell ?_ (by first | omega | (simp; done) | (simp; omega)) _ | assumption)))
  have K0_1 := Lib.hid (step_blk hb (show Blk _ (w.heap.size) 23 #[.int .i64 (an), .int .i64 (ad)] by repeat' (first | exact Blk.at_ _ (by first | rfl | (simp; done) | (simp; omega)) _ _ | refine Blk.drewN ?_ _ | refine Blk.drew ?_ | refine Blk.alloc ?_ _ | refine Blk.far ?_ (by first | omega | (simp; done) | (simp; omega)) _ | assumption)))
  have K1_1 := Lib.hid (step_blk hb (show Blk _ (w.heap.size + 1) 23 #[.int .i64 (bn), .int .i64 (bd)] by repeat' (first | exact Blk.at_ _ (by first | rfl | (simp; done) | (simp; omega)) _ _ | refine Blk.drewN ?_ _ | refine Blk.drew ?_ | refine Blk.alloc ?_ _ | refine Blk.far ?_ (by first | omega | (simp; done) | (simp; omega)) _ | assumption)))
  have K2_1 := Lib.hid (step_blk hb (show Blk _ (w.heap.size + 2) 23 #[.int .i64 (0), .int .i64 (0)] by repeat' (first | exact Blk.at_ _ (by first | rfl | (simp; done) | (simp; omega)) _ _ | refine Blk.drewN ?_ _ | refine Blk.drew ?_ | refine Blk.alloc ?_ _ | refine Blk.far ?_ (by first | omega | (simp; done) | (simp; omega)) _ | assumption)))
  have hz1 := hb.size
  try simp only [World.size_alloc, World.drewN, World.drew] at hz1
  clear hb
  have l0_1 : w.heap.size < w1.heap.size := K0_1.out.lt
  have z0_0_1 : w1.cell? ⟨w.heap.size, 0, none⟩ = some (.int .i64 (an)) := K0_1.out.cell 0
  have z0_1_1 : w1.cell? ⟨w.heap.size, 1, none⟩ = some (.int .i64 (ad)) := K0_1.out.cell 1
  have l1_1 : w.heap.size + 1 < w1.heap.size := K1_1.out.lt
  have z1_0_1 : w1.cell? ⟨w.heap.size + 1, 0, none⟩ = some (.int .i64 (bn)) := K1_1.out.cell 0
  have z1_1_1 : w1.cell? ⟨w.heap.size + 1, 1, none⟩ = some (.int .i64 (bd)) := K1_1.out.cell 1
  have l2_1 : w.heap.size + 2 < w1.heap.size := K2_1.out.lt
  have z2_0_1 : w1.cell? ⟨w.heap.size + 2, 0, none⟩ = some (.int .i64 (0)) := K2_1.out.cell 0
  have z2_1_1 : w1.cell? ⟨w.heap.size + 2, 1, none⟩ = some (.int .i64 (0)) := K2_1.out.cell 1
  have zf2_0 := K2_1.out.frozen 0
  have zf2_1 := K2_1.out.frozen 1
  go_wp2
  exact bodyPost_ret (v := .tuple #[.agg #[.int .i64 0, .int .i64 0], .int .i64 8]) (by simp [results, Try.results112, go_sem, z2_0_1, z2_1_1, l2_1]) rfl ⟨rfl, by repeat' (first | exact Below.refl _ _ | exact HB1.out | refine below_drewN ?_ _ | refine Below.drew ?_ | refine Below.alloc ?_ (by first | omega | (simp; done) | (simp; omega) | (simp [World.setCell]; omega)) _ | refine Below.setCell ?_ (by first | omega | (simp; done) | (simp; omega)) _ | assumption)⟩

set_option maxRecDepth 100000 in
theorem of_any (d v : Int) (w : World) (h1 : 1 ≤ d) (h2 : d ≤ 9223372036854775807) (h3 : 1 ≤ v) (h4 : v ≤ 9223372036854775807) :
    Calls Try.prog 113 #[.agg #[.int .i64 d, .int .i64 v]] w fun e w' => e = .returned (.agg #[.int .i64 (redN d v), .int .i64 (redD d v)]) ∧ Below w.heap.size w w' := by
  go_enter Try.func113, Try.ntmps113
  go_wp2_with fail
  refine (lowest_red d v _ _ rfl rfl _ (by omega) h2 h3 h4).mono ?_
  rintro e w1 ⟨rfl, hb⟩
  have HB1 := Lib.hid (show Below w.heap.size w w1 from step_below hb (by repeat' (first | exact Below.refl _ _ | exact HB0.out | refine below_drewN ?_ _ | refine Below.drew ?_ | refine Below.alloc ?_ (by first | omega | (simp; done) | (simp; omega) | (simp [World.setCell]; omega)) _ | refine Below.setCell ?_ (by first | omega | (simp; done) | (simp; omega)) _ | assumption)))
  have K0_1 := Lib.hid (step_blk hb (show Blk _ (w.heap.size) 45 #[.int .i64 (d), .int .i64 (v)] by repeat' (first | exact Blk.at_ _ (by first | rfl | (simp; done) | (simp; omega)) _ _ | refine Blk.drewN ?_ _ | refine Blk.drew ?_ | refine Blk.alloc ?_ _ | refine Blk.far ?_ (by first | omega | (simp; done) | (simp; omega)) _ | assumption)))
  have K1_1 := Lib.hid (step_blk hb (show Blk _ (w.heap.size + 1) 23 #[.int .i64 (0), .int .i64 (0)] by repeat' (first | exact Blk.at_ _ (by first | rfl | (simp; done) | (simp; omega)) _ _ | refine Blk.drewN ?_ _ | refine Blk.drew ?_ | refine Blk.alloc ?_ _ | refine Blk.far ?_ (by first | omega | (simp; done) | (simp; omega)) _ | assumption)))
  have hz1 := hb.size
  try simp only [World.size_alloc, World.drewN, World.drew] at hz1
  clear hb
  have l0_1 : w.heap.size < w1.heap.size := K0_1.out.lt
  have z0_0_1 : w1.cell? ⟨w.heap.size, 0, none⟩ = some (.int .i64 (d)) := K0_1.out.cell 0
  have z0_1_1 : w1.cell? ⟨w.heap.size, 1, none⟩ = some (.int .i64 (v)) := K0_1.out.cell 1
  have l1_1 : w.heap.size + 1 < w1.heap.size := K1_1.out.lt
  have z1_0_1 : w1.cell? ⟨w.heap.size + 1, 0, none⟩ = some (.int .i64 (0)) := K1_1.out.cell 0
  have z1_1_1 : w1.cell? ⟨w.heap.size + 1, 1, none⟩ = some (.int .i64 (0)) := K1_1.out.cell 1
  have zf1_0 := K1_1.out.frozen 0
  have zf1_1 := K1_1.out.frozen 1
  go_wp2
  exact bodyPost_ret (v := .agg #[.int .i64 (redN d v), .int .i64 (redD d v)]) (by simp [results, Try.results113, go_sem, z1_0_1, z1_1_1, l1_1]) rfl ⟨rfl, by repeat' (first | exact Below.refl _ _ | exact HB1.out | refine below_drewN ?_ _ | refine Below.drew ?_ | refine Below.alloc ?_ (by first | omega | (simp; done) | (simp; omega) | (simp [World.setCell]; omega)) _ | refine Below.setCell ?_ (by first | omega | (simp; done) | (simp; omega)) _ | assumption)⟩

end Go.Proofs.Ytmioamcgbihhjaa

end
