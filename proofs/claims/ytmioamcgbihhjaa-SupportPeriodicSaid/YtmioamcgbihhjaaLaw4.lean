/- The walk of the statement on trains of gears. -/
import Derived.Test.YtmioamcgbihhjaaMeet
import Derived.Test.YtmioamcgbihhjaaCopy
import Derived.Test.YtmioamcgbihhjaaAwake
import Derived.Test.YtmioamcgbihhjaaArgs
namespace Go.Proofs.Ytmioamcgbihhjaa
open Go.RowKit

def shortB (n : Nat) : Bool := decide (n ≤ 5) || (decide (12 < n) && decide (n ≤ 15))
theorem short_any (A : Option Addr) (n c : Nat) (w : World) (hn : n ≤ 9223372036854775807) :
    Calls Try.prog 21 #[.slice A n c] w fun e w' => e = .returned (.bool (shortB n)) ∧ w = w' := by
  by_cases h1 : (n : Int) ≤ 5
  · have h : shortB n = true := by unfold shortB; simp; omega
    rw [h]
    go_enter Try.func21, Try.ntmps21
    go_wp2
    go_ret
    exact ⟨rfl, rfl⟩
  · by_cases h2 : 12 < (n : Int)
    · by_cases h3 : (n : Int) ≤ 15
      · have h : shortB n = true := by unfold shortB; simp; omega
        rw [h]
        go_enter Try.func21, Try.ntmps21
        go_wp2
        go_ret
        exact ⟨rfl, rfl⟩
      · have h : shortB n = false := by unfold shortB; simp; omega
        rw [h]
        go_enter Try.func21, Try.ntmps21
        go_wp2
        go_ret
        exact ⟨rfl, rfl⟩
    · have h : shortB n = false := by unfold shortB; simp; omega
      rw [h]
      go_enter Try.func21, Try.ntmps21
      go_wp2
      go_ret
      exact ⟨rfl, rfl⟩
theorem short_is (A : Option Addr) (n c : Nat) (t : Bool) (h : shortB n = t) (w : World) (hn : n ≤ 9223372036854775807) :
    Calls Try.prog 21 #[.slice A n c] w fun e w' => e = .returned (.bool t) ∧ w = w' := h ▸ short_any A n c w hn

theorem retF_dvd : ∀ (L : List (Int × Int)) (n : Int) (s : Int × Int) (t : Int), retF n L = (t, 0) → L ≠ [] → (lastF L s).2 ∣ t
  | [f], n, s, t, h, _ => by
    rw [retF_step] at h
    split at h
    · cases h
    · cases h
      exact Int.dvd_mul_left _ _
  | f :: g :: L, n, s, t, h, _ => by
    rw [retF_step] at h
    split at h
    · cases h
    · exact retF_dvd (g :: L) _ f t h (by simp)
  | [], _, _, _, _, h => absurd rfl h

/-- Behind the turns the last axis has made whole turns. -/
theorem whole_turns {l : List (Int × Int)} (h0 : trainErr l = 0) {x y e t : Int} (hr : ratioF l = ((x, y), e)) (ht : returnsF l = (t, 0)) : t.tmod y = 0 ∧ 1 ≤ y ∧ y ≤ 1000000000 ∧ 1 ≤ t := by
  obtain ⟨hlen, hok⟩ := trainErr_ok h0
  rw [returnsF_eq h0] at ht
  unfold ratioF at hr
  rw [if_neg (show ¬ trainErr l ≠ 0 by rw [h0]; simp)] at hr
  cases hB : (begF (1, 1) l).2 with
  | false => rw [if_pos hB] at ht; cases ht
  | true =>
    rw [if_neg (by rw [hB]; simp)] at hr ht
    have hl := begF_len l (1, 1) hB
    have hne : (begF (1, 1) l).1 ≠ [] := fun h => by rw [h] at hl; cases hl
    have hp := begF_part l (1, 1) hok ⟨by decide, by decide⟩ ⟨by decide, by decide⟩
    have hd := retF_dvd _ 1 (0, 0) t ht hne
    have hm := hp _ (List.mem_of_getElem? (last_get _ (0, 0) _ hl))
    have e2 := congrArg (fun q => q.1.2) hr
    simp only at e2
    rw [e2] at hd hm
    refine ⟨Int.tmod_eq_zero_of_dvd hd, hm.2.1, hm.2.2, ?_⟩
    have hf := retF_fold (begF (1, 1) l).1 1
    have hpos : ∀ (L : List (Int × Int)) (n : Int), 1 ≤ n → (∀ x ∈ L, Part x.1 ∧ Part x.2) → ∀ t, retF n L = (t, 0) → 1 ≤ t := by
      intro L
      induction L with
      | nil => intro n hn _ t h; cases h; exact hn
      | cons f L ih =>
        intro n hn hL t h
        rw [retF_step] at h
        split at h
        · cases h
        · refine ih _ ?_ (fun x hx => hL x (by simp [hx])) t h
          have h2 := (hL f (by simp)).2
          have hg : 0 < Int.gcd n f.2 := Int.gcd_pos_of_ne_zero_left _ (by omega)
          have p1 : 0 < n / (Int.gcd n f.2 : Int) := Int.ediv_pos_of_pos_of_dvd (by omega) (by omega) (Int.gcd_dvd_left n f.2)
          exact Int.mul_pos p1 (by have := h2.1; omega)
    exact hpos _ 1 (by omega) hp t ht

theorem Reads.one {w : World} {B b o : Nat} {p : Int × Int} (hb : b < B) (c0 : w.cell? ⟨b, o, none⟩ = some (.int .i64 p.1)) (c1 : w.cell? ⟨b, o + 1, none⟩ = some (.int .i64 p.2)) : Reads w B 2 (some ⟨b, o, none⟩) 1 (cells2 [p]) := by
  refine ⟨rfl, fun _ => ⟨b, o, rfl, hb, fun j u hu => ?_⟩⟩
  match j with
  | 0 => simp [cells2] at hu; subst hu; exact c0
  | 1 => simp [cells2] at hu; subst hu; exact c1
  | j + 2 => simp [cells2] at hu
theorem ratioF_bad {l : List (Int × Int)} (h : trainErr l ≠ 0) : ratioF l = ((0, 0), trainErr l) := by unfold ratioF; rw [if_pos h]
theorem returnsF_bad {l : List (Int × Int)} (h : trainErr l ≠ 0) : returnsF l = (0, trainErr l) := by unfold returnsF; rw [if_pos h]

theorem returns_is (A : Option Addr) (n c N : Nat) (l : List (Int × Int)) (t g : Int) (h : returnsF l = (t, g)) (w : World) (hx : Reads w N 2 A n (cells2 l)) (hN : N ≤ w.heap.size) (hn : n ≤ 9223372036854775807) :
    Calls Try.prog 24 #[.slice A n c] w fun e w' => e = .returned (.tuple #[.int .i64 t, .int .i64 g]) ∧ Below w.heap.size w w' :=
  (returns_any A n c N l w hx hN hn).mono fun e w' ⟨he, hb⟩ => ⟨by rw [he, h], hb⟩

set_option maxRecDepth 100000 in
set_option maxHeartbeats 4000000 in
theorem law4_any (A : Option Addr) (n c : Nat) (l : List (Int × Int)) (w : World) (hnc : n ≤ c ∧ c ≤ 9223372036854775807) (hl : l.length = n) (_ : ∀ p ∈ l, I64 p.1 ∧ I64 p.2) (hx : Reads w w.heap.size 2 A n (cells2 l)) :
    Calls Try.prog 4 #[.slice A n c] w fun e w' => e = .returned (.bool true) ∧ Below w.heap.size w w' := by
  obtain ⟨hnc1, hnc2⟩ := hnc
  have hn : n ≤ 9223372036854775807 := by omega
  have HX := Lib.hid hx
  have HL := Lib.hid hl
  clear hx hl
  cases hs : shortB n with
  | false =>
    have HS := Lib.hid hs
    clear hs
    go_enter Try.func4, Try.ntmps4
    go_wp2_with fail
    refine (awake_any _).mono ?_
    rintro e w1 ⟨rfl, hb⟩
    have HB1 := Lib.hid (show Below w.heap.size w w1 from step_below hb (by repeat' (first | exact Below.refl _ _ | exact HB0.out | assumption | refine below_drewN ?_ _ | refine Below.drew ?_ | refine Below.alloc ?_ (by first | omega | (simp; done) | (simp; omega) | (simp [World.setCell]; omega)) _ | refine Below.setCell ?_ (by first | omega | (simp; done) | (simp; omega)) _)))
    have hz1 := hb.size
    try simp only [World.size_alloc, World.drewN, World.drew] at hz1
    clear hb
    go_wp2_with (go_at_call 21; refine (short_is _ _ _ _ HS.out _ hn).mono ?_; rintro e w' ⟨rfl, rfl⟩)
    go_ret
    exact ⟨rfl, by repeat' (first | exact Below.refl _ _ | exact HB1.out | assumption | refine below_drewN ?_ _ | refine Below.drew ?_ | refine Below.alloc ?_ (by first | omega | (simp; done) | (simp; omega) | (simp [World.setCell]; omega)) _ | refine Below.setCell ?_ (by first | omega | (simp; done) | (simp; omega)) _)⟩
  | true =>
    have hn15 : n ≤ 15 := by unfold shortB at hs; simp at hs; omega
    obtain ⟨E, hE⟩ : ∃ E, trainErr l = E := ⟨_, rfl⟩
    obtain ⟨R, hR⟩ : ∃ R, ratioF l = R := ⟨_, rfl⟩
    obtain ⟨⟨x, y⟩, e⟩ := R
    obtain ⟨T, hT⟩ : ∃ T, returnsF l = T := ⟨_, rfl⟩
    obtain ⟨t, g⟩ := T
    have HS := Lib.hid hs
    have HE := Lib.hid hE
    have HR := Lib.hid hR
    have HT := Lib.hid hT
    clear hs hE hR hT
    go_enter Try.func4, Try.ntmps4
    go_wp2_with fail
    refine (awake_any _).mono ?_
    rintro e w1 ⟨rfl, hb⟩
    have HB1 := Lib.hid (show Below w.heap.size w w1 from step_below hb (by repeat' (first | exact Below.refl _ _ | exact HB0.out | assumption | refine below_drewN ?_ _ | refine Below.drew ?_ | refine Below.alloc ?_ (by first | omega | (simp; done) | (simp; omega) | (simp [World.setCell]; omega)) _ | refine Below.setCell ?_ (by first | omega | (simp; done) | (simp; omega)) _)))
    have hz1 := hb.size
    try simp only [World.size_alloc, World.drewN, World.drew] at hz1
    clear hb
    go_wp2_with fail
    refine (short_is _ _ _ _ HS.out _ hn).mono ?_
    rintro en w' ⟨rfl, rfl⟩
    go_wp2_with fail
    refine (copytrain_any A n c w.heap.size l _ (HX.out.belowLe HB1.out (Nat.le_refl _)) HB1.out.size (by omega)).mono ?_
    rintro en w2 ⟨A2, c2, rfl, hb2, hr2, -⟩
    have HR2 := Lib.hid hr2
    clear hr2
    have HB2 := Lib.hid (show Below w.heap.size w w2 from step_below hb2 (by repeat' (first | exact Below.refl _ _ | exact HB1.out | assumption | refine below_drewN ?_ _ | refine Below.drew ?_ | refine Below.alloc ?_ (by first | omega | (simp; done) | (simp; omega) | (simp [World.setCell]; omega)) _ | refine Below.setCell ?_ (by first | omega | (simp; done) | (simp; omega)) _)))
    have hz2 := hb2.size
    try simp only [World.size_alloc, World.drewN, World.drew] at hz2
    clear hb2
    go_wp2_with fail
    refine (ratio_is A2 n c2 _ l x y e HR.out _ HR2.out (Nat.le_refl _) hn).mono ?_
    rintro e w3 ⟨rfl, hb⟩
    have HB3 := Lib.hid (show Below w.heap.size w w3 from step_below hb (by repeat' (first | exact Below.refl _ _ | exact HB2.out | assumption | refine below_drewN ?_ _ | refine Below.drew ?_ | refine Below.alloc ?_ (by first | omega | (simp; done) | (simp; omega) | (simp [World.setCell]; omega)) _ | refine Below.setCell ?_ (by first | omega | (simp; done) | (simp; omega)) _)))
    have hz3 := hb.size
    try simp only [World.size_alloc, World.drewN, World.drew] at hz3
    clear hb
    go_wp2_with fail
    refine (copytrain_any A n c w.heap.size l _ (HX.out.belowLe (HB3.out.alloc HB3.out.size _) (Nat.le_refl _)) (HB3.out.alloc HB3.out.size _).size (by omega)).mono ?_
    rintro en w4 ⟨A4, c4, rfl, hb4, hr4, -⟩
    have HR4 := Lib.hid hr4
    clear hr4
    have HB4 := Lib.hid (show Below w.heap.size w w4 from step_below hb4 (by repeat' (first | exact Below.refl _ _ | exact HB3.out | assumption | refine below_drewN ?_ _ | refine Below.drew ?_ | refine Below.alloc ?_ (by first | omega | (simp; done) | (simp; omega) | (simp [World.setCell]; omega)) _ | refine Below.setCell ?_ (by first | omega | (simp; done) | (simp; omega)) _)))
    have K0_4 := Lib.hid (step_blk hb4 (show Blk _ (w3.heap.size) 23 #[.int .i64 (x), .int .i64 (y)] by repeat' (first | assumption | exact Blk.at_ _ (by first | rfl | (simp; done) | (simp; omega)) _ _ | refine Blk.drewN ?_ _ | refine Blk.drew ?_ | refine Blk.alloc ?_ _ | refine Blk.far ?_ (by first | omega | (simp; done) | (simp; omega)) _)))
    have hz4 := hb4.size
    try simp only [World.size_alloc, World.drewN, World.drew] at hz4
    clear hb4
    have l0_4 : w3.heap.size < w4.heap.size := K0_4.out.lt
    have z0_0_4 : w4.cell? ⟨w3.heap.size, 0, none⟩ = some (.int .i64 (x)) := K0_4.out.cell 0
    have z0_1_4 : w4.cell? ⟨w3.heap.size, 1, none⟩ = some (.int .i64 (y)) := K0_4.out.cell 1
    go_wp2_with fail
    refine (returns_is A4 n c4 _ l t g HT.out _ HR4.out (Nat.le_refl _) hn).mono ?_
    rintro e w5 ⟨rfl, hb⟩
    have HB5 := Lib.hid (show Below w.heap.size w w5 from step_below hb (by repeat' (first | exact Below.refl _ _ | exact HB4.out | assumption | refine below_drewN ?_ _ | refine Below.drew ?_ | refine Below.alloc ?_ (by first | omega | (simp; done) | (simp; omega) | (simp [World.setCell]; omega)) _ | refine Below.setCell ?_ (by first | omega | (simp; done) | (simp; omega)) _)))
    have K0_5 := Lib.hid (step_blk hb (show Blk _ (w3.heap.size) 23 #[.int .i64 (x), .int .i64 (y)] by repeat' (first | assumption | exact K0_4.out | exact Blk.at_ _ (by first | rfl | (simp; done) | (simp; omega)) _ _ | refine Blk.drewN ?_ _ | refine Blk.drew ?_ | refine Blk.alloc ?_ _ | refine Blk.far ?_ (by first | omega | (simp; done) | (simp; omega)) _)))
    have hz5 := hb.size
    try simp only [World.size_alloc, World.drewN, World.drew] at hz5
    clear hb K0_4 z0_0_4 z0_1_4 l0_4
    have l0_5 : w3.heap.size < w5.heap.size := K0_5.out.lt
    have z0_0_5 : w5.cell? ⟨w3.heap.size, 0, none⟩ = some (.int .i64 (x)) := K0_5.out.cell 0
    have z0_1_5 : w5.cell? ⟨w3.heap.size, 1, none⟩ = some (.int .i64 (y)) := K0_5.out.cell 1
    go_wp2_with fail
    refine (rchecktrain_is A n c _ l E HE.out _ (HX.out.belowLe HB5.out (Nat.le_refl _)) HB5.out.size hn).mono ?_
    rintro e w6 ⟨rfl, hb⟩
    have HB6 := Lib.hid (show Below w.heap.size w w6 from step_below hb (by repeat' (first | exact Below.refl _ _ | exact HB5.out | assumption | refine below_drewN ?_ _ | refine Below.drew ?_ | refine Below.alloc ?_ (by first | omega | (simp; done) | (simp; omega) | (simp [World.setCell]; omega)) _ | refine Below.setCell ?_ (by first | omega | (simp; done) | (simp; omega)) _)))
    have K0_6 := Lib.hid (step_blk hb (show Blk _ (w3.heap.size) 23 #[.int .i64 (x), .int .i64 (y)] by repeat' (first | assumption | exact K0_5.out | exact Blk.at_ _ (by first | rfl | (simp; done) | (simp; omega)) _ _ | refine Blk.drewN ?_ _ | refine Blk.drew ?_ | refine Blk.alloc ?_ _ | refine Blk.far ?_ (by first | omega | (simp; done) | (simp; omega)) _)))
    have hz6 := hb.size
    try simp only [World.size_alloc, World.drewN, World.drew] at hz6
    clear hb K0_5 z0_0_5 z0_1_5 l0_5
    have l0_6 : w3.heap.size < w6.heap.size := K0_6.out.lt
    have z0_0_6 : w6.cell? ⟨w3.heap.size, 0, none⟩ = some (.int .i64 (x)) := K0_6.out.cell 0
    have z0_1_6 : w6.cell? ⟨w3.heap.size, 1, none⟩ = some (.int .i64 (y)) := K0_6.out.cell 1
    go_wp2_with fail
    refine (copytrain_any A n c w.heap.size l _ (HX.out.belowLe HB6.out (Nat.le_refl _)) HB6.out.size (by omega)).mono ?_
    rintro en w7 ⟨A7, c7, rfl, hb7, hr7, -⟩
    have HR7 := Lib.hid hr7
    clear hr7
    have HB7 := Lib.hid (show Below w.heap.size w w7 from step_below hb7 (by repeat' (first | exact Below.refl _ _ | exact HB6.out | assumption | refine below_drewN ?_ _ | refine Below.drew ?_ | refine Below.alloc ?_ (by first | omega | (simp; done) | (simp; omega) | (simp [World.setCell]; omega)) _ | refine Below.setCell ?_ (by first | omega | (simp; done) | (simp; omega)) _)))
    have K0_7 := Lib.hid (step_blk hb7 (show Blk _ (w3.heap.size) 23 #[.int .i64 (x), .int .i64 (y)] by repeat' (first | assumption | exact K0_6.out | exact Blk.at_ _ (by first | rfl | (simp; done) | (simp; omega)) _ _ | refine Blk.drewN ?_ _ | refine Blk.drew ?_ | refine Blk.alloc ?_ _ | refine Blk.far ?_ (by first | omega | (simp; done) | (simp; omega)) _)))
    have hz7 := hb7.size
    try simp only [World.size_alloc, World.drewN, World.drew] at hz7
    clear hb7 K0_6 z0_0_6 z0_1_6 l0_6
    have l0_7 : w3.heap.size < w7.heap.size := K0_7.out.lt
    have z0_0_7 : w7.cell? ⟨w3.heap.size, 0, none⟩ = some (.int .i64 (x)) := K0_7.out.cell 0
    have z0_1_7 : w7.cell? ⟨w3.heap.size, 1, none⟩ = some (.int .i64 (y)) := K0_7.out.cell 1
    go_wp2_with fail
    refine (checktrain_is A7 n c7 _ l E HE.out _ HR7.out (Nat.le_refl _) hn).mono ?_
    rintro e w8 ⟨rfl, hb⟩
    have HB8 := Lib.hid (show Below w.heap.size w w8 from step_below hb (by repeat' (first | exact Below.refl _ _ | exact HB7.out | assumption | refine below_drewN ?_ _ | refine Below.drew ?_ | refine Below.alloc ?_ (by first | omega | (simp; done) | (simp; omega) | (simp [World.setCell]; omega)) _ | refine Below.setCell ?_ (by first | omega | (simp; done) | (simp; omega)) _)))
    have K0_8 := Lib.hid (step_blk hb (show Blk _ (w3.heap.size) 23 #[.int .i64 (x), .int .i64 (y)] by repeat' (first | assumption | exact K0_7.out | exact Blk.at_ _ (by first | rfl | (simp; done) | (simp; omega)) _ _ | refine Blk.drewN ?_ _ | refine Blk.drew ?_ | refine Blk.alloc ?_ _ | refine Blk.far ?_ (by first | omega | (simp; done) | (simp; omega)) _)))
    have hz8 := hb.size
    try simp only [World.size_alloc, World.drewN, World.drew] at hz8
    clear hb K0_7 z0_0_7 z0_1_7 l0_7
    have l0_8 : w3.heap.size < w8.heap.size := K0_8.out.lt
    have z0_0_8 : w8.cell? ⟨w3.heap.size, 0, none⟩ = some (.int .i64 (x)) := K0_8.out.cell 0
    have z0_1_8 : w8.cell? ⟨w3.heap.size, 1, none⟩ = some (.int .i64 (y)) := K0_8.out.cell 1
    go_wp2
    have hz : w.heap.size ≤ w3.heap.size := HB3.out.size
    go_loopw [8] (fun i wr => ∃ k : Nat, k ≤ n ∧ i = .int .i64 k ∧ Below w.heap.size w wr ∧ Blk wr w3.heap.size 23 #[.int .i64 x, .int .i64 y]) (fun i _ => n - (intOf i).toNat)
    case atStart => exact ⟨0, by omega, rfl, HB8.out, K0_8.out⟩
    case round =>
      obtain ⟨k, hk, rfl, hb, hk0⟩ := hrel
      have HB10 := Lib.hid hb
      have K0_10 := Lib.hid (show Blk wr (w3.heap.size) 23 #[.int .i64 (x), .int .i64 (y)] from hk0)
      clear hb hk0
      have l0_10 : w3.heap.size < wr.heap.size := K0_10.out.lt
      have z0_0_10 : wr.cell? ⟨w3.heap.size, 0, none⟩ = some (.int .i64 (x)) := K0_10.out.cell 0
      have z0_1_10 : wr.cell? ⟨w3.heap.size, 1, none⟩ = some (.int .i64 (y)) := K0_10.out.cell 1
      by_cases hlt : k < n ∧ k < 3
      · obtain ⟨hlt1, hlt2⟩ := hlt
        obtain ⟨xb, xo, p, rfl, hxb, hp, b0, b1⟩ := HX.out.pair hlt1
        have HC : Hid (∀ w', Below w.heap.size w w' → w'.cell? ⟨xb, xo + k * 2, none⟩ = some (.int .i64 p.1) ∧ w'.cell? ⟨xb, xo + k * 2 + 1, none⟩ = some (.int .i64 p.2)) :=
          fun w' hb => ⟨(hb.cell (p := ⟨xb, xo + k * 2, none⟩) hxb).trans b0, (hb.cell (p := ⟨xb, xo + k * 2 + 1, none⟩) hxb).trans b1⟩
        clear b0 b1
        have v1 : IntKind.i64.wrap (k : Int) = (k : Int) := IntWalk.i64_in (k : Int) ⟨by omega, by omega⟩
        have v2 : IntKind.i64.wrap ((k : Int) + 1) = (k : Int) + 1 := IntWalk.i64_in _ ⟨by omega, by omega⟩
        have v3 : (0 : Int) ≤ (k : Int) := by omega
        have v4 : (k : Int) < (n : Int) := by omega
        have v5 : (k : Int) + 1 ≤ (c : Int) := by omega
        have v6 : (k : Int) < 3 := by omega
        have v7 : ¬ c = k := by omega
        cases hok : okP p with
        | true =>
          obtain ⟨p1, p2, p3, p4⟩ := okP_part hok
          have HE1 : Hid (trainErr [p] = 0) := by show _ = _; rw [trainErr_one, hok]; rfl
          have HOK := Lib.hid hok
          clear hok hp
          obtain ⟨c0, c1⟩ := HC.out _ HB10.out
          go_wp2_with fail
          refine (meet_ok p.1 p.2 _ HOK.out).mono ?_
          rintro e w11 ⟨rfl, hb⟩
          have HB11 := Lib.hid (show Below w.heap.size w w11 from step_below hb (by repeat' (first | exact Below.refl _ _ | exact HB10.out | assumption | refine below_drewN ?_ _ | refine Below.drew ?_ | refine Below.alloc ?_ (by first | omega | (simp; done) | (simp; omega) | (simp [World.setCell]; omega)) _ | refine Below.setCell ?_ (by first | omega | (simp; done) | (simp; omega)) _)))
          have K0_11 := Lib.hid (step_blk hb (show Blk _ (w3.heap.size) 23 #[.int .i64 (x), .int .i64 (y)] by repeat' (first | assumption | exact K0_10.out | exact Blk.at_ _ (by first | rfl | (simp; done) | (simp; omega)) _ _ | refine Blk.drewN ?_ _ | refine Blk.drew ?_ | refine Blk.alloc ?_ _ | refine Blk.far ?_ (by first | omega | (simp; done) | (simp; omega)) _)))
          have hz11 := hb.size
          try simp only [World.size_alloc, World.drewN, World.drew] at hz11
          clear hb K0_10 z0_0_10 z0_1_10 l0_10
          have l0_11 : w3.heap.size < w11.heap.size := K0_11.out.lt
          have z0_0_11 : w11.cell? ⟨w3.heap.size, 0, none⟩ = some (.int .i64 (x)) := K0_11.out.cell 0
          have z0_1_11 : w11.cell? ⟨w3.heap.size, 1, none⟩ = some (.int .i64 (y)) := K0_11.out.cell 1
          clear c0 c1
          go_wp2_with fail
          refine (rchecktrain_is _ 1 _ w.heap.size [p] 0 HE1.out _ (Reads.one hxb (HC.out _ HB11.out).1 (HC.out _ HB11.out).2) HB11.out.size (by omega)).mono ?_
          rintro e w12 ⟨rfl, hb⟩
          have HB12 := Lib.hid (show Below w.heap.size w w12 from step_below hb (by repeat' (first | exact Below.refl _ _ | exact HB11.out | assumption | refine below_drewN ?_ _ | refine Below.drew ?_ | refine Below.alloc ?_ (by first | omega | (simp; done) | (simp; omega) | (simp [World.setCell]; omega)) _ | refine Below.setCell ?_ (by first | omega | (simp; done) | (simp; omega)) _)))
          have K0_12 := Lib.hid (step_blk hb (show Blk _ (w3.heap.size) 23 #[.int .i64 (x), .int .i64 (y)] by repeat' (first | assumption | exact K0_11.out | exact Blk.at_ _ (by first | rfl | (simp; done) | (simp; omega)) _ _ | refine Blk.drewN ?_ _ | refine Blk.drew ?_ | refine Blk.alloc ?_ _ | refine Blk.far ?_ (by first | omega | (simp; done) | (simp; omega)) _)))
          have hz12 := hb.size
          try simp only [World.size_alloc, World.drewN, World.drew] at hz12
          clear hb K0_11 z0_0_11 z0_1_11 l0_11
          have l0_12 : w3.heap.size < w12.heap.size := K0_12.out.lt
          have z0_0_12 : w12.cell? ⟨w3.heap.size, 0, none⟩ = some (.int .i64 (x)) := K0_12.out.cell 0
          have z0_1_12 : w12.cell? ⟨w3.heap.size, 1, none⟩ = some (.int .i64 (y)) := K0_12.out.cell 1
          obtain ⟨c0, c1⟩ := HC.out _ HB12.out
          go_wp2_with fail
          refine (rmeet_any p.1 p.2 _ p1 p2 p3 p4).mono ?_
          rintro e w13 ⟨rfl, hb⟩
          have HB13 := Lib.hid (show Below w.heap.size w w13 from step_below hb (by repeat' (first | exact Below.refl _ _ | exact HB12.out | assumption | refine below_drewN ?_ _ | refine Below.drew ?_ | refine Below.alloc ?_ (by first | omega | (simp; done) | (simp; omega) | (simp [World.setCell]; omega)) _ | refine Below.setCell ?_ (by first | omega | (simp; done) | (simp; omega)) _)))
          have K0_13 := Lib.hid (step_blk hb (show Blk _ (w3.heap.size) 23 #[.int .i64 (x), .int .i64 (y)] by repeat' (first | assumption | exact K0_12.out | exact Blk.at_ _ (by first | rfl | (simp; done) | (simp; omega)) _ _ | refine Blk.drewN ?_ _ | refine Blk.drew ?_ | refine Blk.alloc ?_ _ | refine Blk.far ?_ (by first | omega | (simp; done) | (simp; omega)) _)))
          have hz13 := hb.size
          try simp only [World.size_alloc, World.drewN, World.drew] at hz13
          clear hb K0_12 z0_0_12 z0_1_12 l0_12
          have l0_13 : w3.heap.size < w13.heap.size := K0_13.out.lt
          have z0_0_13 : w13.cell? ⟨w3.heap.size, 0, none⟩ = some (.int .i64 (x)) := K0_13.out.cell 0
          have z0_1_13 : w13.cell? ⟨w3.heap.size, 1, none⟩ = some (.int .i64 (y)) := K0_13.out.cell 1
          clear c0 c1
          go_wp2
          go_roundw
          case rel => exact ⟨k + 1, by omega, by go_num, HB13.out, K0_13.out⟩
          case measure => simp [intOf]; omega
        | false =>
          have HE1 : Hid (trainErr [p] = 2) := by show _ = _; rw [trainErr_one, hok]; rfl
          have HOK := Lib.hid hok
          clear hok hp
          obtain ⟨c0, c1⟩ := HC.out _ HB10.out
          go_wp2_with fail
          refine (meet_no p.1 p.2 _ HOK.out).mono ?_
          rintro e w11 ⟨rfl, hb⟩
          have HB11 := Lib.hid (show Below w.heap.size w w11 from step_below hb (by repeat' (first | exact Below.refl _ _ | exact HB10.out | assumption | refine below_drewN ?_ _ | refine Below.drew ?_ | refine Below.alloc ?_ (by first | omega | (simp; done) | (simp; omega) | (simp [World.setCell]; omega)) _ | refine Below.setCell ?_ (by first | omega | (simp; done) | (simp; omega)) _)))
          have K0_11 := Lib.hid (step_blk hb (show Blk _ (w3.heap.size) 23 #[.int .i64 (x), .int .i64 (y)] by repeat' (first | assumption | exact K0_10.out | exact Blk.at_ _ (by first | rfl | (simp; done) | (simp; omega)) _ _ | refine Blk.drewN ?_ _ | refine Blk.drew ?_ | refine Blk.alloc ?_ _ | refine Blk.far ?_ (by first | omega | (simp; done) | (simp; omega)) _)))
          have hz11 := hb.size
          try simp only [World.size_alloc, World.drewN, World.drew] at hz11
          clear hb K0_10 z0_0_10 z0_1_10 l0_10
          have l0_11 : w3.heap.size < w11.heap.size := K0_11.out.lt
          have z0_0_11 : w11.cell? ⟨w3.heap.size, 0, none⟩ = some (.int .i64 (x)) := K0_11.out.cell 0
          have z0_1_11 : w11.cell? ⟨w3.heap.size, 1, none⟩ = some (.int .i64 (y)) := K0_11.out.cell 1
          clear c0 c1
          go_wp2_with fail
          refine (rchecktrain_is _ 1 _ w.heap.size [p] 2 HE1.out _ (Reads.one hxb (HC.out _ HB11.out).1 (HC.out _ HB11.out).2) HB11.out.size (by omega)).mono ?_
          rintro e w12 ⟨rfl, hb⟩
          have HB12 := Lib.hid (show Below w.heap.size w w12 from step_below hb (by repeat' (first | exact Below.refl _ _ | exact HB11.out | assumption | refine below_drewN ?_ _ | refine Below.drew ?_ | refine Below.alloc ?_ (by first | omega | (simp; done) | (simp; omega) | (simp [World.setCell]; omega)) _ | refine Below.setCell ?_ (by first | omega | (simp; done) | (simp; omega)) _)))
          have K0_12 := Lib.hid (step_blk hb (show Blk _ (w3.heap.size) 23 #[.int .i64 (x), .int .i64 (y)] by repeat' (first | assumption | exact K0_11.out | exact Blk.at_ _ (by first | rfl | (simp; done) | (simp; omega)) _ _ | refine Blk.drewN ?_ _ | refine Blk.drew ?_ | refine Blk.alloc ?_ _ | refine Blk.far ?_ (by first | omega | (simp; done) | (simp; omega)) _)))
          have hz12 := hb.size
          try simp only [World.size_alloc, World.drewN, World.drew] at hz12
          clear hb K0_11 z0_0_11 z0_1_11 l0_11
          have l0_12 : w3.heap.size < w12.heap.size := K0_12.out.lt
          have z0_0_12 : w12.cell? ⟨w3.heap.size, 0, none⟩ = some (.int .i64 (x)) := K0_12.out.cell 0
          have z0_1_12 : w12.cell? ⟨w3.heap.size, 1, none⟩ = some (.int .i64 (y)) := K0_12.out.cell 1
          go_wp2
          go_roundw
          case rel => exact ⟨k + 1, by omega, by go_num, HB12.out, K0_12.out⟩
          case measure => simp [intOf]; omega
      · have hcs : ¬ (k : Int) < n ∨ ((k : Int) < n ∧ ¬ (k : Int) < 3) := by omega
        have HCS := Lib.hid hcs
        clear hcs hlt
        by_cases h0 : E = 0
        · subst h0
          have hwt : g = 0 → t.tmod y = 0 ∧ 1 ≤ y ∧ y ≤ 1000000000 ∧ 1 ≤ t := fun hg => whole_turns HE.out HR.out (hg ▸ HT.out)
          have HWT := Lib.hid hwt
          have HRR := Lib.hid (rratio_any A n c w.heap.size l HE.out x y e HR.out)
          have HRT := Lib.hid (rreturns_any A n c w.heap.size l HE.out t g HT.out)
          clear hwt
          rcases HCS.out with h | ⟨h, h'⟩
          all_goals
            go_wp2_with fail
            refine (HRR.out _ (HX.out.belowLe HB10.out (Nat.le_refl _)) HB10.out.size).mono ?_
            rintro e w11 ⟨rfl, hb⟩
            have HB11 := Lib.hid (show Below w.heap.size w w11 from step_below hb (by repeat' (first | exact Below.refl _ _ | exact HB10.out | assumption | refine below_drewN ?_ _ | refine Below.drew ?_ | refine Below.alloc ?_ (by first | omega | (simp; done) | (simp; omega) | (simp [World.setCell]; omega)) _ | refine Below.setCell ?_ (by first | omega | (simp; done) | (simp; omega)) _)))
            have K0_11 := Lib.hid (step_blk hb (show Blk _ (w3.heap.size) 23 #[.int .i64 (x), .int .i64 (y)] by repeat' (first | assumption | exact K0_10.out | exact Blk.at_ _ (by first | rfl | (simp; done) | (simp; omega)) _ _ | refine Blk.drewN ?_ _ | refine Blk.drew ?_ | refine Blk.alloc ?_ _ | refine Blk.far ?_ (by first | omega | (simp; done) | (simp; omega)) _)))
            have hz11 := hb.size
            try simp only [World.size_alloc, World.drewN, World.drew] at hz11
            clear hb K0_10 z0_0_10 z0_1_10 l0_10
            have l0_11 : w3.heap.size < w11.heap.size := K0_11.out.lt
            have z0_0_11 : w11.cell? ⟨w3.heap.size, 0, none⟩ = some (.int .i64 (x)) := K0_11.out.cell 0
            have z0_1_11 : w11.cell? ⟨w3.heap.size, 1, none⟩ = some (.int .i64 (y)) := K0_11.out.cell 1
            go_wp2_with fail
            refine (HRT.out _ (HX.out.belowLe (HB11.out.alloc HB11.out.size _) (Nat.le_refl _)) (HB11.out.alloc HB11.out.size _).size).mono ?_
            rintro e w12 ⟨rfl, hb⟩
            have HB12 := Lib.hid (show Below w.heap.size w w12 from step_below hb (by repeat' (first | exact Below.refl _ _ | exact HB11.out | assumption | refine below_drewN ?_ _ | refine Below.drew ?_ | refine Below.alloc ?_ (by first | omega | (simp; done) | (simp; omega) | (simp [World.setCell]; omega)) _ | refine Below.setCell ?_ (by first | omega | (simp; done) | (simp; omega)) _)))
            have K0_12 := Lib.hid (step_blk hb (show Blk _ (w3.heap.size) 23 #[.int .i64 (x), .int .i64 (y)] by repeat' (first | assumption | exact K0_11.out | exact Blk.at_ _ (by first | rfl | (simp; done) | (simp; omega)) _ _ | refine Blk.drewN ?_ _ | refine Blk.drew ?_ | refine Blk.alloc ?_ _ | refine Blk.far ?_ (by first | omega | (simp; done) | (simp; omega)) _)))
            have K1_12 := Lib.hid (step_blk hb (show Blk _ (w11.heap.size) 23 #[.int .i64 (x), .int .i64 (y)] by repeat' (first | assumption | exact K0_11.out | exact Blk.at_ _ (by first | rfl | (simp; done) | (simp; omega)) _ _ | refine Blk.drewN ?_ _ | refine Blk.drew ?_ | refine Blk.alloc ?_ _ | refine Blk.far ?_ (by first | omega | (simp; done) | (simp; omega)) _)))
            have hz12 := hb.size
            try simp only [World.size_alloc, World.drewN, World.drew] at hz12
            clear hb K0_11 z0_0_11 z0_1_11 l0_11
            have l0_12 : w3.heap.size < w12.heap.size := K0_12.out.lt
            have z0_0_12 : w12.cell? ⟨w3.heap.size, 0, none⟩ = some (.int .i64 (x)) := K0_12.out.cell 0
            have z0_1_12 : w12.cell? ⟨w3.heap.size, 1, none⟩ = some (.int .i64 (y)) := K0_12.out.cell 1
            have l1_12 : w11.heap.size < w12.heap.size := K1_12.out.lt
            have z1_0_12 : w12.cell? ⟨w11.heap.size, 0, none⟩ = some (.int .i64 (x)) := K1_12.out.cell 0
            have z1_1_12 : w12.cell? ⟨w11.heap.size, 1, none⟩ = some (.int .i64 (y)) := K1_12.out.cell 1
            by_cases hg : g = 0
            · subst hg
              obtain ⟨u1, u2, u3, u4⟩ := HWT.out rfl
              have u0 : ¬ y = 0 := by omega
              go_wp2
              go_ret
              exact ⟨rfl, by repeat' (first | exact Below.refl _ _ | exact HB12.out | assumption | refine below_drewN ?_ _ | refine Below.drew ?_ | refine Below.alloc ?_ (by first | omega | (simp; done) | (simp; omega) | (simp [World.setCell]; omega)) _ | refine Below.setCell ?_ (by first | omega | (simp; done) | (simp; omega)) _)⟩
            · have g0 : (g != 0) = true := by simpa using hg
              go_wp2
              go_ret
              exact ⟨rfl, by repeat' (first | exact Below.refl _ _ | exact HB12.out | assumption | refine below_drewN ?_ _ | refine Below.drew ?_ | refine Below.alloc ?_ (by first | omega | (simp; done) | (simp; omega) | (simp [World.setCell]; omega)) _ | refine Below.setCell ?_ (by first | omega | (simp; done) | (simp; omega)) _)⟩
        · have e0 : (E != 0) = true := by simpa using h0
          have hr : ((x, y), e) = ((0, 0), E) := by rw [← HR.out, ← HE.out]; exact ratioF_bad (by rw [HE.out]; exact h0)
          have ht : (t, g) = (0, E) := by rw [← HT.out, ← HE.out]; exact returnsF_bad (by rw [HE.out]; exact h0)
          cases hr
          cases ht
          rcases HCS.out with h | ⟨h, h'⟩
          all_goals
            go_wp2
            go_ret
            exact ⟨rfl, by repeat' (first | exact Below.refl _ _ | exact HB12.out | assumption | refine below_drewN ?_ _ | refine Below.drew ?_ | refine Below.alloc ?_ (by first | omega | (simp; done) | (simp; omega) | (simp [World.setCell]; omega)) _ | refine Below.setCell ?_ (by first | omega | (simp; done) | (simp; omega)) _)⟩

end Go.Proofs.Ytmioamcgbihhjaa
