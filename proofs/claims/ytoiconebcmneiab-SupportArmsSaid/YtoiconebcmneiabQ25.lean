import Derived.Test.YtoiconebcmneiabQ24

section
/- The walk of the statement on arms. -/
namespace Go.Proofs.Ytoiconebcmneiab
open Go.RowKit

@[go_sem] theorem held_rk : Try.prog.stoodInHeld 90 = false := by kernel_rfl
@[go_sem] theorem guard_rk : Try.prog.eqGuardType Try.prog.depth 90 = false := by kernel_rfl
theorem eq_rk (a b c : ByteArray) (x y : Int) (w : World) : (Op.equalIn 10000 90 (.agg #[.string a, .string b, .string c, .int .i64 x, .int .i64 y]) (.agg #[.string a, .string b, .string c, .int .i64 x, .int .i64 y])).run Try.prog w = .ok true w := by
  simp [go_sem]
@[go_sem ↓ high] theorem neq_rk (a b c : ByteArray) (x y : Int) (w : World) : (binOp .neq 90 (.agg #[.string a, .string b, .string c, .int .i64 x, .int .i64 y]) (.agg #[.string a, .string b, .string c, .int .i64 x, .int .i64 y])).run Try.prog w = .ok (.bool false) w := by
  rw [run_neq_struct, eq_rk]; rfl

theorem same_any (A B : Option Addr) (ca cb n : Nat) (l : List Rk) (w : World) (N : Nat) (hx : Reads w N 5 A n (rkCells l)) (hy : Reads w N 5 B n (rkCells l)) (h1 : n ≤ 9223372036854775807) :
    Calls Try.prog 22 #[.slice A n ca, .slice B n cb] w fun e w' => e = .returned (.bool true) ∧ ∃ q, w' = w.drewN q := by
  have hb : ((n : Int) != (n : Int)) = false := by simp
  have HX := Lib.hid hx
  have HY := Lib.hid hy
  clear hx hy
  go_enter Try.func22, Try.ntmps22
  go_wp2
  go_loopw [5] (fun i wr => ∃ k : Nat, k ≤ n ∧ i = .int .i64 k ∧ ∃ q, wr = w.drewN q) (fun i _ => n - (intOf i).toNat)
  case atStart => exact ⟨0, by omega, rfl, 0, rfl⟩
  case round =>
    obtain ⟨k, hk, rfl, q, rfl⟩ := hrel
    by_cases hlt : k < n
    · obtain ⟨xb, xo, p, rfl, _, hp, c0, c1, c2, c3, c4⟩ := HX.out.rk hlt
      obtain ⟨yb, yo, r, rfl, _, hr, d0, d1, d2, d3, d4⟩ := HY.out.rk hlt
      obtain rfl := Option.some.inj (hp.symm.trans hr)
      clear hp hr
      go_wp2
      go_quiet (fail)
      go_wp2
      go_roundw
      case rel => exact ⟨k + 1, by omega, by go_num, _, rfl⟩
      case measure => simp [intOf]; omega
    · go_wp2
      go_ret
      exact ⟨rfl, _, rfl⟩

theorem arms_big (l : List Rk) (hfits : ∀ r ∈ l, r.Fits) (A : Option Addr) (n c : Nat) (B : Option Addr) (m cb : Nat) (xs : List Int) (w : World) (hx : Reads w w.heap.size 5 A n (rkCells l)) (hn : n ≤ 1000) (hy : Reads w w.heap.size 1 B m (xs.map (.int .i64))) (hm : m ≤ 1000000) (h0 : openErr l = 0) (ps : List ByteArray) (hp : ptsOf l = some ps) (hps : ps.length ≤ 1000000) (hbl : ∀ s, (below_ l s).length ≤ 1000000) (hE : armsErr ps.length xs = 0) (hb : (sidesOf l ps xs).any bigA = true) :
    Calls Try.prog 19 #[.slice A n c, .slice B m cb] w fun e w' => e = .returned (.tuple #[.slice none 0 0, .int .i64 8]) ∧ Below w.heap.size w w' :=
  (arms_two l hfits A n c B m cb xs w hx hn hy hm h0 ps hp hps hbl hE).mono fun e w' ⟨h1, h2⟩ => by
    rcases h2 with ⟨_, he⟩ | ⟨hf, _⟩
    · exact ⟨he, h1⟩
    · rw [hb] at hf; cases hf
theorem arms_good (l : List Rk) (hfits : ∀ r ∈ l, r.Fits) (A : Option Addr) (n c : Nat) (B : Option Addr) (m cb : Nat) (xs : List Int) (X : List Rk) (w : World) (hx : Reads w w.heap.size 5 A n (rkCells l)) (hn : n ≤ 1000) (hy : Reads w w.heap.size 1 B m (xs.map (.int .i64))) (hm : m ≤ 1000000) (h0 : openErr l = 0) (ps : List ByteArray) (hp : ptsOf l = some ps) (hps : ps.length ≤ 1000000) (hbl : ∀ s, (below_ l s).length ≤ 1000000) (hE : armsErr ps.length xs = 0) (hb : (sidesOf l ps xs).any bigA = false) (hX : List.zipWith armR l (sidesOf l ps xs) = X) :
    Calls Try.prog 19 #[.slice A n c, .slice B m cb] w fun e w' => Below w.heap.size w w' ∧ ∃ A' c', e = .returned (.tuple #[.slice A' n c', .int .i64 0]) ∧ Reads w' w'.heap.size 5 A' n (rkCells X) :=
  (arms_two l hfits A n c B m cb xs w hx hn hy hm h0 ps hp hps hbl hE).mono fun e w' ⟨h1, h2⟩ => by
    rcases h2 with ⟨hf, _⟩ | ⟨_, h3⟩
    · rw [hb] at hf; cases hf
    · exact ⟨h1, hX ▸ h3⟩
theorem rarms_big (l : List Rk) (hfits : ∀ r ∈ l, r.Fits) (A : Option Addr) (n c : Nat) (B : Option Addr) (m cb : Nat) (xs : List Int) (w : World) (hx : Reads w w.heap.size 5 A n (rkCells l)) (hn : n ≤ 1000) (hy : Reads w w.heap.size 1 B m (xs.map (.int .i64))) (hm : m ≤ 1000000) (h0 : openErr l = 0) (ps : List ByteArray) (hp : ptsOf l = some ps) (hps : ps.length ≤ 1000000) (hbl : ∀ s, (below_ l s).length ≤ 1000000) (hE : armsErr ps.length xs = 0) (hb : (sidesOf l ps xs).any bigA = true) :
    Calls Try.prog 21 #[.slice A n c, .slice B m cb] w fun e w' => e = .returned (.tuple #[.slice none 0 0, .int .i64 8]) ∧ Below w.heap.size w w' :=
  (rarms_two l hfits A n c B m cb xs w hx hn hy hm h0 ps hp hps hbl hE).mono fun e w' ⟨h1, h2⟩ => by
    rcases h2 with ⟨_, he⟩ | ⟨hf, _⟩
    · exact ⟨he, h1⟩
    · rw [hb] at hf; cases hf
theorem rarms_good (l : List Rk) (hfits : ∀ r ∈ l, r.Fits) (A : Option Addr) (n c : Nat) (B : Option Addr) (m cb : Nat) (xs : List Int) (X : List Rk) (w : World) (hx : Reads w w.heap.size 5 A n (rkCells l)) (hn : n ≤ 1000) (hy : Reads w w.heap.size 1 B m (xs.map (.int .i64))) (hm : m ≤ 1000000) (h0 : openErr l = 0) (ps : List ByteArray) (hp : ptsOf l = some ps) (hps : ps.length ≤ 1000000) (hbl : ∀ s, (below_ l s).length ≤ 1000000) (hE : armsErr ps.length xs = 0) (hb : (sidesOf l ps xs).any bigA = false) (hX : List.zipWith armR l (sidesOf l ps xs) = X) :
    Calls Try.prog 21 #[.slice A n c, .slice B m cb] w fun e w' => Below w.heap.size w w' ∧ ∃ A' c', e = .returned (.tuple #[.slice A' n c', .int .i64 0]) ∧ Reads w' w'.heap.size 5 A' n (rkCells X) :=
  (rarms_two l hfits A n c B m cb xs w hx hn hy hm h0 ps hp hps hbl hE).mono fun e w' ⟨h1, h2⟩ => by
    rcases h2 with ⟨hf, _⟩ | ⟨_, h3⟩
    · rw [hb] at hf; cases hf
    · exact ⟨h1, hX ▸ h3⟩
theorem unb_zero (X : List Rk) (hfits : ∀ r ∈ X, r.Fits) (A : Option Addr) (n c : Nat) (B : Option Addr) (m cb : Nat) (xs : List Int) (w : World) (hx : Reads w w.heap.size 5 A n (rkCells X)) (hn : n ≤ 1000) (hy : Reads w w.heap.size 1 B m (xs.map (.int .i64))) (hm : m ≤ 1000000) (h0 : openErr X = 0) (ps : List ByteArray) (hp : ptsOf X = some ps) (hps : ps.length ≤ 1000000) (hbl : ∀ s, (below_ X s).length ≤ 1000000) (hE : forcesErr ps.length xs = 0) (hu : unbTo X (sidesOf X ps xs) n = []) :
    Calls Try.prog 23 #[.slice A n c, .slice B m cb] w fun e w' => Below w.heap.size w w' ∧ ∃ A' c', e = .returned (.tuple #[.slice A' 0 c', .int .i64 0]) :=
  (unb_ok X hfits A n c B m cb xs w hx hn hy hm h0 ps hp hps hbl hE).mono fun e w' ⟨h1, A', c', he, _⟩ => ⟨h1, A', c', by rw [he, hu]; rfl⟩

theorem armsErr_forces {np : Nat} {xs : List Int} (h : armsErr np xs = 0) : forcesErr np xs = 0 := by
  obtain ⟨h1, -, h3⟩ := arms_parts h
  unfold forcesErr
  rw [if_neg (by omega), if_neg]
  rw [List.any_eq_true]
  rintro ⟨z, hz, hw⟩
  have := h3 z hz
  have : withinB z 0 1000000 = true := (withinB_iff _ _ _).2 (by omega)
  rw [this] at hw
  cases hw

set_option maxRecDepth 100000 in
set_option maxHeartbeats 2000000 in
theorem lawA_any (A : Option Addr) (n c : Nat) (l : List Rk) (B : Option Addr) (m cb : Nat) (xs : List Int) (w : World) (hnc : n ≤ c ∧ c ≤ 9223372036854775807) (hl : l.length = n) (hfits : ∀ r ∈ l, r.Fits) (hx : Reads w w.heap.size 5 A n (rkCells l))
    (hmc : m ≤ cb ∧ cb ≤ 9223372036854775807) (hxl : xs.length = m) (_ : ∀ z ∈ xs, -9223372036854775808 ≤ z ∧ z ≤ 9223372036854775807) (hy : Reads w w.heap.size 1 B m (xs.map (.int .i64))) :
    Calls Try.prog 4 #[.slice A n c, .slice B m cb] w fun e w' => e = .returned (.bool true) ∧ Below w.heap.size w w' := by
  obtain ⟨hnc, hcm⟩ := hnc
  obtain ⟨hmc, hcbm⟩ := hmc
  cases hfw : fewB l
  · have HF := Lib.hid hfw
    clear hfw hl hxl
    go_enter Try.func4, Try.ntmps4
    have R0_0 := Lib.hid hx
    clear hx
    go_wp2_with fail
    refine (awake_any _).mono ?_
    rintro e w1 ⟨rfl, hb⟩
    have HB1 := Lib.hid (show Below w.heap.size w w1 from step_below hb (by repeat' (first | exact Below.refl _ _ | exact HB0.out | refine below_drewN ?_ _ | refine Below.drew ?_ | refine Below.alloc ?_ (by first | omega | (simp; done) | (simp; omega) | (simp [World.setCell]; omega)) _ | refine Below.setCell ?_ (by first | omega | (simp; done) | (simp; omega)) _ | assumption)))
    have hL1 := Lib.hid (show Below w.heap.size w _ from reads_mid hb (by repeat' (first | exact Below.refl _ _ | refine below_drewN ?_ _ | refine Below.drew ?_ | refine Below.alloc ?_ (by first | omega | (simp; done) | (simp; omega) | (simp [World.setCell]; omega)) _ | refine Below.setCell ?_ (by first | omega | (simp; done) | (simp; omega)) _)))
    have R0_1 := Lib.hid (reads_lay hb hL1.out R0_0.out)
    clear hL1 R0_0
    have hz1 := hb.size
    try simp only [World.size_alloc, World.drewN, World.drew] at hz1
    clear hb
    go_wp2_with fail
    refine (few_is l hfits A n c _ false HF.out _ R0_1.out (by omega)).mono ?_
    rintro e w' ⟨rfl, rfl⟩
    go_wp2
    go_ret
    exact ⟨rfl, by repeat' (first | exact Below.refl _ _ | exact HB1.out | refine below_drewN ?_ _ | refine Below.drew ?_ | refine Below.alloc ?_ (by first | omega | (simp; done) | (simp; omega) | (simp [World.setCell]; omega)) _ | refine Below.setCell ?_ (by first | omega | (simp; done) | (simp; omega)) _ | assumption)⟩
  have hlen := fewB_len hfw
  have hn : n ≤ 43 := by omega
  by_cases hm12 : (12 : Int) < m
  · have HF := Lib.hid hfw
    clear hfw hl hxl
    go_enter Try.func4, Try.ntmps4
    have R0_0 := Lib.hid hx
    clear hx
    go_wp2_with fail
    refine (awake_any _).mono ?_
    rintro e w1 ⟨rfl, hb⟩
    have HB1 := Lib.hid (show Below w.heap.size w w1 from step_below hb (by repeat' (first | exact Below.refl _ _ | exact HB0.out | refine below_drewN ?_ _ | refine Below.drew ?_ | refine Below.alloc ?_ (by first | omega | (simp; done) | (simp; omega) | (simp [World.setCell]; omega)) _ | refine Below.setCell ?_ (by first | omega | (simp; done) | (simp; omega)) _ | assumption)))
    have hL1 := Lib.hid (show Below w.heap.size w _ from reads_mid hb (by repeat' (first | exact Below.refl _ _ | refine below_drewN ?_ _ | refine Below.drew ?_ | refine Below.alloc ?_ (by first | omega | (simp; done) | (simp; omega) | (simp [World.setCell]; omega)) _ | refine Below.setCell ?_ (by first | omega | (simp; done) | (simp; omega)) _)))
    have R0_1 := Lib.hid (reads_lay hb hL1.out R0_0.out)
    clear hL1 R0_0
    have hz1 := hb.size
    try simp only [World.size_alloc, World.drewN, World.drew] at hz1
    clear hb
    go_wp2_with fail
    refine (few_is l hfits A n c _ true HF.out _ R0_1.out (by omega)).mono ?_
    rintro e w' ⟨rfl, rfl⟩
    go_wp2
    go_ret
    exact ⟨rfl, by repeat' (first | exact Below.refl _ _ | exact HB1.out | refine below_drewN ?_ _ | refine Below.drew ?_ | refine Below.alloc ?_ (by first | omega | (simp; done) | (simp; omega) | (simp [World.setCell]; omega)) _ | refine Below.setCell ?_ (by first | omega | (simp; done) | (simp; omega)) _ | assumption)⟩
  obtain ⟨E, hE⟩ : ∃ E, openErr l = E := ⟨_, rfl⟩
  by_cases h0 : E = 0
  rotate_left
  · have HF := Lib.hid hfw
    have HE := Lib.hid hE
    have HE0 := Lib.hid h0
    have e0 : (E != 0) = true := by simpa using h0
    clear hfw hE h0 hl hxl
    go_enter Try.func4, Try.ntmps4
    have R0_0 := Lib.hid hx
    clear hx
    have R1_0 := Lib.hid hy
    clear hy
    go_wp2_with fail
    refine (awake_any _).mono ?_
    rintro e w1 ⟨rfl, hb⟩
    have HB1 := Lib.hid (show Below w.heap.size w w1 from step_below hb (by repeat' (first | exact Below.refl _ _ | exact HB0.out | refine below_drewN ?_ _ | refine Below.drew ?_ | refine Below.alloc ?_ (by first | omega | (simp; done) | (simp; omega) | (simp [World.setCell]; omega)) _ | refine Below.setCell ?_ (by first | omega | (simp; done) | (simp; omega)) _ | assumption)))
    have hL1 := Lib.hid (show Below w.heap.size w _ from reads_mid hb (by repeat' (first | exact Below.refl _ _ | refine below_drewN ?_ _ | refine Below.drew ?_ | refine Below.alloc ?_ (by first | omega | (simp; done) | (simp; omega) | (simp [World.setCell]; omega)) _ | refine Below.setCell ?_ (by first | omega | (simp; done) | (simp; omega)) _)))
    have R0_1 := Lib.hid (reads_lay hb hL1.out R0_0.out)
    have R1_1 := Lib.hid (reads_lay hb hL1.out R1_0.out)
    clear hL1 R0_0 R1_0
    have hz1 := hb.size
    try simp only [World.size_alloc, World.drewN, World.drew] at hz1
    clear hb
    go_wp2_with fail
    refine (few_is l hfits A n c _ true HF.out _ R0_1.out (by omega)).mono ?_
    rintro e w' ⟨rfl, rfl⟩
    go_wp2_with fail
    refine (copied_any A n c _ l _ R0_1.out (Nat.le_refl _) (by omega)).mono ?_
    rintro e w2 ⟨A2, c2, rfl, hb, hr, -⟩
    have HB2 := Lib.hid (show Below w.heap.size w w2 from step_below hb (by repeat' (first | exact Below.refl _ _ | exact HB1.out | refine below_drewN ?_ _ | refine Below.drew ?_ | refine Below.alloc ?_ (by first | omega | (simp; done) | (simp; omega) | (simp [World.setCell]; omega)) _ | refine Below.setCell ?_ (by first | omega | (simp; done) | (simp; omega)) _ | assumption)))
    have hL2 := Lib.hid (show Below w1.heap.size w1 _ from reads_mid hb (by repeat' (first | exact Below.refl _ _ | refine below_drewN ?_ _ | refine Below.drew ?_ | refine Below.alloc ?_ (by first | omega | (simp; done) | (simp; omega) | (simp [World.setCell]; omega)) _ | refine Below.setCell ?_ (by first | omega | (simp; done) | (simp; omega)) _)))
    have R0_2 := Lib.hid (reads_lay hb hL2.out R0_1.out)
    have R1_2 := Lib.hid (reads_lay hb hL2.out R1_1.out)
    clear hL2 R0_1 R1_1
    have hz2 := hb.size
    try simp only [World.size_alloc, World.drewN, World.drew] at hz2
    clear hb
    have R2_2 := Lib.hid hr
    clear hr
    go_wp2_with fail
    refine (copyints_any B m cb _ xs _ R1_2.out (Nat.le_refl _) (by omega)).mono ?_
    rintro e w3 ⟨A3, c3, rfl, hb, hr, -⟩
    have HB3 := Lib.hid (show Below w.heap.size w w3 from step_below hb (by repeat' (first | exact Below.refl _ _ | exact HB2.out | refine below_drewN ?_ _ | refine Below.drew ?_ | refine Below.alloc ?_ (by first | omega | (simp; done) | (simp; omega) | (simp [World.setCell]; omega)) _ | refine Below.setCell ?_ (by first | omega | (simp; done) | (simp; omega)) _ | assumption)))
    have hL3 := Lib.hid (show Below w2.heap.size w2 _ from reads_mid hb (by repeat' (first | exact Below.refl _ _ | refine below_drewN ?_ _ | refine Below.drew ?_ | refine Below.alloc ?_ (by first | omega | (simp; done) | (simp; omega) | (simp [World.setCell]; omega)) _ | refine Below.setCell ?_ (by first | omega | (simp; done) | (simp; omega)) _)))
    have R0_3 := Lib.hid (reads_lay hb hL3.out R0_2.out)
    have R1_3 := Lib.hid (reads_lay hb hL3.out R1_2.out)
    have R2_3 := Lib.hid (reads_lay hb hL3.out R2_2.out)
    clear hL3 R0_2 R1_2 R2_2
    have hz3 := hb.size
    try simp only [World.size_alloc, World.drewN, World.drew] at hz3
    clear hb
    have R3_3 := Lib.hid hr
    clear hr
    go_wp2_with fail
    refine (arms_bad l hfits A2 n c2 A3 m c3 E _ R2_3.out (by omega) HE.out HE0.out).mono ?_
    rintro e w4 ⟨rfl, hb⟩
    have HB4 := Lib.hid (show Below w.heap.size w w4 from step_below hb (by repeat' (first | exact Below.refl _ _ | exact HB3.out | refine below_drewN ?_ _ | refine Below.drew ?_ | refine Below.alloc ?_ (by first | omega | (simp; done) | (simp; omega) | (simp [World.setCell]; omega)) _ | refine Below.setCell ?_ (by first | omega | (simp; done) | (simp; omega)) _ | assumption)))
    have hL4 := Lib.hid (show Below w3.heap.size w3 _ from reads_mid hb (by repeat' (first | exact Below.refl _ _ | refine below_drewN ?_ _ | refine Below.drew ?_ | refine Below.alloc ?_ (by first | omega | (simp; done) | (simp; omega) | (simp [World.setCell]; omega)) _ | refine Below.setCell ?_ (by first | omega | (simp; done) | (simp; omega)) _)))
    have R0_4 := Lib.hid (reads_lay hb hL4.out R0_3.out)
    have R1_4 := Lib.hid (reads_lay hb hL4.out R1_3.out)
    have R2_4 := Lib.hid (reads_lay hb hL4.out R2_3.out)
    have R3_4 := Lib.hid (reads_lay hb hL4.out R3_3.out)
    clear hL4 R0_3 R1_3 R2_3 R3_3
    have hz4 := hb.size
    try simp only [World.size_alloc, World.drewN, World.drew] at hz4
    clear hb
    go_wp2_with fail
    refine (rchecktree_is l hfits A n c _ E HE.out _ R0_4.out (Nat.le_refl _) (by omega) hnc hcm).mono ?_
    rintro e w5 ⟨rfl, hb⟩
    have HB5 := Lib.hid (show Below w.heap.size w w5 from step_below hb (by repeat' (first | exact Below.refl _ _ | exact HB4.out | refine below_drewN ?_ _ | refine Below.drew ?_ | refine Below.alloc ?_ (by first | omega | (simp; done) | (simp; omega) | (simp [World.setCell]; omega)) _ | refine Below.setCell ?_ (by first | omega | (simp; done) | (simp; omega)) _ | assumption)))
    have hL5 := Lib.hid (show Below w4.heap.size w4 _ from reads_mid hb (by repeat' (first | exact Below.refl _ _ | refine below_drewN ?_ _ | refine Below.drew ?_ | refine Below.alloc ?_ (by first | omega | (simp; done) | (simp; omega) | (simp [World.setCell]; omega)) _ | refine Below.setCell ?_ (by first | omega | (simp; done) | (simp; omega)) _)))
    have R0_5 := Lib.hid (reads_lay hb hL5.out R0_4.out)
    have R1_5 := Lib.hid (reads_lay hb hL5.out R1_4.out)
    have R2_5 := Lib.hid (reads_lay hb hL5.out R2_4.out)
    have R3_5 := Lib.hid (reads_lay hb hL5.out R3_4.out)
    clear hL5 R0_4 R1_4 R2_4 R3_4
    have hz5 := hb.size
    try simp only [World.size_alloc, World.drewN, World.drew] at hz5
    clear hb
    go_wp2
    go_ret
    exact ⟨rfl, by repeat' (first | exact Below.refl _ _ | exact HB5.out | refine below_drewN ?_ _ | refine Below.drew ?_ | refine Below.alloc ?_ (by first | omega | (simp; done) | (simp; omega) | (simp [World.setCell]; omega)) _ | refine Below.setCell ?_ (by first | omega | (simp; done) | (simp; omega)) _ | assumption)⟩
  subst h0
  obtain ⟨ps, hps, hpl⟩ := few_pts hfw hE
  have hbl := few_below hfw hE
  obtain ⟨F, hF⟩ : ∃ F, armsErr ps.length xs = F := ⟨_, rfl⟩
  by_cases hF0 : F = 0
  rotate_left
  · have HF := Lib.hid hfw
    have HE := Lib.hid hE
    have HP := Lib.hid hps
    have HFE := Lib.hid hF
    have HF0 := Lib.hid hF0
    have hq : (F != F) = false := by simp
    have hq0 : (F != 0) = true := by simpa using hF0
    clear hfw hE hl hxl hps hF hF0
    go_enter Try.func4, Try.ntmps4
    have R0_0 := Lib.hid hx
    clear hx
    have R1_0 := Lib.hid hy
    clear hy
    go_wp2_with fail
    refine (awake_any _).mono ?_
    rintro e w1 ⟨rfl, hb⟩
    have HB1 := Lib.hid (show Below w.heap.size w w1 from step_below hb (by repeat' (first | exact Below.refl _ _ | exact HB0.out | refine below_drewN ?_ _ | refine Below.drew ?_ | refine Below.alloc ?_ (by first | omega | (simp; done) | (simp; omega) | (simp [World.setCell]; omega)) _ | refine Below.setCell ?_ (by first | omega | (simp; done) | (simp; omega)) _ | assumption)))
    have hL1 := Lib.hid (show Below w.heap.size w _ from reads_mid hb (by repeat' (first | exact Below.refl _ _ | refine below_drewN ?_ _ | refine Below.drew ?_ | refine Below.alloc ?_ (by first | omega | (simp; done) | (simp; omega) | (simp [World.setCell]; omega)) _ | refine Below.setCell ?_ (by first | omega | (simp; done) | (simp; omega)) _)))
    have R0_1 := Lib.hid (reads_lay hb hL1.out R0_0.out)
    have R1_1 := Lib.hid (reads_lay hb hL1.out R1_0.out)
    clear hL1 R0_0 R1_0
    have hz1 := hb.size
    try simp only [World.size_alloc, World.drewN, World.drew] at hz1
    clear hb
    go_wp2_with fail
    refine (few_is l hfits A n c _ true HF.out _ R0_1.out (by omega)).mono ?_
    rintro e w' ⟨rfl, rfl⟩
    go_wp2_with fail
    refine (copied_any A n c _ l _ R0_1.out (Nat.le_refl _) (by omega)).mono ?_
    rintro e w2 ⟨A2, c2, rfl, hb, hr, -⟩
    have HB2 := Lib.hid (show Below w.heap.size w w2 from step_below hb (by repeat' (first | exact Below.refl _ _ | exact HB1.out | refine below_drewN ?_ _ | refine Below.drew ?_ | refine Below.alloc ?_ (by first | omega | (simp; done) | (simp; omega) | (simp [World.setCell]; omega)) _ | refine Below.setCell ?_ (by first | omega | (simp; done) | (simp; omega)) _ | assumption)))
    have hL2 := Lib.hid (show Below w1.heap.size w1 _ from reads_mid hb (by repeat' (first | exact Below.refl _ _ | refine below_drewN ?_ _ | refine Below.drew ?_ | refine Below.alloc ?_ (by first | omega | (simp; done) | (simp; omega) | (simp [World.setCell]; omega)) _ | refine Below.setCell ?_ (by first | omega | (simp; done) | (simp; omega)) _)))
    have R0_2 := Lib.hid (reads_lay hb hL2.out R0_1.out)
    have R1_2 := Lib.hid (reads_lay hb hL2.out R1_1.out)
    clear hL2 R0_1 R1_1
    have hz2 := hb.size
    try simp only [World.size_alloc, World.drewN, World.drew] at hz2
    clear hb
    have R2_2 := Lib.hid hr
    clear hr
    go_wp2_with fail
    refine (copyints_any B m cb _ xs _ R1_2.out (Nat.le_refl _) (by omega)).mono ?_
    rintro e w3 ⟨A3, c3, rfl, hb, hr, -⟩
    have HB3 := Lib.hid (show Below w.heap.size w w3 from step_below hb (by repeat' (first | exact Below.refl _ _ | exact HB2.out | refine below_drewN ?_ _ | refine Below.drew ?_ | refine Below.alloc ?_ (by first | omega | (simp; done) | (simp; omega) | (simp [World.setCell]; omega)) _ | refine Below.setCell ?_ (by first | omega | (simp; done) | (simp; omega)) _ | assumption)))
    have hL3 := Lib.hid (show Below w2.heap.size w2 _ from reads_mid hb (by repeat' (first | exact Below.refl _ _ | refine below_drewN ?_ _ | refine Below.drew ?_ | refine Below.alloc ?_ (by first | omega | (simp; done) | (simp; omega) | (simp [World.setCell]; omega)) _ | refine Below.setCell ?_ (by first | omega | (simp; done) | (simp; omega)) _)))
    have R0_3 := Lib.hid (reads_lay hb hL3.out R0_2.out)
    have R1_3 := Lib.hid (reads_lay hb hL3.out R1_2.out)
    have R2_3 := Lib.hid (reads_lay hb hL3.out R2_2.out)
    clear hL3 R0_2 R1_2 R2_2
    have hz3 := hb.size
    try simp only [World.size_alloc, World.drewN, World.drew] at hz3
    clear hb
    have R3_3 := Lib.hid hr
    clear hr
    go_wp2_with fail
    refine (arms_err l hfits A2 n c2 A3 m c3 xs _ R2_3.out (by omega) R3_3.out (by omega) HE.out ps HP.out hpl F HFE.out HF0.out).mono ?_
    rintro e w4 ⟨rfl, hb⟩
    have HB4 := Lib.hid (show Below w.heap.size w w4 from step_below hb (by repeat' (first | exact Below.refl _ _ | exact HB3.out | refine below_drewN ?_ _ | refine Below.drew ?_ | refine Below.alloc ?_ (by first | omega | (simp; done) | (simp; omega) | (simp [World.setCell]; omega)) _ | refine Below.setCell ?_ (by first | omega | (simp; done) | (simp; omega)) _ | assumption)))
    have hL4 := Lib.hid (show Below w3.heap.size w3 _ from reads_mid hb (by repeat' (first | exact Below.refl _ _ | refine below_drewN ?_ _ | refine Below.drew ?_ | refine Below.alloc ?_ (by first | omega | (simp; done) | (simp; omega) | (simp [World.setCell]; omega)) _ | refine Below.setCell ?_ (by first | omega | (simp; done) | (simp; omega)) _)))
    have R0_4 := Lib.hid (reads_lay hb hL4.out R0_3.out)
    have R1_4 := Lib.hid (reads_lay hb hL4.out R1_3.out)
    have R2_4 := Lib.hid (reads_lay hb hL4.out R2_3.out)
    have R3_4 := Lib.hid (reads_lay hb hL4.out R3_3.out)
    clear hL4 R0_3 R1_3 R2_3 R3_3
    have hz4 := hb.size
    try simp only [World.size_alloc, World.drewN, World.drew] at hz4
    clear hb
    go_wp2_with fail
    refine (rchecktree_is l hfits A n c _ 0 HE.out _ R0_4.out (Nat.le_refl _) (by omega) hnc hcm).mono ?_
    rintro e w5 ⟨rfl, hb⟩
    have HB5 := Lib.hid (show Below w.heap.size w w5 from step_below hb (by repeat' (first | exact Below.refl _ _ | exact HB4.out | refine below_drewN ?_ _ | refine Below.drew ?_ | refine Below.alloc ?_ (by first | omega | (simp; done) | (simp; omega) | (simp [World.setCell]; omega)) _ | refine Below.setCell ?_ (by first | omega | (simp; done) | (simp; omega)) _ | assumption)))
    have hL5 := Lib.hid (show Below w4.heap.size w4 _ from reads_mid hb (by repeat' (first | exact Below.refl _ _ | refine below_drewN ?_ _ | refine Below.drew ?_ | refine Below.alloc ?_ (by first | omega | (simp; done) | (simp; omega) | (simp [World.setCell]; omega)) _ | refine Below.setCell ?_ (by first | omega | (simp; done) | (simp; omega)) _)))
    have R0_5 := Lib.hid (reads_lay hb hL5.out R0_4.out)
    have R1_5 := Lib.hid (reads_lay hb hL5.out R1_4.out)
    have R2_5 := Lib.hid (reads_lay hb hL5.out R2_4.out)
    have R3_5 := Lib.hid (reads_lay hb hL5.out R3_4.out)
    clear hL5 R0_4 R1_4 R2_4 R3_4
    have hz5 := hb.size
    try simp only [World.size_alloc, World.drewN, World.drew] at hz5
    clear hb
    go_wp2_with fail
    refine (rarms_err l hfits A n c B m cb xs _ R0_5.out (by omega) R1_5.out (by omega) HE.out ps HP.out hpl F HFE.out HF0.out).mono ?_
    rintro e w6 ⟨rfl, hb⟩
    have HB6 := Lib.hid (show Below w.heap.size w w6 from step_below hb (by repeat' (first | exact Below.refl _ _ | exact HB5.out | refine below_drewN ?_ _ | refine Below.drew ?_ | refine Below.alloc ?_ (by first | omega | (simp; done) | (simp; omega) | (simp [World.setCell]; omega)) _ | refine Below.setCell ?_ (by first | omega | (simp; done) | (simp; omega)) _ | assumption)))
    have hL6 := Lib.hid (show Below w5.heap.size w5 _ from reads_mid hb (by repeat' (first | exact Below.refl _ _ | refine below_drewN ?_ _ | refine Below.drew ?_ | refine Below.alloc ?_ (by first | omega | (simp; done) | (simp; omega) | (simp [World.setCell]; omega)) _ | refine Below.setCell ?_ (by first | omega | (simp; done) | (simp; omega)) _)))
    have R0_6 := Lib.hid (reads_lay hb hL6.out R0_5.out)
    have R1_6 := Lib.hid (reads_lay hb hL6.out R1_5.out)
    have R2_6 := Lib.hid (reads_lay hb hL6.out R2_5.out)
    have R3_6 := Lib.hid (reads_lay hb hL6.out R3_5.out)
    clear hL6 R0_5 R1_5 R2_5 R3_5
    have hz6 := hb.size
    try simp only [World.size_alloc, World.drewN, World.drew] at hz6
    clear hb
    go_wp2_with fail
    refine (same_any none none 0 0 0 [] _ 0 (by exact Reads.none_) (by exact Reads.none_) (by omega)).mono ?_
    rintro e w' ⟨rfl, q, rfl⟩
    go_wp2
    go_ret
    exact ⟨rfl, by repeat' (first | exact Below.refl _ _ | exact HB6.out | refine below_drewN ?_ _ | refine Below.drew ?_ | refine Below.alloc ?_ (by first | omega | (simp; done) | (simp; omega) | (simp [World.setCell]; omega)) _ | refine Below.setCell ?_ (by first | omega | (simp; done) | (simp; omega)) _ | assumption)⟩
  subst hF0
  cases hbg : (sidesOf l ps xs).any bigA
  rotate_left
  · have HF := Lib.hid hfw
    have HE := Lib.hid hE
    have HP := Lib.hid hps
    have HFE := Lib.hid hF
    have HBG := Lib.hid hbg
    clear hfw hE hl hxl hps hF hbg
    go_enter Try.func4, Try.ntmps4
    have R0_0 := Lib.hid hx
    clear hx
    have R1_0 := Lib.hid hy
    clear hy
    go_wp2_with fail
    refine (awake_any _).mono ?_
    rintro e w1 ⟨rfl, hb⟩
    have HB1 := Lib.hid (show Below w.heap.size w w1 from step_below hb (by repeat' (first | exact Below.refl _ _ | exact HB0.out | refine below_drewN ?_ _ | refine Below.drew ?_ | refine Below.alloc ?_ (by first | omega | (simp; done) | (simp; omega) | (simp [World.setCell]; omega)) _ | refine Below.setCell ?_ (by first | omega | (simp; done) | (simp; omega)) _ | assumption)))
    have hL1 := Lib.hid (show Below w.heap.size w _ from reads_mid hb (by repeat' (first | exact Below.refl _ _ | refine below_drewN ?_ _ | refine Below.drew ?_ | refine Below.alloc ?_ (by first | omega | (simp; done) | (simp; omega) | (simp [World.setCell]; omega)) _ | refine Below.setCell ?_ (by first | omega | (simp; done) | (simp; omega)) _)))
    have R0_1 := Lib.hid (reads_lay hb hL1.out R0_0.out)
    have R1_1 := Lib.hid (reads_lay hb hL1.out R1_0.out)
    clear hL1 R0_0 R1_0
    have hz1 := hb.size
    try simp only [World.size_alloc, World.drewN, World.drew] at hz1
    clear hb
    go_wp2_with fail
    refine (few_is l hfits A n c _ true HF.out _ R0_1.out (by omega)).mono ?_
    rintro e w' ⟨rfl, rfl⟩
    go_wp2_with fail
    refine (copied_any A n c _ l _ R0_1.out (Nat.le_refl _) (by omega)).mono ?_
    rintro e w2 ⟨A2, c2, rfl, hb, hr, -⟩
    have HB2 := Lib.hid (show Below w.heap.size w w2 from step_below hb (by repeat' (first | exact Below.refl _ _ | exact HB1.out | refine below_drewN ?_ _ | refine Below.drew ?_ | refine Below.alloc ?_ (by first | omega | (simp; done) | (simp; omega) | (simp [World.setCell]; omega)) _ | refine Below.setCell ?_ (by first | omega | (simp; done) | (simp; omega)) _ | assumption)))
    have hL2 := Lib.hid (show Below w1.heap.size w1 _ from reads_mid hb (by repeat' (first | exact Below.refl _ _ | refine below_drewN ?_ _ | refine Below.drew ?_ | refine Below.alloc ?_ (by first | omega | (simp; done) | (simp; omega) | (simp [World.setCell]; omega)) _ | refine Below.setCell ?_ (by first | omega | (simp; done) | (simp; omega)) _)))
    have R0_2 := Lib.hid (reads_lay hb hL2.out R0_1.out)
    have R1_2 := Lib.hid (reads_lay hb hL2.out R1_1.out)
    clear hL2 R0_1 R1_1
    have hz2 := hb.size
    try simp only [World.size_alloc, World.drewN, World.drew] at hz2
    clear hb
    have R2_2 := Lib.hid hr
    clear hr
    go_wp2_with fail
    refine (copyints_any B m cb _ xs _ R1_2.out (Nat.le_refl _) (by omega)).mono ?_
    rintro e w3 ⟨A3, c3, rfl, hb, hr, -⟩
    have HB3 := Lib.hid (show Below w.heap.size w w3 from step_below hb (by repeat' (first | exact Below.refl _ _ | exact HB2.out | refine below_drewN ?_ _ | refine Below.drew ?_ | refine Below.alloc ?_ (by first | omega | (simp; done) | (simp; omega) | (simp [World.setCell]; omega)) _ | refine Below.setCell ?_ (by first | omega | (simp; done) | (simp; omega)) _ | assumption)))
    have hL3 := Lib.hid (show Below w2.heap.size w2 _ from reads_mid hb (by repeat' (first | exact Below.refl _ _ | refine below_drewN ?_ _ | refine Below.drew ?_ | refine Below.alloc ?_ (by first | omega | (simp; done) | (simp; omega) | (simp [World.setCell]; omega)) _ | refine Below.setCell ?_ (by first | omega | (simp; done) | (simp; omega)) _)))
    have R0_3 := Lib.hid (reads_lay hb hL3.out R0_2.out)
    have R1_3 := Lib.hid (reads_lay hb hL3.out R1_2.out)
    have R2_3 := Lib.hid (reads_lay hb hL3.out R2_2.out)
    clear hL3 R0_2 R1_2 R2_2
    have hz3 := hb.size
    try simp only [World.size_alloc, World.drewN, World.drew] at hz3
    clear hb
    have R3_3 := Lib.hid hr
    clear hr
    go_wp2_with fail
    refine (arms_big l hfits A2 n c2 A3 m c3 xs _ R2_3.out (by omega) R3_3.out (by omega) HE.out ps HP.out hpl hbl HFE.out HBG.out).mono ?_
    rintro e w4 ⟨rfl, hb⟩
    have HB4 := Lib.hid (show Below w.heap.size w w4 from step_below hb (by repeat' (first | exact Below.refl _ _ | exact HB3.out | refine below_drewN ?_ _ | refine Below.drew ?_ | refine Below.alloc ?_ (by first | omega | (simp; done) | (simp; omega) | (simp [World.setCell]; omega)) _ | refine Below.setCell ?_ (by first | omega | (simp; done) | (simp; omega)) _ | assumption)))
    have hL4 := Lib.hid (show Below w3.heap.size w3 _ from reads_mid hb (by repeat' (first | exact Below.refl _ _ | refine below_drewN ?_ _ | refine Below.drew ?_ | refine Below.alloc ?_ (by first | omega | (simp; done) | (simp; omega) | (simp [World.setCell]; omega)) _ | refine Below.setCell ?_ (by first | omega | (simp; done) | (simp; omega)) _)))
    have R0_4 := Lib.hid (reads_lay hb hL4.out R0_3.out)
    have R1_4 := Lib.hid (reads_lay hb hL4.out R1_3.out)
    have R2_4 := Lib.hid (reads_lay hb hL4.out R2_3.out)
    have R3_4 := Lib.hid (reads_lay hb hL4.out R3_3.out)
    clear hL4 R0_3 R1_3 R2_3 R3_3
    have hz4 := hb.size
    try simp only [World.size_alloc, World.drewN, World.drew] at hz4
    clear hb
    go_wp2_with fail
    refine (rchecktree_is l hfits A n c _ 0 HE.out _ R0_4.out (Nat.le_refl _) (by omega) hnc hcm).mono ?_
    rintro e w5 ⟨rfl, hb⟩
    have HB5 := Lib.hid (show Below w.heap.size w w5 from step_below hb (by repeat' (first | exact Below.refl _ _ | exact HB4.out | refine below_drewN ?_ _ | refine Below.drew ?_ | refine Below.alloc ?_ (by first | omega | (simp; done) | (simp; omega) | (simp [World.setCell]; omega)) _ | refine Below.setCell ?_ (by first | omega | (simp; done) | (simp; omega)) _ | assumption)))
    have hL5 := Lib.hid (show Below w4.heap.size w4 _ from reads_mid hb (by repeat' (first | exact Below.refl _ _ | refine below_drewN ?_ _ | refine Below.drew ?_ | refine Below.alloc ?_ (by first | omega | (simp; done) | (simp; omega) | (simp [World.setCell]; omega)) _ | refine Below.setCell ?_ (by first | omega | (simp; done) | (simp; omega)) _)))
    have R0_5 := Lib.hid (reads_lay hb hL5.out R0_4.out)
    have R1_5 := Lib.hid (reads_lay hb hL5.out R1_4.out)
    have R2_5 := Lib.hid (reads_lay hb hL5.out R2_4.out)
    have R3_5 := Lib.hid (reads_lay hb hL5.out R3_4.out)
    clear hL5 R0_4 R1_4 R2_4 R3_4
    have hz5 := hb.size
    try simp only [World.size_alloc, World.drewN, World.drew] at hz5
    clear hb
    go_wp2_with fail
    refine (rarms_big l hfits A n c B m cb xs _ R0_5.out (by omega) R1_5.out (by omega) HE.out ps HP.out hpl hbl HFE.out HBG.out).mono ?_
    rintro e w6 ⟨rfl, hb⟩
    have HB6 := Lib.hid (show Below w.heap.size w w6 from step_below hb (by repeat' (first | exact Below.refl _ _ | exact HB5.out | refine below_drewN ?_ _ | refine Below.drew ?_ | refine Below.alloc ?_ (by first | omega | (simp; done) | (simp; omega) | (simp [World.setCell]; omega)) _ | refine Below.setCell ?_ (by first | omega | (simp; done) | (simp; omega)) _ | assumption)))
    have hL6 := Lib.hid (show Below w5.heap.size w5 _ from reads_mid hb (by repeat' (first | exact Below.refl _ _ | refine below_drewN ?_ _ | refine Below.drew ?_ | refine Below.alloc ?_ (by first | omega | (simp; done) | (simp; omega) | (simp [World.setCell]; omega)) _ | refine Below.setCell ?_ (by first | omega | (simp; done) | (simp; omega)) _)))
    have R0_6 := Lib.hid (reads_lay hb hL6.out R0_5.out)
    have R1_6 := Lib.hid (reads_lay hb hL6.out R1_5.out)
    have R2_6 := Lib.hid (reads_lay hb hL6.out R2_5.out)
    have R3_6 := Lib.hid (reads_lay hb hL6.out R3_5.out)
    clear hL6 R0_5 R1_5 R2_5 R3_5
    have hz6 := hb.size
    try simp only [World.size_alloc, World.drewN, World.drew] at hz6
    clear hb
    go_wp2_with fail
    refine (same_any none none 0 0 0 [] _ 0 (by exact Reads.none_) (by exact Reads.none_) (by omega)).mono ?_
    rintro e w' ⟨rfl, q, rfl⟩
    go_wp2
    go_ret
    exact ⟨rfl, by repeat' (first | exact Below.refl _ _ | exact HB6.out | refine below_drewN ?_ _ | refine Below.drew ?_ | refine Below.alloc ?_ (by first | omega | (simp; done) | (simp; omega) | (simp [World.setCell]; omega)) _ | refine Below.setCell ?_ (by first | omega | (simp; done) | (simp; omega)) _ | assumption)⟩
  obtain ⟨a1, a2, a3, a4, a5, a6, a7, a8⟩ := arms_x hE hps hF hbg
  obtain ⟨X, hX⟩ : ∃ X, List.zipWith armR l (sidesOf l ps xs) = X := ⟨_, rfl⟩
  obtain ⟨T, hT⟩ : ∃ T, sumI xs = T := ⟨_, rfl⟩
  rw [hX] at a1 a2 a3 a4 a5 a6 a7
  simp only [hT] at a7 a8
  have HF := Lib.hid hfw
  have HE := Lib.hid hE
  have HP := Lib.hid hps
  have HFE := Lib.hid hF
  have HBG := Lib.hid hbg
  have HXX := Lib.hid hX
  have HT := Lib.hid hT
  have HFX := Lib.hid (a2 hfits)
  have HX0 := Lib.hid a3
  have HPX := Lib.hid a4
  have HBX : Hid (∀ s, (below_ X s).length ≤ 1000000) := fun s => by rw [a5]; exact hbl s
  have HU : Hid (unbTo X (sidesOf X ps xs) n = []) := hl ▸ a6
  have HFO := Lib.hid (armsErr_forces hF)
  have HXS := Lib.hid (arms_parts hF).2.2
  have HXL := Lib.hid hxl
  have hxn : xs.length ≤ 1000000 := by omega
  have hTb : 1 ≤ T ∧ T ≤ 1000000000000 := by omega
  obtain ⟨hT1, hT2⟩ := hTb
  cases hsh : sharesOf X with
  | none =>
    have HSH := Lib.hid hsh
    clear hfw hE hl hxl hps hF hbg hX hT a1 a2 a3 a4 a5 a6 a7 a8 hsh
    go_enter Try.func4, Try.ntmps4
    have R0_0 := Lib.hid hx
    clear hx
    have R1_0 := Lib.hid hy
    clear hy
    go_wp2_with fail
    refine (awake_any _).mono ?_
    rintro e w1 ⟨rfl, hb⟩
    have HB1 := Lib.hid (show Below w.heap.size w w1 from step_below hb (by repeat' (first | exact Below.refl _ _ | exact HB0.out | refine below_drewN ?_ _ | refine Below.drew ?_ | refine Below.alloc ?_ (by first | omega | (simp; done) | (simp; omega) | (simp [World.setCell]; omega)) _ | refine Below.setCell ?_ (by first | omega | (simp; done) | (simp; omega)) _ | assumption)))
    have hL1 := Lib.hid (show Below w.heap.size w _ from reads_mid hb (by repeat' (first | exact Below.refl _ _ | refine below_drewN ?_ _ | refine Below.drew ?_ | refine Below.alloc ?_ (by first | omega | (simp; done) | (simp; omega) | (simp [World.setCell]; omega)) _ | refine Below.setCell ?_ (by first | omega | (simp; done) | (simp; omega)) _)))
    have R0_1 := Lib.hid (reads_lay hb hL1.out R0_0.out)
    have R1_1 := Lib.hid (reads_lay hb hL1.out R1_0.out)
    clear hL1 R0_0 R1_0
    have hz1 := hb.size
    try simp only [World.size_alloc, World.drewN, World.drew] at hz1
    clear hb
    go_wp2_with fail
    refine (few_is l hfits A n c _ true HF.out _ R0_1.out (by omega)).mono ?_
    rintro e w' ⟨rfl, rfl⟩
    go_wp2_with fail
    refine (copied_any A n c _ l _ R0_1.out (Nat.le_refl _) (by omega)).mono ?_
    rintro e w2 ⟨A2, c2, rfl, hb, hr, -⟩
    have HB2 := Lib.hid (show Below w.heap.size w w2 from step_below hb (by repeat' (first | exact Below.refl _ _ | exact HB1.out | refine below_drewN ?_ _ | refine Below.drew ?_ | refine Below.alloc ?_ (by first | omega | (simp; done) | (simp; omega) | (simp [World.setCell]; omega)) _ | refine Below.setCell ?_ (by first | omega | (simp; done) | (simp; omega)) _ | assumption)))
    have hL2 := Lib.hid (show Below w1.heap.size w1 _ from reads_mid hb (by repeat' (first | exact Below.refl _ _ | refine below_drewN ?_ _ | refine Below.drew ?_ | refine Below.alloc ?_ (by first | omega | (simp; done) | (simp; omega) | (simp [World.setCell]; omega)) _ | refine Below.setCell ?_ (by first | omega | (simp; done) | (simp; omega)) _)))
    have R0_2 := Lib.hid (reads_lay hb hL2.out R0_1.out)
    have R1_2 := Lib.hid (reads_lay hb hL2.out R1_1.out)
    clear hL2 R0_1 R1_1
    have hz2 := hb.size
    try simp only [World.size_alloc, World.drewN, World.drew] at hz2
    clear hb
    have R2_2 := Lib.hid hr
    clear hr
    go_wp2_with fail
    refine (copyints_any B m cb _ xs _ R1_2.out (Nat.le_refl _) (by omega)).mono ?_
    rintro e w3 ⟨A3, c3, rfl, hb, hr, -⟩
    have HB3 := Lib.hid (show Below w.heap.size w w3 from step_below hb (by repeat' (first | exact Below.refl _ _ | exact HB2.out | refine below_drewN ?_ _ | refine Below.drew ?_ | refine Below.alloc ?_ (by first | omega | (simp; done) | (simp; omega) | (simp [World.setCell]; omega)) _ | refine Below.setCell ?_ (by first | omega | (simp; done) | (simp; omega)) _ | assumption)))
    have hL3 := Lib.hid (show Below w2.heap.size w2 _ from reads_mid hb (by repeat' (first | exact Below.refl _ _ | refine below_drewN ?_ _ | refine Below.drew ?_ | refine Below.alloc ?_ (by first | omega | (simp; done) | (simp; omega) | (simp [World.setCell]; omega)) _ | refine Below.setCell ?_ (by first | omega | (simp; done) | (simp; omega)) _)))
    have R0_3 := Lib.hid (reads_lay hb hL3.out R0_2.out)
    have R1_3 := Lib.hid (reads_lay hb hL3.out R1_2.out)
    have R2_3 := Lib.hid (reads_lay hb hL3.out R2_2.out)
    clear hL3 R0_2 R1_2 R2_2
    have hz3 := hb.size
    try simp only [World.size_alloc, World.drewN, World.drew] at hz3
    clear hb
    have R3_3 := Lib.hid hr
    clear hr
    go_wp2_with fail
    refine (arms_good l hfits A2 n c2 A3 m c3 xs X _ R2_3.out (by omega) R3_3.out (by omega) HE.out ps HP.out hpl hbl HFE.out HBG.out HXX.out).mono ?_
    rintro e w4 ⟨hb, A4, c4, rfl, hr⟩
    have HB4 := Lib.hid (show Below w.heap.size w w4 from step_below hb (by repeat' (first | exact Below.refl _ _ | exact HB3.out | refine below_drewN ?_ _ | refine Below.drew ?_ | refine Below.alloc ?_ (by first | omega | (simp; done) | (simp; omega) | (simp [World.setCell]; omega)) _ | refine Below.setCell ?_ (by first | omega | (simp; done) | (simp; omega)) _ | assumption)))
    have hL4 := Lib.hid (show Below w3.heap.size w3 _ from reads_mid hb (by repeat' (first | exact Below.refl _ _ | refine below_drewN ?_ _ | refine Below.drew ?_ | refine Below.alloc ?_ (by first | omega | (simp; done) | (simp; omega) | (simp [World.setCell]; omega)) _ | refine Below.setCell ?_ (by first | omega | (simp; done) | (simp; omega)) _)))
    have R0_4 := Lib.hid (reads_lay hb hL4.out R0_3.out)
    have R1_4 := Lib.hid (reads_lay hb hL4.out R1_3.out)
    have R2_4 := Lib.hid (reads_lay hb hL4.out R2_3.out)
    have R3_4 := Lib.hid (reads_lay hb hL4.out R3_3.out)
    clear hL4 R0_3 R1_3 R2_3 R3_3
    have hz4 := hb.size
    try simp only [World.size_alloc, World.drewN, World.drew] at hz4
    clear hb
    have R4_4 := Lib.hid hr
    clear hr
    go_wp2_with fail
    refine (rchecktree_is l hfits A n c _ 0 HE.out _ R0_4.out (Nat.le_refl _) (by omega) hnc hcm).mono ?_
    rintro e w5 ⟨rfl, hb⟩
    have HB5 := Lib.hid (show Below w.heap.size w w5 from step_below hb (by repeat' (first | exact Below.refl _ _ | exact HB4.out | refine below_drewN ?_ _ | refine Below.drew ?_ | refine Below.alloc ?_ (by first | omega | (simp; done) | (simp; omega) | (simp [World.setCell]; omega)) _ | refine Below.setCell ?_ (by first | omega | (simp; done) | (simp; omega)) _ | assumption)))
    have hL5 := Lib.hid (show Below w4.heap.size w4 _ from reads_mid hb (by repeat' (first | exact Below.refl _ _ | refine below_drewN ?_ _ | refine Below.drew ?_ | refine Below.alloc ?_ (by first | omega | (simp; done) | (simp; omega) | (simp [World.setCell]; omega)) _ | refine Below.setCell ?_ (by first | omega | (simp; done) | (simp; omega)) _)))
    have R0_5 := Lib.hid (reads_lay hb hL5.out R0_4.out)
    have R1_5 := Lib.hid (reads_lay hb hL5.out R1_4.out)
    have R2_5 := Lib.hid (reads_lay hb hL5.out R2_4.out)
    have R3_5 := Lib.hid (reads_lay hb hL5.out R3_4.out)
    have R4_5 := Lib.hid (reads_lay hb hL5.out R4_4.out)
    clear hL5 R0_4 R1_4 R2_4 R3_4 R4_4
    have hz5 := hb.size
    try simp only [World.size_alloc, World.drewN, World.drew] at hz5
    clear hb
    go_wp2_with fail
    refine (rarms_good l hfits A n c B m cb xs X _ R0_5.out (by omega) R1_5.out (by omega) HE.out ps HP.out hpl hbl HFE.out HBG.out HXX.out).mono ?_
    rintro e w6 ⟨hb, A6, c6, rfl, hr⟩
    have HB6 := Lib.hid (show Below w.heap.size w w6 from step_below hb (by repeat' (first | exact Below.refl _ _ | exact HB5.out | refine below_drewN ?_ _ | refine Below.drew ?_ | refine Below.alloc ?_ (by first | omega | (simp; done) | (simp; omega) | (simp [World.setCell]; omega)) _ | refine Below.setCell ?_ (by first | omega | (simp; done) | (simp; omega)) _ | assumption)))
    have hL6 := Lib.hid (show Below w5.heap.size w5 _ from reads_mid hb (by repeat' (first | exact Below.refl _ _ | refine below_drewN ?_ _ | refine Below.drew ?_ | refine Below.alloc ?_ (by first | omega | (simp; done) | (simp; omega) | (simp [World.setCell]; omega)) _ | refine Below.setCell ?_ (by first | omega | (simp; done) | (simp; omega)) _)))
    have R0_6 := Lib.hid (reads_lay hb hL6.out R0_5.out)
    have R1_6 := Lib.hid (reads_lay hb hL6.out R1_5.out)
    have R2_6 := Lib.hid (reads_lay hb hL6.out R2_5.out)
    have R3_6 := Lib.hid (reads_lay hb hL6.out R3_5.out)
    have R4_6 := Lib.hid (reads_lay hb hL6.out R4_5.out)
    clear hL6 R0_5 R1_5 R2_5 R3_5 R4_5
    have hz6 := hb.size
    try simp only [World.size_alloc, World.drewN, World.drew] at hz6
    clear hb
    have R5_6 := Lib.hid hr
    clear hr
    go_wp2_with fail
    refine (same_any A4 A6 c4 c6 n X _ _ R4_6.out R5_6.out (by omega)).mono ?_
    rintro e w7 ⟨rfl, q, hw⟩
    have hb : Below w6.heap.size w6 w7 := by rw [hw]; exact below_drewN (Below.refl _ _) q
    clear hw
    have HB7 := Lib.hid (show Below w.heap.size w w7 from step_below hb (by repeat' (first | exact Below.refl _ _ | exact HB6.out | refine below_drewN ?_ _ | refine Below.drew ?_ | refine Below.alloc ?_ (by first | omega | (simp; done) | (simp; omega) | (simp [World.setCell]; omega)) _ | refine Below.setCell ?_ (by first | omega | (simp; done) | (simp; omega)) _ | assumption)))
    have hL7 := Lib.hid (show Below w6.heap.size w6 _ from reads_mid hb (by repeat' (first | exact Below.refl _ _ | refine below_drewN ?_ _ | refine Below.drew ?_ | refine Below.alloc ?_ (by first | omega | (simp; done) | (simp; omega) | (simp [World.setCell]; omega)) _ | refine Below.setCell ?_ (by first | omega | (simp; done) | (simp; omega)) _)))
    have R0_7 := Lib.hid (reads_lay hb hL7.out R0_6.out)
    have R1_7 := Lib.hid (reads_lay hb hL7.out R1_6.out)
    have R2_7 := Lib.hid (reads_lay hb hL7.out R2_6.out)
    have R3_7 := Lib.hid (reads_lay hb hL7.out R3_6.out)
    have R4_7 := Lib.hid (reads_lay hb hL7.out R4_6.out)
    have R5_7 := Lib.hid (reads_lay hb hL7.out R5_6.out)
    clear hL7 R0_6 R1_6 R2_6 R3_6 R4_6 R5_6
    have hz7 := hb.size
    try simp only [World.size_alloc, World.drewN, World.drew] at hz7
    clear hb
    go_wp2_with fail
    refine (copied_any A4 n c4 _ X _ R4_7.out (Nat.le_refl _) (by omega)).mono ?_
    rintro e w8 ⟨A8, c8, rfl, hb, hr, -⟩
    have HB8 := Lib.hid (show Below w.heap.size w w8 from step_below hb (by repeat' (first | exact Below.refl _ _ | exact HB7.out | refine below_drewN ?_ _ | refine Below.drew ?_ | refine Below.alloc ?_ (by first | omega | (simp; done) | (simp; omega) | (simp [World.setCell]; omega)) _ | refine Below.setCell ?_ (by first | omega | (simp; done) | (simp; omega)) _ | assumption)))
    have hL8 := Lib.hid (show Below w7.heap.size w7 _ from reads_mid hb (by repeat' (first | exact Below.refl _ _ | refine below_drewN ?_ _ | refine Below.drew ?_ | refine Below.alloc ?_ (by first | omega | (simp; done) | (simp; omega) | (simp [World.setCell]; omega)) _ | refine Below.setCell ?_ (by first | omega | (simp; done) | (simp; omega)) _)))
    have R0_8 := Lib.hid (reads_lay hb hL8.out R0_7.out)
    have R1_8 := Lib.hid (reads_lay hb hL8.out R1_7.out)
    have R2_8 := Lib.hid (reads_lay hb hL8.out R2_7.out)
    have R3_8 := Lib.hid (reads_lay hb hL8.out R3_7.out)
    have R4_8 := Lib.hid (reads_lay hb hL8.out R4_7.out)
    have R5_8 := Lib.hid (reads_lay hb hL8.out R5_7.out)
    clear hL8 R0_7 R1_7 R2_7 R3_7 R4_7 R5_7
    have hz8 := hb.size
    try simp only [World.size_alloc, World.drewN, World.drew] at hz8
    clear hb
    have R6_8 := Lib.hid hr
    clear hr
    go_wp2_with fail
    refine (copyints_any B m cb _ xs _ R1_8.out (Nat.le_refl _) (by omega)).mono ?_
    rintro e w9 ⟨A9, c9, rfl, hb, hr, -⟩
    have HB9 := Lib.hid (show Below w.heap.size w w9 from step_below hb (by repeat' (first | exact Below.refl _ _ | exact HB8.out | refine below_drewN ?_ _ | refine Below.drew ?_ | refine Below.alloc ?_ (by first | omega | (simp; done) | (simp; omega) | (simp [World.setCell]; omega)) _ | refine Below.setCell ?_ (by first | omega | (simp; done) | (simp; omega)) _ | assumption)))
    have hL9 := Lib.hid (show Below w8.heap.size w8 _ from reads_mid hb (by repeat' (first | exact Below.refl _ _ | refine below_drewN ?_ _ | refine Below.drew ?_ | refine Below.alloc ?_ (by first | omega | (simp; done) | (simp; omega) | (simp [World.setCell]; omega)) _ | refine Below.setCell ?_ (by first | omega | (simp; done) | (simp; omega)) _)))
    have R0_9 := Lib.hid (reads_lay hb hL9.out R0_8.out)
    have R1_9 := Lib.hid (reads_lay hb hL9.out R1_8.out)
    have R2_9 := Lib.hid (reads_lay hb hL9.out R2_8.out)
    have R3_9 := Lib.hid (reads_lay hb hL9.out R3_8.out)
    have R4_9 := Lib.hid (reads_lay hb hL9.out R4_8.out)
    have R5_9 := Lib.hid (reads_lay hb hL9.out R5_8.out)
    have R6_9 := Lib.hid (reads_lay hb hL9.out R6_8.out)
    clear hL9 R0_8 R1_8 R2_8 R3_8 R4_8 R5_8 R6_8
    have hz9 := hb.size
    try simp only [World.size_alloc, World.drewN, World.drew] at hz9
    clear hb
    have R7_9 := Lib.hid hr
    clear hr
    go_wp2_with fail
    refine (unb_zero X HFX.out A8 n c8 A9 m c9 xs _ R6_9.out (by omega) R7_9.out (by omega) HX0.out ps HPX.out hpl HBX.out HFO.out HU.out).mono ?_
    rintro e w10 ⟨hb, A10, c10, rfl⟩
    have HB10 := Lib.hid (show Below w.heap.size w w10 from step_below hb (by repeat' (first | exact Below.refl _ _ | exact HB9.out | refine below_drewN ?_ _ | refine Below.drew ?_ | refine Below.alloc ?_ (by first | omega | (simp; done) | (simp; omega) | (simp [World.setCell]; omega)) _ | refine Below.setCell ?_ (by first | omega | (simp; done) | (simp; omega)) _ | assumption)))
    have hL10 := Lib.hid (show Below w9.heap.size w9 _ from reads_mid hb (by repeat' (first | exact Below.refl _ _ | refine below_drewN ?_ _ | refine Below.drew ?_ | refine Below.alloc ?_ (by first | omega | (simp; done) | (simp; omega) | (simp [World.setCell]; omega)) _ | refine Below.setCell ?_ (by first | omega | (simp; done) | (simp; omega)) _)))
    have R0_10 := Lib.hid (reads_lay hb hL10.out R0_9.out)
    have R1_10 := Lib.hid (reads_lay hb hL10.out R1_9.out)
    have R2_10 := Lib.hid (reads_lay hb hL10.out R2_9.out)
    have R3_10 := Lib.hid (reads_lay hb hL10.out R3_9.out)
    have R4_10 := Lib.hid (reads_lay hb hL10.out R4_9.out)
    have R5_10 := Lib.hid (reads_lay hb hL10.out R5_9.out)
    have R6_10 := Lib.hid (reads_lay hb hL10.out R6_9.out)
    have R7_10 := Lib.hid (reads_lay hb hL10.out R7_9.out)
    clear hL10 R0_9 R1_9 R2_9 R3_9 R4_9 R5_9 R6_9 R7_9
    have hz10 := hb.size
    try simp only [World.size_alloc, World.drewN, World.drew] at hz10
    clear hb
    go_wp2_with fail
    refine (copied_any A4 n c4 _ X _ R4_10.out (Nat.le_refl _) (by omega)).mono ?_
    rintro e w11 ⟨A11, c11, rfl, hb, hr, -⟩
    have HB11 := Lib.hid (show Below w.heap.size w w11 from step_below hb (by repeat' (first | exact Below.refl _ _ | exact HB10.out | refine below_drewN ?_ _ | refine Below.drew ?_ | refine Below.alloc ?_ (by first | omega | (simp; done) | (simp; omega) | (simp [World.setCell]; omega)) _ | refine Below.setCell ?_ (by first | omega | (simp; done) | (simp; omega)) _ | assumption)))
    have hL11 := Lib.hid (show Below w10.heap.size w10 _ from reads_mid hb (by repeat' (first | exact Below.refl _ _ | refine below_drewN ?_ _ | refine Below.drew ?_ | refine Below.alloc ?_ (by first | omega | (simp; done) | (simp; omega) | (simp [World.setCell]; omega)) _ | refine Below.setCell ?_ (by first | omega | (simp; done) | (simp; omega)) _)))
    have R0_11 := Lib.hid (reads_lay hb hL11.out R0_10.out)
    have R1_11 := Lib.hid (reads_lay hb hL11.out R1_10.out)
    have R2_11 := Lib.hid (reads_lay hb hL11.out R2_10.out)
    have R3_11 := Lib.hid (reads_lay hb hL11.out R3_10.out)
    have R4_11 := Lib.hid (reads_lay hb hL11.out R4_10.out)
    have R5_11 := Lib.hid (reads_lay hb hL11.out R5_10.out)
    have R6_11 := Lib.hid (reads_lay hb hL11.out R6_10.out)
    have R7_11 := Lib.hid (reads_lay hb hL11.out R7_10.out)
    clear hL11 R0_10 R1_10 R2_10 R3_10 R4_10 R5_10 R6_10 R7_10
    have hz11 := hb.size
    try simp only [World.size_alloc, World.drewN, World.drew] at hz11
    clear hb
    have R8_11 := Lib.hid hr
    clear hr
    go_wp2_with fail
    refine (shares_none X HFX.out A11 n c11 _ ps _ (by omega) R8_11.out (Nat.le_refl _) HX0.out HPX.out hpl HSH.out).mono ?_
    rintro e w12 ⟨rfl, hb⟩
    have HB12 := Lib.hid (show Below w.heap.size w w12 from step_below hb (by repeat' (first | exact Below.refl _ _ | exact HB11.out | refine below_drewN ?_ _ | refine Below.drew ?_ | refine Below.alloc ?_ (by first | omega | (simp; done) | (simp; omega) | (simp [World.setCell]; omega)) _ | refine Below.setCell ?_ (by first | omega | (simp; done) | (simp; omega)) _ | assumption)))
    have hL12 := Lib.hid (show Below w11.heap.size w11 _ from reads_mid hb (by repeat' (first | exact Below.refl _ _ | refine below_drewN ?_ _ | refine Below.drew ?_ | refine Below.alloc ?_ (by first | omega | (simp; done) | (simp; omega) | (simp [World.setCell]; omega)) _ | refine Below.setCell ?_ (by first | omega | (simp; done) | (simp; omega)) _)))
    have R0_12 := Lib.hid (reads_lay hb hL12.out R0_11.out)
    have R1_12 := Lib.hid (reads_lay hb hL12.out R1_11.out)
    have R2_12 := Lib.hid (reads_lay hb hL12.out R2_11.out)
    have R3_12 := Lib.hid (reads_lay hb hL12.out R3_11.out)
    have R4_12 := Lib.hid (reads_lay hb hL12.out R4_11.out)
    have R5_12 := Lib.hid (reads_lay hb hL12.out R5_11.out)
    have R6_12 := Lib.hid (reads_lay hb hL12.out R6_11.out)
    have R7_12 := Lib.hid (reads_lay hb hL12.out R7_11.out)
    have R8_12 := Lib.hid (reads_lay hb hL12.out R8_11.out)
    clear hL12 R0_11 R1_11 R2_11 R3_11 R4_11 R5_11 R6_11 R7_11 R8_11
    have hz12 := hb.size
    try simp only [World.size_alloc, World.drewN, World.drew] at hz12
    clear hb
    go_wp2
    go_loop [14, 15] (fun s i => ∃ k : Nat, k ≤ m ∧ i = .int .i64 k ∧ s = .int .i64 (sumI (xs.take k))) (fun _ i => m - (intOf i).toNat)
    case atStart => exact ⟨0, by omega, rfl, rfl⟩
    case round =>
      obtain ⟨k, hk, rfl, rfl⟩ := hrel
      obtain ⟨t, ht⟩ : ∃ t, sumI (xs.take k) = t := ⟨_, rfl⟩
      have htb := sumI_bound (xs.take k) 0 (fun z hz => HXS.out z (List.mem_of_mem_take hz))
      have htl : (xs.take k).length ≤ m := by rw [List.length_take]; omega
      have htt : (xs.take k).foldl (fun t z => t + z) 0 = t := ht
      rw [htt] at htb
      rw [ht]
      by_cases hlt : k < m
      · obtain ⟨yb, yo, z, rfl, hyb, hz, d0⟩ := int_at R1_12.out hlt
        have hzb := HXS.out z (List.mem_of_getElem? hz)
        have hs : sumI (xs.take (k + 1)) = t + z := by rw [List.take_add_one, hz, ← ht]; exact sumI_snoc _ _
        have HS := Lib.hid hs
        clear hz ht htt hs
        go_wp2
        go_round
        case rel => exact ⟨k + 1, by omega, by go_num, by rw [HS.out]⟩
        case measure => simp [intOf]; omega
      have htT : t = T := by rw [← ht, List.take_of_length_le (by rw [HXL.out]; omega)]; exact HT.out
      subst htT
      clear ht htt htb htl
      go_wp2
      go_loop [16] (fun i => i = .int .i64 0) (fun _ => 0)
      case atStart => rfl
      case round =>
        obtain rfl := hrel
        go_wp2
        go_ret
        exact ⟨rfl, by repeat' (first | exact Below.refl _ _ | exact HB12.out | refine below_drewN ?_ _ | refine Below.drew ?_ | refine Below.alloc ?_ (by first | omega | (simp; done) | (simp; omega) | (simp [World.setCell]; omega)) _ | refine Below.setCell ?_ (by first | omega | (simp; done) | (simp; omega)) _ | assumption)⟩
  | some ys =>
    have hys := a7 ys hsh
    have hyl : ys.length = m := by rw [hys, List.length_map, hxl]
    have HSH := Lib.hid hsh
    have HYS := Lib.hid hys
    have HYL := Lib.hid hyl
    clear hfw hE hl hxl hps hF hbg hX hT a1 a2 a3 a4 a5 a6 a7 a8 hsh hys hyl
    go_enter Try.func4, Try.ntmps4
    have R0_0 := Lib.hid hx
    clear hx
    have R1_0 := Lib.hid hy
    clear hy
    go_wp2_with fail
    refine (awake_any _).mono ?_
    rintro e w1 ⟨rfl, hb⟩
    have HB1 := Lib.hid (show Below w.heap.size w w1 from step_below hb (by repeat' (first | exact Below.refl _ _ | exact HB0.out | refine below_drewN ?_ _ | refine Below.drew ?_ | refine Below.alloc ?_ (by first | omega | (simp; done) | (simp; omega) | (simp [World.setCell]; omega)) _ | refine Below.setCell ?_ (by first | omega | (simp; done) | (simp; omega)) _ | assumption)))
    have hL1 := Lib.hid (show Below w.heap.size w _ from reads_mid hb (by repeat' (first | exact Below.refl _ _ | refine below_drewN ?_ _ | refine Below.drew ?_ | refine Below.alloc ?_ (by first | omega | (simp; done) | (simp; omega) | (simp [World.setCell]; omega)) _ | refine Below.setCell ?_ (by first | omega | (simp; done) | (simp; omega)) _)))
    have R0_1 := Lib.hid (reads_lay hb hL1.out R0_0.out)
    have R1_1 := Lib.hid (reads_lay hb hL1.out R1_0.out)
    clear hL1 R0_0 R1_0
    have hz1 := hb.size
    try simp only [World.size_alloc, World.drewN, World.drew] at hz1
    clear hb
    go_wp2_with fail
    refine (few_is l hfits A n c _ true HF.out _ R0_1.out (by omega)).mono ?_
    rintro e w' ⟨rfl, rfl⟩
    go_wp2_with fail
    refine (copied_any A n c _ l _ R0_1.out (Nat.le_refl _) (by omega)).mono ?_
    rintro e w2 ⟨A2, c2, rfl, hb, hr, -⟩
    have HB2 := Lib.hid (show Below w.heap.size w w2 from step_below hb (by repeat' (first | exact Below.refl _ _ | exact HB1.out | refine below_drewN ?_ _ | refine Below.drew ?_ | refine Below.alloc ?_ (by first | omega | (simp; done) | (simp; omega) | (simp [World.setCell]; omega)) _ | refine Below.setCell ?_ (by first | omega | (simp; done) | (simp; omega)) _ | assumption)))
    have hL2 := Lib.hid (show Below w1.heap.size w1 _ from reads_mid hb (by repeat' (first | exact Below.refl _ _ | refine below_drewN ?_ _ | refine Below.drew ?_ | refine Below.alloc ?_ (by first | omega | (simp; done) | (simp; omega) | (simp [World.setCell]; omega)) _ | refine Below.setCell ?_ (by first | omega | (simp; done) | (simp; omega)) _)))
    have R0_2 := Lib.hid (reads_lay hb hL2.out R0_1.out)
    have R1_2 := Lib.hid (reads_lay hb hL2.out R1_1.out)
    clear hL2 R0_1 R1_1
    have hz2 := hb.size
    try simp only [World.size_alloc, World.drewN, World.drew] at hz2
    clear hb
    have R2_2 := Lib.hid hr
    clear hr
    go_wp2_with fail
    refine (copyints_any B m cb _ xs _ R1_2.out (Nat.le_refl _) (by omega)).mono ?_
    rintro e w3 ⟨A3, c3, rfl, hb, hr, -⟩
    have HB3 := Lib.hid (show Below w.heap.size w w3 from step_below hb (by repeat' (first | exact Below.refl _ _ | exact HB2.out | refine below_drewN ?_ _ | refine Below.drew ?_ | refine Below.alloc ?_ (by first | omega | (simp; done) | (simp; omega) | (simp [World.setCell]; omega)) _ | refine Below.setCell ?_ (by first | omega | (simp; done) | (simp; omega)) _ | assumption)))
    have hL3 := Lib.hid (show Below w2.heap.size w2 _ from reads_mid hb (by repeat' (first | exact Below.refl _ _ | refine below_drewN ?_ _ | refine Below.drew ?_ | refine Below.alloc ?_ (by first | omega | (simp; done) | (simp; omega) | (simp [World.setCell]; omega)) _ | refine Below.setCell ?_ (by first | omega | (simp; done) | (simp; omega)) _)))
    have R0_3 := Lib.hid (reads_lay hb hL3.out R0_2.out)
    have R1_3 := Lib.hid (reads_lay hb hL3.out R1_2.out)
    have R2_3 := Lib.hid (reads_lay hb hL3.out R2_2.out)
    clear hL3 R0_2 R1_2 R2_2
    have hz3 := hb.size
    try simp only [World.size_alloc, World.drewN, World.drew] at hz3
    clear hb
    have R3_3 := Lib.hid hr
    clear hr
    go_wp2_with fail
    refine (arms_good l hfits A2 n c2 A3 m c3 xs X _ R2_3.out (by omega) R3_3.out (by omega) HE.out ps HP.out hpl hbl HFE.out HBG.out HXX.out).mono ?_
    rintro e w4 ⟨hb, A4, c4, rfl, hr⟩
    have HB4 := Lib.hid (show Below w.heap.size w w4 from step_below hb (by repeat' (first | exact Below.refl _ _ | exact HB3.out | refine below_drewN ?_ _ | refine Below.drew ?_ | refine Below.alloc ?_ (by first | omega | (simp; done) | (simp; omega) | (simp [World.setCell]; omega)) _ | refine Below.setCell ?_ (by first | omega | (simp; done) | (simp; omega)) _ | assumption)))
    have hL4 := Lib.hid (show Below w3.heap.size w3 _ from reads_mid hb (by repeat' (first | exact Below.refl _ _ | refine below_drewN ?_ _ | refine Below.drew ?_ | refine Below.alloc ?_ (by first | omega | (simp; done) | (simp; omega) | (simp [World.setCell]; omega)) _ | refine Below.setCell ?_ (by first | omega | (simp; done) | (simp; omega)) _)))
    have R0_4 := Lib.hid (reads_lay hb hL4.out R0_3.out)
    have R1_4 := Lib.hid (reads_lay hb hL4.out R1_3.out)
    have R2_4 := Lib.hid (reads_lay hb hL4.out R2_3.out)
    have R3_4 := Lib.hid (reads_lay hb hL4.out R3_3.out)
    clear hL4 R0_3 R1_3 R2_3 R3_3
    have hz4 := hb.size
    try simp only [World.size_alloc, World.drewN, World.drew] at hz4
    clear hb
    have R4_4 := Lib.hid hr
    clear hr
    go_wp2_with fail
    refine (rchecktree_is l hfits A n c _ 0 HE.out _ R0_4.out (Nat.le_refl _) (by omega) hnc hcm).mono ?_
    rintro e w5 ⟨rfl, hb⟩
    have HB5 := Lib.hid (show Below w.heap.size w w5 from step_below hb (by repeat' (first | exact Below.refl _ _ | exact HB4.out | refine below_drewN ?_ _ | refine Below.drew ?_ | refine Below.alloc ?_ (by first | omega | (simp; done) | (simp; omega) | (simp [World.setCell]; omega)) _ | refine Below.setCell ?_ (by first | omega | (simp; done) | (simp; omega)) _ | assumption)))
    have hL5 := Lib.hid (show Below w4.heap.size w4 _ from reads_mid hb (by repeat' (first | exact Below.refl _ _ | refine below_drewN ?_ _ | refine Below.drew ?_ | refine Below.alloc ?_ (by first | omega | (simp; done) | (simp; omega) | (simp [World.setCell]; omega)) _ | refine Below.setCell ?_ (by first | omega | (simp; done) | (simp; omega)) _)))
    have R0_5 := Lib.hid (reads_lay hb hL5.out R0_4.out)
    have R1_5 := Lib.hid (reads_lay hb hL5.out R1_4.out)
    have R2_5 := Lib.hid (reads_lay hb hL5.out R2_4.out)
    have R3_5 := Lib.hid (reads_lay hb hL5.out R3_4.out)
    have R4_5 := Lib.hid (reads_lay hb hL5.out R4_4.out)
    clear hL5 R0_4 R1_4 R2_4 R3_4 R4_4
    have hz5 := hb.size
    try simp only [World.size_alloc, World.drewN, World.drew] at hz5
    clear hb
    go_wp2_with fail
    refine (rarms_good l hfits A n c B m cb xs X _ R0_5.out (by omega) R1_5.out (by omega) HE.out ps HP.out hpl hbl HFE.out HBG.out HXX.out).mono ?_
    rintro e w6 ⟨hb, A6, c6, rfl, hr⟩
    have HB6 := Lib.hid (show Below w.heap.size w w6 from step_below hb (by repeat' (first | exact Below.refl _ _ | exact HB5.out | refine below_drewN ?_ _ | refine Below.drew ?_ | refine Below.alloc ?_ (by first | omega | (simp; done) | (simp; omega) | (simp [World.setCell]; omega)) _ | refine Below.setCell ?_ (by first | omega | (simp; done) | (simp; omega)) _ | assumption)))
    have hL6 := Lib.hid (show Below w5.heap.size w5 _ from reads_mid hb (by repeat' (first | exact Below.refl _ _ | refine below_drewN ?_ _ | refine Below.drew ?_ | refine Below.alloc ?_ (by first | omega | (simp; done) | (simp; omega) | (simp [World.setCell]; omega)) _ | refine Below.setCell ?_ (by first | omega | (simp; done) | (simp; omega)) _)))
    have R0_6 := Lib.hid (reads_lay hb hL6.out R0_5.out)
    have R1_6 := Lib.hid (reads_lay hb hL6.out R1_5.out)
    have R2_6 := Lib.hid (reads_lay hb hL6.out R2_5.out)
    have R3_6 := Lib.hid (reads_lay hb hL6.out R3_5.out)
    have R4_6 := Lib.hid (reads_lay hb hL6.out R4_5.out)
    clear hL6 R0_5 R1_5 R2_5 R3_5 R4_5
    have hz6 := hb.size
    try simp only [World.size_alloc, World.drewN, World.drew] at hz6
    clear hb
    have R5_6 := Lib.hid hr
    clear hr
    go_wp2_with fail
    refine (same_any A4 A6 c4 c6 n X _ _ R4_6.out R5_6.out (by omega)).mono ?_
    rintro e w7 ⟨rfl, q, hw⟩
    have hb : Below w6.heap.size w6 w7 := by rw [hw]; exact below_drewN (Below.refl _ _) q
    clear hw
    have HB7 := Lib.hid (show Below w.heap.size w w7 from step_below hb (by repeat' (first | exact Below.refl _ _ | exact HB6.out | refine below_drewN ?_ _ | refine Below.drew ?_ | refine Below.alloc ?_ (by first | omega | (simp; done) | (simp; omega) | (simp [World.setCell]; omega)) _ | refine Below.setCell ?_ (by first | omega | (simp; done) | (simp; omega)) _ | assumption)))
    have hL7 := Lib.hid (show Below w6.heap.size w6 _ from reads_mid hb (by repeat' (first | exact Below.refl _ _ | refine below_drewN ?_ _ | refine Below.drew ?_ | refine Below.alloc ?_ (by first | omega | (simp; done) | (simp; omega) | (simp [World.setCell]; omega)) _ | refine Below.setCell ?_ (by first | omega | (simp; done) | (simp; omega)) _)))
    have R0_7 := Lib.hid (reads_lay hb hL7.out R0_6.out)
    have R1_7 := Lib.hid (reads_lay hb hL7.out R1_6.out)
    have R2_7 := Lib.hid (reads_lay hb hL7.out R2_6.out)
    have R3_7 := Lib.hid (reads_lay hb hL7.out R3_6.out)
    have R4_7 := Lib.hid (reads_lay hb hL7.out R4_6.out)
    have R5_7 := Lib.hid (reads_lay hb hL7.out R5_6.out)
    clear hL7 R0_6 R1_6 R2_6 R3_6 R4_6 R5_6
    have hz7 := hb.size
    try simp only [World.size_alloc, World.drewN, World.drew] at hz7
    clear hb
    go_wp2_with fail
    refine (copied_any A4 n c4 _ X _ R4_7.out (Nat.le_refl _) (by omega)).mono ?_
    rintro e w8 ⟨A8, c8, rfl, hb, hr, -⟩
    have HB8 := Lib.hid (show Below w.heap.size w w8 from step_below hb (by repeat' (first | exact Below.refl _ _ | exact HB7.out | refine below_drewN ?_ _ | refine Below.drew ?_ | refine Below.alloc ?_ (by first | omega | (simp; done) | (simp; omega) | (simp [World.setCell]; omega)) _ | refine Below.setCell ?_ (by first | omega | (simp; done) | (simp; omega)) _ | assumption)))
    have hL8 := Lib.hid (show Below w7.heap.size w7 _ from reads_mid hb (by repeat' (first | exact Below.refl _ _ | refine below_drewN ?_ _ | refine Below.drew ?_ | refine Below.alloc ?_ (by first | omega | (simp; done) | (simp; omega) | (simp [World.setCell]; omega)) _ | refine Below.setCell ?_ (by first | omega | (simp; done) | (simp; omega)) _)))
    have R0_8 := Lib.hid (reads_lay hb hL8.out R0_7.out)
    have R1_8 := Lib.hid (reads_lay hb hL8.out R1_7.out)
    have R2_8 := Lib.hid (reads_lay hb hL8.out R2_7.out)
    have R3_8 := Lib.hid (reads_lay hb hL8.out R3_7.out)
    have R4_8 := Lib.hid (reads_lay hb hL8.out R4_7.out)
    have R5_8 := Lib.hid (reads_lay hb hL8.out R5_7.out)
    clear hL8 R0_7 R1_7 R2_7 R3_7 R4_7 R5_7
    have hz8 := hb.size
    try simp only [World.size_alloc, World.drewN, World.drew] at hz8
    clear hb
    have R6_8 := Lib.hid hr
    clear hr
    go_wp2_with fail
    refine (copyints_any B m cb _ xs _ R1_8.out (Nat.le_refl _) (by omega)).mono ?_
    rintro e w9 ⟨A9, c9, rfl, hb, hr, -⟩
    have HB9 := Lib.hid (show Below w.heap.size w w9 from step_below hb (by repeat' (first | exact Below.refl _ _ | exact HB8.out | refine below_drewN ?_ _ | refine Below.drew ?_ | refine Below.alloc ?_ (by first | omega | (simp; done) | (simp; omega) | (simp [World.setCell]; omega)) _ | refine Below.setCell ?_ (by first | omega | (simp; done) | (simp; omega)) _ | assumption)))
    have hL9 := Lib.hid (show Below w8.heap.size w8 _ from reads_mid hb (by repeat' (first | exact Below.refl _ _ | refine below_drewN ?_ _ | refine Below.drew ?_ | refine Below.alloc ?_ (by first | omega | (simp; done) | (simp; omega) | (simp [World.setCell]; omega)) _ | refine Below.setCell ?_ (by first | omega | (simp; done) | (simp; omega)) _)))
    have R0_9 := Lib.hid (reads_lay hb hL9.out R0_8.out)
    have R1_9 := Lib.hid (reads_lay hb hL9.out R1_8.out)
    have R2_9 := Lib.hid (reads_lay hb hL9.out R2_8.out)
    have R3_9 := Lib.hid (reads_lay hb hL9.out R3_8.out)
    have R4_9 := Lib.hid (reads_lay hb hL9.out R4_8.out)
    have R5_9 := Lib.hid (reads_lay hb hL9.out R5_8.out)
    have R6_9 := Lib.hid (reads_lay hb hL9.out R6_8.out)
    clear hL9 R0_8 R1_8 R2_8 R3_8 R4_8 R5_8 R6_8
    have hz9 := hb.size
    try simp only [World.size_alloc, World.drewN, World.drew] at hz9
    clear hb
    have R7_9 := Lib.hid hr
    clear hr
    go_wp2_with fail
    refine (unb_zero X HFX.out A8 n c8 A9 m c9 xs _ R6_9.out (by omega) R7_9.out (by omega) HX0.out ps HPX.out hpl HBX.out HFO.out HU.out).mono ?_
    rintro e w10 ⟨hb, A10, c10, rfl⟩
    have HB10 := Lib.hid (show Below w.heap.size w w10 from step_below hb (by repeat' (first | exact Below.refl _ _ | exact HB9.out | refine below_drewN ?_ _ | refine Below.drew ?_ | refine Below.alloc ?_ (by first | omega | (simp; done) | (simp; omega) | (simp [World.setCell]; omega)) _ | refine Below.setCell ?_ (by first | omega | (simp; done) | (simp; omega)) _ | assumption)))
    have hL10 := Lib.hid (show Below w9.heap.size w9 _ from reads_mid hb (by repeat' (first | exact Below.refl _ _ | refine below_drewN ?_ _ | refine Below.drew ?_ | refine Below.alloc ?_ (by first | omega | (simp; done) | (simp; omega) | (simp [World.setCell]; omega)) _ | refine Below.setCell ?_ (by first | omega | (simp; done) | (simp; omega)) _)))
    have R0_10 := Lib.hid (reads_lay hb hL10.out R0_9.out)
    have R1_10 := Lib.hid (reads_lay hb hL10.out R1_9.out)
    have R2_10 := Lib.hid (reads_lay hb hL10.out R2_9.out)
    have R3_10 := Lib.hid (reads_lay hb hL10.out R3_9.out)
    have R4_10 := Lib.hid (reads_lay hb hL10.out R4_9.out)
    have R5_10 := Lib.hid (reads_lay hb hL10.out R5_9.out)
    have R6_10 := Lib.hid (reads_lay hb hL10.out R6_9.out)
    have R7_10 := Lib.hid (reads_lay hb hL10.out R7_9.out)
    clear hL10 R0_9 R1_9 R2_9 R3_9 R4_9 R5_9 R6_9 R7_9
    have hz10 := hb.size
    try simp only [World.size_alloc, World.drewN, World.drew] at hz10
    clear hb
    go_wp2_with fail
    refine (copied_any A4 n c4 _ X _ R4_10.out (Nat.le_refl _) (by omega)).mono ?_
    rintro e w11 ⟨A11, c11, rfl, hb, hr, -⟩
    have HB11 := Lib.hid (show Below w.heap.size w w11 from step_below hb (by repeat' (first | exact Below.refl _ _ | exact HB10.out | refine below_drewN ?_ _ | refine Below.drew ?_ | refine Below.alloc ?_ (by first | omega | (simp; done) | (simp; omega) | (simp [World.setCell]; omega)) _ | refine Below.setCell ?_ (by first | omega | (simp; done) | (simp; omega)) _ | assumption)))
    have hL11 := Lib.hid (show Below w10.heap.size w10 _ from reads_mid hb (by repeat' (first | exact Below.refl _ _ | refine below_drewN ?_ _ | refine Below.drew ?_ | refine Below.alloc ?_ (by first | omega | (simp; done) | (simp; omega) | (simp [World.setCell]; omega)) _ | refine Below.setCell ?_ (by first | omega | (simp; done) | (simp; omega)) _)))
    have R0_11 := Lib.hid (reads_lay hb hL11.out R0_10.out)
    have R1_11 := Lib.hid (reads_lay hb hL11.out R1_10.out)
    have R2_11 := Lib.hid (reads_lay hb hL11.out R2_10.out)
    have R3_11 := Lib.hid (reads_lay hb hL11.out R3_10.out)
    have R4_11 := Lib.hid (reads_lay hb hL11.out R4_10.out)
    have R5_11 := Lib.hid (reads_lay hb hL11.out R5_10.out)
    have R6_11 := Lib.hid (reads_lay hb hL11.out R6_10.out)
    have R7_11 := Lib.hid (reads_lay hb hL11.out R7_10.out)
    clear hL11 R0_10 R1_10 R2_10 R3_10 R4_10 R5_10 R6_10 R7_10
    have hz11 := hb.size
    try simp only [World.size_alloc, World.drewN, World.drew] at hz11
    clear hb
    have R8_11 := Lib.hid hr
    clear hr
    go_wp2_with fail
    refine (shares_some X HFX.out A11 n c11 _ ps ys m HYL.out _ (by omega) R8_11.out (Nat.le_refl _) HX0.out HPX.out hpl HSH.out).mono ?_
    rintro e w12 ⟨hb, A12, c12, rfl, hr⟩
    have HB12 := Lib.hid (show Below w.heap.size w w12 from step_below hb (by repeat' (first | exact Below.refl _ _ | exact HB11.out | refine below_drewN ?_ _ | refine Below.drew ?_ | refine Below.alloc ?_ (by first | omega | (simp; done) | (simp; omega) | (simp [World.setCell]; omega)) _ | refine Below.setCell ?_ (by first | omega | (simp; done) | (simp; omega)) _ | assumption)))
    have hL12 := Lib.hid (show Below w11.heap.size w11 _ from reads_mid hb (by repeat' (first | exact Below.refl _ _ | refine below_drewN ?_ _ | refine Below.drew ?_ | refine Below.alloc ?_ (by first | omega | (simp; done) | (simp; omega) | (simp [World.setCell]; omega)) _ | refine Below.setCell ?_ (by first | omega | (simp; done) | (simp; omega)) _)))
    have R0_12 := Lib.hid (reads_lay hb hL12.out R0_11.out)
    have R1_12 := Lib.hid (reads_lay hb hL12.out R1_11.out)
    have R2_12 := Lib.hid (reads_lay hb hL12.out R2_11.out)
    have R3_12 := Lib.hid (reads_lay hb hL12.out R3_11.out)
    have R4_12 := Lib.hid (reads_lay hb hL12.out R4_11.out)
    have R5_12 := Lib.hid (reads_lay hb hL12.out R5_11.out)
    have R6_12 := Lib.hid (reads_lay hb hL12.out R6_11.out)
    have R7_12 := Lib.hid (reads_lay hb hL12.out R7_11.out)
    have R8_12 := Lib.hid (reads_lay hb hL12.out R8_11.out)
    clear hL12 R0_11 R1_11 R2_11 R3_11 R4_11 R5_11 R6_11 R7_11 R8_11
    have hz12 := hb.size
    try simp only [World.size_alloc, World.drewN, World.drew] at hz12
    clear hb
    have R9_12 := Lib.hid hr
    clear hr
    have hmm : ((m : Int) != (m : Int)) = false := by simp
    go_wp2
    go_loop [14, 15] (fun s i => ∃ k : Nat, k ≤ m ∧ i = .int .i64 k ∧ s = .int .i64 (sumI (xs.take k))) (fun _ i => m - (intOf i).toNat)
    case atStart => exact ⟨0, by omega, rfl, rfl⟩
    case round =>
      obtain ⟨k, hk, rfl, rfl⟩ := hrel
      obtain ⟨t, ht⟩ : ∃ t, sumI (xs.take k) = t := ⟨_, rfl⟩
      have htb := sumI_bound (xs.take k) 0 (fun z hz => HXS.out z (List.mem_of_mem_take hz))
      have htl : (xs.take k).length ≤ m := by rw [List.length_take]; omega
      have htt : (xs.take k).foldl (fun t z => t + z) 0 = t := ht
      rw [htt] at htb
      rw [ht]
      by_cases hlt : k < m
      · obtain ⟨yb, yo, z, rfl, hyb, hz, d0⟩ := int_at R1_12.out hlt
        have hzb := HXS.out z (List.mem_of_getElem? hz)
        have hs : sumI (xs.take (k + 1)) = t + z := by rw [List.take_add_one, hz, ← ht]; exact sumI_snoc _ _
        have HS := Lib.hid hs
        clear hz ht htt hs
        go_wp2
        go_round
        case rel => exact ⟨k + 1, by omega, by go_num, by rw [HS.out]⟩
        case measure => simp [intOf]; omega
      have htT : t = T := by rw [← ht, List.take_of_length_le (by rw [HXL.out]; omega)]; exact HT.out
      subst htT
      clear ht htt htb htl
      go_wp2
      go_loopw [16] (fun i wr => ∃ k : Nat, k ≤ m ∧ i = .int .i64 k ∧ Below w12.heap.size w12 wr) (fun i _ => m - (intOf i).toNat)
      case atStart => exact ⟨0, by omega, rfl, Below.refl _ _⟩
      case round =>
        obtain ⟨k, hk, rfl, hb⟩ := hrel
        have HBR := Lib.hid hb
        have hbr := hb.size
        clear hb
        by_cases hlt : k < m
        · obtain ⟨yb, yo, z, rfl, hyb, hz, d0⟩ := int_at R1_12.out hlt
          obtain ⟨zb, zo, p, rfl, hzb, hp, f0, f1⟩ := R9_12.out.pair hlt
          have hzz := HXS.out z (List.mem_of_getElem? hz)
          have hpe : p = (redN z t, redD z t) := by
            rw [HYS.out, List.getElem?_map, hz] at hp
            exact (Option.some.inj hp).symm
          subst hpe
          obtain ⟨x1, hx1⟩ : ∃ x, redN z t = x := ⟨_, rfl⟩
          obtain ⟨x2, hx2⟩ : ∃ x, redD z t = x := ⟨_, rfl⟩
          simp only [hx1, hx2] at f0 f1
          have HX1 := Lib.hid hx1
          have HX2 := Lib.hid hx2
          have d1 := (HBR.out.cell (p := ⟨yb, yo + k, none⟩) hyb).trans d0
          have g0 := (HBR.out.cell (p := ⟨zb, zo + k * 2, none⟩) hzb).trans f0
          have g1 := (HBR.out.cell (p := ⟨zb, zo + k * 2 + 1, none⟩) hzb).trans f1
          have hyr : yb < wr.heap.size := by omega
          have hzr : zb < wr.heap.size := by omega
          clear hz hp hx1 hx2 d0 f0 f1
          go_wp2
          refine Fx.regionW (fun W f w' => Below W.heap.size W w') (by kernel_rfl) (by kernel_rfl) ?_ ?_
          · intro f hf0
            exact below_drewN (Below.refl _ _) 1
          repeat (first
            | (refine Fx.skip_ (by rfl) (fun f w h => h) ?_; simp only [Act.put, List.setIfInBounds_toArray, List.set_cons_zero, List.set_cons_succ])
            | (refine Fx.val_ ?_ (by rfl) ?_ (fun f w h => h) ?_
               rotate_left
               · intro f w' hD hk
                 have hb := hD
                 have e1 := (hb.cell (p := ⟨yb, yo + k, none⟩) hyr).trans d1
                 have e2 := (hb.cell (p := ⟨zb, zo + k * 2, none⟩) hzr).trans g0
                 have e3 := (hb.cell (p := ⟨zb, zo + k * 2 + 1, none⟩) hzr).trans g1
                 clear hk hD hb
                 go_simp
                 try rfl
               simp only [Act.put, List.setIfInBounds_toArray, List.set_cons_zero, List.set_cons_succ]))
          refine Fx.call_ (.agg #[.int .i64 x1, .int .i64 x2]) ?_ ?_ (by rfl) ?_ ?_ ?_
          rotate_left 2
          · intro w'
            go_simp
            refine ⟨?_, ?_⟩ <;> rfl
          · intro f w' hD hk
            exact (lowest_red z t _ _ HX1.out HX2.out _ (by omega) (by omega) (by omega) (by omega)).mono fun e w'' ⟨he, hw⟩ => ⟨he, step_below hw hD⟩
          simp only [Act.put, List.setIfInBounds_toArray, List.set_cons_zero, List.set_cons_succ]
          repeat (first
            | (refine Fx.skip_ (by rfl) (fun f w h => h) ?_; simp only [Act.put, List.setIfInBounds_toArray, List.set_cons_zero, List.set_cons_succ])
            | (refine Fx.val_ ?_ (by rfl) ?_ (fun f w h => h) ?_
               rotate_left
               · intro f w' hD hk
                 have hb := hD
                 have e1 := (hb.cell (p := ⟨yb, yo + k, none⟩) hyr).trans d1
                 have e2 := (hb.cell (p := ⟨zb, zo + k * 2, none⟩) hzr).trans g0
                 have e3 := (hb.cell (p := ⟨zb, zo + k * 2 + 1, none⟩) hzr).trans g1
                 clear hk hD hb
                 go_simp
                 try rfl
               simp only [Act.put, List.setIfInBounds_toArray, List.set_cons_zero, List.set_cons_succ]))
          refine Fx.nil_ ?_
          intro f w13 hall hb
          clear hall
          have HB13 := Lib.hid (HBR.out.trans (hb.mono hbr))
          clear hb d1 g0 g1
          have hdd : (!decide ((x1, x2) = (x1, x2))) = false := by simp
          go_wp2
          go_roundw
          case rel => exact ⟨k + 1, by omega, by go_num, HB13.out⟩
          case measure => simp [intOf]; omega
        · have HBE := Lib.hid (HB12.out.trans (HBR.out.mono (HB12.out.size)))
          go_wp2
          go_ret
          exact ⟨rfl, HBE.out⟩

end Go.Proofs.Ytoiconebcmneiab

end
