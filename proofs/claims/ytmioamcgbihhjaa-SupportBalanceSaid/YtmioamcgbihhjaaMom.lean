/- The contracts of Moments and of Counterweight, of the program and of the reference. -/
import Derived.Test.YtmioamcgbihhjaaLoad
namespace Go.Proofs.Ytmioamcgbihhjaa
open Go.RowKit

theorem mom_bound {l : List (Int × Int × Int)} (h : ∀ p ∈ l, loadErr p = 0) : -100000000000000 * (l.length : Int) ≤ (momF l).1 ∧ (momF l).1 ≤ 100000000000000 * (l.length : Int) ∧ -100000000000000 * (l.length : Int) ≤ (momF l).2 ∧ (momF l).2 ≤ 100000000000000 * (l.length : Int) := by
  have key : ∀ (n : Nat) (l : List (Int × Int × Int)), l.length = n → (∀ p ∈ l, loadErr p = 0) → -100000000000000 * (l.length : Int) ≤ (momF l).1 ∧ (momF l).1 ≤ 100000000000000 * (l.length : Int) ∧ -100000000000000 * (l.length : Int) ≤ (momF l).2 ∧ (momF l).2 ≤ 100000000000000 * (l.length : Int) := by
    intro n
    induction n with
    | zero => intro l hl _; obtain rfl := List.length_eq_zero_iff.1 hl; decide
    | succ n ih =>
      intro l hl h
      have hne : l ≠ [] := fun e => by subst e; simp at hl
      have e := List.dropLast_concat_getLast hne
      have hd : l.dropLast.length = n := by simp [hl]
      obtain ⟨a1, a2, a3, a4⟩ := ih l.dropLast hd fun p hp => h p (List.dropLast_subset l hp)
      obtain ⟨b1, b2, b3, b4⟩ := load_prod (h (l.getLast hne) (List.getLast_mem hne))
      rw [← e, momF_snoc]
      rw [List.length_append, hd]
      rw [hd] at a1 a2 a3 a4
      simp only [List.length_cons, List.length_nil]
      push_cast
      omega
  exact key _ l rfl h

set_option maxRecDepth 100000 in
set_option maxHeartbeats 2000000 in
theorem moments_any (A : Option Addr) (n c N : Nat) (l : List (Int × Int × Int)) (w : World) (hx : Reads w N 3 A n (cells3 l)) (hN : N ≤ w.heap.size) (hn : n ≤ 9223372036854775807) (x y e : Int) (hR : (if loadsErr l ≠ 0 then ((0, 0), loadsErr l) else (momF l, 0)) = ((x, y), e)) :
    Calls Try.prog 42 #[.slice A n c] w fun en w' => en = .returned (.tuple #[.agg #[.int .i64 x, .int .i64 y], .int .i64 e]) ∧ Below w.heap.size w w' := by
  have hxl := hx.len3
  have HXL := Lib.hid hxl
  have HX := Lib.hid hx
  clear hx
  by_cases h60 : (60 : Int) < n
  · have hE : loadsErr l = 8 := by unfold loadsErr; rw [if_pos (by omega)]
    rw [hE, if_pos (by decide)] at hR
    cases hR
    clear hE hxl
    go_enter Try.func42, Try.ntmps42
    go_wp2
    exact bodyPost_ret (v := .tuple #[.agg #[.int .i64 0, .int .i64 0], .int .i64 8]) (by simp [results, Try.results42, go_sem]) rfl ⟨rfl, by repeat' (first | exact Below.refl _ _ | exact HB0.out | assumption | refine below_drewN ?_ _ | refine Below.drew ?_ | refine Below.alloc ?_ (by first | omega | (simp; done) | (simp; omega) | (simp [World.setCell]; omega)) _ | refine Below.setCell ?_ (by first | omega | (simp; done) | (simp; omega)) _)⟩
  have hE : loadsErr l = firstErr loadErr l := by unfold loadsErr; rw [if_neg (by omega)]
  rw [hE] at hR
  have HR := Lib.hid hR
  clear hE hR hxl
  go_enter Try.func42, Try.ntmps42
  go_wp2
  go_loopw [13] (fun i wr => ∃ (k : Nat) (a b : Int), k ≤ n ∧ i = .int .i64 k ∧ (∀ p ∈ l.take k, loadErr p = 0) ∧ Hid (momF (l.take k) = (a, b)) ∧ Below w.heap.size w wr ∧ Blk wr w.heap.size 51 #[.int .i64 0, .int .i64 0] ∧ Blk wr (w.heap.size + 1) 51 #[.int .i64 a, .int .i64 b]) (fun i _ => n - (intOf i).toNat)
  case atStart =>
    refine ⟨0, 0, 0, by omega, rfl, by simp, rfl, ?_, ?_, ?_⟩
    · repeat' (first | exact Below.refl _ _ | assumption | refine below_drewN ?_ _ | refine Below.drew ?_ | refine Below.alloc ?_ (by first | omega | (simp; done) | (simp; omega)) _ | refine Below.setCell ?_ (by first | omega | (simp; done) | (simp; omega)) _)
    · repeat' (first | assumption | exact Blk.at_ _ (by first | rfl | (simp; done) | (simp; omega)) _ _ | refine Blk.drewN ?_ _ | refine Blk.drew ?_ | refine Blk.alloc ?_ _ | refine Blk.far ?_ (by first | omega | (simp; done) | (simp; omega)) _)
    · repeat' (first | assumption | exact Blk.at_ _ (by first | rfl | (simp; done) | (simp; omega)) _ _ | refine Blk.drewN ?_ _ | refine Blk.drew ?_ | refine Blk.alloc ?_ _ | refine Blk.far ?_ (by first | omega | (simp; done) | (simp; omega)) _)
  case round =>
    obtain ⟨k, a, b, hk, rfl, ht, HM, hb, hk0, hk1⟩ := hrel
    by_cases hlt : k < n
    · obtain ⟨xb, xo, p, rfl, hxb, hp, c0, c1, c2⟩ := (HX.out.belowLe hb hN).triple hlt
      have hmb := mom_bound ht
      rw [HM.out, List.length_take, Nat.min_eq_left (by rw [HXL.out]; omega)] at hmb
      obtain ⟨b1, b2, b3, b4⟩ := hmb
      have z0 : wr.cell? ⟨w.heap.size + 1, 0, none⟩ = some (.int .i64 a) := hk1.cell 0
      have z1 : wr.cell? ⟨w.heap.size + 1, 1, none⟩ = some (.int .i64 b) := hk1.cell 1
      have z2 : wr.frozen? ⟨w.heap.size + 1, 0, none⟩ = false := hk1.frozen 0
      have z3 : wr.frozen? ⟨w.heap.size + 1, 1, none⟩ = false := hk1.frozen 1
      have z4 : wr.cell? ⟨w.heap.size, 0, none⟩ = some (.int .i64 0) := hk0.cell 0
      have z5 : wr.cell? ⟨w.heap.size, 1, none⟩ = some (.int .i64 0) := hk0.cell 1
      have z6 : wr.frozen? ⟨w.heap.size, 0, none⟩ = false := hk0.frozen 0
      have z7 : wr.frozen? ⟨w.heap.size, 1, none⟩ = false := hk0.frozen 1
      have lt0 := hk0.lt
      have lt1 := hk1.lt
      have HT := Lib.hid ht
      have HP := Lib.hid hp
      have HB := Lib.hid hb
      have K0 := Lib.hid hk0
      have K1 := Lib.hid hk1
      clear ht hp hb hk0 hk1
      by_cases h0 : loadErr p = 0
      · have hpr := load_prod h0
        obtain ⟨q1, q2, q3, q4, q5, q6⟩ := loadErr_zero h0
        obtain ⟨r1, r2, r3, r4⟩ := hpr
        have g1 := Lib.hid (within_mk q1 q2)
        have g2 := Lib.hid (within_mk q3 q4)
        have g3 := Lib.hid (within_mk q5 q6)
        have v1 := IntWalk.i64_in (p.1 * p.2.1) ⟨by omega, by omega⟩
        have v2 := IntWalk.i64_in (p.1 * p.2.2) ⟨by omega, by omega⟩
        have v3 := IntWalk.i64_in (a + p.1 * p.2.1) ⟨by omega, by omega⟩
        have v4 := IntWalk.i64_in (b + p.1 * p.2.2) ⟨by omega, by omega⟩
        have H0 := Lib.hid h0
        clear h0
        go_wp2_with fail
        refine (withinsup_is _ _ _ _ g1.out _).mono ?_
        rintro en w' ⟨rfl, rfl⟩
        go_wp2_with fail
        refine (withinsup_is _ _ _ _ g2.out _).mono ?_
        rintro en w' ⟨rfl, rfl⟩
        go_wp2_with fail
        refine (withinsup_is _ _ _ _ g3.out _).mono ?_
        rintro en w' ⟨rfl, rfl⟩
        go_wp2
        go_roundw
        case rel =>
          refine ⟨k + 1, a + p.1 * p.2.1, b + p.1 * p.2.2, by omega, by go_num, take_ok HP.out HT.out H0.out, ?_, ?_, ?_, ?_⟩
          · show _ = _
            rw [take_snoc HP.out, momF_snoc, HM.out]
          · exact ((HB.out.setCell (p := ⟨w.heap.size + 1, 0, none⟩) (by simp) _).setCell (p := ⟨w.heap.size + 1, 1, none⟩) (by simp) _).alloc (by simp [World.setCell]; omega) _
          · exact ((K0.out.far (p := ⟨w.heap.size + 1, 0, none⟩) (by simp) _).far (p := ⟨w.heap.size + 1, 1, none⟩) (by simp) _).alloc _
          · have := (K1.out.set_ 0 (.int .i64 (a + p.1 * p.2.1))).set_ 1 (.int .i64 (b + p.1 * p.2.2))
            simp only [List.setIfInBounds_toArray, List.set_cons_zero, List.set_cons_succ] at this
            exact this.alloc _
        case measure => simp [intOf]; omega
      · have hE2 := loadErr_two h0
        have hF := HR.out
        rw [firstErr_at HP.out HT.out h0, hE2, if_pos (by decide)] at hF
        cases hF
        have hcs : withinB p.1 0 10000000 = false ∨ (withinB p.1 0 10000000 = true ∧ withinB p.2.1 (-10000000) 10000000 = false) ∨ (withinB p.1 0 10000000 = true ∧ withinB p.2.1 (-10000000) 10000000 = true ∧ withinB p.2.2 (-10000000) 10000000 = false) := by
          cases g1 : withinB p.1 0 10000000 <;> cases g2 : withinB p.2.1 (-10000000) 10000000 <;> cases g3 : withinB p.2.2 (-10000000) 10000000 <;> simp
          refine h0 ?_
          have := within_yes g1
          have := within_yes g2
          have := within_yes g3
          unfold loadErr
          rw [if_pos (by omega)]
        have HCS := Lib.hid hcs
        clear hcs h0 hE2
        rcases HCS.out with h1 | ⟨h1, h2⟩ | ⟨h1, h2, h3⟩
        all_goals
          clear HCS
          go_wp2_with (first | (go_at_call 79; refine (withinsup_is _ _ _ _ (by assumption) _).mono ?_; rintro e w' ⟨rfl, rfl⟩))
          exact bodyPost_ret (v := .tuple #[.agg #[.int .i64 0, .int .i64 0], .int .i64 2]) (by simp [results, Try.results42, go_sem, z4, z5, lt0]) rfl ⟨rfl, ((HB.out.setCell (p := ⟨w.heap.size, 0, none⟩) (by simp) _).setCell (p := ⟨w.heap.size, 1, none⟩) (by simp) _).alloc (by simp [World.setCell]; omega) _⟩
    · have hok : ∀ p ∈ l, loadErr p = 0 := by rwa [List.take_of_length_le (by rw [HXL.out]; omega)] at ht
      have hF := HR.out
      rw [firstErr_ok hok, if_neg (by simp)] at hF
      have hM := HM.out
      rw [List.take_of_length_le (by rw [HXL.out]; omega)] at hM
      rw [hM] at hF
      cases hF
      have HB5 := Lib.hid hb
      have K0_5 := Lib.hid (show Blk wr (w.heap.size) 51 #[.int .i64 (0), .int .i64 (0)] from hk0)
      have K1_5 := Lib.hid (show Blk wr (w.heap.size + 1) 51 #[.int .i64 (x), .int .i64 (y)] from hk1)
      clear hb hk0 hk1
      have l0_5 : w.heap.size < wr.heap.size := K0_5.out.lt
      have z0_0_5 : wr.cell? ⟨w.heap.size, 0, none⟩ = some (.int .i64 (0)) := K0_5.out.cell 0
      have z0_1_5 : wr.cell? ⟨w.heap.size, 1, none⟩ = some (.int .i64 (0)) := K0_5.out.cell 1
      have l1_5 : w.heap.size + 1 < wr.heap.size := K1_5.out.lt
      have z1_0_5 : wr.cell? ⟨w.heap.size + 1, 0, none⟩ = some (.int .i64 (x)) := K1_5.out.cell 0
      have z1_1_5 : wr.cell? ⟨w.heap.size + 1, 1, none⟩ = some (.int .i64 (y)) := K1_5.out.cell 1
      have zf0_0 := K0_5.out.frozen 0
      have zf0_1 := K0_5.out.frozen 1
      clear ht hM hok
      go_wp2
      exact bodyPost_ret (v := .tuple #[.agg #[.int .i64 x, .int .i64 y], .int .i64 0]) (by simp [results, Try.results42, go_sem, z0_0_5, z0_1_5, z1_0_5, z1_1_5, l0_5, l1_5]) rfl ⟨rfl, by repeat' (first | exact Below.refl _ _ | exact HB5.out | assumption | refine below_drewN ?_ _ | refine Below.drew ?_ | refine Below.alloc ?_ (by first | omega | (simp; done) | (simp; omega) | (simp [World.setCell]; omega)) _ | refine Below.setCell ?_ (by first | omega | (simp; done) | (simp; omega)) _)⟩

set_option maxRecDepth 100000 in
set_option maxHeartbeats 2000000 in
theorem rmoments_any (A : Option Addr) (n c N : Nat) (l : List (Int × Int × Int)) (w : World) (hx : Reads w N 3 A n (cells3 l)) (hN : N ≤ w.heap.size) (h0 : loadsErr l = 0) (x y : Int) (hR : momF l = (x, y)) :
    Calls Try.prog 46 #[.slice A n c] w fun en w' => en = .returned (.agg #[.int .i64 x, .int .i64 y]) ∧ Below w.heap.size w w' := by
  have hxl := hx.len3
  obtain ⟨hlen, hok⟩ := loadsErr_ok h0
  have hn60 : n ≤ 60 := by omega
  have HXL := Lib.hid hxl
  have HX := Lib.hid hx
  have HOK := Lib.hid hok
  have HR := Lib.hid hR
  clear hx hok hR h0 hxl hlen
  go_enter Try.func46, Try.ntmps46
  go_wp2
  go_loopw [4] (fun i wr => ∃ (k : Nat) (a b : Int), k ≤ n ∧ i = .int .i64 k ∧ Hid (momF (l.take k) = (a, b)) ∧ Below w.heap.size w wr ∧ Blk wr w.heap.size 51 #[.int .i64 0, .int .i64 0] ∧ Blk wr (w.heap.size + 1) 51 #[.int .i64 a, .int .i64 b]) (fun i _ => n - (intOf i).toNat)
  case atStart =>
    refine ⟨0, 0, 0, by omega, rfl, rfl, ?_, ?_, ?_⟩
    · repeat' (first | exact Below.refl _ _ | assumption | refine below_drewN ?_ _ | refine Below.drew ?_ | refine Below.alloc ?_ (by first | omega | (simp; done) | (simp; omega)) _ | refine Below.setCell ?_ (by first | omega | (simp; done) | (simp; omega)) _)
    · repeat' (first | assumption | exact Blk.at_ _ (by first | rfl | (simp; done) | (simp; omega)) _ _ | refine Blk.drewN ?_ _ | refine Blk.drew ?_ | refine Blk.alloc ?_ _ | refine Blk.far ?_ (by first | omega | (simp; done) | (simp; omega)) _)
    · repeat' (first | assumption | exact Blk.at_ _ (by first | rfl | (simp; done) | (simp; omega)) _ _ | refine Blk.drewN ?_ _ | refine Blk.drew ?_ | refine Blk.alloc ?_ _ | refine Blk.far ?_ (by first | omega | (simp; done) | (simp; omega)) _)
  case round =>
    obtain ⟨k, a, b, hk, rfl, HM, hb, hk0, hk1⟩ := hrel
    by_cases hlt : k < n
    · obtain ⟨xb, xo, p, rfl, hxb, hp, c0, c1, c2⟩ := (HX.out.belowLe hb hN).triple hlt
      have hmb := mom_bound (l := l.take k) fun p hp => HOK.out p (List.mem_of_mem_take hp)
      rw [HM.out, List.length_take, Nat.min_eq_left (by rw [HXL.out]; omega)] at hmb
      obtain ⟨b1, b2, b3, b4⟩ := hmb
      obtain ⟨r1, r2, r3, r4⟩ := load_prod (HOK.out p (List.mem_of_getElem? hp))
      have v1 := IntWalk.i64_in (p.1 * p.2.1) ⟨by omega, by omega⟩
      have v2 := IntWalk.i64_in (p.1 * p.2.2) ⟨by omega, by omega⟩
      have v3 := IntWalk.i64_in (a + p.1 * p.2.1) ⟨by omega, by omega⟩
      have v4 := IntWalk.i64_in (b + p.1 * p.2.2) ⟨by omega, by omega⟩
      have v5 : IntKind.i64.wrap (k : Int) = (k : Int) := IntWalk.i64_in (k : Int) ⟨by omega, by omega⟩
      have v6 : (0 : Int) ≤ (k : Int) := by omega
      have v7 : (k : Int) < (n : Int) := by omega
      have hxg : xb < w.heap.size + 1 := by omega
      have lt0 := hk0.lt
      have lt1 := hk1.lt
      have HP := Lib.hid hp
      have HB := Lib.hid hb
      have K0 := Lib.hid hk0
      have K1 := Lib.hid hk1
      clear hp hb hk0 hk1
      go_wp2
      refine Fx.regionW (fun W f w' => UpD 51 (w.heap.size + 1) (.int .i64 (a)) (.int .i64 (b)) (.int .i64 (a + p.1 * p.2.1)) (.int .i64 (b + p.1 * p.2.2)) 29 31 W f w') (by kernel_rfl) (by kernel_rfl) ?_ ?_
      · intro f hf0
        exact UpD.start (below_drewN (Below.refl _ _) 1) (Blk.drewN K1.out 1) (hf0 29) (hf0 31)
      iterate 16 (first
        | (refine Fx.skip_ (by rfl) (fun f w h => h) ?_; simp only [Act.put, List.setIfInBounds_toArray, List.set_cons_zero, List.set_cons_succ])
        | (refine Fx.val_ ?_ (by rfl) ?_ (fun f w h => h) ?_
           rotate_left
           · intro f w' hD hk
             obtain ⟨hb, hrest⟩ := id hD
             have uq0 := (UpD.read0 hD (hk.2.1 29 (by kernel_rfl))).1
             have uq1 := (UpD.read1 hD (hk.2.1 31 (by kernel_rfl))).1
             have g0 := (hb.cell (p := ⟨xb, _, none⟩) hxg).trans c0
             have g1 := (hb.cell (p := ⟨xb, _, none⟩) hxg).trans c1
             have g2 := (hb.cell (p := ⟨xb, _, none⟩) hxg).trans c2
             clear hk hD hb hrest
             go_simp
             try rfl
           simp only [Act.put, List.setIfInBounds_toArray, List.set_cons_zero, List.set_cons_succ]))
      repeat (first
        | (refine Fx.skip_ (by rfl) (fun f w h => h) ?_; simp only [Act.put, List.setIfInBounds_toArray, List.set_cons_zero, List.set_cons_succ])
        | (refine Fx.val_ ?_ (by rfl) ?_ (fun f w h => h) ?_
           rotate_left
           · intro f w' hD hk
             obtain ⟨hb, hrest⟩ := id hD
             have g0 := (hb.cell (p := ⟨xb, _, none⟩) hxg).trans c0
             have g1 := (hb.cell (p := ⟨xb, _, none⟩) hxg).trans c1
             have g2 := (hb.cell (p := ⟨xb, _, none⟩) hxg).trans c2
             clear hk hD hb hrest
             go_simp
             try rfl
           simp only [Act.put, List.setIfInBounds_toArray, List.set_cons_zero, List.set_cons_succ]))
      refine Fx.store_ (fun w' => w'.setCell ⟨w.heap.size + 1, 0, none⟩ (.int .i64 (a + p.1 * p.2.1))) (by rfl) ?_ ?_ ?_
      · intro f w' hD hk
        obtain ⟨hb, hrest⟩ := id hD
        obtain ⟨uq0, uq1⟩ := UpD.read0 hD hk.1
        clear hb hrest
        clear hk hD
        go_simp
      · intro f w' hD hk
        obtain ⟨hb, hrest⟩ := id hD
        obtain ⟨uq0, uq1⟩ := UpD.read0 hD hk.1
        clear hb hrest
        exact hD.store0 (by decide)
      simp only [Act.put, List.setIfInBounds_toArray, List.set_cons_zero, List.set_cons_succ]
      repeat (first
        | (refine Fx.skip_ (by rfl) (fun f w h => h) ?_; simp only [Act.put, List.setIfInBounds_toArray, List.set_cons_zero, List.set_cons_succ])
        | (refine Fx.val_ ?_ (by rfl) ?_ (fun f w h => h) ?_
           rotate_left
           · intro f w' hD hk
             obtain ⟨hb, hrest⟩ := id hD
             have g0 := (hb.cell (p := ⟨xb, _, none⟩) hxg).trans c0
             have g1 := (hb.cell (p := ⟨xb, _, none⟩) hxg).trans c1
             have g2 := (hb.cell (p := ⟨xb, _, none⟩) hxg).trans c2
             clear hk hD hb hrest
             go_simp
             try rfl
           simp only [Act.put, List.setIfInBounds_toArray, List.set_cons_zero, List.set_cons_succ]))
      refine Fx.store_ (fun w' => w'.setCell ⟨w.heap.size + 1, 1, none⟩ (.int .i64 (b + p.1 * p.2.2))) (by rfl) ?_ ?_ ?_
      · intro f w' hD hk
        obtain ⟨hb, hrest⟩ := id hD
        obtain ⟨uq0, uq1⟩ := UpD.read1 hD hk.1
        clear hb hrest
        clear hk hD
        go_simp
      · intro f w' hD hk
        obtain ⟨hb, hrest⟩ := id hD
        obtain ⟨uq0, uq1⟩ := UpD.read1 hD hk.1
        clear hb hrest
        exact hD.store1 (by decide)
      simp only [Act.put, List.setIfInBounds_toArray, List.set_cons_zero, List.set_cons_succ]
      refine Fx.nil_ ?_
      intro f w1 hall hD
      obtain ⟨hb, hblk⟩ := UpD.end_ hD (hall 29 (by simp)) (hall 31 (by simp))
      clear hall hD
      have hb2 := HB.out.trans (hb.mono (by omega))
      have K0' := K0.out.below hb (by omega)
      have HB2 := Lib.hid hb2
      have K0'' := Lib.hid K0'
      have K1'' := Lib.hid hblk
      clear hb hb2 K0' hblk
      go_wp2
      go_roundw
      case rel => exact ⟨k + 1, _, _, by omega, by go_num, by show _ = _; rw [take_snoc HP.out, momF_snoc, HM.out], HB2.out, K0''.out, K1''.out⟩
      case measure => simp [intOf]; omega
    · have hM := HM.out
      rw [List.take_of_length_le (by rw [HXL.out]; omega), HR.out] at hM
      cases hM
      have HB5 := Lib.hid hb
      have K0_5 := Lib.hid (show Blk wr (w.heap.size) 51 #[.int .i64 (0), .int .i64 (0)] from hk0)
      have K1_5 := Lib.hid (show Blk wr (w.heap.size + 1) 51 #[.int .i64 (x), .int .i64 (y)] from hk1)
      clear hb hk0 hk1
      have l0_5 : w.heap.size < wr.heap.size := K0_5.out.lt
      have z0_0_5 : wr.cell? ⟨w.heap.size, 0, none⟩ = some (.int .i64 (0)) := K0_5.out.cell 0
      have z0_1_5 : wr.cell? ⟨w.heap.size, 1, none⟩ = some (.int .i64 (0)) := K0_5.out.cell 1
      have l1_5 : w.heap.size + 1 < wr.heap.size := K1_5.out.lt
      have z1_0_5 : wr.cell? ⟨w.heap.size + 1, 0, none⟩ = some (.int .i64 (x)) := K1_5.out.cell 0
      have z1_1_5 : wr.cell? ⟨w.heap.size + 1, 1, none⟩ = some (.int .i64 (y)) := K1_5.out.cell 1
      have zf0_0 := K0_5.out.frozen 0
      have zf0_1 := K0_5.out.frozen 1
      go_wp2
      exact bodyPost_ret (v := .agg #[.int .i64 x, .int .i64 y]) (by simp [results, Try.results46, go_sem, z0_0_5, z0_1_5, z1_0_5, z1_1_5, l0_5, l1_5]) rfl ⟨rfl, by repeat' (first | exact Below.refl _ _ | exact HB5.out | assumption | refine below_drewN ?_ _ | refine Below.drew ?_ | refine Below.alloc ?_ (by first | omega | (simp; done) | (simp; omega) | (simp [World.setCell]; omega)) _ | refine Below.setCell ?_ (by first | omega | (simp; done) | (simp; omega)) _)⟩

end Go.Proofs.Ytmioamcgbihhjaa
