import Derived.Test.YtmejiafmmmeloaaQ18
import Derived.Test.YtmejiafmmmeloaaQ23
import Derived.Test.YtmejiafmmmeloaaQ26
import Derived.Test.YtmejiafmmmeloaaQ6

section
/- The walk of the statement on mean squares. -/
namespace Go.Proofs.Ytmejiafmmmeloaa
open Go Go.RowKit

/-- What the program answers. -/
theorem Square_any (A : Option Addr) (n c : Nat) (l : List (Int × Int)) (E : Int) (hE : enclErr l = E) (hn : n ≤ 6 ∨ 10 < n) (w : World) (hx : Reads w w.heap.size 2 A n (cells2 l)) :
    Calls Try.prog 5 #[.slice A n c] w fun e w' => (∃ a b s v E', e = .returned (.tuple #[.agg #[.int .i64 a, .int .i64 b, .int .i64 s, .int .i64 v], .int .i64 E']) ∧
      ((E ≠ 0 ∧ a = 0 ∧ b = 0 ∧ s = 0 ∧ v = 0 ∧ E' = E) ∨ (E = 0 ∧ 10 < n ∧ a = 0 ∧ b = 0 ∧ s = 0 ∧ v = 0 ∧ E' = 8) ∨
       (E = 0 ∧ n ≤ 6 ∧ E' = 0 ∧ minK (levV l) (levF l).length = (a, b) ∧ maxK (a, b) (cornF l) (2 ^ n) = (s, v)))) ∧ Below w.heap.size w w' := by
  have hln : l.length = n := by have := hx.1; rw [cells2_length] at this; omega
  by_cases h0 : E = 0
  · subst h0
    rcases hn with hn | hn
    · obtain ⟨hr, hl1, -⟩ := rg_in hE
      refine (sqr_ok A n c l hE hn _ _ rfl rfl w hx).mono fun e w' ⟨⟨p, ⟨i, hi, hp⟩, he⟩, hb⟩ => ⟨⟨_, _, _, _, _, he, .inr (.inr ⟨rfl, hn, rfl, ?_⟩)⟩, hb⟩
      have h := squares_same (ends_sorted hr hl1) (by omega) hi hp
      rw [hln] at h
      exact h
    · exact (sqr_large A n c l hE hn w hx).mono fun e w' ⟨he, hb⟩ => ⟨⟨_, _, _, _, _, he, .inr (.inl ⟨rfl, hn, rfl, rfl, rfl, rfl, rfl⟩)⟩, hb⟩
  · exact (sqr_bad A n c l E hE h0 w hx).mono fun e w' ⟨he, hb⟩ => ⟨⟨_, _, _, _, _, he, .inl ⟨h0, rfl, rfl, rfl, rfl, rfl⟩⟩, hb⟩
set_option maxRecDepth 100000 in
set_option maxHeartbeats 8000000 in
theorem lawSQ_any (A : Option Addr) (n c : Nat) (l : List (Int × Int)) (w : World) (hnc : n ≤ c ∧ c ≤ 9223372036854775807) (hl : l.length = n) (_ : ∀ q ∈ l, I64 q.1 ∧ I64 q.2) (hx : Reads w w.heap.size 2 A n (cells2 l)) :
    Calls Try.prog 3 #[.slice A n c] w fun e w' => e = .returned (.bool true) ∧ Below w.heap.size w w' := by
  have HX := Lib.hid hx
  have HL := Lib.hid hl
  clear hx hl
  by_cases hn45 : n ≤ 45
  rotate_left
  · have d1 : decide ((6 : Int) < (n : Int)) = true := by simp; omega
    have d2 : decide ((n : Int) ≤ 10) = false := by simp; omega
    have d3 : decide ((45 : Int) < (n : Int)) = true := by simp; omega
    go_enter Try.func3, Try.ntmps3
    go_wp2_with fail
    refine (awake6_any _).mono ?_
    rintro e w1 ⟨rfl, hb⟩
    have HB1 := Lib.hid (show Below w.heap.size w w1 from step_below hb (by repeat' (first | exact Below.refl _ _ | exact HB0.out | refine below_drewN ?_ _ | refine Below.drew ?_ | refine Below.alloc ?_ (by first | omega | (simp; done) | (simp; omega) | (simp [World.setCell]; omega)) _ | refine Below.setCell ?_ (by first | omega | (simp; done) | (simp; omega)) _ | assumption)))
    have hz1 := hb.size
    try simp only [World.size_alloc, World.drewN, World.drew] at hz1
    clear hb
    go_wp2
    go_ret
    exact ⟨rfl, by repeat' (first | exact Below.refl _ _ | exact HB1.out | refine below_drewN ?_ _ | refine Below.drew ?_ | refine Below.alloc ?_ (by first | omega | (simp; done) | (simp; omega) | (simp [World.setCell]; omega)) _ | refine Below.setCell ?_ (by first | omega | (simp; done) | (simp; omega)) _ | assumption)⟩
  have d3 : decide ((45 : Int) < (n : Int)) = false := by simp; omega
  by_cases hmid : 6 < n ∧ n ≤ 10
  · have d1 : decide ((6 : Int) < (n : Int)) = true := by simp; omega
    have d2 : decide ((n : Int) ≤ 10) = true := by simp; omega
    go_enter Try.func3, Try.ntmps3
    go_wp2_with fail
    refine (awake6_any _).mono ?_
    rintro e w1 ⟨rfl, hb⟩
    have HB1 := Lib.hid (show Below w.heap.size w w1 from step_below hb (by repeat' (first | exact Below.refl _ _ | exact HB0.out | refine below_drewN ?_ _ | refine Below.drew ?_ | refine Below.alloc ?_ (by first | omega | (simp; done) | (simp; omega) | (simp [World.setCell]; omega)) _ | refine Below.setCell ?_ (by first | omega | (simp; done) | (simp; omega)) _ | assumption)))
    have hz1 := hb.size
    try simp only [World.size_alloc, World.drewN, World.drew] at hz1
    clear hb
    go_wp2
    go_ret
    exact ⟨rfl, by repeat' (first | exact Below.refl _ _ | exact HB1.out | refine below_drewN ?_ _ | refine Below.drew ?_ | refine Below.alloc ?_ (by first | omega | (simp; done) | (simp; omega) | (simp [World.setCell]; omega)) _ | refine Below.setCell ?_ (by first | omega | (simp; done) | (simp; omega)) _ | assumption)⟩
  have hn : n ≤ 6 ∨ 10 < n := by omega
  clear hmid
  obtain ⟨E, hE⟩ : ∃ E, enclErr l = E := ⟨_, rfl⟩
  have HE := Lib.hid hE
  clear hE
  have HN := Lib.hid hn
  clear hn
  by_cases hn6 : n ≤ 6
  · have d1 : decide ((6 : Int) < (n : Int)) = false := by simp; omega
    have d5 : decide ((10 : Int) < (n : Int)) = false := by simp; omega
    go_enter Try.func3, Try.ntmps3
    go_wp2_with fail
    refine (awake6_any _).mono ?_
    rintro e w1 ⟨rfl, hb⟩
    have HB1 := Lib.hid (show Below w.heap.size w w1 from step_below hb (by repeat' (first | exact Below.refl _ _ | exact HB0.out | refine below_drewN ?_ _ | refine Below.drew ?_ | refine Below.alloc ?_ (by first | omega | (simp; done) | (simp; omega) | (simp [World.setCell]; omega)) _ | refine Below.setCell ?_ (by first | omega | (simp; done) | (simp; omega)) _ | assumption)))
    have hz1 := hb.size
    try simp only [World.size_alloc, World.drewN, World.drew] at hz1
    clear hb
    have hx := (HX.out.below HB1.out).more HB1.out.size
    have R0_1 := Lib.hid hx
    clear hx
    go_wp2_with fail
    refine (cranges_any A n c l _ R0_1.out (by omega)).mono ?_
    rintro e w2 ⟨A2, c2, rfl, hb, hr2⟩
    have HB2 := Lib.hid (show Below w.heap.size w w2 from step_below hb (by repeat' (first | exact Below.refl _ _ | exact HB1.out | refine below_drewN ?_ _ | refine Below.drew ?_ | refine Below.alloc ?_ (by first | omega | (simp; done) | (simp; omega) | (simp [World.setCell]; omega)) _ | refine Below.setCell ?_ (by first | omega | (simp; done) | (simp; omega)) _ | assumption)))
    have hL2 := Lib.hid (show Below w1.heap.size w1 _ from reads_mid hb (by repeat' (first | exact Below.refl _ _ | refine below_drewN ?_ _ | refine Below.drew ?_ | refine Below.alloc ?_ (by first | omega | (simp; done) | (simp; omega) | (simp [World.setCell]; omega)) _ | refine Below.setCell ?_ (by first | omega | (simp; done) | (simp; omega)) _)))
    have R0_2 := Lib.hid (reads_lay hb hL2.out R0_1.out)
    clear hL2 R0_1
    have hz2 := hb.size
    try simp only [World.size_alloc, World.drewN, World.drew] at hz2
    clear hb
    have R1_2 := Lib.hid hr2
    clear hr2
    go_wp2_with fail
    refine (Square_any A2 n c2 l E HE.out HN.out _ R1_2.out).mono ?_
    rintro e w3 ⟨⟨a, b, s, v, E', rfl, hc⟩, hb⟩
    have HB3 := Lib.hid (show Below w.heap.size w w3 from step_below hb (by repeat' (first | exact Below.refl _ _ | exact HB2.out | refine below_drewN ?_ _ | refine Below.drew ?_ | refine Below.alloc ?_ (by first | omega | (simp; done) | (simp; omega) | (simp [World.setCell]; omega)) _ | refine Below.setCell ?_ (by first | omega | (simp; done) | (simp; omega)) _ | assumption)))
    have hL3 := Lib.hid (show Below w2.heap.size w2 _ from reads_mid hb (by repeat' (first | exact Below.refl _ _ | refine below_drewN ?_ _ | refine Below.drew ?_ | refine Below.alloc ?_ (by first | omega | (simp; done) | (simp; omega) | (simp [World.setCell]; omega)) _ | refine Below.setCell ?_ (by first | omega | (simp; done) | (simp; omega)) _)))
    have R0_3 := Lib.hid (reads_lay hb hL3.out R0_2.out)
    have R1_3 := Lib.hid (reads_lay hb hL3.out R1_2.out)
    clear hL3 R0_2 R1_2
    have hz3 := hb.size
    try simp only [World.size_alloc, World.drewN, World.drew] at hz3
    clear hb
    have HC := Lib.hid hc
    clear hc
    clear R1_3
    go_wp2_with fail
    generalize hwn : (w3.alloc (.cells #[.int .i64 (a), .int .i64 (b), .int .i64 (s), .int .i64 (v)] 26)) = w4
    have hbn : Below w3.heap.size w3 w4 := by rw [← hwn]; repeat' (first | exact Below.refl _ _ | refine below_drewN ?_ _ | refine Below.drew ?_ | refine Below.alloc ?_ (by first | omega | (simp; done) | (simp; omega) | (simp [World.setCell]; omega)) _ | refine Below.setCell ?_ (by first | omega | (simp; done) | (simp; omega)) _)
    have HB4 := Lib.hid (show Below w.heap.size w w4 from HB3.out.trans (hbn.mono HB3.out.size))
    have K0_4 := Lib.hid (show Blk w4 (w3.heap.size) 26 #[.int .i64 (a), .int .i64 (b), .int .i64 (s), .int .i64 (v)] by rw [← hwn]; repeat' (first | exact Blk.at_ _ (by first | rfl | (simp; done) | (simp; omega)) _ _ | refine Blk.drewN ?_ _ | refine Blk.drew ?_ | refine Blk.alloc ?_ _ | refine Blk.far ?_ (by first | omega | (simp; done) | (simp; omega)) _ | assumption))
    have R0_4 := Lib.hid ((R0_3.out.below hbn).more hbn.size)
    have HN4 := Lib.hid hbn
    have hz4 := hbn.size
    clear hwn hbn R0_3
    have l0_4 : w3.heap.size < w4.heap.size := K0_4.out.lt
    have z0_0_4 : w4.cell? ⟨w3.heap.size, 0, none⟩ = some (.int .i64 (a)) := K0_4.out.cell 0
    have z0_1_4 : w4.cell? ⟨w3.heap.size, 1, none⟩ = some (.int .i64 (b)) := K0_4.out.cell 1
    have z0_2_4 : w4.cell? ⟨w3.heap.size, 2, none⟩ = some (.int .i64 (s)) := K0_4.out.cell 2
    have z0_3_4 : w4.cell? ⟨w3.heap.size, 3, none⟩ = some (.int .i64 (v)) := K0_4.out.cell 3
    refine (rencl_is A n c l E HE.out _ R0_4.out).mono ?_
    rintro e w5 ⟨rfl, hb⟩
    have HB5 := Lib.hid (show Below w.heap.size w w5 from step_below hb (by repeat' (first | exact Below.refl _ _ | exact HB4.out | refine below_drewN ?_ _ | refine Below.drew ?_ | refine Below.alloc ?_ (by first | omega | (simp; done) | (simp; omega) | (simp [World.setCell]; omega)) _ | refine Below.setCell ?_ (by first | omega | (simp; done) | (simp; omega)) _ | assumption)))
    have K0_5 := Lib.hid (step_blk hb (show Blk _ (w3.heap.size) 26 #[.int .i64 (a), .int .i64 (b), .int .i64 (s), .int .i64 (v)] by repeat' (first | exact K0_4.out | exact Blk.at_ _ (by first | rfl | (simp; done) | (simp; omega)) _ _ | refine Blk.drewN ?_ _ | refine Blk.drew ?_ | refine Blk.alloc ?_ _ | refine Blk.far ?_ (by first | omega | (simp; done) | (simp; omega)) _ | assumption)))
    have hL5 := Lib.hid (show Below w4.heap.size w4 _ from reads_mid hb (by repeat' (first | exact Below.refl _ _ | refine below_drewN ?_ _ | refine Below.drew ?_ | refine Below.alloc ?_ (by first | omega | (simp; done) | (simp; omega) | (simp [World.setCell]; omega)) _ | refine Below.setCell ?_ (by first | omega | (simp; done) | (simp; omega)) _)))
    have R0_5 := Lib.hid (reads_lay hb hL5.out R0_4.out)
    clear hL5 R0_4
    have hz5 := hb.size
    try simp only [World.size_alloc, World.drewN, World.drew] at hz5
    clear hb K0_4 z0_0_4 z0_1_4 z0_2_4 z0_3_4 l0_4
    have l0_5 : w3.heap.size < w5.heap.size := K0_5.out.lt
    have z0_0_5 : w5.cell? ⟨w3.heap.size, 0, none⟩ = some (.int .i64 (a)) := K0_5.out.cell 0
    have z0_1_5 : w5.cell? ⟨w3.heap.size, 1, none⟩ = some (.int .i64 (b)) := K0_5.out.cell 1
    have z0_2_5 : w5.cell? ⟨w3.heap.size, 2, none⟩ = some (.int .i64 (s)) := K0_5.out.cell 2
    have z0_3_5 : w5.cell? ⟨w3.heap.size, 3, none⟩ = some (.int .i64 (v)) := K0_5.out.cell 3
    by_cases h0 : E = 0
    rotate_left
    · obtain ⟨rfl, rfl, rfl, rfl, rfl⟩ : a = 0 ∧ b = 0 ∧ s = 0 ∧ v = 0 ∧ E = E' := by
        rcases HC.out with h | h | h
        · exact ⟨h.2.1, h.2.2.1, h.2.2.2.1, h.2.2.2.2.1, h.2.2.2.2.2.symm⟩
        · exact absurd h.1 h0
        · exact absurd h.1 h0
      have e1 : (E != 0) = true := by simpa using h0
      have e2 : (E == E) = true := by simp
      have e3 : (E == 0) = false := by simpa using h0
      clear h0
      go_wp2
      go_ret
      exact ⟨rfl, by repeat' (first | exact Below.refl _ _ | exact HB5.out | refine below_drewN ?_ _ | refine Below.drew ?_ | refine Below.alloc ?_ (by first | omega | (simp; done) | (simp; omega) | (simp [World.setCell]; omega)) _ | refine Below.setCell ?_ (by first | omega | (simp; done) | (simp; omega)) _ | assumption)⟩
    subst h0
    have e1 : ((0 : Int) != 0) = false := by simp
    have e3 : ((0 : Int) == 0) = true := by simp
    · obtain ⟨rfl, hq⟩ : E' = 0 ∧ minK (levV l) (levF l).length = (a, b) ∧ maxK (a, b) (cornF l) (2 ^ n) = (s, v) := by
        rcases HC.out with h | h | h
        · exact absurd rfl h.1
        · exact absurd h.2.1 (by omega)
        · exact ⟨h.2.2.1, h.2.2.2⟩
      have HQ1 := Lib.hid hq.1
      have HQ2 := Lib.hid hq.2
      have HRG := Lib.hid (rg_in HE.out).1
      have hn1 : 1 ≤ n := by have := (rg_in HE.out).2.1; rw [HL.out] at this; exact this
      clear hq
      go_wp2_with fail
      refine Fx.regionW (fun W f w' => Below W.heap.size W w') (by kernel_rfl) (by kernel_rfl) ?_ ?_
      · intro f hf0
        exact below_drewN (Below.refl _ _) 1
      repeat (first
        | (refine Fx.skip_ (by rfl) (fun f w h => h) ?_; simp only [Act.put, List.setIfInBounds_toArray, List.set_cons_zero, List.set_cons_succ])
        | (refine Fx.val_ ?_ (by rfl) ?_ (fun f w h => h) ?_
           rotate_left
           · intro f w' hD hk
             have hb := hD
             have kb0 := step_blk hb (show Blk _ (w3.heap.size) 26 #[.int .i64 (a), .int .i64 (b), .int .i64 (s), .int .i64 (v)] by repeat' (first | exact K0_5.out | exact Blk.at_ _ (by first | rfl | (simp; done) | (simp; omega)) _ _ | refine Blk.drewN ?_ _ | refine Blk.drew ?_ | refine Blk.alloc ?_ _ | refine Blk.far ?_ (by first | omega | (simp; done) | (simp; omega)) _ | assumption))
             have y0_0 : w'.cell? ⟨w3.heap.size, 0, none⟩ = some (.int .i64 (a)) := kb0.cell 0
             have y0_1 : w'.cell? ⟨w3.heap.size, 1, none⟩ = some (.int .i64 (b)) := kb0.cell 1
             have y0_2 : w'.cell? ⟨w3.heap.size, 2, none⟩ = some (.int .i64 (s)) := kb0.cell 2
             have y0_3 : w'.cell? ⟨w3.heap.size, 3, none⟩ = some (.int .i64 (v)) := kb0.cell 3
             clear kb0
             clear hk hD hb
             go_simp
             try rfl
           simp only [Act.put, List.setIfInBounds_toArray, List.set_cons_zero, List.set_cons_succ]))
      refine Fx.call_ (.agg #[.int .i64 a, .int .i64 b, .int .i64 s, .int .i64 v]) ?_ ?_ (by rfl) ?_ ?_ ?_
      rotate_left 2
      · intro w'
        go_simp
        refine ⟨?_, ?_⟩ <;> rfl
      · intro f w' hD hk
        exact (rsqr_is A n c l HRG.out ⟨hn1, hn6⟩ a b s v HQ1.out HQ2.out w' ((R0_5.out.below hD).more hD.size)).mono fun e w'' ⟨he, hw⟩ => ⟨he, step_below hw hD⟩
      simp only [Act.put, List.setIfInBounds_toArray, List.set_cons_zero, List.set_cons_succ]
      repeat (first
        | (refine Fx.skip_ (by rfl) (fun f w h => h) ?_; simp only [Act.put, List.setIfInBounds_toArray, List.set_cons_zero, List.set_cons_succ])
        | (refine Fx.val_ ?_ (by rfl) ?_ (fun f w h => h) ?_
           rotate_left
           · intro f w' hD hk
             have hb := hD
             have kb0 := step_blk hb (show Blk _ (w3.heap.size) 26 #[.int .i64 (a), .int .i64 (b), .int .i64 (s), .int .i64 (v)] by repeat' (first | exact K0_5.out | exact Blk.at_ _ (by first | rfl | (simp; done) | (simp; omega)) _ _ | refine Blk.drewN ?_ _ | refine Blk.drew ?_ | refine Blk.alloc ?_ _ | refine Blk.far ?_ (by first | omega | (simp; done) | (simp; omega)) _ | assumption))
             have y0_0 : w'.cell? ⟨w3.heap.size, 0, none⟩ = some (.int .i64 (a)) := kb0.cell 0
             have y0_1 : w'.cell? ⟨w3.heap.size, 1, none⟩ = some (.int .i64 (b)) := kb0.cell 1
             have y0_2 : w'.cell? ⟨w3.heap.size, 2, none⟩ = some (.int .i64 (s)) := kb0.cell 2
             have y0_3 : w'.cell? ⟨w3.heap.size, 3, none⟩ = some (.int .i64 (v)) := kb0.cell 3
             clear kb0
             clear hk hD hb
             go_simp
             try rfl
           simp only [Act.put, List.setIfInBounds_toArray, List.set_cons_zero, List.set_cons_succ]))
      refine Fx.nil_ ?_
      intro f w6 hall hb
      try clear hall
      have HB56 := Lib.hid hb
      have HB6 := Lib.hid (show Below w.heap.size w w6 from step_below hb (by repeat' (first | exact Below.refl _ _ | exact HB5.out | refine below_drewN ?_ _ | refine Below.drew ?_ | refine Below.alloc ?_ (by first | omega | (simp; done) | (simp; omega) | (simp [World.setCell]; omega)) _ | refine Below.setCell ?_ (by first | omega | (simp; done) | (simp; omega)) _ | assumption)))
      have K0_6 := Lib.hid (step_blk hb (show Blk _ (w3.heap.size) 26 #[.int .i64 (a), .int .i64 (b), .int .i64 (s), .int .i64 (v)] by repeat' (first | exact K0_5.out | exact Blk.at_ _ (by first | rfl | (simp; done) | (simp; omega)) _ _ | refine Blk.drewN ?_ _ | refine Blk.drew ?_ | refine Blk.alloc ?_ _ | refine Blk.far ?_ (by first | omega | (simp; done) | (simp; omega)) _ | assumption)))
      have hL6 := Lib.hid (show Below w5.heap.size w5 _ from reads_mid hb (by repeat' (first | exact Below.refl _ _ | refine below_drewN ?_ _ | refine Below.drew ?_ | refine Below.alloc ?_ (by first | omega | (simp; done) | (simp; omega) | (simp [World.setCell]; omega)) _ | refine Below.setCell ?_ (by first | omega | (simp; done) | (simp; omega)) _)))
      have R0_6 := Lib.hid (reads_lay hb hL6.out R0_5.out)
      clear hL6 R0_5
      have hz6 := hb.size
      try simp only [World.size_alloc, World.drewN, World.drew] at hz6
      clear hb K0_5 z0_0_5 z0_1_5 z0_2_5 z0_3_5 l0_5
      have l0_6 : w3.heap.size < w6.heap.size := K0_6.out.lt
      have z0_0_6 : w6.cell? ⟨w3.heap.size, 0, none⟩ = some (.int .i64 (a)) := K0_6.out.cell 0
      have z0_1_6 : w6.cell? ⟨w3.heap.size, 1, none⟩ = some (.int .i64 (b)) := K0_6.out.cell 1
      have z0_2_6 : w6.cell? ⟨w3.heap.size, 2, none⟩ = some (.int .i64 (s)) := K0_6.out.cell 2
      have z0_3_6 : w6.cell? ⟨w3.heap.size, 3, none⟩ = some (.int .i64 (v)) := K0_6.out.cell 3
      go_wp2
      go_ret
      exact ⟨rfl, by repeat' (first | exact Below.refl _ _ | exact HB6.out | refine below_drewN ?_ _ | refine Below.drew ?_ | refine Below.alloc ?_ (by first | omega | (simp; done) | (simp; omega) | (simp [World.setCell]; omega)) _ | refine Below.setCell ?_ (by first | omega | (simp; done) | (simp; omega)) _ | assumption)⟩
  · have hn10 : 10 < n := by have := HN.out; omega
    have d1 : decide ((6 : Int) < (n : Int)) = true := by simp; omega
    have d2 : decide ((n : Int) ≤ 10) = false := by simp; omega
    have d5 : decide ((10 : Int) < (n : Int)) = true := by simp; omega
    go_enter Try.func3, Try.ntmps3
    go_wp2_with fail
    refine (awake6_any _).mono ?_
    rintro e w1 ⟨rfl, hb⟩
    have HB1 := Lib.hid (show Below w.heap.size w w1 from step_below hb (by repeat' (first | exact Below.refl _ _ | exact HB0.out | refine below_drewN ?_ _ | refine Below.drew ?_ | refine Below.alloc ?_ (by first | omega | (simp; done) | (simp; omega) | (simp [World.setCell]; omega)) _ | refine Below.setCell ?_ (by first | omega | (simp; done) | (simp; omega)) _ | assumption)))
    have hz1 := hb.size
    try simp only [World.size_alloc, World.drewN, World.drew] at hz1
    clear hb
    have hx := (HX.out.below HB1.out).more HB1.out.size
    have R0_1 := Lib.hid hx
    clear hx
    go_wp2_with fail
    refine (cranges_any A n c l _ R0_1.out (by omega)).mono ?_
    rintro e w2 ⟨A2, c2, rfl, hb, hr2⟩
    have HB2 := Lib.hid (show Below w.heap.size w w2 from step_below hb (by repeat' (first | exact Below.refl _ _ | exact HB1.out | refine below_drewN ?_ _ | refine Below.drew ?_ | refine Below.alloc ?_ (by first | omega | (simp; done) | (simp; omega) | (simp [World.setCell]; omega)) _ | refine Below.setCell ?_ (by first | omega | (simp; done) | (simp; omega)) _ | assumption)))
    have hL2 := Lib.hid (show Below w1.heap.size w1 _ from reads_mid hb (by repeat' (first | exact Below.refl _ _ | refine below_drewN ?_ _ | refine Below.drew ?_ | refine Below.alloc ?_ (by first | omega | (simp; done) | (simp; omega) | (simp [World.setCell]; omega)) _ | refine Below.setCell ?_ (by first | omega | (simp; done) | (simp; omega)) _)))
    have R0_2 := Lib.hid (reads_lay hb hL2.out R0_1.out)
    clear hL2 R0_1
    have hz2 := hb.size
    try simp only [World.size_alloc, World.drewN, World.drew] at hz2
    clear hb
    have R1_2 := Lib.hid hr2
    clear hr2
    go_wp2_with fail
    refine (Square_any A2 n c2 l E HE.out HN.out _ R1_2.out).mono ?_
    rintro e w3 ⟨⟨a, b, s, v, E', rfl, hc⟩, hb⟩
    have HB3 := Lib.hid (show Below w.heap.size w w3 from step_below hb (by repeat' (first | exact Below.refl _ _ | exact HB2.out | refine below_drewN ?_ _ | refine Below.drew ?_ | refine Below.alloc ?_ (by first | omega | (simp; done) | (simp; omega) | (simp [World.setCell]; omega)) _ | refine Below.setCell ?_ (by first | omega | (simp; done) | (simp; omega)) _ | assumption)))
    have hL3 := Lib.hid (show Below w2.heap.size w2 _ from reads_mid hb (by repeat' (first | exact Below.refl _ _ | refine below_drewN ?_ _ | refine Below.drew ?_ | refine Below.alloc ?_ (by first | omega | (simp; done) | (simp; omega) | (simp [World.setCell]; omega)) _ | refine Below.setCell ?_ (by first | omega | (simp; done) | (simp; omega)) _)))
    have R0_3 := Lib.hid (reads_lay hb hL3.out R0_2.out)
    have R1_3 := Lib.hid (reads_lay hb hL3.out R1_2.out)
    clear hL3 R0_2 R1_2
    have hz3 := hb.size
    try simp only [World.size_alloc, World.drewN, World.drew] at hz3
    clear hb
    have HC := Lib.hid hc
    clear hc
    clear R1_3
    go_wp2_with fail
    generalize hwn : (w3.alloc (.cells #[.int .i64 (a), .int .i64 (b), .int .i64 (s), .int .i64 (v)] 26)) = w4
    have hbn : Below w3.heap.size w3 w4 := by rw [← hwn]; repeat' (first | exact Below.refl _ _ | refine below_drewN ?_ _ | refine Below.drew ?_ | refine Below.alloc ?_ (by first | omega | (simp; done) | (simp; omega) | (simp [World.setCell]; omega)) _ | refine Below.setCell ?_ (by first | omega | (simp; done) | (simp; omega)) _)
    have HB4 := Lib.hid (show Below w.heap.size w w4 from HB3.out.trans (hbn.mono HB3.out.size))
    have K0_4 := Lib.hid (show Blk w4 (w3.heap.size) 26 #[.int .i64 (a), .int .i64 (b), .int .i64 (s), .int .i64 (v)] by rw [← hwn]; repeat' (first | exact Blk.at_ _ (by first | rfl | (simp; done) | (simp; omega)) _ _ | refine Blk.drewN ?_ _ | refine Blk.drew ?_ | refine Blk.alloc ?_ _ | refine Blk.far ?_ (by first | omega | (simp; done) | (simp; omega)) _ | assumption))
    have R0_4 := Lib.hid ((R0_3.out.below hbn).more hbn.size)
    have HN4 := Lib.hid hbn
    have hz4 := hbn.size
    clear hwn hbn R0_3
    have l0_4 : w3.heap.size < w4.heap.size := K0_4.out.lt
    have z0_0_4 : w4.cell? ⟨w3.heap.size, 0, none⟩ = some (.int .i64 (a)) := K0_4.out.cell 0
    have z0_1_4 : w4.cell? ⟨w3.heap.size, 1, none⟩ = some (.int .i64 (b)) := K0_4.out.cell 1
    have z0_2_4 : w4.cell? ⟨w3.heap.size, 2, none⟩ = some (.int .i64 (s)) := K0_4.out.cell 2
    have z0_3_4 : w4.cell? ⟨w3.heap.size, 3, none⟩ = some (.int .i64 (v)) := K0_4.out.cell 3
    refine (rencl_is A n c l E HE.out _ R0_4.out).mono ?_
    rintro e w5 ⟨rfl, hb⟩
    have HB5 := Lib.hid (show Below w.heap.size w w5 from step_below hb (by repeat' (first | exact Below.refl _ _ | exact HB4.out | refine below_drewN ?_ _ | refine Below.drew ?_ | refine Below.alloc ?_ (by first | omega | (simp; done) | (simp; omega) | (simp [World.setCell]; omega)) _ | refine Below.setCell ?_ (by first | omega | (simp; done) | (simp; omega)) _ | assumption)))
    have K0_5 := Lib.hid (step_blk hb (show Blk _ (w3.heap.size) 26 #[.int .i64 (a), .int .i64 (b), .int .i64 (s), .int .i64 (v)] by repeat' (first | exact K0_4.out | exact Blk.at_ _ (by first | rfl | (simp; done) | (simp; omega)) _ _ | refine Blk.drewN ?_ _ | refine Blk.drew ?_ | refine Blk.alloc ?_ _ | refine Blk.far ?_ (by first | omega | (simp; done) | (simp; omega)) _ | assumption)))
    have hL5 := Lib.hid (show Below w4.heap.size w4 _ from reads_mid hb (by repeat' (first | exact Below.refl _ _ | refine below_drewN ?_ _ | refine Below.drew ?_ | refine Below.alloc ?_ (by first | omega | (simp; done) | (simp; omega) | (simp [World.setCell]; omega)) _ | refine Below.setCell ?_ (by first | omega | (simp; done) | (simp; omega)) _)))
    have R0_5 := Lib.hid (reads_lay hb hL5.out R0_4.out)
    clear hL5 R0_4
    have hz5 := hb.size
    try simp only [World.size_alloc, World.drewN, World.drew] at hz5
    clear hb K0_4 z0_0_4 z0_1_4 z0_2_4 z0_3_4 l0_4
    have l0_5 : w3.heap.size < w5.heap.size := K0_5.out.lt
    have z0_0_5 : w5.cell? ⟨w3.heap.size, 0, none⟩ = some (.int .i64 (a)) := K0_5.out.cell 0
    have z0_1_5 : w5.cell? ⟨w3.heap.size, 1, none⟩ = some (.int .i64 (b)) := K0_5.out.cell 1
    have z0_2_5 : w5.cell? ⟨w3.heap.size, 2, none⟩ = some (.int .i64 (s)) := K0_5.out.cell 2
    have z0_3_5 : w5.cell? ⟨w3.heap.size, 3, none⟩ = some (.int .i64 (v)) := K0_5.out.cell 3
    by_cases h0 : E = 0
    rotate_left
    · obtain ⟨rfl, rfl, rfl, rfl, rfl⟩ : a = 0 ∧ b = 0 ∧ s = 0 ∧ v = 0 ∧ E = E' := by
        rcases HC.out with h | h | h
        · exact ⟨h.2.1, h.2.2.1, h.2.2.2.1, h.2.2.2.2.1, h.2.2.2.2.2.symm⟩
        · exact absurd h.1 h0
        · exact absurd h.1 h0
      have e1 : (E != 0) = true := by simpa using h0
      have e2 : (E == E) = true := by simp
      have e3 : (E == 0) = false := by simpa using h0
      clear h0
      go_wp2
      go_ret
      exact ⟨rfl, by repeat' (first | exact Below.refl _ _ | exact HB5.out | refine below_drewN ?_ _ | refine Below.drew ?_ | refine Below.alloc ?_ (by first | omega | (simp; done) | (simp; omega) | (simp [World.setCell]; omega)) _ | refine Below.setCell ?_ (by first | omega | (simp; done) | (simp; omega)) _ | assumption)⟩
    subst h0
    have e1 : ((0 : Int) != 0) = false := by simp
    have e3 : ((0 : Int) == 0) = true := by simp
    · obtain ⟨rfl, rfl, rfl, rfl, rfl⟩ : a = 0 ∧ b = 0 ∧ s = 0 ∧ v = 0 ∧ E' = 8 := by
        rcases HC.out with h | h | h
        · exact absurd rfl h.1
        · exact h.2.2
        · exact absurd h.2.1 (by omega)
      go_wp2
      go_ret
      exact ⟨rfl, by repeat' (first | exact Below.refl _ _ | exact HB5.out | refine below_drewN ?_ _ | refine Below.drew ?_ | refine Below.alloc ?_ (by first | omega | (simp; done) | (simp; omega) | (simp [World.setCell]; omega)) _ | refine Below.setCell ?_ (by first | omega | (simp; done) | (simp; omega)) _ | assumption)⟩
end Go.Proofs.Ytmejiafmmmeloaa

end

section
/- For all ranges the call of FigureSquares returns true and leaves its argument as it was; no condition. -/
namespace Go.Proofs.Ytmejiafmmmeloaa.lawSQ
open Go Go.RowKit Go.ChangeShapes Go.WideShapes Go.ChangeAt Go.Joins

set_option maxRecDepth 100000 in
theorem contract (H : Type) (enc : TypeId × Value → H) (W : World) (base : Nat) (args : Array Value) (ds gs : List (DataW H)) (before : List MemPlace)
    (hval : ∀ (j : Nat) t v, Try.f3.params[j]? = some t → args[j]? = some v → Value.okWide Try.prog W .any base t v)
    (hW : DataW.Whole enc Try.prog Try.f3.params.toList Rows.figureSquaresSpec.vars false W args.toList ds gs before) :
    Calls Try.prog 3 args W fun e W' => ∃ v, e = .returned v ∧ Rows.figureSquaresSpec.post enc Try.prog Try.f3 false true false false W args v W' := by
  have hW' := hW
  obtain ⟨p, q, hA, hV, rfl, hfz, hnd⟩ := hW'
  rw [Try.params3] at hA hval
  obtain ⟨v0, vs0, d0, ds0, p0, q0, hargs, rfl, rfl, h0, r0⟩ := trodAll_cons hA
  obtain ⟨rfl, rfl, rfl⟩ := trodAll_nil r0
  obtain rfl : args = #[v0] := by cases args; simp_all
  obtain ⟨A0, n0, c0, l0, rfl, hn0, hl0, hi0, hr0⟩ := arg_pairs Try.underlying22 Try.underlying54 (by kernel_rfl) (by kernel_rfl) Try.underlying3 (by kernel_rfl) (by kernel_rfl) (hval 0 22 v0 rfl rfl) h0
  refine (lawSQ_any A0 n0 c0 l0 W hn0 hl0 hi0 hr0).mono fun e W' ⟨he, hg⟩ => ?_
  subst he
  obtain ⟨rfl, rfl⟩ := trodVars_none hV
  exact ⟨_, rfl, post_law hW rfl (by kernel_rfl) Try.underlying4 (by kernel_rfl) rfl rfl rfl hg⟩

set_option maxRecDepth 100000 in
theorem lifted (os : Os) (started : os.Started) (H : Type) (enc : TypeId × Value → H) :
    ReturnsInHanded {} Try.checked os 3 .any (Rows.figureSquaresSpec.pre6 enc Try.prog Try.f3 Rows.figureSquaresRow.domain false) (Rows.figureSquaresSpec.post enc Try.prog Try.f3 false true false false) := by
  refine returnsInHanded_of_change (C := Try.checked) (s := Rows.figureSquaresSpec) own_knob started (by kernel_rfl) Try.func3
    (ChangeSpec.witness6 (enc := enc) (C := Try.checked) (s := Rows.figureSquaresSpec) false ⟨#[], #[.slice none 0 0], []⟩ 8 (by kernel_rfl) (by kernel_rfl) (by kernel_rfl) (by kernel_rfl)) ?_
  intro W base args ds gs before hval hW _ _
  exact contract H enc W base args ds gs before hval hW

theorem over : Rows.FigureSquaresSaid :=
  OpenClaim.holds_of_wide 3 Try.f3 rfl rfl rfl rfl rfl rfl rfl ⟨rfl, rfl, rfl, rfl, rfl⟩ rfl rfl rfl rfl rfl (by kernel_rfl) Try.func3 (by kernel_rfl)
    (of_decide_eq_true (by kernel_rfl)) (by unfold Func.isWrapper; first | (rw [if_pos (by decide +kernel)]; kernel_rfl) | (rw [if_neg (by decide +kernel)]; exact ⟨rfl, rfl⟩))
    (fun os started H enc _ => lifted os started H enc)
end Go.Proofs.Ytmejiafmmmeloaa.lawSQ

end
