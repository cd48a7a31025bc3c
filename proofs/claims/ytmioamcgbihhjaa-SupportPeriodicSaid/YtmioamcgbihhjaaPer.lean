/- The contract of Periodic. -/
import Derived.Test.YtmioamcgbihhjaaPer2
import Derived.Test.YtmioamcgbihhjaaRev
import Derived.Test.YtmioamcgbihhjaaMm
namespace Go.Proofs.Ytmioamcgbihhjaa
open Go.RowKit

def perAll (l : List (Int × Int)) (z : List Int) : Int × Int := if trainErr l ≠ 0 then (0, trainErr l) else perF l z

theorem errs_any (z : List Int) : (z.any fun e => !(withinB e 0 1000000)) = true ↔ firstErr errErr z ≠ 0 := by
  constructor
  · intro h hz
    obtain ⟨e, he, hb⟩ := List.any_eq_true.1 h
    have := errErr_zero (firstErr_zero hz e he)
    rw [(withinB_iff _ _ _).2 this] at hb
    cases hb
  · intro h
    rcases hb : z.any (fun e => !(withinB e 0 1000000)) with _ | _
    · refine absurd (firstErr_ok fun e he => ?_) h
      have := List.any_eq_false.1 hb e he
      unfold errErr
      rw [if_pos (by simpa using this)]
    · rfl

theorem okP_rev {l : List (Int × Int)} (h : l.all okP = true) : l.reverse.all okP = true := by rw [List.all_reverse]; exact h

set_option maxRecDepth 100000 in
set_option maxHeartbeats 3000000 in
theorem per_any (A : Option Addr) (n c N : Nat) (l : List (Int × Int)) (A1 : Option Addr) (n1 c1 N1 : Nat) (z : List Int) (w : World) (hx : Reads w N 2 A n (cells2 l)) (hN : N ≤ w.heap.size) (hn : n ≤ 9223372036854775807) (hx1 : Reads w N1 1 A1 n1 (z.map (.int .i64))) (hN1 : N1 ≤ w.heap.size) (hn1 : n1 ≤ 9223372036854775807) (x e : Int) (hR : perAll l z = (x, e)) :
    Calls Try.prog 65 #[.slice A n c, .slice A1 n1 c1] w fun en w' => en = .returned (.tuple #[.int .i64 x, .int .i64 e]) ∧ Below w.heap.size w w' := by
  have hxl := hx.len2
  have hzl : z.length = n1 := by have := hx1.1; simpa using this
  have HX := Lib.hid hx
  have HX1 := Lib.hid hx1
  have HXL := Lib.hid hxl
  have HZL := Lib.hid hzl
  clear hx hx1
  obtain ⟨E, hE⟩ : ∃ E, trainErr l = E := ⟨_, rfl⟩
  unfold perAll at hR
  rw [hE] at hR
  have HE := Lib.hid hE
  by_cases h0 : E = 0
  rotate_left
  · rw [if_pos h0] at hR
    cases hR
    have e0 : (e != 0) = true := by simpa using h0
    clear hE hxl hzl
    go_enter Try.func65, Try.ntmps65
    go_wp2_with fail
    refine (checktrain_is A n c N l e HE.out _ (HX.out.belowLe ((Below.refl _ _).alloc (Nat.le_refl _) _) hN) (by simp; omega) hn).mono ?_
    rintro e w1 ⟨rfl, hb⟩
    have HB1 := Lib.hid (show Below w.heap.size w w1 from step_below hb (by repeat' (first | exact Below.refl _ _ | exact HB0.out | refine below_drewN ?_ _ | refine Below.drew ?_ | refine Below.alloc ?_ (by first | omega | (simp; done) | (simp; omega) | (simp [World.setCell]; omega)) _ | refine Below.setCell ?_ (by first | omega | (simp; done) | (simp; omega)) _ | assumption)))
    have K0_1 := Lib.hid (step_blk hb (show Blk _ (w.heap.size) 62 #[.slice A1 n1 c1] by repeat' (first | exact Blk.at_ _ (by first | rfl | (simp; done) | (simp; omega)) _ _ | refine Blk.drewN ?_ _ | refine Blk.drew ?_ | refine Blk.alloc ?_ _ | refine Blk.far ?_ (by first | omega | (simp; done) | (simp; omega)) _ | assumption)))
    have hz1 := hb.size
    try simp only [World.size_alloc, World.drewN, World.drew] at hz1
    clear hb
    have l0_1 : w.heap.size < w1.heap.size := K0_1.out.lt
    have z0_0_1 : w1.cell? ⟨w.heap.size, 0, none⟩ = some (.slice A1 n1 c1) := K0_1.out.cell 0
    go_wp2
    go_ret2
    exact ⟨rfl, by repeat' (first | exact Below.refl _ _ | exact HB1.out | refine below_drewN ?_ _ | refine Below.drew ?_ | refine Below.alloc ?_ (by first | omega | (simp; done) | (simp; omega) | (simp [World.setCell]; omega)) _ | refine Below.setCell ?_ (by first | omega | (simp; done) | (simp; omega)) _ | assumption)⟩
  subst h0
  rw [if_neg (by simp)] at hR
  obtain ⟨hlen, hok⟩ := trainErr_ok hE
  unfold perF at hR
  rw [hxl, hzl] at hR
  have hn12 : n ≤ 12 := by omega
  by_cases hnn : n1 = n
  rotate_left
  · rw [if_pos hnn] at hR
    cases hR
    have hnn' : ¬ (n1 : Int) = (n : Int) := by omega
    clear hE hxl hzl hok
    go_enter Try.func65, Try.ntmps65
    go_wp2_with fail
    refine (checktrain_is A n c N l 0 HE.out _ (HX.out.belowLe ((Below.refl _ _).alloc (Nat.le_refl _) _) hN) (by simp; omega) hn).mono ?_
    rintro e w1 ⟨rfl, hb⟩
    have HB1 := Lib.hid (show Below w.heap.size w w1 from step_below hb (by repeat' (first | exact Below.refl _ _ | exact HB0.out | refine below_drewN ?_ _ | refine Below.drew ?_ | refine Below.alloc ?_ (by first | omega | (simp; done) | (simp; omega) | (simp [World.setCell]; omega)) _ | refine Below.setCell ?_ (by first | omega | (simp; done) | (simp; omega)) _ | assumption)))
    have K0_1 := Lib.hid (step_blk hb (show Blk _ (w.heap.size) 62 #[.slice A1 n1 c1] by repeat' (first | exact Blk.at_ _ (by first | rfl | (simp; done) | (simp; omega)) _ _ | refine Blk.drewN ?_ _ | refine Blk.drew ?_ | refine Blk.alloc ?_ _ | refine Blk.far ?_ (by first | omega | (simp; done) | (simp; omega)) _ | assumption)))
    have hz1 := hb.size
    try simp only [World.size_alloc, World.drewN, World.drew] at hz1
    clear hb
    have l0_1 : w.heap.size < w1.heap.size := K0_1.out.lt
    have z0_0_1 : w1.cell? ⟨w.heap.size, 0, none⟩ = some (.slice A1 n1 c1) := K0_1.out.cell 0
    go_wp2
    go_ret2
    exact ⟨rfl, by repeat' (first | exact Below.refl _ _ | exact HB1.out | refine below_drewN ?_ _ | refine Below.drew ?_ | refine Below.alloc ?_ (by first | omega | (simp; done) | (simp; omega) | (simp [World.setCell]; omega)) _ | refine Below.setCell ?_ (by first | omega | (simp; done) | (simp; omega)) _ | assumption)⟩
  subst hnn
  rw [if_neg (by simp)] at hR
  have HOK := Lib.hid hok
  by_cases herr : firstErr errErr z = 0
  rotate_left
  · rw [if_pos herr] at hR
    cases hR
    have hany := (errs_any z).2 herr
    have HANY := Lib.hid hany
    clear hE hxl hzl hok hany herr
    go_enter Try.func65, Try.ntmps65
    go_wp2_with fail
    refine (checktrain_is A n1 c N l 0 HE.out _ (HX.out.belowLe ((Below.refl _ _).alloc (Nat.le_refl _) _) hN) (by simp; omega) hn).mono ?_
    rintro e w1 ⟨rfl, hb⟩
    have HB1 := Lib.hid (show Below w.heap.size w w1 from step_below hb (by repeat' (first | exact Below.refl _ _ | exact HB0.out | refine below_drewN ?_ _ | refine Below.drew ?_ | refine Below.alloc ?_ (by first | omega | (simp; done) | (simp; omega) | (simp [World.setCell]; omega)) _ | refine Below.setCell ?_ (by first | omega | (simp; done) | (simp; omega)) _ | assumption)))
    have K0_1 := Lib.hid (step_blk hb (show Blk _ (w.heap.size) 62 #[.slice A1 n1 c1] by repeat' (first | exact Blk.at_ _ (by first | rfl | (simp; done) | (simp; omega)) _ _ | refine Blk.drewN ?_ _ | refine Blk.drew ?_ | refine Blk.alloc ?_ _ | refine Blk.far ?_ (by first | omega | (simp; done) | (simp; omega)) _ | assumption)))
    have hz1 := hb.size
    try simp only [World.size_alloc, World.drewN, World.drew] at hz1
    clear hb
    have l0_1 : w.heap.size < w1.heap.size := K0_1.out.lt
    have z0_0_1 : w1.cell? ⟨w.heap.size, 0, none⟩ = some (.slice A1 n1 c1) := K0_1.out.cell 0
    go_wp2_with fail
    refine (containsfunc_any _ _ periodic1_asks A1 n1 c1 N1 z _ (HX1.out.belowLe HB1.out hN1) (by have := HB1.out.size; omega) hn1 true HANY.out).mono ?_
    rintro e w2 ⟨rfl, hb⟩
    have HB2 := Lib.hid (show Below w.heap.size w w2 from step_below hb (by repeat' (first | exact Below.refl _ _ | exact HB1.out | refine below_drewN ?_ _ | refine Below.drew ?_ | refine Below.alloc ?_ (by first | omega | (simp; done) | (simp; omega) | (simp [World.setCell]; omega)) _ | refine Below.setCell ?_ (by first | omega | (simp; done) | (simp; omega)) _ | assumption)))
    have K0_2 := Lib.hid (step_blk hb (show Blk _ (w.heap.size) 62 #[.slice A1 n1 c1] by repeat' (first | exact K0_1.out | exact Blk.at_ _ (by first | rfl | (simp; done) | (simp; omega)) _ _ | refine Blk.drewN ?_ _ | refine Blk.drew ?_ | refine Blk.alloc ?_ _ | refine Blk.far ?_ (by first | omega | (simp; done) | (simp; omega)) _ | assumption)))
    have hz2 := hb.size
    try simp only [World.size_alloc, World.drewN, World.drew] at hz2
    clear hb K0_1 z0_0_1 l0_1
    have l0_2 : w.heap.size < w2.heap.size := K0_2.out.lt
    have z0_0_2 : w2.cell? ⟨w.heap.size, 0, none⟩ = some (.slice A1 n1 c1) := K0_2.out.cell 0
    go_wp2
    go_ret2
    exact ⟨rfl, by repeat' (first | exact Below.refl _ _ | exact HB2.out | refine below_drewN ?_ _ | refine Below.drew ?_ | refine Below.alloc ?_ (by first | omega | (simp; done) | (simp; omega) | (simp [World.setCell]; omega)) _ | refine Below.setCell ?_ (by first | omega | (simp; done) | (simp; omega)) _ | assumption)⟩
  rw [if_neg (by simp [herr])] at hR
  have hany : (z.any fun e => !(withinB e 0 1000000)) = false := by
    cases h : z.any (fun e => !(withinB e 0 1000000)) with
    | false => rfl
    | true => exact absurd herr ((errs_any z).1 h)
  have HANY := Lib.hid hany
  have HZOK := Lib.hid (firstErr_zero herr)
  have HR := Lib.hid hR
  clear hE hxl hzl hok hany herr hR
  go_enter Try.func65, Try.ntmps65
  go_wp2_with fail
  refine (checktrain_is A n1 c N l 0 HE.out _ (HX.out.belowLe ((Below.refl _ _).alloc (Nat.le_refl _) _) hN) (by simp; omega) hn).mono ?_
  rintro e w1 ⟨rfl, hb⟩
  have HB1 := Lib.hid (show Below w.heap.size w w1 from step_below hb (by repeat' (first | exact Below.refl _ _ | exact HB0.out | refine below_drewN ?_ _ | refine Below.drew ?_ | refine Below.alloc ?_ (by first | omega | (simp; done) | (simp; omega) | (simp [World.setCell]; omega)) _ | refine Below.setCell ?_ (by first | omega | (simp; done) | (simp; omega)) _ | assumption)))
  have K0_1 := Lib.hid (step_blk hb (show Blk _ (w.heap.size) 62 #[.slice A1 n1 c1] by repeat' (first | exact Blk.at_ _ (by first | rfl | (simp; done) | (simp; omega)) _ _ | refine Blk.drewN ?_ _ | refine Blk.drew ?_ | refine Blk.alloc ?_ _ | refine Blk.far ?_ (by first | omega | (simp; done) | (simp; omega)) _ | assumption)))
  have hz1 := hb.size
  try simp only [World.size_alloc, World.drewN, World.drew] at hz1
  clear hb
  have l0_1 : w.heap.size < w1.heap.size := K0_1.out.lt
  have z0_0_1 : w1.cell? ⟨w.heap.size, 0, none⟩ = some (.slice A1 n1 c1) := K0_1.out.cell 0
  go_wp2_with fail
  refine (containsfunc_any _ _ periodic1_asks A1 n1 c1 N1 z _ (HX1.out.belowLe HB1.out hN1) (by have := HB1.out.size; omega) hn1 false HANY.out).mono ?_
  rintro e w2 ⟨rfl, hb⟩
  have HB2 := Lib.hid (show Below w.heap.size w w2 from step_below hb (by repeat' (first | exact Below.refl _ _ | exact HB1.out | refine below_drewN ?_ _ | refine Below.drew ?_ | refine Below.alloc ?_ (by first | omega | (simp; done) | (simp; omega) | (simp [World.setCell]; omega)) _ | refine Below.setCell ?_ (by first | omega | (simp; done) | (simp; omega)) _ | assumption)))
  have K0_2 := Lib.hid (step_blk hb (show Blk _ (w.heap.size) 62 #[.slice A1 n1 c1] by repeat' (first | exact K0_1.out | exact Blk.at_ _ (by first | rfl | (simp; done) | (simp; omega)) _ _ | refine Blk.drewN ?_ _ | refine Blk.drew ?_ | refine Blk.alloc ?_ _ | refine Blk.far ?_ (by first | omega | (simp; done) | (simp; omega)) _ | assumption)))
  have hz2 := hb.size
  try simp only [World.size_alloc, World.drewN, World.drew] at hz2
  clear hb K0_1 z0_0_1 l0_1
  have l0_2 : w.heap.size < w2.heap.size := K0_2.out.lt
  have z0_0_2 : w2.cell? ⟨w.heap.size, 0, none⟩ = some (.slice A1 n1 c1) := K0_2.out.cell 0
  go_wp2_with fail
  refine (clone_any A n1 c N l _ (HX.out.belowLe HB2.out hN) (by have := HB2.out.size; omega) (by omega)).mono ?_
  rintro en w3 ⟨A3, c3, rfl, hb3, hr3, ho3⟩
  have HO3 := Lib.hid ho3
  clear hr3 ho3
  have hl02 := l0_2
  have hz2 := HB2.out.size
  have hz3 := hb3.size
  have HB3 := Lib.hid (show Below w.heap.size w w3 from step_below hb3 (by repeat' (first | exact Below.refl _ _ | exact HB2.out | refine below_drewN ?_ _ | refine Below.drew ?_ | refine Below.alloc ?_ (by first | omega | (simp; done) | (simp; omega) | (simp [World.setCell]; omega)) _ | refine Below.setCell ?_ (by first | omega | (simp; done) | (simp; omega)) _ | assumption)))
  have K0_3 := Lib.hid (step_blk hb3 (show Blk _ (w.heap.size) 62 #[.slice A1 n1 c1] by repeat' (first | exact K0_2.out | exact Blk.at_ _ (by first | rfl | (simp; done) | (simp; omega)) _ _ | refine Blk.drewN ?_ _ | refine Blk.drew ?_ | refine Blk.alloc ?_ _ | refine Blk.far ?_ (by first | omega | (simp; done) | (simp; omega)) _ | assumption)))
  have hz3 := hb3.size
  try simp only [World.size_alloc, World.drewN, World.drew] at hz3
  clear hb3 K0_2 z0_0_2 l0_2
  have l0_3 : w.heap.size < w3.heap.size := K0_3.out.lt
  have z0_0_3 : w3.cell? ⟨w.heap.size, 0, none⟩ = some (.slice A1 n1 c1) := K0_3.out.cell 0
  go_wp2_with fail
  refine (reverse_any w2.heap.size A3 n1 c3 l _ HO3.out (by omega)).mono ?_
  rintro en w4 ⟨rfl, hb4, ho4⟩
  have HO4 := Lib.hid ho4
  have K0x := K0_3.out.below hb4 hl02
  have HBx := HB3.out.trans (hb4.mono hz2)
  clear ho4 hb4
  have HB4 := Lib.hid HBx
  have K0_4 := Lib.hid (show Blk w4 (w.heap.size) 62 #[.slice A1 n1 c1] from K0x)
  clear HBx K0x
  have l0_4 : w.heap.size < w4.heap.size := K0_4.out.lt
  have z0_0_4 : w4.cell? ⟨w.heap.size, 0, none⟩ = some (.slice A1 n1 c1) := K0_4.out.cell 0
  go_wp2
  go_region
  all_goals
    go_wp2_with fail
    obtain ⟨A4, c4, hv, hr4⟩ := own_reads HO4.out
    cases hv
    have hz4 := HB4.out.size
    have HR4 := Lib.hid hr4
    obtain ⟨⟨L, ok⟩, hL⟩ : ∃ r, begF (1, 1) l.reverse = r := ⟨_, rfl⟩
    have htr : trainF (perStep z) (perStep z ((n1 : Int) - 1, 0) (1, 1)) (1, 1) l.reverse = (L.foldl (perStep z) ((n1 : Int) - 1, 0), ok) := by rw [trainF_beg (perStep z) l.reverse _ (1, 1), hL]
    obtain ⟨⟨ta, ts⟩, ht⟩ : ∃ t, L.foldl (perStep z) ((n1 : Int) - 1, 0) = t := ⟨_, rfl⟩
    rw [ht] at htr
    have hF := HR.out
    rw [hL] at hF
    simp only [ht] at hF
    have HTR := Lib.hid htr
    have HF := Lib.hid hF
    have hE4 := K0_4.out
    have hZ4 := HX1.out.belowLe HB4.out hN1
    have HE4 := Lib.hid hE4
    have HZ4 := Lib.hid hZ4
    clear hr4 htr hF hE4 hZ4 hL ht
  · refine (trainN_is (w4.heap.size + 2) 111 #[.pointer (some ⟨w4.heap.size + 1, 0, none⟩), .pointer (some ⟨w4.heap.size, 0, none⟩), .pointer (some ⟨w.heap.size, 0, none⟩)] (InvP w4 (w4.heap.size + 1) w4.heap.size n1) (perStep z) 12
      (per2_each w4 _ _ _ _ A1 n1 c1 N1 z HE4.out HZ4.out (by omega) HZOK.out hn12 (by omega) (by omega) (by omega) (by omega) (by omega)) A3 n1 c3 w4.heap.size l.reverse _ ((n1 : Int) - 1, 0) (ta, ts) ok HTR.out (by simp [World.drew]) (by omega)
      (fun m s w' hi => HR4.out.belowLe hi.low (Nat.le_refl _)) ⟨?_, ?_, ?_, by simp, by simp, by simp⟩ hn12 (by omega) (okP_rev HOK.out)).mono ?_
    · repeat' (first | exact Below.refl _ _ | assumption | refine below_drewN ?_ _ | refine Below.drew ?_ | refine Below.alloc ?_ (by first | omega | (simp; done) | (simp; omega)) _ | refine Below.setCell ?_ (by first | omega | (simp; done) | (simp; omega)) _)
    · repeat' (first | assumption | exact Blk.at_ _ (by first | rfl | (simp; done) | (simp; omega)) _ _ | refine Blk.drewN ?_ _ | refine Blk.drew ?_ | refine Blk.alloc ?_ _ | refine Blk.far ?_ (by first | omega | (simp; done) | (simp; omega)) _)
    · repeat' (first | assumption | exact Blk.at_ _ (by first | rfl | (simp; done) | (simp; omega)) _ _ | refine Blk.drewN ?_ _ | refine Blk.drew ?_ | refine Blk.alloc ?_ _ | refine Blk.far ?_ (by first | omega | (simp; done) | (simp; omega)) _)
    rintro en w5 ⟨rfl, mm, hi⟩
    have y0 : w5.cell? ⟨w4.heap.size, 0, none⟩ = some (.int .i64 ts) := hi.sum.cell 0
    have HB5 := Lib.hid (HB4.out.trans (hi.low.mono hz4))
    clear hi
    cases ok with
    | false =>
      have hF := HF.out
      rw [if_pos rfl] at hF
      cases hF
      go_wp2
      go_ret2
      exact ⟨rfl, HB5.out⟩
    | true =>
      have hF := HF.out
      rw [if_neg (by simp)] at hF
      cases hF
      go_wp2
      go_ret2
      exact ⟨rfl, HB5.out⟩
  · refine (trainN_is (w4.heap.size + 2) 111 #[.pointer (some ⟨w4.heap.size, 0, none⟩), .pointer (some ⟨w4.heap.size + 1, 0, none⟩), .pointer (some ⟨w.heap.size, 0, none⟩)] (InvP w4 w4.heap.size (w4.heap.size + 1) n1) (perStep z) 12
      (per2_each w4 _ _ _ _ A1 n1 c1 N1 z HE4.out HZ4.out (by omega) HZOK.out hn12 (by omega) (by omega) (by omega) (by omega) (by omega)) A3 n1 c3 w4.heap.size l.reverse _ ((n1 : Int) - 1, 0) (ta, ts) ok HTR.out (by simp [World.drew]) (by omega)
      (fun m s w' hi => HR4.out.belowLe hi.low (Nat.le_refl _)) ⟨?_, ?_, ?_, by simp, by simp, by simp⟩ hn12 (by omega) (okP_rev HOK.out)).mono ?_
    · repeat' (first | exact Below.refl _ _ | assumption | refine below_drewN ?_ _ | refine Below.drew ?_ | refine Below.alloc ?_ (by first | omega | (simp; done) | (simp; omega)) _ | refine Below.setCell ?_ (by first | omega | (simp; done) | (simp; omega)) _)
    · repeat' (first | assumption | exact Blk.at_ _ (by first | rfl | (simp; done) | (simp; omega)) _ _ | refine Blk.drewN ?_ _ | refine Blk.drew ?_ | refine Blk.alloc ?_ _ | refine Blk.far ?_ (by first | omega | (simp; done) | (simp; omega)) _)
    · repeat' (first | assumption | exact Blk.at_ _ (by first | rfl | (simp; done) | (simp; omega)) _ _ | refine Blk.drewN ?_ _ | refine Blk.drew ?_ | refine Blk.alloc ?_ _ | refine Blk.far ?_ (by first | omega | (simp; done) | (simp; omega)) _)
    rintro en w5 ⟨rfl, mm, hi⟩
    have y0 : w5.cell? ⟨w4.heap.size + 1, 0, none⟩ = some (.int .i64 ts) := hi.sum.cell 0
    have HB5 := Lib.hid (HB4.out.trans (hi.low.mono hz4))
    clear hi
    cases ok with
    | false =>
      have hF := HF.out
      rw [if_pos rfl] at hF
      cases hF
      go_wp2
      go_ret2
      exact ⟨rfl, HB5.out⟩
    | true =>
      have hF := HF.out
      rw [if_neg (by simp)] at hF
      cases hF
      go_wp2
      go_ret2
      exact ⟨rfl, HB5.out⟩

end Go.Proofs.Ytmioamcgbihhjaa
