/- The walk of the statement on convergents. -/
import Derived.Test.YtmioamcgbihhjaaAwake
import Derived.Test.YtmioamcgbihhjaaFxg
import Derived.Test.YtmioamcgbihhjaaConv2
import Derived.Test.YtmioamcgbihhjaaConvLaw
namespace Go.Proofs.Ytmioamcgbihhjaa
open Go.RowKit

theorem convs_bad (n d t : Int) (h : convErr n d = t) (ht : t ≠ 0) (w : World) (h1 : -9223372036854775808 ≤ n) (h2 : n ≤ 9223372036854775807) (h3 : -9223372036854775808 ≤ d) (h4 : d ≤ 9223372036854775807) :
    Calls Try.prog 16 #[.agg #[.int .i64 n, .int .i64 d]] w fun e w' => e = .returned (.tuple #[.slice none 0 0, .int .i64 t]) ∧ Below w.heap.size w w' :=
  (convs_any n d w h1 h2 h3 h4).mono fun e w' ⟨hb, he, _⟩ => ⟨by rw [he (by rw [h]; exact ht), h], hb⟩

theorem convs_ok (n d : Int) (h : convErr n d = 0) (w : World) (h1 : -9223372036854775808 ≤ n) (h2 : n ≤ 9223372036854775807) (h3 : -9223372036854775808 ≤ d) (h4 : d ≤ 9223372036854775807) :
    Calls Try.prog 16 #[.agg #[.int .i64 n, .int .i64 d]] w fun e w' => ∃ A c, e = .returned (.tuple #[.slice A (convs n d).length c, .int .i64 0]) ∧ Below w.heap.size w w' ∧ Reads w' w'.heap.size 2 A (convs n d).length (cells2 (convs n d)) :=
  (convs_any n d w h1 h2 h3 h4).mono fun e w' ⟨hb, _, he⟩ => by
    obtain ⟨v, rfl, ho⟩ := he h
    obtain ⟨A, c, rfl, hr⟩ := own_reads ho
    exact ⟨A, c, rfl, hb, hr⟩

theorem convref_ok (n d : Int) (w : World) (h1 : 0 ≤ n) (h2 : n ≤ 1000000000) (h3 : 1 ≤ d) (h4 : d ≤ 1000000000) :
    Calls Try.prog 19 #[.agg #[.int .i64 n, .int .i64 d]] w fun e w' => ∃ A c, e = .returned (.slice A (convs n d).length c) ∧ Below w.heap.size w w' ∧ Reads w' w'.heap.size 2 A (convs n d).length (cells2 (convs n d)) :=
  (convref_any n d w h1 h2 h3 h4).mono fun e w' ⟨hb, v, he, ho⟩ => by
    obtain ⟨A, c, rfl, hr⟩ := own_reads ho
    exact ⟨A, c, he, hb, hr⟩

theorem checkfracref_is (n d t : Int) (h : fracErr n d = t) (w : World) (h1 : -9223372036854775808 ≤ n) (h2 : n ≤ 9223372036854775807) (h3 : -9223372036854775808 ≤ d) (h4 : d ≤ 9223372036854775807) :
    Calls Try.prog 17 #[.agg #[.int .i64 n, .int .i64 d]] w fun e w' => e = .returned (.int .i64 t) ∧ Below w.heap.size w w' := h ▸ checkfracref_any n d w h1 h2 h3 h4

theorem abs_ret (x : Int) (w : World) (h1 : unit x) : Calls Try.prog 20 #[.int .i64 x] w fun e w' => e = .returned (.int .i64 1) ∧ w = w' := by
  rcases h1 with rfl | rfl
  · go_enter Try.func20, Try.ntmps20
    go_wp2
    go_ret
    exact ⟨rfl, rfl⟩
  · go_enter Try.func20, Try.ntmps20
    go_wp2
    go_ret
    exact ⟨rfl, rfl⟩

set_option maxRecDepth 100000 in
set_option maxHeartbeats 1000000 in
theorem law3_any (n d : Int) (w : World) (h1 : -9223372036854775808 ≤ n) (h2 : n ≤ 9223372036854775807) (h3 : -9223372036854775808 ≤ d) (h4 : d ≤ 9223372036854775807) :
    Calls Try.prog 3 #[.agg #[.int .i64 n, .int .i64 d]] w fun e w' => e = .returned (.bool true) ∧ Below w.heap.size w w' := by
  obtain ⟨E, hE⟩ : ∃ E, fracErr n d = E := ⟨_, rfl⟩
  have HE := Lib.hid hE
  by_cases h0 : E = 0
  rotate_left
  · have hne : (E == 0) = false := by simpa using h0
    have hne' : (E != 0) = true := by simpa using h0
    have HC : Hid (convErr n d = E) := by show _ = _; unfold convErr; rw [if_pos (by rw [hE]; exact h0), hE]
    clear hE
    go_enter Try.func3, Try.ntmps3
    go_wp2_with fail
    refine (awake_any _).mono ?_
    rintro e w1 ⟨rfl, hb1⟩
    have k1 := Blk.below (Blk.at_ w rfl 23 #[.int .i64 n, .int .i64 d]) hb1 (by simp)
    have y0 : w1.cell? ⟨w.heap.size, 0, none⟩ = some (.int .i64 n) := k1.cell 0
    have y1 : w1.cell? ⟨w.heap.size, 1, none⟩ = some (.int .i64 d) := k1.cell 1
    have hbb1 : Below w.heap.size w w1 := ((Below.refl _ _).alloc (Nat.le_refl _) _).trans (hb1.mono (by simp))
    have HB1 := Lib.hid hbb1
    clear hb1 hbb1
    go_wp2_with fail
    refine (convs_bad n d E HC.out h0 _ h1 h2 h3 h4).mono ?_
    rintro e w2 ⟨rfl, hb2⟩
    have k2 := k1.below hb2 k1.lt
    have y2 : w2.cell? ⟨w.heap.size, 0, none⟩ = some (.int .i64 n) := k2.cell 0
    have y3 : w2.cell? ⟨w.heap.size, 1, none⟩ = some (.int .i64 d) := k2.cell 1
    have HB2 := Lib.hid (HB1.out.trans (hb2.mono HB1.out.size))
    clear hb2 k1
    go_wp2_with fail
    refine (checkfracref_is n d E HE.out _ h1 h2 h3 h4).mono ?_
    rintro e w3 ⟨rfl, hb3⟩
    have HB3 := Lib.hid (HB2.out.trans (hb3.mono HB2.out.size))
    clear hb3
    go_wp2_with fail
    go_ret
    exact ⟨rfl, HB3.out⟩
  subst h0
  obtain ⟨d1, d2, n1, n2, hg⟩ := fracErr_ok hE
  by_cases hneg : n < 0
  · have HC : Hid (convErr n d = 2) := by show _ = _; unfold convErr; rw [if_neg (by rw [hE]; simp), if_pos hneg]
    clear hE
    go_enter Try.func3, Try.ntmps3
    go_wp2_with fail
    refine (awake_any _).mono ?_
    rintro e w1 ⟨rfl, hb1⟩
    have k1 := Blk.below (Blk.at_ w rfl 23 #[.int .i64 n, .int .i64 d]) hb1 (by simp)
    have y0 : w1.cell? ⟨w.heap.size, 0, none⟩ = some (.int .i64 n) := k1.cell 0
    have y1 : w1.cell? ⟨w.heap.size, 1, none⟩ = some (.int .i64 d) := k1.cell 1
    have hbb1 : Below w.heap.size w w1 := ((Below.refl _ _).alloc (Nat.le_refl _) _).trans (hb1.mono (by simp))
    have HB1 := Lib.hid hbb1
    clear hb1 hbb1
    go_wp2_with fail
    refine (convs_bad n d 2 HC.out (by decide) _ h1 h2 h3 h4).mono ?_
    rintro e w2 ⟨rfl, hb2⟩
    have k2 := k1.below hb2 k1.lt
    have y2 : w2.cell? ⟨w.heap.size, 0, none⟩ = some (.int .i64 n) := k2.cell 0
    have y3 : w2.cell? ⟨w.heap.size, 1, none⟩ = some (.int .i64 d) := k2.cell 1
    have HB2 := Lib.hid (HB1.out.trans (hb2.mono HB1.out.size))
    clear hb2 k1
    go_wp2_with fail
    refine (checkfracref_is n d 0 HE.out _ h1 h2 h3 h4).mono ?_
    rintro e w3 ⟨rfl, hb3⟩
    have k3 := k2.below hb3 k2.lt
    have y4 : w3.cell? ⟨w.heap.size, 0, none⟩ = some (.int .i64 n) := k3.cell 0
    have HB3 := Lib.hid (HB2.out.trans (hb3.mono HB2.out.size))
    clear hb3 k2
    go_wp2_with fail
    go_ret
    exact ⟨rfl, HB3.out⟩
  · have HC : Hid (convErr n d = 0) := by show _ = _; unfold convErr; rw [if_neg (by rw [hE]; simp), if_neg hneg]
    clear hE
    have hst := Step.start (n := n) (d := d) (by omega) n2 d1
    have hlast : (convs n d).getLast? = some (n, d) := conv_last n d n d _ _ hst n2 d2 hg (by omega)
    have hnear : Near (convs n d) := near_tail (conv_near n d (0, 1) (1, 0) (.inl rfl))
    have hparts := conv_parts n d n d _ _ hst n2 d2
    have hlen : ((convs n d).length : Int) ≤ d := conv_length n d n d _ _ hst n2 d2
    obtain ⟨L, hL⟩ : ∃ L, convs n d = L := ⟨_, rfl⟩
    have hparts' : ∀ p ∈ L, 0 ≤ p.1 ∧ p.1 ≤ 1000000000 ∧ 0 ≤ p.2 ∧ p.2 ≤ 1000000000 := hL ▸ hparts
    obtain ⟨m, hm⟩ : ∃ m, L.length = m := ⟨_, rfl⟩
    have HL := Lib.hid hL
    have HM := Lib.hid hm
    rw [hL] at hlast hnear hlen
    have hmpos : 0 < m := by
      rw [← hm]
      cases L with
      | nil => cases hlast
      | cons x t => simp
    rw [hm] at hlen
    have hlm : L[m - 1]? = some (n, d) := by rw [List.getLast?_eq_getElem?, hm] at hlast; exact hlast
    obtain ⟨k, rfl⟩ : ∃ k, m = k + 1 := ⟨m - 1, by omega⟩
    have hlm' : L[k]? = some (n, d) := hlm
    have HLM := Lib.hid hlm'
    have HNEAR := Lib.hid hnear
    have HPARTS := Lib.hid hparts'
    clear hst hparts hL hm hlast hlm hlm' hnear hparts'
    have hconvs : ∀ w : World, Calls Try.prog 16 #[.agg #[.int .i64 n, .int .i64 d]] w fun e w' => ∃ A c, e = .returned (.tuple #[.slice A (k + 1) c, .int .i64 0]) ∧ Below w.heap.size w w' ∧ Reads w' w'.heap.size 2 A (k + 1) (cells2 L) := fun w => by
      have := convs_ok n d HC.out w h1 h2 h3 h4
      rw [HL.out, HM.out] at this
      exact this
    have hconvref : ∀ w : World, Calls Try.prog 19 #[.agg #[.int .i64 n, .int .i64 d]] w fun e w' => ∃ A c, e = .returned (.slice A (k + 1) c) ∧ Below w.heap.size w w' ∧ Reads w' w'.heap.size 2 A (k + 1) (cells2 L) := fun w => by
      have := convref_ok n d w (by omega) n2 d1 d2
      rw [HL.out, HM.out] at this
      exact this
    have HCONV := Lib.hid hconvs
    have HREF := Lib.hid hconvref
    clear hconvs hconvref
    go_enter Try.func3, Try.ntmps3
    go_wp2_with fail
    refine (awake_any _).mono ?_
    rintro e w1 ⟨rfl, hb1⟩
    have k1 := Blk.below (Blk.at_ w rfl 23 #[.int .i64 n, .int .i64 d]) hb1 (by simp)
    have y0 : w1.cell? ⟨w.heap.size, 0, none⟩ = some (.int .i64 n) := k1.cell 0
    have y1 : w1.cell? ⟨w.heap.size, 1, none⟩ = some (.int .i64 d) := k1.cell 1
    have hbb1 : Below w.heap.size w w1 := ((Below.refl _ _).alloc (Nat.le_refl _) _).trans (hb1.mono (by simp))
    have HB1 := Lib.hid hbb1
    clear hb1 hbb1
    go_wp2_with fail
    refine (HCONV.out _).mono ?_
    rintro e w2 ⟨A, c, rfl, hb2, hr2⟩
    obtain ⟨sb, so, hA, hsb, hsc⟩ := hr2.2 hmpos
    subst hA
    have k2 := k1.below hb2 k1.lt
    have y2 : w2.cell? ⟨w.heap.size, 0, none⟩ = some (.int .i64 n) := k2.cell 0
    have y3 : w2.cell? ⟨w.heap.size, 1, none⟩ = some (.int .i64 d) := k2.cell 1
    have HB2 := Lib.hid (HB1.out.trans (hb2.mono HB1.out.size))
    have HR2 := Lib.hid hr2
    clear hb2 k1 hr2 hsc
    go_wp2_with fail
    refine (checkfracref_is n d 0 HE.out _ h1 h2 h3 h4).mono ?_
    rintro e w3 ⟨rfl, hb3⟩
    have k3 := k2.below hb3 k2.lt
    have y4 : w3.cell? ⟨w.heap.size, 0, none⟩ = some (.int .i64 n) := k3.cell 0
    have y5 : w3.cell? ⟨w.heap.size, 1, none⟩ = some (.int .i64 d) := k3.cell 1
    have hr3 := HR2.out.belowLe hb3 (Nat.le_refl _)
    have hs3 : sb < w3.heap.size := Nat.lt_of_lt_of_le hsb hb3.size
    have HR3 := Lib.hid (Reads.more hr3 hb3.size)
    have HB3 := Lib.hid (HB2.out.trans (hb3.mono HB2.out.size))
    have K3 := Lib.hid k3
    clear hb3 k2 k3 hr3
    go_wp2_with fail
    have hkb : k + 1 ≤ 1000000000 := by omega
    have hki : ((k + 1 : Nat) : Int) - 1 = (k : Int) := by omega
    have hfrac : ∀ A c A' c' (w : World) N, Reads w N 2 A (k + 1) (cells2 L) → Reads w N 2 A' (k + 1) (cells2 L) → Calls Try.prog 18 #[.slice A (k + 1) c, .slice A' (k + 1) c'] w fun e w' => e = .returned (.bool true) ∧ ∃ n, w' = w.drewN n := fun A c A' c' w N h1 h2 =>
      (fracs_any A A' c c' (k + 1) (k + 1) L L w N h1 h2 (by omega) (by omega)).mono fun e w' h => by simpa using h
    have hpick : ∀ (w5 : World), Reads w5 w5.heap.size 2 (some ⟨sb, so, none⟩) (k + 1) (cells2 L) → w5.cell? ⟨sb, so + k * 2, none⟩ = some (.int .i64 n) ∧ w5.cell? ⟨sb, so + k * 2 + 1, none⟩ = some (.int .i64 d) := fun w5 hr => by
      obtain ⟨b', o', p, hA, _, hp, c0, c1⟩ := hr.pair (show k < k + 1 by omega)
      cases hA
      obtain rfl := Option.some.inj (HLM.out.symm.trans hp)
      exact ⟨c0, c1⟩
    have HFR := Lib.hid hfrac
    clear hfrac hki
    obtain ⟨C0, C1⟩ := hpick w3 HR3.out
    have g0 : (0 : Int) ≤ (k : Int) := by omega
    have g1 : (k : Int) < (k : Int) + 1 := by omega
    have g2 : (((k : Int) + 1) == 0) = false := by simp; omega
    have hwk : IntKind.i64.wrap (k : Int) = k := IntWalk.i64_in (k : Int) ⟨by omega, by omega⟩
    have HC0 := Lib.hid C0
    have HC1 := Lib.hid C1
    clear C0 C1 hpick
    refine Fx.regionG (fun _ g f w' => Below w3.heap.size w3 w' ∧ (∀ x, g = some x → Reads w' w'.heap.size 2 x.1 (k + 1) (cells2 L))) (fun x : Option Addr × Nat => .slice x.1 (k + 1) x.2) 5 (by kernel_rfl) (by kernel_rfl) (by kernel_rfl) ?_ ?_
    · intro f hf0
      exact ⟨below_drewN (Below.refl _ _) 1, fun x h => by cases h⟩
    repeat (first
      | (refine Fx.skipE_ (by rfl) (fun g f w h => h) ?_; simp only [Act.put, List.setIfInBounds_toArray, List.set_cons_zero, List.set_cons_succ])
      | (refine Fx.valE_ ?_ (by rfl) ?_ (fun g f w h => h) ?_
         rotate_left
         · intro g f w' hD hk
           obtain ⟨hb, hg⟩ := id hD
           have z0 : w'.cell? ⟨w.heap.size, 0, none⟩ = some (.int .i64 n) := (K3.out.below hb K3.out.lt).cell 0
           have z1 : w'.cell? ⟨w.heap.size, 1, none⟩ = some (.int .i64 d) := (K3.out.below hb K3.out.lt).cell 1
           have c0 : w'.cell? ⟨sb, so + k * 2, none⟩ = some (.int .i64 n) := (hb.cell (p := ⟨sb, so + k * 2, none⟩) hs3).trans HC0.out
           have c1 : w'.cell? ⟨sb, so + k * 2 + 1, none⟩ = some (.int .i64 d) := (hb.cell (p := ⟨sb, so + k * 2 + 1, none⟩) hs3).trans HC1.out
           clear hk hD hb hg
           go_simp
           try rfl
         simp only [Act.put, List.setIfInBounds_toArray, List.set_cons_zero, List.set_cons_succ]))
    refine Fx.callE_ ?_ ?_ (by rfl) (by rfl) ?_ ?_ ?_
    rotate_left 2
    · intro w'
      go_simp
      refine ⟨?_, ?_⟩ <;> rfl
    · intro f w' hD hk
      exact (HREF.out w').mono fun e w5 ⟨A, c, he, hb5, hr5⟩ => ⟨(A, c), he, hD.1.trans (hb5.mono hD.1.size), fun x h => by cases h; exact hr5⟩
    intro x
    simp only [Act.put, List.setIfInBounds_toArray, List.set_cons_zero, List.set_cons_succ]
    repeat (first
      | (refine Fx.skip_ (by rfl) (fun f w h => h) ?_; simp only [Act.put, List.setIfInBounds_toArray, List.set_cons_zero, List.set_cons_succ])
      | (refine Fx.val_ ?_ (by rfl) ?_ (fun f w h => h) ?_
         rotate_left
         · intro f w' hD hk
           obtain ⟨hb, hg⟩ := id hD
           have z0 : w'.cell? ⟨w.heap.size, 0, none⟩ = some (.int .i64 n) := (K3.out.below hb K3.out.lt).cell 0
           have z1 : w'.cell? ⟨w.heap.size, 1, none⟩ = some (.int .i64 d) := (K3.out.below hb K3.out.lt).cell 1
           have c0 : w'.cell? ⟨sb, so + k * 2, none⟩ = some (.int .i64 n) := (hb.cell (p := ⟨sb, so + k * 2, none⟩) hs3).trans HC0.out
           have c1 : w'.cell? ⟨sb, so + k * 2 + 1, none⟩ = some (.int .i64 d) := (hb.cell (p := ⟨sb, so + k * 2 + 1, none⟩) hs3).trans HC1.out
           clear hk hD hb hg
           go_simp
           try rfl
         simp only [Act.put, List.setIfInBounds_toArray, List.set_cons_zero, List.set_cons_succ]))
    refine Fx.call_ (.bool true) ?_ ?_ (by rfl) ?_ ?_ ?_
    rotate_left 2
    · intro w'
      go_simp
      refine ⟨?_, ?_⟩ <;> rfl
    · intro f w' hD hk
      exact (HFR.out (some ⟨sb, so, none⟩) c x.1 x.2 w' w'.heap.size (Reads.more (HR3.out.belowLe hD.1 (Nat.le_refl _)) hD.1.size) (hD.2 x rfl)).mono fun e w'' ⟨he, q, hw⟩ => ⟨he, by rw [hw]; exact below_drewN hD.1 _, fun y hy => by rw [hw]; exact (hD.2 y hy).drewN _⟩
    simp only [Act.put, List.setIfInBounds_toArray, List.set_cons_zero, List.set_cons_succ]
    repeat (first
      | (refine Fx.skip_ (by rfl) (fun f w h => h) ?_; simp only [Act.put, List.setIfInBounds_toArray, List.set_cons_zero, List.set_cons_succ])
      | (refine Fx.val_ ?_ (by rfl) ?_ (fun f w h => h) ?_
         rotate_left
         · intro f w' hD hk
           obtain ⟨hb, hg⟩ := id hD
           have z0 : w'.cell? ⟨w.heap.size, 0, none⟩ = some (.int .i64 n) := (K3.out.below hb K3.out.lt).cell 0
           have z1 : w'.cell? ⟨w.heap.size, 1, none⟩ = some (.int .i64 d) := (K3.out.below hb K3.out.lt).cell 1
           have c0 : w'.cell? ⟨sb, so + k * 2, none⟩ = some (.int .i64 n) := (hb.cell (p := ⟨sb, so + k * 2, none⟩) hs3).trans HC0.out
           have c1 : w'.cell? ⟨sb, so + k * 2 + 1, none⟩ = some (.int .i64 d) := (hb.cell (p := ⟨sb, so + k * 2 + 1, none⟩) hs3).trans HC1.out
           clear hk hD hb hg
           go_simp
           try rfl
         simp only [Act.put, List.setIfInBounds_toArray, List.set_cons_zero, List.set_cons_succ]))
    refine Fx.nil_ ?_
    intro f w1 hall hD
    obtain ⟨hb, hg⟩ := hD
    try clear hall
    clear hg
    go_wp2
    go_loopw [6] (fun i wr => ∃ j : Nat, 1 ≤ j ∧ j ≤ k + 1 ∧ i = .int .i64 j ∧ Below w3.heap.size w3 wr) (fun i _ => k + 1 - (intOf i).toNat)
    case atStart => exact ⟨1, by omega, by omega, rfl, hb⟩
    case round =>
      obtain ⟨j, hj1, hj2, rfl, hbj⟩ := hrel
      have HB := Lib.hid hbj
      clear hbj hb
      by_cases hlt : j < k + 1
      · obtain ⟨i, rfl⟩ : ∃ i, j = i + 1 := ⟨j - 1, by omega⟩
        obtain ⟨p, q, hp, hq, e0, e1, e2, e3⟩ : ∃ p q : Int × Int, L[i]? = some p ∧ L[i + 1]? = some q ∧ w3.cell? ⟨sb, so + i * 2, none⟩ = some (.int .i64 p.1) ∧ w3.cell? ⟨sb, so + i * 2 + 1, none⟩ = some (.int .i64 p.2) ∧
            w3.cell? ⟨sb, so + (i + 1) * 2, none⟩ = some (.int .i64 q.1) ∧ w3.cell? ⟨sb, so + (i + 1) * 2 + 1, none⟩ = some (.int .i64 q.2) := by
          obtain ⟨b1, o1, p, hA1, _, hp, c0, c1⟩ := HR3.out.pair (show i < k + 1 by omega)
          obtain ⟨b2, o2, q, hA2, _, hq, c2, c3⟩ := HR3.out.pair (show i + 1 < k + 1 by omega)
          cases hA1
          cases hA2
          exact ⟨p, q, hp, hq, c0, c1, c2, c3⟩
        obtain ⟨p1, p2⟩ := p
        obtain ⟨q1, q2⟩ := q
        have hu := HNEAR.out i _ _ hp hq
        have hpp := HPARTS.out _ (List.mem_of_getElem? hp)
        have hqq := HPARTS.out _ (List.mem_of_getElem? hq)
        simp only at hu hpp hqq e0 e1 e2 e3
        obtain ⟨pa, pb, pc, pd⟩ := hpp
        obtain ⟨qa, qb, qc, qd⟩ := hqq
        have m1 : 0 ≤ q1 * p2 ∧ q1 * p2 ≤ 1000000000000000000 := ⟨Int.mul_nonneg qa pc, by have := Int.mul_le_mul qb pd pc (by omega); omega⟩
        have m2 : 0 ≤ p1 * q2 ∧ p1 * q2 ≤ 1000000000000000000 := ⟨Int.mul_nonneg pa qc, by have := Int.mul_le_mul pb qd qc (by omega); omega⟩
        obtain ⟨m1a, m1b⟩ := m1
        obtain ⟨m2a, m2b⟩ := m2
        have r1 : -9223372036854775808 ≤ q1 * p2 ∧ q1 * p2 ≤ 9223372036854775807 := ⟨by omega, by omega⟩
        have r2 : -9223372036854775808 ≤ p1 * q2 ∧ p1 * q2 ≤ 9223372036854775807 := ⟨by omega, by omega⟩
        have r3 : -9223372036854775808 ≤ q1 * p2 - p1 * q2 ∧ q1 * p2 - p1 * q2 ≤ 9223372036854775807 := ⟨by omega, by omega⟩
        have r4 : -9223372036854775808 ≤ (i : Int) ∧ (i : Int) ≤ 9223372036854775807 := ⟨by omega, by omega⟩
        have v5 : (i : Int) < (k : Int) + 1 := by omega
        have v6 : (0 : Int) ≤ (i : Int) := by omega
        have v7 : ((i + 1 : Nat) : Int) < (k : Int) + 1 := by omega
        have v10 : i < k := by omega
        have v11 : ((i + 1 : Nat) : Int) - 1 = (i : Int) := by omega
        have v1 := IntWalk.i64_in (q1 * p2) r1
        have v2 := IntWalk.i64_in (p1 * q2) r2
        have v3 := IntWalk.i64_in (q1 * p2 - p1 * q2) r3
        have v8 : IntKind.i64.wrap (i : Int) = (i : Int) := IntWalk.i64_in (i : Int) r4
        have v4 : IntKind.i64.wrap (((i + 1 : Nat) : Int) - 1) = (i : Int) := by rw [v11]; exact v8
        clear v11 r1 r2 r3 r4
        have HU := Lib.hid hu
        have E0 := Lib.hid e0
        have E1 := Lib.hid e1
        have E2 := Lib.hid e2
        have E3 := Lib.hid e3
        clear hu e0 e1 e2 e3 hp hq
        go_wp2
        refine Fx.region (fun f w' => Below w3.heap.size w3 w') (by kernel_rfl) (by kernel_rfl) ?_ ?_
        · intro f hf0
          exact below_drewN HB.out 1
        repeat (first
          | (refine Fx.skip_ (by rfl) (fun f w h => h) ?_; simp only [Act.put, List.setIfInBounds_toArray, List.set_cons_zero, List.set_cons_succ])
          | (refine Fx.val_ ?_ (by rfl) ?_ (fun f w h => h) ?_
             rotate_left
             · intro f w' hD hk
               obtain hb := id hD
               have z0 : w'.cell? ⟨sb, so + i * 2, none⟩ = some (.int .i64 p1) := (hb.cell (p := ⟨sb, so + i * 2, none⟩) hs3).trans E0.out
               have z1 : w'.cell? ⟨sb, so + i * 2 + 1, none⟩ = some (.int .i64 p2) := (hb.cell (p := ⟨sb, so + i * 2 + 1, none⟩) hs3).trans E1.out
               have z2 : w'.cell? ⟨sb, so + (i + 1) * 2, none⟩ = some (.int .i64 q1) := (hb.cell (p := ⟨sb, so + (i + 1) * 2, none⟩) hs3).trans E2.out
               have z3 : w'.cell? ⟨sb, so + (i + 1) * 2 + 1, none⟩ = some (.int .i64 q2) := (hb.cell (p := ⟨sb, so + (i + 1) * 2 + 1, none⟩) hs3).trans E3.out
               clear hk hD hb
               go_simp
               try rfl
             simp only [Act.put, List.setIfInBounds_toArray, List.set_cons_zero, List.set_cons_succ]))
        refine Fx.call_ (.int .i64 1) ?_ ?_ (by rfl) ?_ ?_ ?_
        rotate_left 2
        · intro w'
          go_simp
          refine ⟨?_, ?_⟩ <;> rfl
        · intro f w' hD hk
          exact (abs_ret (q1 * p2 - p1 * q2) w' HU.out).mono fun e w'' ⟨he, hw⟩ => ⟨he, hw ▸ hD⟩
        simp only [Act.put, List.setIfInBounds_toArray, List.set_cons_zero, List.set_cons_succ]
        repeat (first
          | (refine Fx.skip_ (by rfl) (fun f w h => h) ?_; simp only [Act.put, List.setIfInBounds_toArray, List.set_cons_zero, List.set_cons_succ])
          | (refine Fx.val_ ?_ (by rfl) ?_ (fun f w h => h) ?_
             rotate_left
             · intro f w' hD hk
               obtain hb := id hD
               have z0 : w'.cell? ⟨sb, so + i * 2, none⟩ = some (.int .i64 p1) := (hb.cell (p := ⟨sb, so + i * 2, none⟩) hs3).trans E0.out
               have z1 : w'.cell? ⟨sb, so + i * 2 + 1, none⟩ = some (.int .i64 p2) := (hb.cell (p := ⟨sb, so + i * 2 + 1, none⟩) hs3).trans E1.out
               have z2 : w'.cell? ⟨sb, so + (i + 1) * 2, none⟩ = some (.int .i64 q1) := (hb.cell (p := ⟨sb, so + (i + 1) * 2, none⟩) hs3).trans E2.out
               have z3 : w'.cell? ⟨sb, so + (i + 1) * 2 + 1, none⟩ = some (.int .i64 q2) := (hb.cell (p := ⟨sb, so + (i + 1) * 2 + 1, none⟩) hs3).trans E3.out
               clear hk hD hb
               go_simp
               try rfl
             simp only [Act.put, List.setIfInBounds_toArray, List.set_cons_zero, List.set_cons_succ]))
        refine Fx.nil_ ?_
        intro f w1 hall hD
        have hb9 := hD
        clear hD
        try clear hall
        go_wp2
        go_roundw
        case rel => exact ⟨i + 1 + 1, by omega, by omega, by go_num, hb9⟩
        case measure => simp [intOf]; omega
      · go_wp2
        go_ret
        exact ⟨rfl, HB3.out.trans (HB.out.mono HB3.out.size)⟩

end Go.Proofs.Ytmioamcgbihhjaa
