import Derived.Test.YtmioamcgbihhjaaQ15
import Derived.Test.YtmioamcgbihhjaaQ16
import Derived.Test.YtmioamcgbihhjaaQ5
import Derived.Test.YtmioamcgbihhjaaQ9

section
/- The reference's functions on trains of gears: the check, the products, the ratio and the turns. -/
namespace Go.Proofs.Ytmioamcgbihhjaa
open Go.RowKit

theorem rchecktrain_any (A : Option Addr) (n c N : Nat) (l : List (Int × Int)) (w : World) (hx : Reads w N 2 A n (cells2 l)) (hN : N ≤ w.heap.size) (hn : n ≤ 9223372036854775807) :
    Calls Try.prog 25 #[.slice A n c] w fun e w' => e = .returned (.int .i64 (trainErr l)) ∧ Below w.heap.size w w' := by
  have hxl := Lib.hid hx.len2
  have HX := Lib.hid hx
  clear hx
  by_cases h12 : (12 : Int) < n
  · have HE : Hid (trainErr l = 8) := by show _ = _; unfold trainErr; rw [if_pos (by rw [hxl.out]; omega)]
    go_enter Try.func25, Try.ntmps25
    go_wp2
    go_ret
    exact ⟨ret_int HE.out.symm, Below.refl _ _⟩
  have HE : Hid (trainErr l = if l.all okP then 0 else 2) := by show _ = _; unfold trainErr; rw [if_neg (by rw [hxl.out]; omega)]
  go_enter Try.func25, Try.ntmps25
  go_wp2
  go_loopw [3] (fun i wr => ∃ k : Nat, k ≤ n ∧ i = .int .i64 k ∧ (l.take k).all okP = true ∧ Below w.heap.size w wr) (fun i _ => n - (intOf i).toNat)
  case atStart => exact ⟨0, by omega, rfl, rfl, Below.refl _ _⟩
  case round =>
    obtain ⟨k, hk, rfl, ht, hb⟩ := hrel
    have HT := Lib.hid ht
    have HB := Lib.hid hb
    clear ht hb
    by_cases hlt : k < n
    · obtain ⟨xb, xo, p, rfl, hxb, hp, c0, c1⟩ := (HX.out.belowLe HB.out hN).pair hlt
      have HP := Lib.hid hp
      clear hp
      cases h1 : withinB p.1 1 500 with
      | false =>
        have HO := Lib.hid (okP_no1 h1)
        go_wp2_with (first | (go_at_call 78; refine (isteeth_any _ _ (by assumption) _).mono ?_; rintro e w' ⟨rfl, rfl⟩))
        go_ret
        exact ⟨ret_int (by rw [HE.out, all_no HP.out HO.out]; rfl), HB.out⟩
      | true =>
        cases h2 : withinB p.2 1 500 with
        | false =>
          have HO := Lib.hid (okP_no2 h2)
          go_wp2_with (first | (go_at_call 78; refine (isteeth_any _ _ (by assumption) _).mono ?_; rintro e w' ⟨rfl, rfl⟩))
          go_ret
          exact ⟨ret_int (by rw [HE.out, all_no HP.out HO.out]; rfl), HB.out⟩
        | true =>
          have HO := Lib.hid (okP_yes h1 h2)
          go_wp2_with (first | (go_at_call 78; refine (isteeth_any _ _ (by assumption) _).mono ?_; rintro e w' ⟨rfl, rfl⟩))
          go_roundw
          case rel => exact ⟨k + 1, by omega, by go_num, all_take_succ HT.out HP.out HO.out, HB.out⟩
          case measure => simp [intOf]; omega
    · go_wp2
      go_ret
      have e : l.take k = l := List.take_of_length_le (by rw [hxl.out]; omega)
      exact ⟨ret_int (by rw [HE.out, ← e, HT.out]; rfl), HB.out⟩

theorem rchecktrain_is (A : Option Addr) (n c N : Nat) (l : List (Int × Int)) (t : Int) (h : trainErr l = t) (w : World) (hx : Reads w N 2 A n (cells2 l)) (hN : N ≤ w.heap.size) (hn : n ≤ 9223372036854775807) :
    Calls Try.prog 25 #[.slice A n c] w fun e w' => e = .returned (.int .i64 t) ∧ Below w.heap.size w w' := h ▸ rchecktrain_any A n c N l w hx hN hn

/-- All products from one on, and whether all are small. -/
def begF : Int × Int → List (Int × Int) → List (Int × Int) × Bool
  | f, [] => ([f], true)
  | f, g :: l => if smallB (f.1 * g.1) (f.2 * g.2) then (f :: (begF (redN (f.1 * g.1) (f.2 * g.2), redD (f.1 * g.1) (f.2 * g.2)) l).1, (begF (redN (f.1 * g.1) (f.2 * g.2), redD (f.1 * g.1) (f.2 * g.2)) l).2) else ([f], false)

theorem trainF_beg {σ : Type} (step : σ → Int × Int → σ) : ∀ (l : List (Int × Int)) (s : σ) (f : Int × Int), trainF step (step s f) f l = ((begF f l).1.foldl step s, (begF f l).2)
  | [], s, f => rfl
  | g :: l, s, f => by
    simp only [trainF, begF]
    split
    · rw [trainF_beg step l]; rfl
    · rfl

theorem begF_len : ∀ (l : List (Int × Int)) (f : Int × Int), (begF f l).2 = true → (begF f l).1.length = l.length + 1
  | [], _, _ => rfl
  | g :: l, f, h => by
    simp only [begF] at h ⊢
    split at h
    · rw [if_pos (by assumption)]
      simp only at h ⊢
      rw [List.length_cons, begF_len l _ h]; rfl
    · cases h

theorem begF_part : ∀ (l : List (Int × Int)) (f : Int × Int), l.all okP = true → Part f.1 → Part f.2 → ∀ x ∈ (begF f l).1, Part x.1 ∧ Part x.2
  | [], f, _, h1, h2, x, hx => by simp [begF] at hx; exact hx ▸ ⟨h1, h2⟩
  | g :: l, f, hl, h1, h2, x, hx => by
    simp only [List.all_cons, Bool.and_eq_true] at hl
    obtain ⟨p1, p2, p3, p4⟩ := okP_part hl.1
    simp only [begF] at hx
    split at hx
    · rename_i hs
      have hr := red_part (part_bound h1 p1 p2).1 (part_bound h2 p3 p4).1 hs
      rcases List.mem_cons.1 hx with rfl | hx
      · exact ⟨h1, h2⟩
      · exact begF_part l _ hl.2 hr.1 hr.2 x hx
    · simp at hx; exact hx ▸ ⟨h1, h2⟩

/-- The reference takes the ratio of a pair in lowest terms first. -/
theorem of_scale {f1 f2 d v : Int} (hv : 1 ≤ v) (f : Int × Int) (hf : f = (f1, f2)) :
    smallB (f1 * redN d v) (f2 * redD d v) = smallB (f1 * d) (f2 * v) ∧ redN (f1 * redN d v) (f2 * redD d v) = redN (f1 * d) (f2 * v) ∧ redD (f1 * redN d v) (f2 * redD d v) = redD (f1 * d) (f2 * v) := by
  have hp : 0 < Int.gcd d v := Int.gcd_pos_of_ne_zero_right d (by omega)
  have e1 : (Int.gcd d v : Int) * redN d v = d := Int.mul_ediv_cancel' (Int.gcd_dvd_left d v)
  have e2 : (Int.gcd d v : Int) * redD d v = v := Int.mul_ediv_cancel' (Int.gcd_dvd_right d v)
  have hs := red_scale (k := (Int.gcd d v : Int)) (by omega) (f1 * redN d v) (f2 * redD d v)
  have m1 : (Int.gcd d v : Int) * (f1 * redN d v) = f1 * d := by rw [← Int.mul_assoc, Int.mul_comm _ f1, Int.mul_assoc, e1]
  have m2 : (Int.gcd d v : Int) * (f2 * redD d v) = f2 * v := by rw [← Int.mul_assoc, Int.mul_comm _ f2, Int.mul_assoc, e2]
  rw [m1, m2] at hs
  exact ⟨hs.2.2.symm, hs.1.symm, hs.2.1.symm⟩

theorem red_teeth {d v : Int} (h1 : 1 ≤ d) (h2 : d ≤ 500) (h3 : 1 ≤ v) (h4 : v ≤ 500) : 1 ≤ redN d v ∧ redN d v ≤ 500 ∧ 1 ≤ redD d v ∧ redD d v ≤ 500 := by
  have hp : 0 < Int.gcd d v := Int.gcd_pos_of_ne_zero_right d (by omega)
  have a1 : 0 < redN d v := Int.ediv_pos_of_pos_of_dvd (by omega) (by omega) (Int.gcd_dvd_left d v)
  have a2 : 0 < redD d v := Int.ediv_pos_of_pos_of_dvd (by omega) (by omega) (Int.gcd_dvd_right d v)
  have b1 : redN d v ≤ d := Int.ediv_le_self _ (by omega)
  have b2 : redD d v ≤ v := Int.ediv_le_self _ (by omega)
  omega

def BegPost (l : List (Int × Int)) (w : World) (e : Ending) (w' : World) : Prop :=
  Below w.heap.size w w' ∧ ((begF (1, 1) l).2 = true → ∃ A c, e = .returned (.tuple #[.slice A (l.length + 1) c, .bool true]) ∧ Reads w' w'.heap.size 2 A (l.length + 1) (cells2 (begF (1, 1) l).1)) ∧
    ((begF (1, 1) l).2 = false → e = .returned (.tuple #[.slice none 0 0, .bool false]))

theorem begF_step {f g : Int × Int} {l : List (Int × Int)} (h : smallB (f.1 * g.1) (f.2 * g.2) = true) :
    begF f (g :: l) = (f :: (begF (redN (f.1 * g.1) (f.2 * g.2), redD (f.1 * g.1) (f.2 * g.2)) l).1, (begF (redN (f.1 * g.1) (f.2 * g.2), redD (f.1 * g.1) (f.2 * g.2)) l).2) := by
  simp only [begF]; rw [if_pos h]
theorem begF_stop {f g : Int × Int} {l : List (Int × Int)} (h : smallB (f.1 * g.1) (f.2 * g.2) = false) : begF f (g :: l) = ([f], false) := by
  simp only [begF]; rw [if_neg (by rw [h]; exact Bool.false_ne_true)]

set_option maxRecDepth 100000 in
set_option maxHeartbeats 2000000 in
theorem begin_any (A : Option Addr) (n c N : Nat) (l : List (Int × Int)) (w : World) (hx : Reads w N 2 A n (cells2 l)) (hN : N ≤ w.heap.size) (hn : n ≤ 12) (hok : l.all okP = true) :
    Calls Try.prog 80 #[.slice A n c] w (BegPost l w) := by
  have hxl := Lib.hid hx.len2
  have HX := Lib.hid hx
  have HOK := Lib.hid hok
  clear hx hok
  obtain ⟨i0, hi0, hz0, hz1, hz2⟩ := info_parts info_frac
  have HI0 := Lib.hid hi0
  have HZ0 := Lib.hid hz0
  have HZ1 := Lib.hid hz1
  have HZ2 := Lib.hid hz2
  clear hi0 hz0 hz1 hz2
  go_enter Try.func80, Try.ntmps80
  go_wp2
  go_loopw [4, 5] (fun v i wr => ∃ (q : Nat) (pre : List (Int × Int)) (f : Int × Int), q ≤ n ∧ i = .int .i64 q ∧ pre.length = q ∧ Part f.1 ∧ Part f.2 ∧ Hid (begF (1, 1) l = (pre ++ (begF f (l.drop q)).1, (begF f (l.drop q)).2)) ∧
    Below w.heap.size w wr ∧ wr.ownsRow w.heap.size 23 2 v (q + 1) (cells2 (pre ++ [f]))) (fun _ i _ => n - (intOf i).toNat)
  case atStart =>
    refine ⟨0, [], (1, 1), by omega, rfl, rfl, ⟨by decide, by decide⟩, ⟨by decide, by decide⟩, by show _ = _; simp, ?_, ?_⟩
    · repeat' (first | exact Below.refl _ _ | assumption | refine below_drewN ?_ _ | refine Below.drew ?_ | refine Below.alloc ?_ (by first | omega | (simp; done) | (simp; omega)) _ | refine Below.setCell ?_ (by first | omega | (simp; done) | (simp; omega)) _)
    · exact ⟨rfl, .inr ⟨w.heap.size, 1, #[.int .i64 1, .int .i64 1], rfl, Nat.le_refl _, by first | exact Blk.new _ _ _ | simp, by omega, by decide, rfl, rfl⟩⟩
  case round =>
    obtain ⟨q, pre, f, hq, rfl, hpre, pf1, pf2, HT, hb, hown⟩ := hrel
    have HB := Lib.hid hb
    have HOWN := Lib.hid hown
    clear hb hown
    have hbs := HB.out.size
    obtain ⟨AO, CO, rfl, hro⟩ := own_reads HOWN.out
    have HRO := Lib.hid hro
    clear hro
    by_cases hlt : q < n
    · obtain ⟨xb, xo, p, rfl, hxb, hp, c0, c1⟩ := (HX.out.belowLe HB.out hN).pair hlt
      obtain ⟨ob, oo, f', rfl, hob, hf', d0, d1⟩ := HRO.out.pair (show q < q + 1 by omega)
      have hff : f' = f := by
        rw [List.getElem?_append_right (by omega), hpre, Nat.sub_self] at hf'
        simpa using hf'.symm
      subst hff
      obtain ⟨p1, p2, p3, p4⟩ := okP_part (List.all_eq_true.1 HOK.out p (List.mem_of_getElem? hp))
      obtain ⟨m1a, m1b⟩ := part_bound pf1 p1 p2
      obtain ⟨m2a, m2b⟩ := part_bound pf2 p3 p4
      obtain ⟨q1, q2, q3, q4⟩ := red_teeth p1 p2 p3 p4
      obtain ⟨n1a, n1b⟩ := part_bound pf1 q1 q2
      obtain ⟨n2a, n2b⟩ := part_bound pf2 q3 q4
      obtain ⟨s1, s2, s3⟩ := of_scale (f1 := f'.1) (f2 := f'.2) (d := p.1) (v := p.2) (by omega) f' rfl
      have hd : l.drop q = p :: l.drop (q + 1) := by
        obtain ⟨h1, h2⟩ := List.getElem?_eq_some_iff.1 hp
        rw [List.drop_eq_getElem_cons h1, h2]
      have w1 : IntKind.i64.wrap (q : Int) = (q : Int) := IntWalk.i64_in (q : Int) ⟨by omega, by omega⟩
      have w2 : (0 : Int) ≤ (q : Int) := by omega
      have w3 : (q : Int) < (q : Int) + 1 := by omega
      have w4 : (q : Int) < (n : Int) := by omega
      have HP := Lib.hid hp
      have HD := Lib.hid hd
      clear hp hd hf'
      have hobs : ob < wr.heap.size := hob
      have hxbs : xb < wr.heap.size := by omega
      cases h1 : smallB (f'.1 * p.1) (f'.2 * p.2) with
      | false =>
        have hM := mulref_no f'.1 f'.2 (redN p.1 p.2) (redD p.1 p.2) (s1.trans h1)
        have HM := Lib.hid hM
        have H1 := Lib.hid h1
        clear h1 hM s1 s2 s3
        go_wp2
        refine Fx.regionG (MkD 23 (.int .i64 0) (.int .i64 0) 14) (fun x : Nat => .pointer (some ⟨x, 0, none⟩)) 13 (by kernel_rfl) (by kernel_rfl) (by kernel_rfl) ?_ ?_
        · intro f hf0
          exact MkD.start (below_drewN (Below.refl _ _) 1)
        repeat (first
          | (refine Fx.skipE_ (by rfl) (fun g f w h => h) ?_; simp only [Act.put, List.setIfInBounds_toArray, List.set_cons_zero, List.set_cons_succ])
          | (refine Fx.valE_ ?_ (by rfl) ?_ (fun g f w h => h) ?_
             rotate_left
             · intro g f w' hD hk
               obtain ⟨hb, hg⟩ := id hD
               have t0 := (hb.cell (p := ⟨xb, _, none⟩) hxbs).trans c0
               have t1 := (hb.cell (p := ⟨xb, _, none⟩) hxbs).trans c1
               have t2 := (hb.cell (p := ⟨ob, _, none⟩) hobs).trans d0
               have t3 := (hb.cell (p := ⟨ob, _, none⟩) hobs).trans d1
               clear hk hD hb hg
               go_simp
               try rfl
             simp only [Act.put, List.setIfInBounds_toArray, List.set_cons_zero, List.set_cons_succ]))
        refine Fx.callvE_ (.agg #[.int .i64 (redN p.1 p.2), .int .i64 (redD p.1 p.2)]) ?_ ?_ (by rfl) ?_ ?_ ?_
        rotate_left 2
        · intro w'
          go_simp
          refine ⟨?_, ?_⟩ <;> rfl
        · intro g f w' hD hk
          exact (of_any p.1 p.2 _ p1 (by omega) p3 (by omega)).mono fun e w'' ⟨he, hw⟩ => ⟨he, hD.step hw (by decide)⟩
        simp only [Act.put, List.setIfInBounds_toArray, List.set_cons_zero, List.set_cons_succ]
        repeat (first
          | (refine Fx.skipE_ (by rfl) (fun g f w h => h) ?_; simp only [Act.put, List.setIfInBounds_toArray, List.set_cons_zero, List.set_cons_succ])
          | (refine Fx.valE_ ?_ (by rfl) ?_ (fun g f w h => h) ?_
             rotate_left
             · intro g f w' hD hk
               obtain ⟨hb, hg⟩ := id hD
               have t0 := (hb.cell (p := ⟨xb, _, none⟩) hxbs).trans c0
               have t1 := (hb.cell (p := ⟨xb, _, none⟩) hxbs).trans c1
               have t2 := (hb.cell (p := ⟨ob, _, none⟩) hobs).trans d0
               have t3 := (hb.cell (p := ⟨ob, _, none⟩) hobs).trans d1
               clear hk hD hb hg
               go_simp
               try rfl
             simp only [Act.put, List.setIfInBounds_toArray, List.set_cons_zero, List.set_cons_succ]))
        refine Fx.callvE_ (.tuple #[.agg #[.int .i64 0, .int .i64 0], .int .i64 8]) ?_ ?_ (by rfl) ?_ ?_ ?_
        rotate_left 2
        · intro w'
          go_simp
          refine ⟨?_, ?_⟩ <;> rfl
        · intro g f w' hD hk
          exact (HM.out _ (by omega) (by omega) n2a (by omega)).mono fun e w'' ⟨he, hw⟩ => ⟨he, hD.step hw (by decide)⟩
        simp only [Act.put, List.setIfInBounds_toArray, List.set_cons_zero, List.set_cons_succ]
        repeat (first
          | (refine Fx.skipE_ (by rfl) (fun g f w h => h) ?_; simp only [Act.put, List.setIfInBounds_toArray, List.set_cons_zero, List.set_cons_succ])
          | (refine Fx.valE_ ?_ (by rfl) ?_ (fun g f w h => h) ?_
             rotate_left
             · intro g f w' hD hk
               obtain ⟨hb, hg⟩ := id hD
               have t0 := (hb.cell (p := ⟨xb, _, none⟩) hxbs).trans c0
               have t1 := (hb.cell (p := ⟨xb, _, none⟩) hxbs).trans c1
               have t2 := (hb.cell (p := ⟨ob, _, none⟩) hobs).trans d0
               have t3 := (hb.cell (p := ⟨ob, _, none⟩) hobs).trans d1
               clear hk hD hb hg
               go_simp
               try rfl
             simp only [Act.put, List.setIfInBounds_toArray, List.set_cons_zero, List.set_cons_succ]))
        refine Fx.makeE_ (by rfl) (by rfl) ?_ ?_
        · intro f w' hD hk
          refine ⟨w'.heap.size, w'.alloc (.cells #[.int .i64 0, .int .i64 0] 23), ?_, ?_⟩
          · clear hD hk
            go_simp
            try rfl
          · exact hD.make (hk.2.1 14 (by kernel_rfl)) (by decide)
        intro x
        simp only [Act.put, List.setIfInBounds_toArray, List.set_cons_zero, List.set_cons_succ]
        refine Fx.store_ (fun w' => (w'.setCell ⟨x, 0, none⟩ (.int .i64 0)).setCell ⟨x, 1, none⟩ (.int .i64 0)) (by rfl) ?_ ?_ ?_
        · intro f w' hD hk
          obtain ⟨hb, hg⟩ := id hD
          obtain ⟨e0, e1, r1, r2, r3, r4⟩ := MkD.cells hD
          clear hk hD
          go_simp
        · intro f w' hD hk
          obtain ⟨hb, hg⟩ := id hD
          obtain ⟨e0, e1, r1, r2, r3, r4⟩ := MkD.cells hD
          exact hD.store
        simp only [Act.put, List.setIfInBounds_toArray, List.set_cons_zero, List.set_cons_succ]
        repeat (first
          | (refine Fx.skip_ (by rfl) (fun f w h => h) ?_; simp only [Act.put, List.setIfInBounds_toArray, List.set_cons_zero, List.set_cons_succ])
          | (refine Fx.val_ ?_ (by rfl) ?_ (fun f w h => h) ?_
             rotate_left
             · intro f w' hD hk
               obtain ⟨hb, hg⟩ := id hD
               have t0 := (hb.cell (p := ⟨xb, _, none⟩) hxbs).trans c0
               have t1 := (hb.cell (p := ⟨xb, _, none⟩) hxbs).trans c1
               have t2 := (hb.cell (p := ⟨ob, _, none⟩) hobs).trans d0
               have t3 := (hb.cell (p := ⟨ob, _, none⟩) hobs).trans d1
               clear hk hD hb hg
               go_simp
               try rfl
             simp only [Act.put, List.setIfInBounds_toArray, List.set_cons_zero, List.set_cons_succ]))
        refine Fx.nil_ ?_
        intro f w1 hall hD
        obtain ⟨hb, hg⟩ := hD
        try clear hall
        have hbb := HB.out.trans (hb.mono hbs)
        have HBB := Lib.hid hbb
        clear hb hg hbb
        go_wp2
        go_ret2
        refine ⟨HBB.out, fun h => ?_, fun _ => rfl⟩
        rw [HT.out, HD.out, begF_stop H1.out] at h
        cases h
      | true =>
        have hM := mulref_ok f'.1 f'.2 (redN p.1 p.2) (redD p.1 p.2) (s1.trans h1)
        rw [s2, s3] at hM
        have hpart := red_part m1a m2a h1
        have HM := Lib.hid hM
        have H1 := Lib.hid h1
        have HPART := Lib.hid hpart
        clear h1 hM s1 s2 s3 hpart
        go_wp2
        refine Fx.regionG (MkD 23 (.int .i64 (redN (f'.1 * p.1) (f'.2 * p.2))) (.int .i64 (redD (f'.1 * p.1) (f'.2 * p.2))) 14) (fun x : Nat => .pointer (some ⟨x, 0, none⟩)) 13 (by kernel_rfl) (by kernel_rfl) (by kernel_rfl) ?_ ?_
        · intro f hf0
          exact MkD.start (below_drewN (Below.refl _ _) 1)
        repeat (first
          | (refine Fx.skipE_ (by rfl) (fun g f w h => h) ?_; simp only [Act.put, List.setIfInBounds_toArray, List.set_cons_zero, List.set_cons_succ])
          | (refine Fx.valE_ ?_ (by rfl) ?_ (fun g f w h => h) ?_
             rotate_left
             · intro g f w' hD hk
               obtain ⟨hb, hg⟩ := id hD
               have t0 := (hb.cell (p := ⟨xb, _, none⟩) hxbs).trans c0
               have t1 := (hb.cell (p := ⟨xb, _, none⟩) hxbs).trans c1
               have t2 := (hb.cell (p := ⟨ob, _, none⟩) hobs).trans d0
               have t3 := (hb.cell (p := ⟨ob, _, none⟩) hobs).trans d1
               clear hk hD hb hg
               go_simp
               try rfl
             simp only [Act.put, List.setIfInBounds_toArray, List.set_cons_zero, List.set_cons_succ]))
        refine Fx.callvE_ (.agg #[.int .i64 (redN p.1 p.2), .int .i64 (redD p.1 p.2)]) ?_ ?_ (by rfl) ?_ ?_ ?_
        rotate_left 2
        · intro w'
          go_simp
          refine ⟨?_, ?_⟩ <;> rfl
        · intro g f w' hD hk
          exact (of_any p.1 p.2 _ p1 (by omega) p3 (by omega)).mono fun e w'' ⟨he, hw⟩ => ⟨he, hD.step hw (by decide)⟩
        simp only [Act.put, List.setIfInBounds_toArray, List.set_cons_zero, List.set_cons_succ]
        repeat (first
          | (refine Fx.skipE_ (by rfl) (fun g f w h => h) ?_; simp only [Act.put, List.setIfInBounds_toArray, List.set_cons_zero, List.set_cons_succ])
          | (refine Fx.valE_ ?_ (by rfl) ?_ (fun g f w h => h) ?_
             rotate_left
             · intro g f w' hD hk
               obtain ⟨hb, hg⟩ := id hD
               have t0 := (hb.cell (p := ⟨xb, _, none⟩) hxbs).trans c0
               have t1 := (hb.cell (p := ⟨xb, _, none⟩) hxbs).trans c1
               have t2 := (hb.cell (p := ⟨ob, _, none⟩) hobs).trans d0
               have t3 := (hb.cell (p := ⟨ob, _, none⟩) hobs).trans d1
               clear hk hD hb hg
               go_simp
               try rfl
             simp only [Act.put, List.setIfInBounds_toArray, List.set_cons_zero, List.set_cons_succ]))
        refine Fx.callvE_ (.tuple #[.agg #[.int .i64 (redN (f'.1 * p.1) (f'.2 * p.2)), .int .i64 (redD (f'.1 * p.1) (f'.2 * p.2))], .int .i64 0]) ?_ ?_ (by rfl) ?_ ?_ ?_
        rotate_left 2
        · intro w'
          go_simp
          refine ⟨?_, ?_⟩ <;> rfl
        · intro g f w' hD hk
          exact (HM.out _ (by omega) (by omega) n2a (by omega)).mono fun e w'' ⟨he, hw⟩ => ⟨he, hD.step hw (by decide)⟩
        simp only [Act.put, List.setIfInBounds_toArray, List.set_cons_zero, List.set_cons_succ]
        repeat (first
          | (refine Fx.skipE_ (by rfl) (fun g f w h => h) ?_; simp only [Act.put, List.setIfInBounds_toArray, List.set_cons_zero, List.set_cons_succ])
          | (refine Fx.valE_ ?_ (by rfl) ?_ (fun g f w h => h) ?_
             rotate_left
             · intro g f w' hD hk
               obtain ⟨hb, hg⟩ := id hD
               have t0 := (hb.cell (p := ⟨xb, _, none⟩) hxbs).trans c0
               have t1 := (hb.cell (p := ⟨xb, _, none⟩) hxbs).trans c1
               have t2 := (hb.cell (p := ⟨ob, _, none⟩) hobs).trans d0
               have t3 := (hb.cell (p := ⟨ob, _, none⟩) hobs).trans d1
               clear hk hD hb hg
               go_simp
               try rfl
             simp only [Act.put, List.setIfInBounds_toArray, List.set_cons_zero, List.set_cons_succ]))
        refine Fx.makeE_ (by rfl) (by rfl) ?_ ?_
        · intro f w' hD hk
          refine ⟨w'.heap.size, w'.alloc (.cells #[.int .i64 0, .int .i64 0] 23), ?_, ?_⟩
          · clear hD hk
            go_simp
            try rfl
          · exact hD.make (hk.2.1 14 (by kernel_rfl)) (by decide)
        intro x
        simp only [Act.put, List.setIfInBounds_toArray, List.set_cons_zero, List.set_cons_succ]
        refine Fx.store_ (fun w' => (w'.setCell ⟨x, 0, none⟩ (.int .i64 (redN (f'.1 * p.1) (f'.2 * p.2)))).setCell ⟨x, 1, none⟩ (.int .i64 (redD (f'.1 * p.1) (f'.2 * p.2)))) (by rfl) ?_ ?_ ?_
        · intro f w' hD hk
          obtain ⟨hb, hg⟩ := id hD
          obtain ⟨e0, e1, r1, r2, r3, r4⟩ := MkD.cells hD
          clear hk hD
          go_simp
        · intro f w' hD hk
          obtain ⟨hb, hg⟩ := id hD
          obtain ⟨e0, e1, r1, r2, r3, r4⟩ := MkD.cells hD
          exact hD.store
        simp only [Act.put, List.setIfInBounds_toArray, List.set_cons_zero, List.set_cons_succ]
        repeat (first
          | (refine Fx.skip_ (by rfl) (fun f w h => h) ?_; simp only [Act.put, List.setIfInBounds_toArray, List.set_cons_zero, List.set_cons_succ])
          | (refine Fx.val_ ?_ (by rfl) ?_ (fun f w h => h) ?_
             rotate_left
             · intro f w' hD hk
               obtain ⟨hb, hg⟩ := id hD
               have t0 := (hb.cell (p := ⟨xb, _, none⟩) hxbs).trans c0
               have t1 := (hb.cell (p := ⟨xb, _, none⟩) hxbs).trans c1
               have t2 := (hb.cell (p := ⟨ob, _, none⟩) hobs).trans d0
               have t3 := (hb.cell (p := ⟨ob, _, none⟩) hobs).trans d1
               clear hk hD hb hg
               go_simp
               try rfl
             simp only [Act.put, List.setIfInBounds_toArray, List.set_cons_zero, List.set_cons_succ]))
        refine Fx.nil_ ?_
        intro f w1 hall hD
        have hf14 := hall 14 (by simp)
        obtain ⟨hb, hg⟩ := hD
        simp only [hf14, if_true] at *
        obtain ⟨hx1, e0, e1, hx2, hx3⟩ := hg x rfl
        obtain ⟨rfl, rfl⟩ := hx3 (by first | rfl | trivial | assumption)
        have hbb := HB.out.trans (hb.mono hbs)
        have hz1 := hb.size
        have ho1 := own_below HOWN.out hb (Nat.le_refl _)
        have hxs := hx2.lt
        have t0 : w1.cell? ⟨x, 0, none⟩ = some (.int .i64 (redN (f'.1 * p.1) (f'.2 * p.2))) := hx2.cell 0
        have t1 : w1.cell? ⟨x, 1, none⟩ = some (.int .i64 (redD (f'.1 * p.1) (f'.2 * p.2))) := hx2.cell 1
        obtain ⟨X, hX⟩ : ∃ X, redN (f'.1 * p.1) (f'.2 * p.2) = X := ⟨_, rfl⟩
        obtain ⟨Y, hY⟩ : ∃ Y, redD (f'.1 * p.1) (f'.2 * p.2) = Y := ⟨_, rfl⟩
        have HXX := Lib.hid hX
        have HYY := Lib.hid hY
        rw [hX] at t0
        rw [hY] at t1
        rw [hX, hY]
        clear hX hY hg hx2
        obtain ⟨W, hW⟩ : ∃ W, W = w1.alloc (.cells #[.int .i64 X, .int .i64 Y] 23) := ⟨_, rfl⟩
        have ho2 : W.ownsRow w.heap.size 23 2 (.slice (some ⟨ob, oo, none⟩) (q + 1) CO) (q + 1) (cells2 (pre ++ [f'])) := by rw [hW]; exact ho1.alloc _
        have hnb : Blk W w1.heap.size 23 #[.int .i64 X, .int .i64 Y] := by rw [hW]; exact Blk.new _ _ _
        have hsz : W.heap.size = w1.heap.size + 1 := by rw [hW]; simp
        obtain ⟨v', W2, hrun, o2', hg2, hrow⟩ := run_append_any (P := Try.prog) W w.heap.size 25 25 23 i0 _ 2 16 Try.underlying25 HI0.out HZ0.out HZ1.out HZ2.out rfl (by omega) (.slice (some ⟨ob, oo, none⟩) (q + 1) CO) (q + 1) (cells2 (pre ++ [f'])) ho2 W.heap.size (some ⟨w1.heap.size, 0, none⟩) 1 1 [.int .i64 X, .int .i64 Y] (Blk.reads hnb rfl) (by simp [Value.oneCell']) (by unfold maxLen; omega) (by omega) (by omega)
        rw [hW] at hrun
        have HRUN := Lib.hid hrun
        have hb2 := (hbb.alloc hbb.size (.cells #[.int .i64 X, .int .i64 Y] 23)).grown (hW ▸ hg2) (by simp; omega) (fun k hk => (own_lt ho1 hk).1)
        have HB2 := Lib.hid hb2
        have HO2 := Lib.hid o2'
        clear hrun hg2 hrow hnb ho1 ho2 hW hsz hb2 o2' hb hbb
        go_wp2_with (first | (at_builtin; refine wpList_app _ W2 v' rfl _ _ _ rfl _ _ rfl rfl HRUN.out ?_))
        go_roundw
        case rel =>
          refine ⟨q + 1, pre ++ [f'], (X, Y), by omega, by go_num, by simp; omega, HXX.out ▸ HPART.out.1, HYY.out ▸ HPART.out.2, ?_, HB2.out, ?_⟩
          · show _ = _
            rw [HT.out, HD.out, begF_step (H1.out), HXX.out, HYY.out]
            simp
          · have := HO2.out
            simpa [cells2] using this
        case measure => simp [intOf]; omega
    · go_wp2
      go_ret2
      have hqn : q = n := by omega
      have hdr : l.drop q = [] := List.drop_of_length_le (by rw [hxl.out]; omega)
      refine ⟨HB.out, fun _ => ?_, fun h => ?_⟩
      · rw [HT.out, hdr]
        exact ⟨AO, CO, by rw [hxl.out, hqn]; rfl, by rw [hxl.out, ← hqn]; exact HRO.out⟩
      · rw [HT.out, hdr] at h
        cases h
end Go.Proofs.Ytmioamcgbihhjaa

end

section
/- Lists that are known to read so, from one named world to the next. -/
namespace Go.Proofs.Ytmioamcgbihhjaa
open Go.RowKit

section
variable {w W W1 : World}
theorem reads_mid (_ : Below W.heap.size W W1) {wa : World} (h : Below wa.heap.size wa W) : Below wa.heap.size wa W := h
theorem reads_lay (hb : Below W.heap.size W W1) {wa : World} (ha : Below wa.heap.size wa W) {s n : Nat} {A : Option Addr} {xs : List Value} (h : Reads wa wa.heap.size s A n xs) : Reads W1 W1.heap.size s A n xs :=
  ((h.below ha).below (hb.mono ha.size)).more (Nat.le_trans ha.size hb.size)
end
end Go.Proofs.Ytmioamcgbihhjaa

end
