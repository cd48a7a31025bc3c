/- The contract of the reference's Periodic. -/
import Derived.Test.YtmioamcgbihhjaaTimes
import Derived.Test.YtmioamcgbihhjaaPeak
namespace Go.Proofs.Ytmioamcgbihhjaa
open Go.RowKit

/-- One step from the last pair to the first: which error comes next, and the sum. -/
def perStep (z : List Int) (s : Int × Int) (f : Int × Int) : Int × Int := if 0 ≤ s.1 then (s.1 - 1, s.2 + -((-(z.getD s.1.toNat 0 * f.1)) / f.2)) else (s.1 - 1, s.2)
def errErr (e : Int) : Int := if withinB e 0 1000000 then 0 else 2
/-- The greatest periodic error of a right train, or an error. -/
def perF (l : List (Int × Int)) (z : List Int) : Int × Int :=
  if z.length ≠ l.length then (0, 10) else if firstErr errErr z ≠ 0 then (0, 2)
  else if (begF (1, 1) l.reverse).2 = false then (0, 8) else (((begF (1, 1) l.reverse).1.foldl (perStep z) ((l.length : Int) - 1, 0)).2, 0)

theorem errErr_zero {e : Int} (h : errErr e = 0) : 0 ≤ e ∧ e ≤ 1000000 := by
  unfold errErr at h
  split at h
  · exact (withinB_iff _ _ _).1 (by assumption)
  · cases h

theorem ceil_in {e a b : Int} (h1 : 0 ≤ e) (h2 : e ≤ 1000000) (pa : Part a) (pb : Part b) : 0 ≤ e * a ∧ e * a ≤ 1000000000000000 ∧ 0 ≤ -((-(e * a)) / b) ∧ -((-(e * a)) / b) ≤ 1000000000000000 := by
  obtain ⟨a1, a2⟩ := pa
  obtain ⟨b1, b2⟩ := pb
  have m1 := Int.mul_nonneg h1 (show 0 ≤ a by omega)
  have m2 := Int.mul_le_mul h2 a2 (by omega) (by omega)
  have d1 : -(e * a) / b ≤ 0 := by
    have := Int.ediv_le_ediv (show 0 < b by omega) (show -(e * a) ≤ 0 by omega)
    simpa using this
  have d2 : -1000000000000000 ≤ -(e * a) / b := by
    rw [Int.le_ediv_iff_mul_le (by omega)]
    omega
  omega

theorem rev_get {α : Type} {l : List α} {q i : Nat} {p : α} (h : l[i]? = some p) (hq : q + i + 1 = l.length) : l.reverse[q]? = some p := by
  rw [List.getElem?_reverse (by omega), ← h]
  congr 1
  omega

theorem of_scale' {f1 f2 d v : Int} (hv : 1 ≤ v) :
    smallB (redN d v * f1) (redD d v * f2) = smallB (f1 * d) (f2 * v) ∧ redN (redN d v * f1) (redD d v * f2) = redN (f1 * d) (f2 * v) ∧ redD (redN d v * f1) (redD d v * f2) = redD (f1 * d) (f2 * v) := by
  rw [Int.mul_comm (redN d v) f1, Int.mul_comm (redD d v) f2]
  exact of_scale hv (f1, f2) rfl

set_option maxRecDepth 100000 in
set_option maxHeartbeats 3000000 in
theorem rper_any (A : Option Addr) (n c N : Nat) (l : List (Int × Int)) (A1 : Option Addr) (n1 c1 N1 : Nat) (z : List Int) (w : World) (hx : Reads w N 2 A n (cells2 l)) (hN : N ≤ w.heap.size) (hx1 : Reads w N1 1 A1 n1 (z.map (.int .i64))) (hN1 : N1 ≤ w.heap.size) (hn1 : n1 ≤ 9223372036854775807) (ht0 : trainErr l = 0) (x e : Int) (hR : perF l z = (x, e)) :
    Calls Try.prog 67 #[.slice A n c, .slice A1 n1 c1] w fun en w' => en = .returned (.tuple #[.int .i64 x, .int .i64 e]) ∧ Below w.heap.size w w' := by
  obtain ⟨hlen, hok⟩ := trainErr_ok ht0
  have hxl := hx.len2
  have hzl : z.length = n1 := by have := hx1.1; simpa using this
  have hn12 : n ≤ 12 := by omega
  unfold perF at hR
  rw [hxl, hzl] at hR
  have HX := Lib.hid hx
  have HX1 := Lib.hid hx1
  have HXL := Lib.hid hxl
  have HZL := Lib.hid hzl
  have HOK := Lib.hid hok
  clear hx hx1 hxl hzl ht0 hok hlen
  by_cases hnn : n1 = n
  rotate_left
  · rw [if_pos hnn] at hR
    cases hR
    have hnn' : ¬ (n1 : Int) = (n : Int) := by omega
    go_enter Try.func67, Try.ntmps67
    go_wp2
    go_ret2
    exact ⟨rfl, Below.refl _ _⟩
  subst hnn
  rw [if_neg (by simp)] at hR
  have HR := Lib.hid hR
  clear hR
  go_enter Try.func67, Try.ntmps67
  go_wp2
  go_loopw [6] (fun i wr => ∃ k : Nat, k ≤ n1 ∧ i = .int .i64 k ∧ (∀ p ∈ z.take k, errErr p = 0) ∧ Below w.heap.size w wr) (fun i _ => n1 - (intOf i).toNat)
  case atStart => exact ⟨0, by omega, rfl, by simp, Below.refl _ _⟩
  case round =>
    obtain ⟨k, hk, rfl, ht, hb⟩ := hrel
    have HT := Lib.hid ht
    have HB := Lib.hid hb
    clear ht hb
    by_cases hlt : k < n1
    · obtain ⟨zb, zo, u, rfl, hzb, hu, c0⟩ := (HX1.out.belowLe HB.out hN1).at_ hlt
      obtain ⟨t, hz, rfl⟩ : ∃ t, z[k]? = some t ∧ .int .i64 t = u := by
        rw [List.getElem?_map] at hu
        cases h : z[k]? with
        | none => rw [h] at hu; cases hu
        | some t => rw [h] at hu; exact ⟨t, rfl, Option.some.inj hu⟩
      have HZ := Lib.hid hz
      clear hu hz
      cases hp : withinB t 0 1000000 with
      | true =>
        have he : errErr t = 0 := by unfold errErr; rw [if_pos hp]
        have HE := Lib.hid he
        have HP := Lib.hid hp
        clear hp he
        go_wp2_with fail
        refine (withinref_is _ _ _ _ HP.out _).mono ?_
        rintro en w' ⟨rfl, rfl⟩
        go_wp2
        go_roundw
        case rel => exact ⟨k + 1, by omega, by go_num, take_ok HZ.out HT.out HE.out, HB.out⟩
        case measure => simp [intOf]; omega
      | false =>
        have he : errErr t = 2 := by unfold errErr; rw [if_neg (by rw [hp]; simp)]
        have hF := HR.out
        rw [if_pos (by rw [firstErr_at HZ.out HT.out (by rw [he]; decide), he]; decide)] at hF
        cases hF
        have HP := Lib.hid hp
        clear hp he
        go_wp2_with fail
        refine (withinref_is _ _ _ _ HP.out _).mono ?_
        rintro en w' ⟨rfl, rfl⟩
        go_wp2
        go_ret2
        exact ⟨rfl, HB.out⟩
    · have hok : ∀ p ∈ z, errErr p = 0 := by
        have := HT.out
        rwa [List.take_of_length_le (by rw [HZL.out]; omega)] at this
      have hF := HR.out
      rw [firstErr_ok hok, if_neg (by simp)] at hF
      have HZOK := Lib.hid hok
      have HF := Lib.hid hF
      have hbs := HB.out.size
      clear hok hF HT HR
      obtain ⟨wo, hwo⟩ : ∃ wo : World, wo = wr := ⟨_, rfl⟩
      subst hwo
      have v0 : IntKind.i64.wrap ((n1 : Int) - 1) = (n1 : Int) - 1 := IntWalk.i64_in ((n1 : Int) - 1) ⟨by omega, by omega⟩
      go_wp2
      go_loopw [7, 9] (fun sv i wr => ∃ (q : Nat) (pre : List (Int × Int)) (f : Int × Int) (sm : Int), q ≤ n1 ∧ i = .int .i64 ((n1 : Int) - 1 - q) ∧ sv = .int .i64 sm ∧ 0 ≤ sm ∧ sm ≤ 1000000000000000 * (q : Int) ∧ pre.length = q ∧ Part f.1 ∧ Part f.2 ∧
        Hid (begF (1, 1) l.reverse = (pre ++ (begF f (l.reverse.drop q)).1, (begF f (l.reverse.drop q)).2)) ∧ Hid (pre.foldl (perStep z) ((n1 : Int) - 1, 0) = ((n1 : Int) - 1 - q, sm)) ∧ Below w.heap.size w wr ∧ Blk wr wo.heap.size 23 #[.int .i64 f.1, .int .i64 f.2]) (fun _ i _ => (intOf i + 1).toNat)
      case atStart =>
        exact ⟨0, [], (1, 1), 0, by omega, by simp, rfl, by omega, by omega, rfl, ⟨by decide, by decide⟩, ⟨by decide, by decide⟩, by show _ = _; simp, by show _ = _; simp, HB.out.alloc hbs _, Blk.new _ _ _⟩
      case round =>
        obtain ⟨q, pre, fr, sm, hq, rfl, rfl, hs1, hs2, hpre, pf1, pf2, HBG, HFO, hb, hk0⟩ := hrel
        have hz0 := hk0.lt
        by_cases hlt : q < n1
        · obtain ⟨ii, hii⟩ : ∃ ii : Nat, q + ii + 1 = n1 := ⟨n1 - 1 - q, by omega⟩
          have ei : (n1 : Int) - 1 - (q : Int) = (ii : Int) := by omega
          obtain ⟨xb, xo, p, rfl, hxb, hp, c2, c3⟩ := HX.out.pair (show ii < n1 by omega)
          obtain ⟨zb, zo, u, rfl, hzb, hu, c4⟩ := HX1.out.at_ (show ii < n1 by omega)
          obtain ⟨t, hz, rfl⟩ : ∃ t, z[ii]? = some t ∧ .int .i64 t = u := by
            rw [List.getElem?_map] at hu
            cases h : z[ii]? with
            | none => rw [h] at hu; cases hu
            | some t => rw [h] at hu; exact ⟨t, rfl, Option.some.inj hu⟩
          have HC : Hid (∀ w', Below w.heap.size w w' → (w'.cell? ⟨xb, xo + ii * 2, none⟩ = some (.int .i64 p.1) ∧ w'.cell? ⟨xb, xo + ii * 2 + 1, none⟩ = some (.int .i64 p.2)) ∧ w'.cell? ⟨zb, zo + ii, none⟩ = some (.int .i64 t)) :=
            fun w' hb => ⟨⟨(hb.cell (p := ⟨xb, xo + ii * 2, none⟩) (by show xb < _; omega)).trans c2, (hb.cell (p := ⟨xb, xo + ii * 2 + 1, none⟩) (by show xb < _; omega)).trans c3⟩, (hb.cell (p := ⟨zb, zo + ii, none⟩) (by show zb < _; omega)).trans c4⟩
          obtain ⟨t1, t2⟩ := errErr_zero (HZOK.out t (List.mem_of_getElem? hz))
          obtain ⟨m1, m2, m3, m4⟩ := ceil_in t1 t2 pf1 pf2
          obtain ⟨p1, p2, p3, p4⟩ := okP_part (List.all_eq_true.1 HOK.out p (List.mem_of_getElem? hp))
          obtain ⟨k1a, k1b⟩ := part_bound pf1 p1 p2
          obtain ⟨k2a, k2b⟩ := part_bound pf2 p3 p4
          obtain ⟨q1, q2, q3, q4⟩ := red_teeth p1 p2 p3 p4
          obtain ⟨n1a, n1b⟩ := part_bound pf1 q1 q2
          obtain ⟨n2a, n2b⟩ := part_bound pf2 q3 q4
          obtain ⟨s1, s2, s3⟩ := of_scale' (f1 := fr.1) (f2 := fr.2) (d := p.1) (v := p.2) (by omega)
          have hrg := rev_get hp (by rw [HXL.out]; exact hii)
          have hd : l.reverse.drop q = p :: l.reverse.drop (q + 1) := by
            obtain ⟨h1, h2⟩ := List.getElem?_eq_some_iff.1 hrg
            rw [List.drop_eq_getElem_cons h1, h2]
          have hstep : perStep z ((ii : Int), sm) fr = ((ii : Int) - 1, sm + -((-(t * fr.1)) / fr.2)) := by
            unfold perStep
            rw [if_pos (by simp only; omega)]
            simp only [Int.toNat_natCast]
            rw [List.getD, hz]
            rfl
          obtain ⟨C, hC⟩ : ∃ C, -((-(t * fr.1)) / fr.2) = C := ⟨_, rfl⟩
          rw [hC] at m3 m4 hstep
          obtain ⟨pb1, pb2⟩ := pf2
          have HCE := Lib.hid (hC ▸ ceilref_any (t * fr.1) fr.2)
          have HST := Lib.hid hstep
          have HD := Lib.hid hd
          have HFO2 : Hid ((pre ++ [fr]).foldl (perStep z) ((n1 : Int) - 1, 0) = ((ii : Int) - 1, sm + C)) := by
            show _ = _
            rw [List.foldl_append, HFO.out, ei]
            exact hstep
          rw [ei]
          have v1 := IntWalk.i64_in (t * fr.1) ⟨by omega, by omega⟩
          have v2 := IntWalk.i64_in (sm + C) ⟨by omega, by omega⟩
          have v3 : IntKind.i64.wrap (ii : Int) = (ii : Int) := IntWalk.i64_in (ii : Int) ⟨by omega, by omega⟩
          have v4 : (0 : Int) ≤ (ii : Int) := by omega
          have v5 : (ii : Int) < (n1 : Int) := by omega
          have v6 := IntWalk.i64_in ((ii : Int) - 1) ⟨by omega, by omega⟩
          clear hp hu hz hrg hd hstep hC c2 c3 c4
          have HB21 := Lib.hid hb
          have K0_21 := Lib.hid (show Blk wr (wo.heap.size) 23 #[.int .i64 (fr.1), .int .i64 (fr.2)] from hk0)
          clear hb hk0
          have l0_21 : wo.heap.size < wr.heap.size := K0_21.out.lt
          have z0_0_21 : wr.cell? ⟨wo.heap.size, 0, none⟩ = some (.int .i64 (fr.1)) := K0_21.out.cell 0
          have z0_1_21 : wr.cell? ⟨wo.heap.size, 1, none⟩ = some (.int .i64 (fr.2)) := K0_21.out.cell 1
          have c4 := (HC.out _ HB21.out).2
          have hsz := HB21.out.size
          go_wp2
          refine Fx.regionW (fun W f w' => Below W.heap.size W w') (by kernel_rfl) (by kernel_rfl) ?_ ?_
          · intro f hf0
            exact below_drewN (Below.refl _ _) 1
          repeat (first
            | (refine Fx.skip_ (by rfl) (fun f w h => h) ?_; simp only [Act.put, List.setIfInBounds_toArray, List.set_cons_zero, List.set_cons_succ])
            | (refine Fx.val_ ?_ (by rfl) ?_ (fun f w h => h) ?_
               rotate_left
               · intro f w' hD hk
                 have hb := hD
                 have y0_0 : w'.cell? ⟨wo.heap.size, 0, none⟩ = some (.int .i64 (fr.1)) := (step_blk hb (show Blk _ (wo.heap.size) 23 #[.int .i64 (fr.1), .int .i64 (fr.2)] by repeat' (first | exact K0_21.out | exact Blk.at_ _ (by first | rfl | (simp; done) | (simp; omega)) _ _ | refine Blk.drewN ?_ _ | refine Blk.drew ?_ | refine Blk.alloc ?_ _ | refine Blk.far ?_ (by first | omega | (simp; done) | (simp; omega)) _ | assumption))).cell 0
                 have y0_1 : w'.cell? ⟨wo.heap.size, 1, none⟩ = some (.int .i64 (fr.2)) := (step_blk hb (show Blk _ (wo.heap.size) 23 #[.int .i64 (fr.1), .int .i64 (fr.2)] by repeat' (first | exact K0_21.out | exact Blk.at_ _ (by first | rfl | (simp; done) | (simp; omega)) _ _ | refine Blk.drewN ?_ _ | refine Blk.drew ?_ | refine Blk.alloc ?_ _ | refine Blk.far ?_ (by first | omega | (simp; done) | (simp; omega)) _ | assumption))).cell 1
                 have y4 := (hb.cell (p := ⟨zb, _, none⟩) (by show zb < _; omega)).trans c4
                 clear hk hD hb
                 go_simp
                 try rfl
               simp only [Act.put, List.setIfInBounds_toArray, List.set_cons_zero, List.set_cons_succ]))
          refine Fx.call_ (.int .i64 C) ?_ ?_ (by rfl) ?_ ?_ ?_
          rotate_left 2
          · intro w'
            go_simp
            refine ⟨?_, ?_⟩ <;> rfl
          · intro f w' hD hk
            exact (HCE.out _ (by omega) (by omega) pb1 (by omega)).mono fun e w'' ⟨he, hw⟩ => ⟨he, hw ▸ hD⟩
          simp only [Act.put, List.setIfInBounds_toArray, List.set_cons_zero, List.set_cons_succ]
          repeat (first
            | (refine Fx.skip_ (by rfl) (fun f w h => h) ?_; simp only [Act.put, List.setIfInBounds_toArray, List.set_cons_zero, List.set_cons_succ])
            | (refine Fx.val_ ?_ (by rfl) ?_ (fun f w h => h) ?_
               rotate_left
               · intro f w' hD hk
                 have hb := hD
                 have y0_0 : w'.cell? ⟨wo.heap.size, 0, none⟩ = some (.int .i64 (fr.1)) := (step_blk hb (show Blk _ (wo.heap.size) 23 #[.int .i64 (fr.1), .int .i64 (fr.2)] by repeat' (first | exact K0_21.out | exact Blk.at_ _ (by first | rfl | (simp; done) | (simp; omega)) _ _ | refine Blk.drewN ?_ _ | refine Blk.drew ?_ | refine Blk.alloc ?_ _ | refine Blk.far ?_ (by first | omega | (simp; done) | (simp; omega)) _ | assumption))).cell 0
                 have y0_1 : w'.cell? ⟨wo.heap.size, 1, none⟩ = some (.int .i64 (fr.2)) := (step_blk hb (show Blk _ (wo.heap.size) 23 #[.int .i64 (fr.1), .int .i64 (fr.2)] by repeat' (first | exact K0_21.out | exact Blk.at_ _ (by first | rfl | (simp; done) | (simp; omega)) _ _ | refine Blk.drewN ?_ _ | refine Blk.drew ?_ | refine Blk.alloc ?_ _ | refine Blk.far ?_ (by first | omega | (simp; done) | (simp; omega)) _ | assumption))).cell 1
                 have y4 := (hb.cell (p := ⟨zb, _, none⟩) (by show zb < _; omega)).trans c4
                 clear hk hD hb
                 go_simp
                 try rfl
               simp only [Act.put, List.setIfInBounds_toArray, List.set_cons_zero, List.set_cons_succ]))
          refine Fx.nil_ ?_
          intro f w22 hall hb
          try clear hall
          have HB22 := Lib.hid (show Below w.heap.size w w22 from step_below hb (by repeat' (first | exact Below.refl _ _ | exact HB21.out | refine below_drewN ?_ _ | refine Below.drew ?_ | refine Below.alloc ?_ (by first | omega | (simp; done) | (simp; omega) | (simp [World.setCell]; omega)) _ | refine Below.setCell ?_ (by first | omega | (simp; done) | (simp; omega)) _ | assumption)))
          have K0_22 := Lib.hid (step_blk hb (show Blk _ (wo.heap.size) 23 #[.int .i64 (fr.1), .int .i64 (fr.2)] by repeat' (first | exact K0_21.out | exact Blk.at_ _ (by first | rfl | (simp; done) | (simp; omega)) _ _ | refine Blk.drewN ?_ _ | refine Blk.drew ?_ | refine Blk.alloc ?_ _ | refine Blk.far ?_ (by first | omega | (simp; done) | (simp; omega)) _ | assumption)))
          have hz22 := hb.size
          try simp only [World.size_alloc, World.drewN, World.drew] at hz22
          clear hb K0_21 z0_0_21 z0_1_21 l0_21
          have l0_22 : wo.heap.size < w22.heap.size := K0_22.out.lt
          have z0_0_22 : w22.cell? ⟨wo.heap.size, 0, none⟩ = some (.int .i64 (fr.1)) := K0_22.out.cell 0
          have z0_1_22 : w22.cell? ⟨wo.heap.size, 1, none⟩ = some (.int .i64 (fr.2)) := K0_22.out.cell 1
          obtain ⟨⟨c2, c3⟩, -⟩ := HC.out _ HB22.out
          have hsz22 := HB22.out.size
          have hxb22 : xb < w22.heap.size := by omega
          go_wp2
          cases h1 : smallB (fr.1 * p.1) (fr.2 * p.2) with
          | false =>
            have hM := mulref_no (redN p.1 p.2) (redD p.1 p.2) fr.1 fr.2 (s1.trans h1)
            have HM := Lib.hid hM
            have H1 := Lib.hid h1
            clear h1 hM s1 s2 s3
            refine Fx.regionM (fun W g f_ w' => Below W.heap.size W w' ∧ MkM 23 (.int .i64 0) (.int .i64 0) 10 11 W g f_ w') (fun _ (x : Pick) => .pointer x.1) (by kernel_rfl) ?_ ?_
            · intro f hf0
              exact ⟨below_drewN (Below.refl _ _) 1, MkM.start⟩
            first
            | (refine Fx.WM.skip 0 (by rfl) (by kernel_rfl) (by kernel_rfl) (by kernel_rfl) (by rfl) (fun g f w h => h) ?_; simp only [Act.put, List.setIfInBounds_toArray, List.set_cons_zero, List.set_cons_succ])
            | (refine Fx.WM.val_ 0 ?_ (by rfl) (by kernel_rfl) (by kernel_rfl) (by kernel_rfl) (by rfl) ?_ (fun g f w h => h) ?_
               rotate_left
               · intro g f w' hx hD hk
                 obtain ⟨hb, hm1⟩ := id hD
                 have y0 : w'.cell? ⟨wo.heap.size, 0, none⟩ = some (.int .i64 fr.1) := (step_blk hb K0_22.out).cell 0
                 have y1 : w'.cell? ⟨wo.heap.size, 1, none⟩ = some (.int .i64 fr.2) := (step_blk hb K0_22.out).cell 1
                 have y2 := (hb.cell (p := ⟨xb, _, none⟩) hxb22).trans c2
                 have y3 := (hb.cell (p := ⟨xb, _, none⟩) hxb22).trans c3
                 clear hx hk hD hb hm1
                 go_simp
                 try rfl
               simp only [Act.put, List.setIfInBounds_toArray, List.set_cons_zero, List.set_cons_succ])
            first
            | (refine Fx.WM.skip 1 (by rfl) (by kernel_rfl) (by kernel_rfl) (by kernel_rfl) (by rfl) (fun g f w h => h) ?_; simp only [Act.put, List.setIfInBounds_toArray, List.set_cons_zero, List.set_cons_succ])
            | (refine Fx.WM.val_ 1 ?_ (by rfl) (by kernel_rfl) (by kernel_rfl) (by kernel_rfl) (by rfl) ?_ (fun g f w h => h) ?_
               rotate_left
               · intro g f w' hx hD hk
                 obtain ⟨hb, hm1⟩ := id hD
                 have y0 : w'.cell? ⟨wo.heap.size, 0, none⟩ = some (.int .i64 fr.1) := (step_blk hb K0_22.out).cell 0
                 have y1 : w'.cell? ⟨wo.heap.size, 1, none⟩ = some (.int .i64 fr.2) := (step_blk hb K0_22.out).cell 1
                 have y2 := (hb.cell (p := ⟨xb, _, none⟩) hxb22).trans c2
                 have y3 := (hb.cell (p := ⟨xb, _, none⟩) hxb22).trans c3
                 clear hx hk hD hb hm1
                 go_simp
                 try rfl
               simp only [Act.put, List.setIfInBounds_toArray, List.set_cons_zero, List.set_cons_succ])
            first
            | (refine Fx.WM.skip 2 (by rfl) (by kernel_rfl) (by kernel_rfl) (by kernel_rfl) (by rfl) (fun g f w h => h) ?_; simp only [Act.put, List.setIfInBounds_toArray, List.set_cons_zero, List.set_cons_succ])
            | (refine Fx.WM.val_ 2 ?_ (by rfl) (by kernel_rfl) (by kernel_rfl) (by kernel_rfl) (by rfl) ?_ (fun g f w h => h) ?_
               rotate_left
               · intro g f w' hx hD hk
                 obtain ⟨hb, hm1⟩ := id hD
                 have y0 : w'.cell? ⟨wo.heap.size, 0, none⟩ = some (.int .i64 fr.1) := (step_blk hb K0_22.out).cell 0
                 have y1 : w'.cell? ⟨wo.heap.size, 1, none⟩ = some (.int .i64 fr.2) := (step_blk hb K0_22.out).cell 1
                 have y2 := (hb.cell (p := ⟨xb, _, none⟩) hxb22).trans c2
                 have y3 := (hb.cell (p := ⟨xb, _, none⟩) hxb22).trans c3
                 clear hx hk hD hb hm1
                 go_simp
                 try rfl
               simp only [Act.put, List.setIfInBounds_toArray, List.set_cons_zero, List.set_cons_succ])
            first
            | (refine Fx.WM.skip 3 (by rfl) (by kernel_rfl) (by kernel_rfl) (by kernel_rfl) (by rfl) (fun g f w h => h) ?_; simp only [Act.put, List.setIfInBounds_toArray, List.set_cons_zero, List.set_cons_succ])
            | (refine Fx.WM.val_ 3 ?_ (by rfl) (by kernel_rfl) (by kernel_rfl) (by kernel_rfl) (by rfl) ?_ (fun g f w h => h) ?_
               rotate_left
               · intro g f w' hx hD hk
                 obtain ⟨hb, hm1⟩ := id hD
                 have y0 : w'.cell? ⟨wo.heap.size, 0, none⟩ = some (.int .i64 fr.1) := (step_blk hb K0_22.out).cell 0
                 have y1 : w'.cell? ⟨wo.heap.size, 1, none⟩ = some (.int .i64 fr.2) := (step_blk hb K0_22.out).cell 1
                 have y2 := (hb.cell (p := ⟨xb, _, none⟩) hxb22).trans c2
                 have y3 := (hb.cell (p := ⟨xb, _, none⟩) hxb22).trans c3
                 clear hx hk hD hb hm1
                 go_simp
                 try rfl
               simp only [Act.put, List.setIfInBounds_toArray, List.set_cons_zero, List.set_cons_succ])
            refine Fx.WM.call 4 (.agg #[.int .i64 (redN p.1 p.2), .int .i64 (redD p.1 p.2)]) ?_ ?_ (by rfl) (by kernel_rfl) (by kernel_rfl) (by kernel_rfl) (by rfl) ?_ ?_ ?_
            rotate_left 2
            · intro w'
              go_simp
              refine ⟨?_, ?_⟩ <;> rfl
            · intro g f w' hx hD hk
              exact (of_any p.1 p.2 _ p1 (by omega) p3 (by omega)).mono fun e w'' ⟨he, hw⟩ => ⟨he, step_below hw hD.1, hD.2.step hw (by decide)⟩
            simp only [Act.put, List.setIfInBounds_toArray, List.set_cons_zero, List.set_cons_succ]
            first
            | (refine Fx.WM.skip 5 (by rfl) (by kernel_rfl) (by kernel_rfl) (by kernel_rfl) (by rfl) (fun g f w h => h) ?_; simp only [Act.put, List.setIfInBounds_toArray, List.set_cons_zero, List.set_cons_succ])
            | (refine Fx.WM.val_ 5 ?_ (by rfl) (by kernel_rfl) (by kernel_rfl) (by kernel_rfl) (by rfl) ?_ (fun g f w h => h) ?_
               rotate_left
               · intro g f w' hx hD hk
                 obtain ⟨hb, hm1⟩ := id hD
                 have y0 : w'.cell? ⟨wo.heap.size, 0, none⟩ = some (.int .i64 fr.1) := (step_blk hb K0_22.out).cell 0
                 have y1 : w'.cell? ⟨wo.heap.size, 1, none⟩ = some (.int .i64 fr.2) := (step_blk hb K0_22.out).cell 1
                 have y2 := (hb.cell (p := ⟨xb, _, none⟩) hxb22).trans c2
                 have y3 := (hb.cell (p := ⟨xb, _, none⟩) hxb22).trans c3
                 clear hx hk hD hb hm1
                 go_simp
                 try rfl
               simp only [Act.put, List.setIfInBounds_toArray, List.set_cons_zero, List.set_cons_succ])
            refine Fx.WM.call 6 (.tuple #[.agg #[.int .i64 0, .int .i64 0], .int .i64 8]) ?_ ?_ (by rfl) (by kernel_rfl) (by kernel_rfl) (by kernel_rfl) (by rfl) ?_ ?_ ?_
            rotate_left 2
            · intro w'
              go_simp
              refine ⟨?_, ?_⟩ <;> rfl
            · intro g f w' hx hD hk
              exact (HM.out _ (by rw [Int.mul_comm]; omega) (by rw [Int.mul_comm]; omega) (by rw [Int.mul_comm]; omega) (by rw [Int.mul_comm]; omega)).mono fun e w'' ⟨he, hw⟩ => ⟨he, step_below hw hD.1, hD.2.step hw (by decide)⟩
            simp only [Act.put, List.setIfInBounds_toArray, List.set_cons_zero, List.set_cons_succ]
            first
            | (refine Fx.WM.skip 7 (by rfl) (by kernel_rfl) (by kernel_rfl) (by kernel_rfl) (by rfl) (fun g f w h => h) ?_; simp only [Act.put, List.setIfInBounds_toArray, List.set_cons_zero, List.set_cons_succ])
            | (refine Fx.WM.val_ 7 ?_ (by rfl) (by kernel_rfl) (by kernel_rfl) (by kernel_rfl) (by rfl) ?_ (fun g f w h => h) ?_
               rotate_left
               · intro g f w' hx hD hk
                 obtain ⟨hb, hm1⟩ := id hD
                 have y0 : w'.cell? ⟨wo.heap.size, 0, none⟩ = some (.int .i64 fr.1) := (step_blk hb K0_22.out).cell 0
                 have y1 : w'.cell? ⟨wo.heap.size, 1, none⟩ = some (.int .i64 fr.2) := (step_blk hb K0_22.out).cell 1
                 have y2 := (hb.cell (p := ⟨xb, _, none⟩) hxb22).trans c2
                 have y3 := (hb.cell (p := ⟨xb, _, none⟩) hxb22).trans c3
                 clear hx hk hD hb hm1
                 go_simp
                 try rfl
               simp only [Act.put, List.setIfInBounds_toArray, List.set_cons_zero, List.set_cons_succ])
            first
            | (refine Fx.WM.skip 8 (by rfl) (by kernel_rfl) (by kernel_rfl) (by kernel_rfl) (by rfl) (fun g f w h => h) ?_; simp only [Act.put, List.setIfInBounds_toArray, List.set_cons_zero, List.set_cons_succ])
            | (refine Fx.WM.val_ 8 ?_ (by rfl) (by kernel_rfl) (by kernel_rfl) (by kernel_rfl) (by rfl) ?_ (fun g f w h => h) ?_
               rotate_left
               · intro g f w' hx hD hk
                 obtain ⟨hb, hm1⟩ := id hD
                 have y0 : w'.cell? ⟨wo.heap.size, 0, none⟩ = some (.int .i64 fr.1) := (step_blk hb K0_22.out).cell 0
                 have y1 : w'.cell? ⟨wo.heap.size, 1, none⟩ = some (.int .i64 fr.2) := (step_blk hb K0_22.out).cell 1
                 have y2 := (hb.cell (p := ⟨xb, _, none⟩) hxb22).trans c2
                 have y3 := (hb.cell (p := ⟨xb, _, none⟩) hxb22).trans c3
                 clear hx hk hD hb hm1
                 go_simp
                 try rfl
               simp only [Act.put, List.setIfInBounds_toArray, List.set_cons_zero, List.set_cons_succ])
            first
            | (refine Fx.WM.skip 9 (by rfl) (by kernel_rfl) (by kernel_rfl) (by kernel_rfl) (by rfl) (fun g f w h => h) ?_; simp only [Act.put, List.setIfInBounds_toArray, List.set_cons_zero, List.set_cons_succ])
            | (refine Fx.WM.val_ 9 ?_ (by rfl) (by kernel_rfl) (by kernel_rfl) (by kernel_rfl) (by rfl) ?_ (fun g f w h => h) ?_
               rotate_left
               · intro g f w' hx hD hk
                 obtain ⟨hb, hm1⟩ := id hD
                 have y0 : w'.cell? ⟨wo.heap.size, 0, none⟩ = some (.int .i64 fr.1) := (step_blk hb K0_22.out).cell 0
                 have y1 : w'.cell? ⟨wo.heap.size, 1, none⟩ = some (.int .i64 fr.2) := (step_blk hb K0_22.out).cell 1
                 have y2 := (hb.cell (p := ⟨xb, _, none⟩) hxb22).trans c2
                 have y3 := (hb.cell (p := ⟨xb, _, none⟩) hxb22).trans c3
                 clear hx hk hD hb hm1
                 go_simp
                 try rfl
               simp only [Act.put, List.setIfInBounds_toArray, List.set_cons_zero, List.set_cons_succ])
            refine Fx.WM.choose 10 (by rfl) (by kernel_rfl) (by rfl) ?_ ?_
            · skip
              refine Fx.Chooses.make (by rfl) ?_
              intro f w' hD hk
              obtain ⟨hb, hm1⟩ := id hD
              refine ⟨(some ⟨w'.heap.size, 0, none⟩, 0), w'.alloc (.cells #[.int .i64 0, .int .i64 0] 23), ?_, ?_⟩
              · clear hk hD
                go_simp
                try rfl
              · exact ⟨hb.alloc hb.size _, MkM.make hb.size (hk.2.1 11 (by kernel_rfl)) (by decide)⟩
            intro zz
            simp only [Act.put, List.setIfInBounds_toArray, List.set_cons_zero, List.set_cons_succ]
            refine Fx.WM.eff 11 undef (by rfl) (by kernel_rfl) (by kernel_rfl) (by kernel_rfl) (by rfl) ?_ ?_
            · intro g f w' hx hD hk
              obtain ⟨hb, hm1⟩ := id hD
              obtain ⟨bx, e0, e1, r0, r1, r2, r3, r4, r5⟩ := MkM.cells hm1 (hx 10 _ rfl)
              refine Fx.gives_skip (w' := (w'.setCell ⟨bx, 0, none⟩ (.int .i64 0)).setCell ⟨bx, 1, none⟩ (.int .i64 0)) ?_ ?_
              · clear hx hk hD hb hm1
                go_simp
                try rfl
              · exact ⟨below_store hb r1, hm1.store (hx 10 _ rfl) r0⟩
            simp only [Act.put, List.setIfInBounds_toArray, List.set_cons_zero, List.set_cons_succ]
            first
            | (refine Fx.WM.skip 12 (by rfl) (by kernel_rfl) (by kernel_rfl) (by kernel_rfl) (by rfl) (fun g f w h => h) ?_; simp only [Act.put, List.setIfInBounds_toArray, List.set_cons_zero, List.set_cons_succ])
            | (refine Fx.WM.val_ 12 ?_ (by rfl) (by kernel_rfl) (by kernel_rfl) (by kernel_rfl) (by rfl) ?_ (fun g f w h => h) ?_
               rotate_left
               · intro g f w' hx hD hk
                 obtain ⟨hb, hm1⟩ := id hD
                 have y0 : w'.cell? ⟨wo.heap.size, 0, none⟩ = some (.int .i64 fr.1) := (step_blk hb K0_22.out).cell 0
                 have y1 : w'.cell? ⟨wo.heap.size, 1, none⟩ = some (.int .i64 fr.2) := (step_blk hb K0_22.out).cell 1
                 have y2 := (hb.cell (p := ⟨xb, _, none⟩) hxb22).trans c2
                 have y3 := (hb.cell (p := ⟨xb, _, none⟩) hxb22).trans c3
                 clear hx hk hD hb hm1
                 go_simp
                 try rfl
               simp only [Act.put, List.setIfInBounds_toArray, List.set_cons_zero, List.set_cons_succ])
            refine Fx.WM.nil (by kernel_rfl) ?_
            intro w23 hD
            obtain ⟨hb, hm1⟩ := hD
            obtain ⟨bx, hx1, hx2, hxb3⟩ := hm1.end_ (x := zz) (by rfl) (by rfl)
            obtain ⟨z1, z2⟩ := zz
            simp only at hx1
            subst hx1
            clear hm1
            have hF := HF.out
            rw [if_pos (by rw [HBG.out, HD.out, begF_stop H1.out])] at hF
            cases hF
            go_wp2
            go_ret2
            exact ⟨rfl, HB22.out.trans (hb.mono HB22.out.size)⟩
          | true =>
            have hM := mulref_ok (redN p.1 p.2) (redD p.1 p.2) fr.1 fr.2 (s1.trans h1)
            rw [s2, s3] at hM
            have hpart := red_part k1a k2a h1
            obtain ⟨X, hX⟩ : ∃ X, redN (fr.1 * p.1) (fr.2 * p.2) = X := ⟨_, rfl⟩
            obtain ⟨Y, hY⟩ : ∃ Y, redD (fr.1 * p.1) (fr.2 * p.2) = Y := ⟨_, rfl⟩
            rw [hX, hY] at hM hpart
            have HXX := Lib.hid hX
            have HYY := Lib.hid hY
            have HM := Lib.hid hM
            have H1 := Lib.hid h1
            have HPART := Lib.hid hpart
            clear h1 hM s1 s2 s3 hX hY hpart
            refine Fx.regionM (fun W g f_ w' => Below W.heap.size W w' ∧ MkM 23 (.int .i64 X) (.int .i64 Y) 10 11 W g f_ w') (fun _ (x : Pick) => .pointer x.1) (by kernel_rfl) ?_ ?_
            · intro f hf0
              exact ⟨below_drewN (Below.refl _ _) 1, MkM.start⟩
            first
            | (refine Fx.WM.skip 0 (by rfl) (by kernel_rfl) (by kernel_rfl) (by kernel_rfl) (by rfl) (fun g f w h => h) ?_; simp only [Act.put, List.setIfInBounds_toArray, List.set_cons_zero, List.set_cons_succ])
            | (refine Fx.WM.val_ 0 ?_ (by rfl) (by kernel_rfl) (by kernel_rfl) (by kernel_rfl) (by rfl) ?_ (fun g f w h => h) ?_
               rotate_left
               · intro g f w' hx hD hk
                 obtain ⟨hb, hm1⟩ := id hD
                 have y0 : w'.cell? ⟨wo.heap.size, 0, none⟩ = some (.int .i64 fr.1) := (step_blk hb K0_22.out).cell 0
                 have y1 : w'.cell? ⟨wo.heap.size, 1, none⟩ = some (.int .i64 fr.2) := (step_blk hb K0_22.out).cell 1
                 have y2 := (hb.cell (p := ⟨xb, _, none⟩) hxb22).trans c2
                 have y3 := (hb.cell (p := ⟨xb, _, none⟩) hxb22).trans c3
                 clear hx hk hD hb hm1
                 go_simp
                 try rfl
               simp only [Act.put, List.setIfInBounds_toArray, List.set_cons_zero, List.set_cons_succ])
            first
            | (refine Fx.WM.skip 1 (by rfl) (by kernel_rfl) (by kernel_rfl) (by kernel_rfl) (by rfl) (fun g f w h => h) ?_; simp only [Act.put, List.setIfInBounds_toArray, List.set_cons_zero, List.set_cons_succ])
            | (refine Fx.WM.val_ 1 ?_ (by rfl) (by kernel_rfl) (by kernel_rfl) (by kernel_rfl) (by rfl) ?_ (fun g f w h => h) ?_
               rotate_left
               · intro g f w' hx hD hk
                 obtain ⟨hb, hm1⟩ := id hD
                 have y0 : w'.cell? ⟨wo.heap.size, 0, none⟩ = some (.int .i64 fr.1) := (step_blk hb K0_22.out).cell 0
                 have y1 : w'.cell? ⟨wo.heap.size, 1, none⟩ = some (.int .i64 fr.2) := (step_blk hb K0_22.out).cell 1
                 have y2 := (hb.cell (p := ⟨xb, _, none⟩) hxb22).trans c2
                 have y3 := (hb.cell (p := ⟨xb, _, none⟩) hxb22).trans c3
                 clear hx hk hD hb hm1
                 go_simp
                 try rfl
               simp only [Act.put, List.setIfInBounds_toArray, List.set_cons_zero, List.set_cons_succ])
            first
            | (refine Fx.WM.skip 2 (by rfl) (by kernel_rfl) (by kernel_rfl) (by kernel_rfl) (by rfl) (fun g f w h => h) ?_; simp only [Act.put, List.setIfInBounds_toArray, List.set_cons_zero, List.set_cons_succ])
            | (refine Fx.WM.val_ 2 ?_ (by rfl) (by kernel_rfl) (by kernel_rfl) (by kernel_rfl) (by rfl) ?_ (fun g f w h => h) ?_
               rotate_left
               · intro g f w' hx hD hk
                 obtain ⟨hb, hm1⟩ := id hD
                 have y0 : w'.cell? ⟨wo.heap.size, 0, none⟩ = some (.int .i64 fr.1) := (step_blk hb K0_22.out).cell 0
                 have y1 : w'.cell? ⟨wo.heap.size, 1, none⟩ = some (.int .i64 fr.2) := (step_blk hb K0_22.out).cell 1
                 have y2 := (hb.cell (p := ⟨xb, _, none⟩) hxb22).trans c2
                 have y3 := (hb.cell (p := ⟨xb, _, none⟩) hxb22).trans c3
                 clear hx hk hD hb hm1
                 go_simp
                 try rfl
               simp only [Act.put, List.setIfInBounds_toArray, List.set_cons_zero, List.set_cons_succ])
            first
            | (refine Fx.WM.skip 3 (by rfl) (by kernel_rfl) (by kernel_rfl) (by kernel_rfl) (by rfl) (fun g f w h => h) ?_; simp only [Act.put, List.setIfInBounds_toArray, List.set_cons_zero, List.set_cons_succ])
            | (refine Fx.WM.val_ 3 ?_ (by rfl) (by kernel_rfl) (by kernel_rfl) (by kernel_rfl) (by rfl) ?_ (fun g f w h => h) ?_
               rotate_left
               · intro g f w' hx hD hk
                 obtain ⟨hb, hm1⟩ := id hD
                 have y0 : w'.cell? ⟨wo.heap.size, 0, none⟩ = some (.int .i64 fr.1) := (step_blk hb K0_22.out).cell 0
                 have y1 : w'.cell? ⟨wo.heap.size, 1, none⟩ = some (.int .i64 fr.2) := (step_blk hb K0_22.out).cell 1
                 have y2 := (hb.cell (p := ⟨xb, _, none⟩) hxb22).trans c2
                 have y3 := (hb.cell (p := ⟨xb, _, none⟩) hxb22).trans c3
                 clear hx hk hD hb hm1
                 go_simp
                 try rfl
               simp only [Act.put, List.setIfInBounds_toArray, List.set_cons_zero, List.set_cons_succ])
            refine Fx.WM.call 4 (.agg #[.int .i64 (redN p.1 p.2), .int .i64 (redD p.1 p.2)]) ?_ ?_ (by rfl) (by kernel_rfl) (by kernel_rfl) (by kernel_rfl) (by rfl) ?_ ?_ ?_
            rotate_left 2
            · intro w'
              go_simp
              refine ⟨?_, ?_⟩ <;> rfl
            · intro g f w' hx hD hk
              exact (of_any p.1 p.2 _ p1 (by omega) p3 (by omega)).mono fun e w'' ⟨he, hw⟩ => ⟨he, step_below hw hD.1, hD.2.step hw (by decide)⟩
            simp only [Act.put, List.setIfInBounds_toArray, List.set_cons_zero, List.set_cons_succ]
            first
            | (refine Fx.WM.skip 5 (by rfl) (by kernel_rfl) (by kernel_rfl) (by kernel_rfl) (by rfl) (fun g f w h => h) ?_; simp only [Act.put, List.setIfInBounds_toArray, List.set_cons_zero, List.set_cons_succ])
            | (refine Fx.WM.val_ 5 ?_ (by rfl) (by kernel_rfl) (by kernel_rfl) (by kernel_rfl) (by rfl) ?_ (fun g f w h => h) ?_
               rotate_left
               · intro g f w' hx hD hk
                 obtain ⟨hb, hm1⟩ := id hD
                 have y0 : w'.cell? ⟨wo.heap.size, 0, none⟩ = some (.int .i64 fr.1) := (step_blk hb K0_22.out).cell 0
                 have y1 : w'.cell? ⟨wo.heap.size, 1, none⟩ = some (.int .i64 fr.2) := (step_blk hb K0_22.out).cell 1
                 have y2 := (hb.cell (p := ⟨xb, _, none⟩) hxb22).trans c2
                 have y3 := (hb.cell (p := ⟨xb, _, none⟩) hxb22).trans c3
                 clear hx hk hD hb hm1
                 go_simp
                 try rfl
               simp only [Act.put, List.setIfInBounds_toArray, List.set_cons_zero, List.set_cons_succ])
            refine Fx.WM.call 6 (.tuple #[.agg #[.int .i64 X, .int .i64 Y], .int .i64 0]) ?_ ?_ (by rfl) (by kernel_rfl) (by kernel_rfl) (by kernel_rfl) (by rfl) ?_ ?_ ?_
            rotate_left 2
            · intro w'
              go_simp
              refine ⟨?_, ?_⟩ <;> rfl
            · intro g f w' hx hD hk
              exact (HM.out _ (by rw [Int.mul_comm]; omega) (by rw [Int.mul_comm]; omega) (by rw [Int.mul_comm]; omega) (by rw [Int.mul_comm]; omega)).mono fun e w'' ⟨he, hw⟩ => ⟨he, step_below hw hD.1, hD.2.step hw (by decide)⟩
            simp only [Act.put, List.setIfInBounds_toArray, List.set_cons_zero, List.set_cons_succ]
            first
            | (refine Fx.WM.skip 7 (by rfl) (by kernel_rfl) (by kernel_rfl) (by kernel_rfl) (by rfl) (fun g f w h => h) ?_; simp only [Act.put, List.setIfInBounds_toArray, List.set_cons_zero, List.set_cons_succ])
            | (refine Fx.WM.val_ 7 ?_ (by rfl) (by kernel_rfl) (by kernel_rfl) (by kernel_rfl) (by rfl) ?_ (fun g f w h => h) ?_
               rotate_left
               · intro g f w' hx hD hk
                 obtain ⟨hb, hm1⟩ := id hD
                 have y0 : w'.cell? ⟨wo.heap.size, 0, none⟩ = some (.int .i64 fr.1) := (step_blk hb K0_22.out).cell 0
                 have y1 : w'.cell? ⟨wo.heap.size, 1, none⟩ = some (.int .i64 fr.2) := (step_blk hb K0_22.out).cell 1
                 have y2 := (hb.cell (p := ⟨xb, _, none⟩) hxb22).trans c2
                 have y3 := (hb.cell (p := ⟨xb, _, none⟩) hxb22).trans c3
                 clear hx hk hD hb hm1
                 go_simp
                 try rfl
               simp only [Act.put, List.setIfInBounds_toArray, List.set_cons_zero, List.set_cons_succ])
            first
            | (refine Fx.WM.skip 8 (by rfl) (by kernel_rfl) (by kernel_rfl) (by kernel_rfl) (by rfl) (fun g f w h => h) ?_; simp only [Act.put, List.setIfInBounds_toArray, List.set_cons_zero, List.set_cons_succ])
            | (refine Fx.WM.val_ 8 ?_ (by rfl) (by kernel_rfl) (by kernel_rfl) (by kernel_rfl) (by rfl) ?_ (fun g f w h => h) ?_
               rotate_left
               · intro g f w' hx hD hk
                 obtain ⟨hb, hm1⟩ := id hD
                 have y0 : w'.cell? ⟨wo.heap.size, 0, none⟩ = some (.int .i64 fr.1) := (step_blk hb K0_22.out).cell 0
                 have y1 : w'.cell? ⟨wo.heap.size, 1, none⟩ = some (.int .i64 fr.2) := (step_blk hb K0_22.out).cell 1
                 have y2 := (hb.cell (p := ⟨xb, _, none⟩) hxb22).trans c2
                 have y3 := (hb.cell (p := ⟨xb, _, none⟩) hxb22).trans c3
                 clear hx hk hD hb hm1
                 go_simp
                 try rfl
               simp only [Act.put, List.setIfInBounds_toArray, List.set_cons_zero, List.set_cons_succ])
            first
            | (refine Fx.WM.skip 9 (by rfl) (by kernel_rfl) (by kernel_rfl) (by kernel_rfl) (by rfl) (fun g f w h => h) ?_; simp only [Act.put, List.setIfInBounds_toArray, List.set_cons_zero, List.set_cons_succ])
            | (refine Fx.WM.val_ 9 ?_ (by rfl) (by kernel_rfl) (by kernel_rfl) (by kernel_rfl) (by rfl) ?_ (fun g f w h => h) ?_
               rotate_left
               · intro g f w' hx hD hk
                 obtain ⟨hb, hm1⟩ := id hD
                 have y0 : w'.cell? ⟨wo.heap.size, 0, none⟩ = some (.int .i64 fr.1) := (step_blk hb K0_22.out).cell 0
                 have y1 : w'.cell? ⟨wo.heap.size, 1, none⟩ = some (.int .i64 fr.2) := (step_blk hb K0_22.out).cell 1
                 have y2 := (hb.cell (p := ⟨xb, _, none⟩) hxb22).trans c2
                 have y3 := (hb.cell (p := ⟨xb, _, none⟩) hxb22).trans c3
                 clear hx hk hD hb hm1
                 go_simp
                 try rfl
               simp only [Act.put, List.setIfInBounds_toArray, List.set_cons_zero, List.set_cons_succ])
            refine Fx.WM.choose 10 (by rfl) (by kernel_rfl) (by rfl) ?_ ?_
            · skip
              refine Fx.Chooses.make (by rfl) ?_
              intro f w' hD hk
              obtain ⟨hb, hm1⟩ := id hD
              refine ⟨(some ⟨w'.heap.size, 0, none⟩, 0), w'.alloc (.cells #[.int .i64 0, .int .i64 0] 23), ?_, ?_⟩
              · clear hk hD
                go_simp
                try rfl
              · exact ⟨hb.alloc hb.size _, MkM.make hb.size (hk.2.1 11 (by kernel_rfl)) (by decide)⟩
            intro zz
            simp only [Act.put, List.setIfInBounds_toArray, List.set_cons_zero, List.set_cons_succ]
            refine Fx.WM.eff 11 undef (by rfl) (by kernel_rfl) (by kernel_rfl) (by kernel_rfl) (by rfl) ?_ ?_
            · intro g f w' hx hD hk
              obtain ⟨hb, hm1⟩ := id hD
              obtain ⟨bx, e0, e1, r0, r1, r2, r3, r4, r5⟩ := MkM.cells hm1 (hx 10 _ rfl)
              refine Fx.gives_skip (w' := (w'.setCell ⟨bx, 0, none⟩ (.int .i64 X)).setCell ⟨bx, 1, none⟩ (.int .i64 Y)) ?_ ?_
              · clear hx hk hD hb hm1
                go_simp
                try rfl
              · exact ⟨below_store hb r1, hm1.store (hx 10 _ rfl) r0⟩
            simp only [Act.put, List.setIfInBounds_toArray, List.set_cons_zero, List.set_cons_succ]
            first
            | (refine Fx.WM.skip 12 (by rfl) (by kernel_rfl) (by kernel_rfl) (by kernel_rfl) (by rfl) (fun g f w h => h) ?_; simp only [Act.put, List.setIfInBounds_toArray, List.set_cons_zero, List.set_cons_succ])
            | (refine Fx.WM.val_ 12 ?_ (by rfl) (by kernel_rfl) (by kernel_rfl) (by kernel_rfl) (by rfl) ?_ (fun g f w h => h) ?_
               rotate_left
               · intro g f w' hx hD hk
                 obtain ⟨hb, hm1⟩ := id hD
                 have y0 : w'.cell? ⟨wo.heap.size, 0, none⟩ = some (.int .i64 fr.1) := (step_blk hb K0_22.out).cell 0
                 have y1 : w'.cell? ⟨wo.heap.size, 1, none⟩ = some (.int .i64 fr.2) := (step_blk hb K0_22.out).cell 1
                 have y2 := (hb.cell (p := ⟨xb, _, none⟩) hxb22).trans c2
                 have y3 := (hb.cell (p := ⟨xb, _, none⟩) hxb22).trans c3
                 clear hx hk hD hb hm1
                 go_simp
                 try rfl
               simp only [Act.put, List.setIfInBounds_toArray, List.set_cons_zero, List.set_cons_succ])
            refine Fx.WM.nil (by kernel_rfl) ?_
            intro w23 hD
            obtain ⟨hb, hm1⟩ := hD
            obtain ⟨bx, hx1, hx2, hxb3⟩ := hm1.end_ (x := zz) (by rfl) (by rfl)
            obtain ⟨z1, z2⟩ := zz
            simp only at hx1
            subst hx1
            clear hm1
            have K0n := step_blk hb K0_22.out
            have HBn := HB22.out.trans (hb.mono HB22.out.size)
            have x0 : w23.cell? ⟨bx, 0, none⟩ = some (.int .i64 X) := hxb3.cell 0
            have x1 : w23.cell? ⟨bx, 1, none⟩ = some (.int .i64 Y) := hxb3.cell 1
            have hbl := hxb3.lt
            have t0 := K0n.frozen 0
            have t1 := K0n.frozen 1
            have t2 : w23.cell? ⟨wo.heap.size, 0, none⟩ = some (.int .i64 fr.1) := K0n.cell 0
            have t3 : w23.cell? ⟨wo.heap.size, 1, none⟩ = some (.int .i64 fr.2) := K0n.cell 1
            have hz23 := HBn.size
            have HBN := Lib.hid HBn
            have K0N := Lib.hid K0n
            clear hb hxb3 K0n HBn
            go_wp2
            go_roundw
            case rel =>
              refine ⟨q + 1, pre ++ [fr], (X, Y), sm + C, by omega, congrArg _ (by first | omega | (push_cast; omega)), rfl, by omega, by first | omega | (push_cast; omega), by first | omega | (simp; omega) | (simp; done), HPART.out.1, HPART.out.2, ?_, ?_, ?_, ?_⟩
              · show _ = _
                rw [HBG.out, HD.out, begF_step H1.out, HXX.out, HYY.out]
                simp
              · show _ = _
                rw [HFO2.out]
                congr 1
                first | omega | (push_cast; omega)
              · exact (HBN.out.setCell (p := ⟨wo.heap.size, 0, none⟩) hbs _).setCell (p := ⟨wo.heap.size, 1, none⟩) hbs _
              · have := (K0N.out.set_ 0 (.int .i64 X)).set_ 1 (.int .i64 Y)
                simpa using this
            case measure => first | (simp [intOf]; done) | (simp [intOf]; omega)
        · have hqn : q = n1 := by omega
          subst hqn
          have hneg : (q : Int) - 1 - (q : Int) = -1 := by omega
          have hdr : l.reverse.drop q = [] := List.drop_of_length_le (by rw [List.length_reverse, HXL.out]; exact Nat.le_refl _)
          have hF := HF.out
          have hb2 : (begF (1, 1) l.reverse).2 = true := by rw [HBG.out, hdr]; rfl
          have hb1 : (begF (1, 1) l.reverse).1 = pre ++ [fr] := by rw [HBG.out, hdr]; rfl
          have hfo : ((pre ++ [fr]).foldl (perStep z) ((q : Int) - 1, 0)).2 = sm := by
            rw [List.foldl_append, HFO.out]
            simp only [List.foldl_cons, List.foldl_nil]
            unfold perStep
            rw [if_neg (by simp only; omega)]
          rw [if_neg (by rw [hb2]; simp), hb1, hfo] at hF
          cases hF
          rw [hneg]
          have HB9 := Lib.hid hb
          clear hb hk0 hfo hdr
          go_wp2
          go_ret2
          exact ⟨rfl, HB9.out⟩

end Go.Proofs.Ytmioamcgbihhjaa
