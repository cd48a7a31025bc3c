import Derived.Test.YtclnffpfbngjoaaQ5

section
/- The value of a right table, as the package of pointing finds it. -/
namespace Go.Proofs.Ytclnffpfbngjoaa
open Go Go.RowKit

set_option maxRecDepth 100000 in
set_option maxHeartbeats 2000000 in
theorem ptableat_is (A : Option Addr) (n c : Nat) (l : List (Int × Int)) (x T : Int) (hT : tabAt l x = T) (w : World) (hx : Reads w w.heap.size 2 A n (cells2 l)) (h0 : tabErr l = 0) (x1 : -1000000 ≤ x) (x2 : x ≤ 1000000) :
    Calls Try.prog 39 #[.slice A n c, .int .i64 x] w fun e w' => e = .returned (.int .i64 T) ∧ Below w.heap.size w w' := by
  have hxl : l.length = n := by have := hx.1; rw [cells2_length] at this; omega
  obtain ⟨n1, n2, hs, hin⟩ := tab_right h0
  rw [hxl] at n1 n2
  have HXL := Lib.hid hxl
  have HS := Lib.hid hs
  have HIN := Lib.hid hin
  have HT := Lib.hid hT
  clear hxl hs hin hT h0
  go_enter Try.func39, Try.ntmps39
  go_wp2_with fail
  refine (bsearch_any A n c l x _ hx HS.out (by omega)).mono ?_
  rintro e w1 ⟨⟨i, t, rfl, hi, hc, ht⟩, hb⟩
  have hrd : Reads w1 w1.heap.size 2 A n (cells2 l) := (hx.below hb).more hb.size
  have HC := Lib.hid hc
  have HTF := Lib.hid ht
  have HB := Lib.hid hb
  have hbs := hb.size
  clear hc ht hb hx
  cases t with
  | true =>
    obtain ⟨p, hp, he⟩ := HTF.out.1 rfl
    have hil : i < n := by have := (List.getElem?_eq_some_iff.1 hp).1; rw [HXL.out] at this; exact this
    have hv := tab_found HS.out hp he
    obtain ⟨xb, xo, q, rfl, hxb, hq, c0, c1⟩ := hrd.pair hil
    obtain rfl := Option.some.inj (hp.symm.trans hq)
    have HV := Lib.hid (hv.symm.trans HT.out)
    clear hp hq hv he hrd c0
    go_wp2
    go_ret
    exact ⟨ret_int HV.out, HB.out⟩
  | false =>
    have hne : ∀ p, l[i]? = some p → p.1 ≠ x := fun p hp he => by have := HTF.out.2 ⟨p, hp, he⟩; cases this
    have HNE := Lib.hid hne
    clear hne
    rcases Nat.eq_zero_or_pos i with h0 | h0
    · subst h0
      obtain ⟨xb, xo, q, rfl, hxb, hq, c0, c1⟩ := hrd.pair (i := 0) (by omega)
      have hv : tabAt l x = q.2 := tab_first hq (by have := HC.out.2 0 q (Nat.le_refl _) hq; have := HNE.out q hq; omega)
      have HV := Lib.hid (hv.symm.trans HT.out)
      simp only [Nat.zero_mul, Nat.add_zero] at c1
      clear hv hq hrd c0
      go_wp2
      go_ret
      exact ⟨ret_int HV.out, HB.out⟩
    · obtain ⟨k, rfl⟩ : ∃ k, i = k + 1 := ⟨i - 1, by omega⟩
      have e0 : (((k + 1 : Nat) : Int) == 0) = false := by simp; omega
      have hk1 : 0 ≤ ((k + 1 : Nat) : Int) - 1 := by omega
      have hk2 : (((k + 1 : Nat) : Int) - 1).toNat = k := by omega
      have hk3 : ((k + 1 : Nat) : Int) - 1 < (n : Int) := by omega
      obtain ⟨xb, xo, p, rfl, hxb, hp, c0, c1⟩ := hrd.pair (i := k) (by omega)
      have hlt := HC.out.1 k p (by omega) hp
      have hpi := HIN.out p (List.mem_of_getElem? hp)
      obtain ⟨pa, pv⟩ := p
      simp only at c0 c1 hlt hpi
      have HP := Lib.hid hp
      clear hp
      by_cases hkn : k + 1 = n
      · have hv : tabAt l x = pv := tab_last HS.out (by rw [HXL.out]; exact hkn) HP.out hlt
        have HV := Lib.hid (hv.symm.trans HT.out)
        have e1 : (((k + 1 : Nat) : Int) == (n : Int)) = true := by rw [beq_iff_eq]; omega
        clear hv hrd c0 hkn
        go_wp2
        go_ret
        exact ⟨ret_int HV.out, HB.out⟩
      · have e1 : (((k + 1 : Nat) : Int) == (n : Int)) = false := by rw [beq_eq_false_iff_ne]; omega
        obtain ⟨yb, yo, q, hA, hyb, hq, d0, d1⟩ := hrd.pair (i := k + 1) (by omega)
        obtain ⟨rfl, rfl⟩ : xb = yb ∧ xo = yo := by simpa using hA
        have hqx := HC.out.2 (k + 1) q (Nat.le_refl _) hq
        have hqn := HNE.out q hq
        have hqi := HIN.out q (List.mem_of_getElem? hq)
        obtain ⟨qa, qv⟩ := q
        simp only at d0 d1 hqx hqn hqi
        obtain ⟨⟨pa1, pa2⟩, pv1, pv2⟩ := hpi
        obtain ⟨⟨qa1, qa2⟩, qv1, qv2⟩ := hqi
        have hv := tab_mid HS.out HP.out hq hlt (by show x < qa; omega)
        simp only at hv
        have HV := Lib.hid (hv.symm.trans HT.out)
        have m1 : -8000000000000 ≤ (qv - pv) * (x - pa) ∧ (qv - pv) * (x - pa) ≤ 8000000000000 := by
          have h1 : 0 ≤ x - pa := by omega
          have h2 : x - pa ≤ 2000000 := by omega
          have h3 := Int.mul_le_mul_of_nonneg_right (show qv - pv ≤ 2000000 by omega) h1
          have h4 := Int.mul_le_mul_of_nonneg_right (show -2000000 ≤ qv - pv by omega) h1
          omega
        obtain ⟨m1, m2⟩ := m1
        obtain ⟨Z, hZ⟩ : ∃ Z, (qv - pv) * (x - pa) = Z := ⟨_, rfl⟩
        rw [hZ] at m1 m2 HV
        have HZ := Lib.hid hZ
        have wz : IntKind.i64.wrap ((qv - pv) * (x - pa)) = Z := by rw [hZ]; exact IntWalk.i64_in _ ⟨by omega, by omega⟩
        have hk4 : (k : Int) + 1 < (n : Int) := by omega
        clear hv hq hrd hA hqn hZ hkn
        obtain ⟨f1, f2, -, -⟩ := floor_in (a := Z) (b := qa - pa) (by omega) (by omega) (by omega)
        obtain ⟨F, hF⟩ : ∃ F, Z / (qa - pa) = F := ⟨_, rfl⟩
        rw [hF] at f1 f2 HV
        have HF := Lib.hid hF
        clear hF
        have hfl : ∀ w, Calls Try.prog 66 #[.int .i64 Z, .int .i64 (qa - pa)] w fun e w' => e = .returned (.int .i64 F) ∧ w = w' := fun w => by
          have := floorpt_any Z (qa - pa) w (by omega) (by omega) (by omega) (by omega)
          rwa [HF.out] at this
        have HFL := Lib.hid hfl
        clear hfl
        have hk5 : (k : Int) < (n : Int) := by omega
        have hk6 : (0 : Int) ≤ (k : Int) + 1 := by omega
        have hk7 : ((k : Int) + 1).toNat = k + 1 := by omega
        have wk := IntWalk.i64_in (k : Int) ⟨by omega, by omega⟩
        go_wp2
        go_region
        · go_wp2
          generalize hw2 : ((w1.alloc (.cells #[.int .i64 pa, .int .i64 pv] 60)).alloc (.cells #[.int .i64 qa, .int .i64 qv] 60)).drew = w2
          have hb2 : Below w.heap.size w w2 := by rw [← hw2]; refine Below.drew ?_; refine Below.alloc ?_ (by simp; omega) _; exact Below.alloc HB.out hbs _
          have ka : Blk w2 (w1.heap.size) 60 #[.int .i64 pa, .int .i64 pv] := by rw [← hw2]; repeat' (first | exact Blk.at_ _ (by first | rfl | (simp; done) | (simp; omega)) _ _ | refine Blk.drewN ?_ _ | refine Blk.drew ?_ | refine Blk.alloc ?_ _ | refine Blk.far ?_ (by first | omega | (simp; done) | (simp; omega)) _ | assumption)
          have kb : Blk w2 (w1.heap.size + 1) 60 #[.int .i64 qa, .int .i64 qv] := by rw [← hw2]; repeat' (first | exact Blk.at_ _ (by first | rfl | (simp; done) | (simp; omega)) _ _ | refine Blk.drewN ?_ _ | refine Blk.drew ?_ | refine Blk.alloc ?_ _ | refine Blk.far ?_ (by first | omega | (simp; done) | (simp; omega)) _ | assumption)
          clear hw2
          have HB2 := Lib.hid hb2
          have K0_2 := Lib.hid (show Blk w2 (w1.heap.size) 60 #[.int .i64 (pa), .int .i64 (pv)] from ka)
          have K1_2 := Lib.hid (show Blk w2 (w1.heap.size + 1) 60 #[.int .i64 (qa), .int .i64 (qv)] from kb)
          clear hb2 ka kb
          have l0_2 : w1.heap.size < w2.heap.size := K0_2.out.lt
          have z0_0_2 : w2.cell? ⟨w1.heap.size, 0, none⟩ = some (.int .i64 (pa)) := K0_2.out.cell 0
          have z0_1_2 : w2.cell? ⟨w1.heap.size, 1, none⟩ = some (.int .i64 (pv)) := K0_2.out.cell 1
          have l1_2 : w1.heap.size + 1 < w2.heap.size := K1_2.out.lt
          have z1_0_2 : w2.cell? ⟨w1.heap.size + 1, 0, none⟩ = some (.int .i64 (qa)) := K1_2.out.cell 0
          have z1_1_2 : w2.cell? ⟨w1.heap.size + 1, 1, none⟩ = some (.int .i64 (qv)) := K1_2.out.cell 1
          clear hk1 hk2 hk3 hk4 hk5 hk6 hk7 wk c0 c1 d0 d1 e0 e1
          have v1 := IntWalk.i64_in (qv - pv) ⟨by omega, by omega⟩
          have v2 := IntWalk.i64_in (x - pa) ⟨by omega, by omega⟩
          have v3 := IntWalk.i64_in (qa - pa) ⟨by omega, by omega⟩
          have v4 := IntWalk.i64_in (pv + F) ⟨by omega, by omega⟩
          clear hlt hqx pa1 pa2 pv1 pv2 qa1 qa2 qv1 qv2 m1 m2 f1 f2 x1 x2 n1 n2 hi h0 hbs hxb hyb
          refine Fx.regionW (fun W f w' => Below W.heap.size W w') (by kernel_rfl) (by kernel_rfl) ?_ ?_
          · intro f hf0
            exact below_drewN (Below.refl _ _) 1
          repeat (first
            | (refine Fx.skip_ (by rfl) (fun f w h => h) ?_; simp only [Act.put, List.setIfInBounds_toArray, List.set_cons_zero, List.set_cons_succ])
            | (refine Fx.val_ ?_ (by rfl) ?_ (fun f w h => h) ?_
               rotate_left
               · intro f w' hD hk
                 have hb := hD
                 have kb0 := step_blk hb (show Blk _ (w1.heap.size) 60 #[.int .i64 (pa), .int .i64 (pv)] by repeat' (first | exact K0_2.out | exact K1_2.out | exact Blk.at_ _ (by first | rfl | (simp; done) | (simp; omega)) _ _ | refine Blk.drewN ?_ _ | refine Blk.drew ?_ | refine Blk.alloc ?_ _ | refine Blk.far ?_ (by first | omega | (simp; done) | (simp; omega)) _ | assumption))
                 have y0_0 : w'.cell? ⟨w1.heap.size, 0, none⟩ = some (.int .i64 (pa)) := kb0.cell 0
                 have y0_1 : w'.cell? ⟨w1.heap.size, 1, none⟩ = some (.int .i64 (pv)) := kb0.cell 1
                 have kb1 := step_blk hb (show Blk _ (w1.heap.size + 1) 60 #[.int .i64 (qa), .int .i64 (qv)] by repeat' (first | exact K0_2.out | exact K1_2.out | exact Blk.at_ _ (by first | rfl | (simp; done) | (simp; omega)) _ _ | refine Blk.drewN ?_ _ | refine Blk.drew ?_ | refine Blk.alloc ?_ _ | refine Blk.far ?_ (by first | omega | (simp; done) | (simp; omega)) _ | assumption))
                 have y1_0 : w'.cell? ⟨w1.heap.size + 1, 0, none⟩ = some (.int .i64 (qa)) := kb1.cell 0
                 have y1_1 : w'.cell? ⟨w1.heap.size + 1, 1, none⟩ = some (.int .i64 (qv)) := kb1.cell 1
                 clear kb0 kb1
                 clear hk hD hb
                 go_simp
                 try rfl
               simp only [Act.put, List.setIfInBounds_toArray, List.set_cons_zero, List.set_cons_succ]))
          refine Fx.call_ (.int .i64 F) ?_ ?_ (by rfl) ?_ ?_ ?_
          rotate_left 2
          · intro w'
            go_simp
            refine ⟨?_, ?_⟩ <;> rfl
          · intro f w' hD hk
            exact (HFL.out _).mono fun e w'' ⟨he, hw⟩ => ⟨he, hw ▸ hD⟩
          simp only [Act.put, List.setIfInBounds_toArray, List.set_cons_zero, List.set_cons_succ]
          repeat (first
            | (refine Fx.skip_ (by rfl) (fun f w h => h) ?_; simp only [Act.put, List.setIfInBounds_toArray, List.set_cons_zero, List.set_cons_succ])
            | (refine Fx.val_ ?_ (by rfl) ?_ (fun f w h => h) ?_
               rotate_left
               · intro f w' hD hk
                 have hb := hD
                 have kb0 := step_blk hb (show Blk _ (w1.heap.size) 60 #[.int .i64 (pa), .int .i64 (pv)] by repeat' (first | exact K0_2.out | exact K1_2.out | exact Blk.at_ _ (by first | rfl | (simp; done) | (simp; omega)) _ _ | refine Blk.drewN ?_ _ | refine Blk.drew ?_ | refine Blk.alloc ?_ _ | refine Blk.far ?_ (by first | omega | (simp; done) | (simp; omega)) _ | assumption))
                 have y0_0 : w'.cell? ⟨w1.heap.size, 0, none⟩ = some (.int .i64 (pa)) := kb0.cell 0
                 have y0_1 : w'.cell? ⟨w1.heap.size, 1, none⟩ = some (.int .i64 (pv)) := kb0.cell 1
                 have kb1 := step_blk hb (show Blk _ (w1.heap.size + 1) 60 #[.int .i64 (qa), .int .i64 (qv)] by repeat' (first | exact K0_2.out | exact K1_2.out | exact Blk.at_ _ (by first | rfl | (simp; done) | (simp; omega)) _ _ | refine Blk.drewN ?_ _ | refine Blk.drew ?_ | refine Blk.alloc ?_ _ | refine Blk.far ?_ (by first | omega | (simp; done) | (simp; omega)) _ | assumption))
                 have y1_0 : w'.cell? ⟨w1.heap.size + 1, 0, none⟩ = some (.int .i64 (qa)) := kb1.cell 0
                 have y1_1 : w'.cell? ⟨w1.heap.size + 1, 1, none⟩ = some (.int .i64 (qv)) := kb1.cell 1
                 clear kb0 kb1
                 clear hk hD hb
                 go_simp
                 try rfl
               simp only [Act.put, List.setIfInBounds_toArray, List.set_cons_zero, List.set_cons_succ]))
          refine Fx.nil_ ?_
          intro f w3 hall hb
          try clear hall
          have HB23 := Lib.hid hb
          have HB3 := Lib.hid (show Below w.heap.size w w3 from step_below hb (by repeat' (first | exact Below.refl _ _ | exact HB2.out | refine below_drewN ?_ _ | refine Below.drew ?_ | refine Below.alloc ?_ (by first | omega | (simp; done) | (simp; omega) | (simp [World.setCell]; omega)) _ | refine Below.setCell ?_ (by first | omega | (simp; done) | (simp; omega)) _ | assumption)))
          have K0_3 := Lib.hid (step_blk hb (show Blk _ (w1.heap.size) 60 #[.int .i64 (pa), .int .i64 (pv)] by repeat' (first | exact K0_2.out | exact K1_2.out | exact Blk.at_ _ (by first | rfl | (simp; done) | (simp; omega)) _ _ | refine Blk.drewN ?_ _ | refine Blk.drew ?_ | refine Blk.alloc ?_ _ | refine Blk.far ?_ (by first | omega | (simp; done) | (simp; omega)) _ | assumption)))
          have K1_3 := Lib.hid (step_blk hb (show Blk _ (w1.heap.size + 1) 60 #[.int .i64 (qa), .int .i64 (qv)] by repeat' (first | exact K0_2.out | exact K1_2.out | exact Blk.at_ _ (by first | rfl | (simp; done) | (simp; omega)) _ _ | refine Blk.drewN ?_ _ | refine Blk.drew ?_ | refine Blk.alloc ?_ _ | refine Blk.far ?_ (by first | omega | (simp; done) | (simp; omega)) _ | assumption)))
          have hz3 := hb.size
          try simp only [World.size_alloc, World.drewN, World.drew] at hz3
          clear hb K0_2 K1_2 z0_0_2 z0_1_2 l0_2 z1_0_2 z1_1_2 l1_2
          have l0_3 : w1.heap.size < w3.heap.size := K0_3.out.lt
          have z0_0_3 : w3.cell? ⟨w1.heap.size, 0, none⟩ = some (.int .i64 (pa)) := K0_3.out.cell 0
          have z0_1_3 : w3.cell? ⟨w1.heap.size, 1, none⟩ = some (.int .i64 (pv)) := K0_3.out.cell 1
          have l1_3 : w1.heap.size + 1 < w3.heap.size := K1_3.out.lt
          have z1_0_3 : w3.cell? ⟨w1.heap.size + 1, 0, none⟩ = some (.int .i64 (qa)) := K1_3.out.cell 0
          have z1_1_3 : w3.cell? ⟨w1.heap.size + 1, 1, none⟩ = some (.int .i64 (qv)) := K1_3.out.cell 1
          go_wp2
          go_ret
          exact ⟨ret_int HV.out, HB3.out⟩
        · go_wp2
          generalize hw2 : ((w1.alloc (.cells #[.int .i64 qa, .int .i64 qv] 60)).alloc (.cells #[.int .i64 pa, .int .i64 pv] 60)).drew = w2
          have hb2 : Below w.heap.size w w2 := by rw [← hw2]; refine Below.drew ?_; refine Below.alloc ?_ (by simp; omega) _; exact Below.alloc HB.out hbs _
          have ka : Blk w2 (w1.heap.size + 1) 60 #[.int .i64 pa, .int .i64 pv] := by rw [← hw2]; repeat' (first | exact Blk.at_ _ (by first | rfl | (simp; done) | (simp; omega)) _ _ | refine Blk.drewN ?_ _ | refine Blk.drew ?_ | refine Blk.alloc ?_ _ | refine Blk.far ?_ (by first | omega | (simp; done) | (simp; omega)) _ | assumption)
          have kb : Blk w2 (w1.heap.size) 60 #[.int .i64 qa, .int .i64 qv] := by rw [← hw2]; repeat' (first | exact Blk.at_ _ (by first | rfl | (simp; done) | (simp; omega)) _ _ | refine Blk.drewN ?_ _ | refine Blk.drew ?_ | refine Blk.alloc ?_ _ | refine Blk.far ?_ (by first | omega | (simp; done) | (simp; omega)) _ | assumption)
          clear hw2
          have HB2 := Lib.hid hb2
          have K0_2 := Lib.hid (show Blk w2 (w1.heap.size + 1) 60 #[.int .i64 (pa), .int .i64 (pv)] from ka)
          have K1_2 := Lib.hid (show Blk w2 (w1.heap.size) 60 #[.int .i64 (qa), .int .i64 (qv)] from kb)
          clear hb2 ka kb
          have l0_2 : w1.heap.size + 1 < w2.heap.size := K0_2.out.lt
          have z0_0_2 : w2.cell? ⟨w1.heap.size + 1, 0, none⟩ = some (.int .i64 (pa)) := K0_2.out.cell 0
          have z0_1_2 : w2.cell? ⟨w1.heap.size + 1, 1, none⟩ = some (.int .i64 (pv)) := K0_2.out.cell 1
          have l1_2 : w1.heap.size < w2.heap.size := K1_2.out.lt
          have z1_0_2 : w2.cell? ⟨w1.heap.size, 0, none⟩ = some (.int .i64 (qa)) := K1_2.out.cell 0
          have z1_1_2 : w2.cell? ⟨w1.heap.size, 1, none⟩ = some (.int .i64 (qv)) := K1_2.out.cell 1
          clear hk1 hk2 hk3 hk4 hk5 hk6 hk7 wk c0 c1 d0 d1 e0 e1
          have v1 := IntWalk.i64_in (qv - pv) ⟨by omega, by omega⟩
          have v2 := IntWalk.i64_in (x - pa) ⟨by omega, by omega⟩
          have v3 := IntWalk.i64_in (qa - pa) ⟨by omega, by omega⟩
          have v4 := IntWalk.i64_in (pv + F) ⟨by omega, by omega⟩
          clear hlt hqx pa1 pa2 pv1 pv2 qa1 qa2 qv1 qv2 m1 m2 f1 f2 x1 x2 n1 n2 hi h0 hbs hxb hyb
          refine Fx.regionW (fun W f w' => Below W.heap.size W w') (by kernel_rfl) (by kernel_rfl) ?_ ?_
          · intro f hf0
            exact below_drewN (Below.refl _ _) 1
          repeat (first
            | (refine Fx.skip_ (by rfl) (fun f w h => h) ?_; simp only [Act.put, List.setIfInBounds_toArray, List.set_cons_zero, List.set_cons_succ])
            | (refine Fx.val_ ?_ (by rfl) ?_ (fun f w h => h) ?_
               rotate_left
               · intro f w' hD hk
                 have hb := hD
                 have kb0 := step_blk hb (show Blk _ (w1.heap.size + 1) 60 #[.int .i64 (pa), .int .i64 (pv)] by repeat' (first | exact K0_2.out | exact K1_2.out | exact Blk.at_ _ (by first | rfl | (simp; done) | (simp; omega)) _ _ | refine Blk.drewN ?_ _ | refine Blk.drew ?_ | refine Blk.alloc ?_ _ | refine Blk.far ?_ (by first | omega | (simp; done) | (simp; omega)) _ | assumption))
                 have y0_0 : w'.cell? ⟨w1.heap.size + 1, 0, none⟩ = some (.int .i64 (pa)) := kb0.cell 0
                 have y0_1 : w'.cell? ⟨w1.heap.size + 1, 1, none⟩ = some (.int .i64 (pv)) := kb0.cell 1
                 have kb1 := step_blk hb (show Blk _ (w1.heap.size) 60 #[.int .i64 (qa), .int .i64 (qv)] by repeat' (first | exact K0_2.out | exact K1_2.out | exact Blk.at_ _ (by first | rfl | (simp; done) | (simp; omega)) _ _ | refine Blk.drewN ?_ _ | refine Blk.drew ?_ | refine Blk.alloc ?_ _ | refine Blk.far ?_ (by first | omega | (simp; done) | (simp; omega)) _ | assumption))
                 have y1_0 : w'.cell? ⟨w1.heap.size, 0, none⟩ = some (.int .i64 (qa)) := kb1.cell 0
                 have y1_1 : w'.cell? ⟨w1.heap.size, 1, none⟩ = some (.int .i64 (qv)) := kb1.cell 1
                 clear kb0 kb1
                 clear hk hD hb
                 go_simp
                 try rfl
               simp only [Act.put, List.setIfInBounds_toArray, List.set_cons_zero, List.set_cons_succ]))
          refine Fx.call_ (.int .i64 F) ?_ ?_ (by rfl) ?_ ?_ ?_
          rotate_left 2
          · intro w'
            go_simp
            refine ⟨?_, ?_⟩ <;> rfl
          · intro f w' hD hk
            exact (HFL.out _).mono fun e w'' ⟨he, hw⟩ => ⟨he, hw ▸ hD⟩
          simp only [Act.put, List.setIfInBounds_toArray, List.set_cons_zero, List.set_cons_succ]
          repeat (first
            | (refine Fx.skip_ (by rfl) (fun f w h => h) ?_; simp only [Act.put, List.setIfInBounds_toArray, List.set_cons_zero, List.set_cons_succ])
            | (refine Fx.val_ ?_ (by rfl) ?_ (fun f w h => h) ?_
               rotate_left
               · intro f w' hD hk
                 have hb := hD
                 have kb0 := step_blk hb (show Blk _ (w1.heap.size + 1) 60 #[.int .i64 (pa), .int .i64 (pv)] by repeat' (first | exact K0_2.out | exact K1_2.out | exact Blk.at_ _ (by first | rfl | (simp; done) | (simp; omega)) _ _ | refine Blk.drewN ?_ _ | refine Blk.drew ?_ | refine Blk.alloc ?_ _ | refine Blk.far ?_ (by first | omega | (simp; done) | (simp; omega)) _ | assumption))
                 have y0_0 : w'.cell? ⟨w1.heap.size + 1, 0, none⟩ = some (.int .i64 (pa)) := kb0.cell 0
                 have y0_1 : w'.cell? ⟨w1.heap.size + 1, 1, none⟩ = some (.int .i64 (pv)) := kb0.cell 1
                 have kb1 := step_blk hb (show Blk _ (w1.heap.size) 60 #[.int .i64 (qa), .int .i64 (qv)] by repeat' (first | exact K0_2.out | exact K1_2.out | exact Blk.at_ _ (by first | rfl | (simp; done) | (simp; omega)) _ _ | refine Blk.drewN ?_ _ | refine Blk.drew ?_ | refine Blk.alloc ?_ _ | refine Blk.far ?_ (by first | omega | (simp; done) | (simp; omega)) _ | assumption))
                 have y1_0 : w'.cell? ⟨w1.heap.size, 0, none⟩ = some (.int .i64 (qa)) := kb1.cell 0
                 have y1_1 : w'.cell? ⟨w1.heap.size, 1, none⟩ = some (.int .i64 (qv)) := kb1.cell 1
                 clear kb0 kb1
                 clear hk hD hb
                 go_simp
                 try rfl
               simp only [Act.put, List.setIfInBounds_toArray, List.set_cons_zero, List.set_cons_succ]))
          refine Fx.nil_ ?_
          intro f w3 hall hb
          try clear hall
          have HB23 := Lib.hid hb
          have HB3 := Lib.hid (show Below w.heap.size w w3 from step_below hb (by repeat' (first | exact Below.refl _ _ | exact HB2.out | refine below_drewN ?_ _ | refine Below.drew ?_ | refine Below.alloc ?_ (by first | omega | (simp; done) | (simp; omega) | (simp [World.setCell]; omega)) _ | refine Below.setCell ?_ (by first | omega | (simp; done) | (simp; omega)) _ | assumption)))
          have K0_3 := Lib.hid (step_blk hb (show Blk _ (w1.heap.size + 1) 60 #[.int .i64 (pa), .int .i64 (pv)] by repeat' (first | exact K0_2.out | exact K1_2.out | exact Blk.at_ _ (by first | rfl | (simp; done) | (simp; omega)) _ _ | refine Blk.drewN ?_ _ | refine Blk.drew ?_ | refine Blk.alloc ?_ _ | refine Blk.far ?_ (by first | omega | (simp; done) | (simp; omega)) _ | assumption)))
          have K1_3 := Lib.hid (step_blk hb (show Blk _ (w1.heap.size) 60 #[.int .i64 (qa), .int .i64 (qv)] by repeat' (first | exact K0_2.out | exact K1_2.out | exact Blk.at_ _ (by first | rfl | (simp; done) | (simp; omega)) _ _ | refine Blk.drewN ?_ _ | refine Blk.drew ?_ | refine Blk.alloc ?_ _ | refine Blk.far ?_ (by first | omega | (simp; done) | (simp; omega)) _ | assumption)))
          have hz3 := hb.size
          try simp only [World.size_alloc, World.drewN, World.drew] at hz3
          clear hb K0_2 K1_2 z0_0_2 z0_1_2 l0_2 z1_0_2 z1_1_2 l1_2
          have l0_3 : w1.heap.size + 1 < w3.heap.size := K0_3.out.lt
          have z0_0_3 : w3.cell? ⟨w1.heap.size + 1, 0, none⟩ = some (.int .i64 (pa)) := K0_3.out.cell 0
          have z0_1_3 : w3.cell? ⟨w1.heap.size + 1, 1, none⟩ = some (.int .i64 (pv)) := K0_3.out.cell 1
          have l1_3 : w1.heap.size < w3.heap.size := K1_3.out.lt
          have z1_0_3 : w3.cell? ⟨w1.heap.size, 0, none⟩ = some (.int .i64 (qa)) := K1_3.out.cell 0
          have z1_1_3 : w3.cell? ⟨w1.heap.size, 1, none⟩ = some (.int .i64 (qv)) := K1_3.out.cell 1
          go_wp2
          go_ret
          exact ⟨ret_int HV.out, HB3.out⟩

end Go.Proofs.Ytclnffpfbngjoaa

end
