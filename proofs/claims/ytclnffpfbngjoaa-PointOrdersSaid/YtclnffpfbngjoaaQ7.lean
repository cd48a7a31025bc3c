import Derived.Test.YtclnffpfbngjoaaQ6

section
/- Contracts of the tables: TableAt of the package of pointing, and the reference's check and value. -/
namespace Go.Proofs.Ytclnffpfbngjoaa
open Go Go.RowKit

theorem small_one {m x : Int} : smallL m [x] = withinB x (-m) m := by unfold smallL; simp
set_option maxRecDepth 100000 in
theorem pTable_ok (A : Option Addr) (n c : Nat) (l : List (Int × Int)) (x T : Int) (hE : tabErr l = 0) (h0 : smallL 1000000 [x] = true) (hT : tabAt l x = T) (w : World) (hx : Reads w w.heap.size 2 A n (cells2 l)) (hn : n ≤ 9223372036854775807) :
    Calls Try.prog 17 #[.slice A n c, .int .i64 x] w fun e w' => e = .returned (.tuple #[.int .i64 T, .int .i64 0]) ∧ Below w.heap.size w w' := by
  have HE := Lib.hid hE
  have HS := Lib.hid h0
  have HT := Lib.hid hT
  rw [small_one, withinB_iff] at h0
  obtain ⟨x1, x2⟩ := h0
  clear hE hT
  go_enter Try.func17, Try.ntmps17
  have R0_0 := Lib.hid hx
  clear hx
  go_wp2_with fail
  refine (pchecktab_is A n c _ l 0 HE.out _ R0_0.out (Nat.le_refl _) hn).mono ?_
  rintro e w1 ⟨rfl, hb⟩
  have HB1 := Lib.hid (show Below w.heap.size w w1 from step_below hb (by repeat' (first | exact Below.refl _ _ | exact HB0.out | refine below_drewN ?_ _ | refine Below.drew ?_ | refine Below.alloc ?_ (by first | omega | (simp; done) | (simp; omega) | (simp [World.setCell]; omega)) _ | refine Below.setCell ?_ (by first | omega | (simp; done) | (simp; omega)) _ | assumption)))
  have hL1 := Lib.hid (show Below w.heap.size w _ from reads_mid hb (by repeat' (first | exact Below.refl _ _ | refine below_drewN ?_ _ | refine Below.drew ?_ | refine Below.alloc ?_ (by first | omega | (simp; done) | (simp; omega) | (simp [World.setCell]; omega)) _ | refine Below.setCell ?_ (by first | omega | (simp; done) | (simp; omega)) _)))
  have R0_1 := Lib.hid (reads_lay hb hL1.out R0_0.out)
  clear hL1 R0_0
  have hz1 := hb.size
  try simp only [World.size_alloc, World.drewN, World.drew] at hz1
  clear hb
  go_wp2_with fail
  refine (smallpt_lit 1000000 [x] 1 _ _ true HS.out _ rfl rfl (by omega) (by omega) (by omega)).mono ?_
  rintro e w2 ⟨rfl, hb⟩
  have HB2 := Lib.hid (show Below w.heap.size w w2 from step_below hb (by repeat' (first | exact Below.refl _ _ | exact HB1.out | refine below_drewN ?_ _ | refine Below.drew ?_ | refine Below.alloc ?_ (by first | omega | (simp; done) | (simp; omega) | (simp [World.setCell]; omega)) _ | refine Below.setCell ?_ (by first | omega | (simp; done) | (simp; omega)) _ | assumption)))
  have hL2 := Lib.hid (show Below w1.heap.size w1 _ from reads_mid hb (by repeat' (first | exact Below.refl _ _ | refine below_drewN ?_ _ | refine Below.drew ?_ | refine Below.alloc ?_ (by first | omega | (simp; done) | (simp; omega) | (simp [World.setCell]; omega)) _ | refine Below.setCell ?_ (by first | omega | (simp; done) | (simp; omega)) _)))
  have R0_2 := Lib.hid (reads_lay hb hL2.out R0_1.out)
  clear hL2 R0_1
  have hz2 := hb.size
  try simp only [World.size_alloc, World.drewN, World.drew] at hz2
  clear hb
  go_wp2_with fail
  refine (ptableat_is A n c l x T HT.out _ R0_2.out HE.out x1 x2).mono ?_
  rintro e w3 ⟨rfl, hb⟩
  have HB3 := Lib.hid (show Below w.heap.size w w3 from step_below hb (by repeat' (first | exact Below.refl _ _ | exact HB2.out | refine below_drewN ?_ _ | refine Below.drew ?_ | refine Below.alloc ?_ (by first | omega | (simp; done) | (simp; omega) | (simp [World.setCell]; omega)) _ | refine Below.setCell ?_ (by first | omega | (simp; done) | (simp; omega)) _ | assumption)))
  have hL3 := Lib.hid (show Below w2.heap.size w2 _ from reads_mid hb (by repeat' (first | exact Below.refl _ _ | refine below_drewN ?_ _ | refine Below.drew ?_ | refine Below.alloc ?_ (by first | omega | (simp; done) | (simp; omega) | (simp [World.setCell]; omega)) _ | refine Below.setCell ?_ (by first | omega | (simp; done) | (simp; omega)) _)))
  have R0_3 := Lib.hid (reads_lay hb hL3.out R0_2.out)
  clear hL3 R0_2
  have hz3 := hb.size
  try simp only [World.size_alloc, World.drewN, World.drew] at hz3
  clear hb
  go_wp2
  go_ret2
  exact ⟨rfl, HB3.out⟩

theorem million_is (n : Int) (t : Bool) (h : mil n = t) (w : World) : Calls Try.prog 74 #[.int .i64 n] w fun e w' => e = .returned (.bool t) ∧ w = w' := by
  have H := Lib.hid h
  clear h
  go_enter Try.func74, Try.ntmps74
  go_wp2_with fail
  refine (withinref_is _ _ _ t H.out _).mono ?_
  rintro e w' ⟨rfl, rfl⟩
  go_wp2
  go_ret
  exact ⟨rfl, rfl⟩
theorem row_2a {prev : Option Int} {p : Int × Int} (h : mil p.1 = false) : rowErr prev p = 2 := by unfold rowErr; rw [if_pos (.inl h)]
theorem row_2b {prev : Option Int} {p : Int × Int} (h : mil p.2 = false) : rowErr prev p = 2 := by unfold rowErr; rw [if_pos (.inr h)]
theorem small_mil {p : Int × Int} (h1 : mil p.1 = true) (h2 : mil p.2 = true) : smallL 1000000 [p.1, p.2] = true := by rw [mil_small, h1, h2]; rfl

set_option maxRecDepth 100000 in
theorem rchecktab9_is (A : Option Addr) (n c N : Nat) (l : List (Int × Int)) (E : Int) (hE : tabErr l = E) (w : World) (hx : Reads w N 2 A n (cells2 l)) (hn : n ≤ 9223372036854775807) :
    Calls Try.prog 53 #[.slice A n c] w fun e w' => e = .returned (.int .i64 E) ∧ ∃ q, w' = w.drewN q := by
  have hxl : l.length = n := by have := hx.1; rw [cells2_length] at this; omega
  have HE := Lib.hid hE
  have HXL := Lib.hid hxl
  clear hE
  cases hw : withinB (n : Int) 1 40 with
  | false =>
    have e : (10 : Int) = E := by
      rw [← HE.out]; unfold tabErr; rw [hxl, if_pos (by have : ¬ (1 ≤ (n : Int) ∧ (n : Int) ≤ 40) := fun h => by rw [(withinB_iff _ _ _).2 h] at hw; cases hw
                                                        omega)]
    have HW := Lib.hid hw
    have HEE := Lib.hid e
    clear hw hxl hx e
    go_enter Try.func53, Try.ntmps53
    go_wp2_with fail
    refine (withinref_is _ _ _ false HW.out _).mono ?_
    rintro e w' ⟨rfl, rfl⟩
    go_wp2
    go_ret
    exact ⟨ret_int HEE.out, 0, rfl⟩
  | true =>
    have hnw := (withinB_iff _ _ _).1 hw
    obtain ⟨n1, n2⟩ := hnw
    have HW := Lib.hid hw
    have HX := Lib.hid hx
    have HL : Hid (¬ (l.length < 1 ∨ 40 < l.length)) := by show ¬ _; rw [hxl]; omega
    clear hw hxl hx
    go_enter Try.func53, Try.ntmps53
    go_wp2_with fail
    refine (withinref_is _ _ _ true HW.out _).mono ?_
    rintro e w' ⟨rfl, rfl⟩
    go_wp2
    go_loopw [3] (fun i wr => ∃ k : Nat, k ≤ n ∧ i = .int .i64 k ∧ TabUp l k ∧ ∃ q, wr = w.drewN q) (fun i _ => n - (intOf i).toNat)
    case atStart => exact ⟨0, by omega, rfl, fun j hj => absurd hj (by omega), 0, rfl⟩
    case round =>
      obtain ⟨k, hk, rfl, hup, q0, rfl⟩ := hrel
      have HUP := Lib.hid hup
      clear hup
      by_cases hlt : k < n
      · obtain ⟨xb, xo, p, rfl, hxb, hp, c0, c1⟩ := HX.out.pair hlt
        have HP := Lib.hid hp
        clear hp
        obtain ⟨pa, pv⟩ := p
        simp only at c0 c1
        cases hs : mil pa with
        | false =>
          have HS := Lib.hid hs
          have HEE := Lib.hid (HUP.out.stop HP.out HL.out (row_2a (p := (pa, pv)) HS.out) (by decide))
          clear hs
          go_wp2_with fail
          refine (million_is _ false HS.out _).mono ?_
          rintro e w' ⟨rfl, rfl⟩
          go_wp2
          go_ret
          exact ⟨ret_int (HEE.out.symm.trans HE.out), q0, rfl⟩
        | true =>
          have HS := Lib.hid hs
          clear hs
          cases hs2 : mil pv with
          | false =>
            have HS2 := Lib.hid hs2
            have HEE := Lib.hid (HUP.out.stop HP.out HL.out (row_2b (p := (pa, pv)) HS2.out) (by decide))
            clear hs2
            go_wp2_with fail
            refine (million_is _ true HS.out _).mono ?_
            rintro e w' ⟨rfl, rfl⟩
            go_wp2_with fail
            refine (million_is _ false HS2.out _).mono ?_
            rintro e w' ⟨rfl, rfl⟩
            go_wp2
            go_ret
            exact ⟨ret_int (HEE.out.symm.trans HE.out), q0, rfl⟩
          | true =>
            have HS2 := Lib.hid hs2
            have HSM := Lib.hid (small_mil (p := (pa, pv)) HS.out HS2.out)
            clear hs2
            rcases Nat.eq_zero_or_pos k with h0 | h0
            · subst h0
              simp only [Nat.zero_mul, Nat.add_zero] at c0 c1
              have HU := Lib.hid (HUP.out.step HP.out (by rw [prev_zero]; exact row_first HSM.out))
              have hd : decide ((0 : Int) < 0) = false := by decide
              go_wp2_with fail
              refine (million_is _ true HS.out _).mono ?_
              rintro e w' ⟨rfl, rfl⟩
              go_wp2_with fail
              refine (million_is _ true HS2.out _).mono ?_
              rintro e w' ⟨rfl, rfl⟩
              go_wp2
              go_quiet (fail)
              go_wp2
              go_roundw
              case rel => exact ⟨1, by omega, by go_num, HU.out, _, by first | exact rfl | exact World.drewN_drewN _ _ _⟩
              case measure => simp [intOf]; omega
            · obtain ⟨k', rfl⟩ : ∃ k', k = k' + 1 := ⟨k - 1, by omega⟩
              obtain ⟨yb, yo, q, hA, hyb, hq, d0, -⟩ := HX.out.pair (i := k') (by omega)
              obtain ⟨rfl, rfl⟩ : xb = yb ∧ xo = yo := by simpa using hA
              have hd : decide ((0 : Int) < ((k' + 1 : Nat) : Int)) = true := by first | (simp; done) | (simp; omega)
              obtain ⟨qa, qv⟩ := q
              simp only at d0
              have HQ := Lib.hid hq
              clear hq hA
              have hk1 : 0 ≤ ((k' + 1 : Nat) : Int) - 1 := by omega
              have hk2 : (((k' + 1 : Nat) : Int) - 1).toNat = k' := by omega
              have hk3 : ((k' + 1 : Nat) : Int) - 1 < (n : Int) := by omega
              by_cases hle : pa ≤ qa
              · have HEE := Lib.hid (HUP.out.stop HP.out HL.out (by rw [prev_succ HQ.out, row_next HSM.out, if_pos hle]) (by decide))
                go_wp2_with fail
                refine (million_is _ true HS.out _).mono ?_
                rintro e w' ⟨rfl, rfl⟩
                go_wp2_with fail
                refine (million_is _ true HS2.out _).mono ?_
                rintro e w' ⟨rfl, rfl⟩
                go_wp2
                go_quiet (fail)
                go_wp2
                go_ret
                exact ⟨ret_int (HEE.out.symm.trans HE.out), _, by first | exact rfl | exact World.drewN_drewN _ _ _⟩
              · have HU := Lib.hid (HUP.out.step HP.out (by rw [prev_succ HQ.out, row_next HSM.out, if_neg hle]))
                go_wp2_with fail
                refine (million_is _ true HS.out _).mono ?_
                rintro e w' ⟨rfl, rfl⟩
                go_wp2_with fail
                refine (million_is _ true HS2.out _).mono ?_
                rintro e w' ⟨rfl, rfl⟩
                go_wp2
                go_quiet (fail)
                go_wp2
                go_roundw
                case rel => exact ⟨k' + 1 + 1, by omega, by go_num, HU.out, _, by first | exact rfl | exact World.drewN_drewN _ _ _⟩
                case measure => simp [intOf]; omega
      · have hkn : k = n := by omega
        have HEE : Hid (tabErr l = 0) := TabUp.all (by rw [HXL.out, ← hkn]; exact HUP.out) HL.out
        clear hkn
        go_wp2
        go_ret
        exact ⟨ret_int (HEE.out.symm.trans HE.out), q0, rfl⟩

theorem tabGo_step {l : List (Int × Int)} {k : Nat} {p q : Int × Int} {x : Int} (hp : l[k]? = some q) : tabGo p (l.drop k) x = if x < q.1 then p.2 + (q.2 - p.2) * (x - p.1) / (q.1 - p.1) else tabGo q (l.drop (k + 1)) x := by
  obtain ⟨hk, he⟩ := List.getElem?_eq_some_iff.1 hp
  rw [List.drop_eq_getElem_cons hk, he, tabGo]

set_option maxRecDepth 100000 in
set_option maxHeartbeats 2000000 in
theorem rtableat9_is (A : Option Addr) (n c : Nat) (l : List (Int × Int)) (x T : Int) (hT : tabAt l x = T) (w : World) (hx : Reads w w.heap.size 2 A n (cells2 l)) (h0 : tabErr l = 0) (x1 : -1000000 ≤ x) (x2 : x ≤ 1000000) :
    Calls Try.prog 78 #[.slice A n c, .int .i64 x] w fun e w' => e = .returned (.int .i64 T) ∧ Below w.heap.size w w' := by
  have hxl : l.length = n := by have := hx.1; rw [cells2_length] at this; omega
  obtain ⟨n1, n2, hs, hin⟩ := tab_right h0
  rw [hxl] at n1 n2
  have HXL := Lib.hid hxl
  have HS := Lib.hid hs
  have HIN := Lib.hid hin
  have HX := Lib.hid hx
  obtain ⟨zb, zo, p0, rfl, hzb, hp0, c0, c1⟩ := hx.pair (i := 0) (by omega)
  simp only [Nat.zero_mul, Nat.add_zero] at c0 c1
  have htab : tabAt l x = if x ≤ p0.1 then p0.2 else tabGo p0 (l.drop 1) x := by
    obtain ⟨hk, he⟩ := List.getElem?_eq_some_iff.1 hp0
    cases l with
    | nil => simp at hk
    | cons a t => simp at he; subst he; rfl
  obtain ⟨pa, pv⟩ := p0
  simp only at c0 c1 htab
  by_cases hfirst : x ≤ pa
  · rw [if_pos hfirst] at htab
    have HV := Lib.hid (htab.symm.trans hT)
    clear hxl hs hin hT h0 htab hp0 hx
    go_enter Try.func78, Try.ntmps78
    go_wp2
    go_ret
    exact ⟨ret_int HV.out, Below.refl _ _⟩
  rw [if_neg hfirst] at htab
  have HG := Lib.hid (htab.symm.trans hT)
  have HP0 := Lib.hid hp0
  clear hxl hs hin hT h0 htab hp0 hx
  go_enter Try.func78, Try.ntmps78
  go_wp2
  go_loopw [5] (fun i wr => ∃ (k : Nat) (p : Int × Int), k + 1 ≤ n ∧ i = .int .i64 ((k : Int) + 1) ∧ Below w.heap.size w wr ∧ l[k]? = some p ∧ p.1 ≤ x ∧ tabGo p (l.drop (k + 1)) x = T) (fun i _ => n - (intOf i).toNat)
  case atStart => exact ⟨0, (pa, pv), by omega, rfl, Below.refl _ _, HP0.out, by show pa ≤ x; omega, HG.out⟩
  case round =>
    obtain ⟨k, p, hk, rfl, hb, hp, hpx, hg⟩ := hrel
    obtain ⟨w1, hnm⟩ : ∃ z : World, z = wr := ⟨_, rfl⟩
    subst hnm
    have hrd : Reads w1 w1.heap.size 2 (some ⟨zb, zo, none⟩) n (cells2 l) := (HX.out.below hb).more hb.size
    have HB := Lib.hid hb
    have hbs := hb.size
    obtain ⟨xb, xo, p', hA, hxb, hp', d0, d1⟩ := hrd.pair (i := k) (by omega)
    obtain ⟨rfl, rfl⟩ : zb = xb ∧ zo = xo := by simpa using hA
    obtain rfl := Option.some.inj (hp.symm.trans hp')
    have hpi := HIN.out p (List.mem_of_getElem? hp)
    obtain ⟨ra, rv⟩ := p
    simp only at d0 d1 hpx hpi
    obtain ⟨⟨pa1, pa2⟩, pv1, pv2⟩ := hpi
    have HP := Lib.hid hp
    have HGO := Lib.hid hg
    have hk5 : (k : Int) < (n : Int) := by omega
    have wk := IntWalk.i64_in (k : Int) ⟨by omega, by omega⟩
    have hk6 : (0 : Int) ≤ (k : Int) + 1 := by omega
    have hk7 : ((k : Int) + 1).toNat = k + 1 := by omega
    clear hb hp hp' hg hA c0 c1
    by_cases hlt : k + 1 < n
    · obtain ⟨yb, yo, q, hA, hyb, hq, e0, e1⟩ := hrd.pair (i := k + 1) (by omega)
      obtain ⟨rfl, rfl⟩ : zb = yb ∧ zo = yo := by simpa using hA
      have hqi := HIN.out q (List.mem_of_getElem? hq)
      have hst := tabGo_step (p := (ra, rv)) (x := x) hq
      rw [HGO.out] at hst
      obtain ⟨qa, qv⟩ := q
      simp only at e0 e1 hqi hst
      obtain ⟨⟨qa1, qa2⟩, qv1, qv2⟩ := hqi
      have hpq : ra < qa := pairwise_lt HS.out HP.out hq (by omega)
      have hk4 : (k : Int) + 1 < (n : Int) := by omega
      have HQ := Lib.hid hq
      have HST := Lib.hid hst
      clear hst hq hA hrd
      go_wp2
      go_region
      · skip
        generalize hwn : ((w1.alloc (.cells #[.int .i64 (ra), .int .i64 (rv)] 60)).alloc (.cells #[.int .i64 (qa), .int .i64 (qv)] 60)).drew = w2
        have hbn : Below w.heap.size w w2 := by rw [← hwn]; refine Below.drew ?_; refine Below.alloc ?_ (by simp; omega) _; exact Below.alloc HB.out hbs _
        have ka : Blk w2 (w1.heap.size) 60 #[.int .i64 (ra), .int .i64 (rv)] := by rw [← hwn]; repeat' (first | exact Blk.at_ _ (by first | rfl | (simp; done) | (simp; omega)) _ _ | refine Blk.drewN ?_ _ | refine Blk.drew ?_ | refine Blk.alloc ?_ _ | refine Blk.far ?_ (by first | omega | (simp; done) | (simp; omega)) _ | assumption)
        have kb : Blk w2 (w1.heap.size + 1) 60 #[.int .i64 (qa), .int .i64 (qv)] := by rw [← hwn]; repeat' (first | exact Blk.at_ _ (by first | rfl | (simp; done) | (simp; omega)) _ _ | refine Blk.drewN ?_ _ | refine Blk.drew ?_ | refine Blk.alloc ?_ _ | refine Blk.far ?_ (by first | omega | (simp; done) | (simp; omega)) _ | assumption)
        clear hwn
        have HB2 := Lib.hid hbn
        have K0_2 := Lib.hid (show Blk w2 (w1.heap.size) 60 #[.int .i64 (ra), .int .i64 (rv)] from ka)
        have K1_2 := Lib.hid (show Blk w2 (w1.heap.size + 1) 60 #[.int .i64 (qa), .int .i64 (qv)] from kb)
        clear hbn ka kb
        have l0_2 : w1.heap.size < w2.heap.size := K0_2.out.lt
        have z0_0_2 : w2.cell? ⟨w1.heap.size, 0, none⟩ = some (.int .i64 (ra)) := K0_2.out.cell 0
        have z0_1_2 : w2.cell? ⟨w1.heap.size, 1, none⟩ = some (.int .i64 (rv)) := K0_2.out.cell 1
        have l1_2 : w1.heap.size + 1 < w2.heap.size := K1_2.out.lt
        have z1_0_2 : w2.cell? ⟨w1.heap.size + 1, 0, none⟩ = some (.int .i64 (qa)) := K1_2.out.cell 0
        have z1_1_2 : w2.cell? ⟨w1.heap.size + 1, 1, none⟩ = some (.int .i64 (qv)) := K1_2.out.cell 1
        clear d0 d1 e0 e1
        by_cases hxq : x < qa
        · have hv := HST.out
          rw [if_pos hxq] at hv
          have m1 : -8000000000000 ≤ (qv - rv) * (x - ra) ∧ (qv - rv) * (x - ra) ≤ 8000000000000 := by
            have h1 : 0 ≤ x - ra := by omega
            have h3 := Int.mul_le_mul_of_nonneg_right (show qv - rv ≤ 2000000 by omega) h1
            have h4 := Int.mul_le_mul_of_nonneg_right (show -2000000 ≤ qv - rv by omega) h1
            omega
          obtain ⟨m1, m2⟩ := m1
          obtain ⟨Z, hZ⟩ : ∃ Z, (qv - rv) * (x - ra) = Z := ⟨_, rfl⟩
          rw [hZ] at m1 m2 hv
          have wz : IntKind.i64.wrap ((qv - rv) * (x - ra)) = Z := by rw [hZ]; exact IntWalk.i64_in _ ⟨by omega, by omega⟩
          obtain ⟨f1, f2, -, -⟩ := floor_in (a := Z) (b := qa - ra) (by omega) (by omega) (by omega)
          obtain ⟨F, hF⟩ : ∃ F, Z / (qa - ra) = F := ⟨_, rfl⟩
          rw [hF] at f1 f2 hv
          have HV := Lib.hid hv.symm
          have HF := Lib.hid hF
          have hfl : ∀ w, Calls Try.prog 85 #[.int .i64 Z, .int .i64 (qa - ra)] w fun e w' => e = .returned (.int .i64 F) ∧ w = w' := fun w => by
            have := floorref_any Z (qa - ra) w (by omega) (by omega) (by omega) (by omega)
            rwa [HF.out] at this
          have HFL := Lib.hid hfl
          have v1 := IntWalk.i64_in (qv - rv) ⟨by omega, by omega⟩
          have v2 := IntWalk.i64_in (x - ra) ⟨by omega, by omega⟩
          have v3 := IntWalk.i64_in (qa - ra) ⟨by omega, by omega⟩
          have v4 := IntWalk.i64_in (rv + F) ⟨by omega, by omega⟩
          clear hfl hF hv hZ hk4 hk5 hk6 hk7 wk
          go_wp2
          clear hpx hpq pa1 pa2 pv1 pv2 qa1 qa2 qv1 qv2 m1 m2 f1 f2 x1 x2 n1 n2 hbs hxb hyb hzb
          refine Fx.regionW (fun W f w' => Below W.heap.size W w') (by kernel_rfl) (by kernel_rfl) ?_ ?_
          · intro f hf0
            exact below_drewN (Below.refl _ _) 1
          repeat (first
            | (refine Fx.skip_ (by rfl) (fun f w h => h) ?_; simp only [Act.put, List.setIfInBounds_toArray, List.set_cons_zero, List.set_cons_succ])
            | (refine Fx.val_ ?_ (by rfl) ?_ (fun f w h => h) ?_
               rotate_left
               · intro f w' hD hk
                 have hb := hD
                 have kb0 := step_blk hb (show Blk _ (w1.heap.size) 60 #[.int .i64 (ra), .int .i64 (rv)] by repeat' (first | exact K0_2.out | exact K1_2.out | exact Blk.at_ _ (by first | rfl | (simp; done) | (simp; omega)) _ _ | refine Blk.drewN ?_ _ | refine Blk.drew ?_ | refine Blk.alloc ?_ _ | refine Blk.far ?_ (by first | omega | (simp; done) | (simp; omega)) _ | assumption))
                 have y0_0 : w'.cell? ⟨w1.heap.size, 0, none⟩ = some (.int .i64 (ra)) := kb0.cell 0
                 have y0_1 : w'.cell? ⟨w1.heap.size, 1, none⟩ = some (.int .i64 (rv)) := kb0.cell 1
                 have kb1 := step_blk hb (show Blk _ (w1.heap.size + 1) 60 #[.int .i64 (qa), .int .i64 (qv)] by repeat' (first | exact K0_2.out | exact K1_2.out | exact Blk.at_ _ (by first | rfl | (simp; done) | (simp; omega)) _ _ | refine Blk.drewN ?_ _ | refine Blk.drew ?_ | refine Blk.alloc ?_ _ | refine Blk.far ?_ (by first | omega | (simp; done) | (simp; omega)) _ | assumption))
                 have y1_0 : w'.cell? ⟨w1.heap.size + 1, 0, none⟩ = some (.int .i64 (qa)) := kb1.cell 0
                 have y1_1 : w'.cell? ⟨w1.heap.size + 1, 1, none⟩ = some (.int .i64 (qv)) := kb1.cell 1
                 clear kb0 kb1
                 clear hk hD hb
                 go_simp
                 try rfl
               simp only [Act.put, List.setIfInBounds_toArray, List.set_cons_zero, List.set_cons_succ]))
          refine Fx.call_ (.int .i64 F) ?_ ?_ (by rfl) ?_ ?_ ?_
          rotate_left 2
          · intro w'
            go_simp
            refine ⟨?_, ?_⟩ <;> rfl
          · intro f w' hD hk
            exact (HFL.out _).mono fun e w'' ⟨he, hw⟩ => ⟨he, hw ▸ hD⟩
          simp only [Act.put, List.setIfInBounds_toArray, List.set_cons_zero, List.set_cons_succ]
          repeat (first
            | (refine Fx.skip_ (by rfl) (fun f w h => h) ?_; simp only [Act.put, List.setIfInBounds_toArray, List.set_cons_zero, List.set_cons_succ])
            | (refine Fx.val_ ?_ (by rfl) ?_ (fun f w h => h) ?_
               rotate_left
               · intro f w' hD hk
                 have hb := hD
                 have kb0 := step_blk hb (show Blk _ (w1.heap.size) 60 #[.int .i64 (ra), .int .i64 (rv)] by repeat' (first | exact K0_2.out | exact K1_2.out | exact Blk.at_ _ (by first | rfl | (simp; done) | (simp; omega)) _ _ | refine Blk.drewN ?_ _ | refine Blk.drew ?_ | refine Blk.alloc ?_ _ | refine Blk.far ?_ (by first | omega | (simp; done) | (simp; omega)) _ | assumption))
                 have y0_0 : w'.cell? ⟨w1.heap.size, 0, none⟩ = some (.int .i64 (ra)) := kb0.cell 0
                 have y0_1 : w'.cell? ⟨w1.heap.size, 1, none⟩ = some (.int .i64 (rv)) := kb0.cell 1
                 have kb1 := step_blk hb (show Blk _ (w1.heap.size + 1) 60 #[.int .i64 (qa), .int .i64 (qv)] by repeat' (first | exact K0_2.out | exact K1_2.out | exact Blk.at_ _ (by first | rfl | (simp; done) | (simp; omega)) _ _ | refine Blk.drewN ?_ _ | refine Blk.drew ?_ | refine Blk.alloc ?_ _ | refine Blk.far ?_ (by first | omega | (simp; done) | (simp; omega)) _ | assumption))
                 have y1_0 : w'.cell? ⟨w1.heap.size + 1, 0, none⟩ = some (.int .i64 (qa)) := kb1.cell 0
                 have y1_1 : w'.cell? ⟨w1.heap.size + 1, 1, none⟩ = some (.int .i64 (qv)) := kb1.cell 1
                 clear kb0 kb1
                 clear hk hD hb
                 go_simp
                 try rfl
               simp only [Act.put, List.setIfInBounds_toArray, List.set_cons_zero, List.set_cons_succ]))
          refine Fx.nil_ ?_
          intro f w3 hall hb
          try clear hall
          have HB23 := Lib.hid hb
          have HB3 := Lib.hid (show Below w.heap.size w w3 from step_below hb (by repeat' (first | exact Below.refl _ _ | exact HB2.out | refine below_drewN ?_ _ | refine Below.drew ?_ | refine Below.alloc ?_ (by first | omega | (simp; done) | (simp; omega) | (simp [World.setCell]; omega)) _ | refine Below.setCell ?_ (by first | omega | (simp; done) | (simp; omega)) _ | assumption)))
          have K0_3 := Lib.hid (step_blk hb (show Blk _ (w1.heap.size) 60 #[.int .i64 (ra), .int .i64 (rv)] by repeat' (first | exact K0_2.out | exact K1_2.out | exact Blk.at_ _ (by first | rfl | (simp; done) | (simp; omega)) _ _ | refine Blk.drewN ?_ _ | refine Blk.drew ?_ | refine Blk.alloc ?_ _ | refine Blk.far ?_ (by first | omega | (simp; done) | (simp; omega)) _ | assumption)))
          have K1_3 := Lib.hid (step_blk hb (show Blk _ (w1.heap.size + 1) 60 #[.int .i64 (qa), .int .i64 (qv)] by repeat' (first | exact K0_2.out | exact K1_2.out | exact Blk.at_ _ (by first | rfl | (simp; done) | (simp; omega)) _ _ | refine Blk.drewN ?_ _ | refine Blk.drew ?_ | refine Blk.alloc ?_ _ | refine Blk.far ?_ (by first | omega | (simp; done) | (simp; omega)) _ | assumption)))
          have hz3 := hb.size
          try simp only [World.size_alloc, World.drewN, World.drew] at hz3
          clear hb K0_2 K1_2 z0_0_2 z0_1_2 l0_2 z1_0_2 z1_1_2 l1_2
          have l0_3 : w1.heap.size < w3.heap.size := K0_3.out.lt
          have z0_0_3 : w3.cell? ⟨w1.heap.size, 0, none⟩ = some (.int .i64 (ra)) := K0_3.out.cell 0
          have z0_1_3 : w3.cell? ⟨w1.heap.size, 1, none⟩ = some (.int .i64 (rv)) := K0_3.out.cell 1
          have l1_3 : w1.heap.size + 1 < w3.heap.size := K1_3.out.lt
          have z1_0_3 : w3.cell? ⟨w1.heap.size + 1, 0, none⟩ = some (.int .i64 (qa)) := K1_3.out.cell 0
          have z1_1_3 : w3.cell? ⟨w1.heap.size + 1, 1, none⟩ = some (.int .i64 (qv)) := K1_3.out.cell 1
          go_wp2
          go_ret
          exact ⟨ret_int HV.out, HB3.out⟩
        · have hv := HST.out
          rw [if_neg hxq] at hv
          have HV := Lib.hid hv.symm
          clear hv
          go_wp2
          go_roundw
          case rel => exact ⟨k + 1, (qa, qv), by omega, by first | rfl | go_num, HB2.out, HQ.out, by show qa ≤ x; omega, HV.out⟩
          case measure => simp [intOf]; omega
      · skip
        generalize hwn : ((w1.alloc (.cells #[.int .i64 (qa), .int .i64 (qv)] 60)).alloc (.cells #[.int .i64 (ra), .int .i64 (rv)] 60)).drew = w2
        have hbn : Below w.heap.size w w2 := by rw [← hwn]; refine Below.drew ?_; refine Below.alloc ?_ (by simp; omega) _; exact Below.alloc HB.out hbs _
        have ka : Blk w2 (w1.heap.size + 1) 60 #[.int .i64 (ra), .int .i64 (rv)] := by rw [← hwn]; repeat' (first | exact Blk.at_ _ (by first | rfl | (simp; done) | (simp; omega)) _ _ | refine Blk.drewN ?_ _ | refine Blk.drew ?_ | refine Blk.alloc ?_ _ | refine Blk.far ?_ (by first | omega | (simp; done) | (simp; omega)) _ | assumption)
        have kb : Blk w2 (w1.heap.size) 60 #[.int .i64 (qa), .int .i64 (qv)] := by rw [← hwn]; repeat' (first | exact Blk.at_ _ (by first | rfl | (simp; done) | (simp; omega)) _ _ | refine Blk.drewN ?_ _ | refine Blk.drew ?_ | refine Blk.alloc ?_ _ | refine Blk.far ?_ (by first | omega | (simp; done) | (simp; omega)) _ | assumption)
        clear hwn
        have HB2 := Lib.hid hbn
        have K0_2 := Lib.hid (show Blk w2 (w1.heap.size + 1) 60 #[.int .i64 (ra), .int .i64 (rv)] from ka)
        have K1_2 := Lib.hid (show Blk w2 (w1.heap.size) 60 #[.int .i64 (qa), .int .i64 (qv)] from kb)
        clear hbn ka kb
        have l0_2 : w1.heap.size + 1 < w2.heap.size := K0_2.out.lt
        have z0_0_2 : w2.cell? ⟨w1.heap.size + 1, 0, none⟩ = some (.int .i64 (ra)) := K0_2.out.cell 0
        have z0_1_2 : w2.cell? ⟨w1.heap.size + 1, 1, none⟩ = some (.int .i64 (rv)) := K0_2.out.cell 1
        have l1_2 : w1.heap.size < w2.heap.size := K1_2.out.lt
        have z1_0_2 : w2.cell? ⟨w1.heap.size, 0, none⟩ = some (.int .i64 (qa)) := K1_2.out.cell 0
        have z1_1_2 : w2.cell? ⟨w1.heap.size, 1, none⟩ = some (.int .i64 (qv)) := K1_2.out.cell 1
        clear d0 d1 e0 e1
        by_cases hxq : x < qa
        · have hv := HST.out
          rw [if_pos hxq] at hv
          have m1 : -8000000000000 ≤ (qv - rv) * (x - ra) ∧ (qv - rv) * (x - ra) ≤ 8000000000000 := by
            have h1 : 0 ≤ x - ra := by omega
            have h3 := Int.mul_le_mul_of_nonneg_right (show qv - rv ≤ 2000000 by omega) h1
            have h4 := Int.mul_le_mul_of_nonneg_right (show -2000000 ≤ qv - rv by omega) h1
            omega
          obtain ⟨m1, m2⟩ := m1
          obtain ⟨Z, hZ⟩ : ∃ Z, (qv - rv) * (x - ra) = Z := ⟨_, rfl⟩
          rw [hZ] at m1 m2 hv
          have wz : IntKind.i64.wrap ((qv - rv) * (x - ra)) = Z := by rw [hZ]; exact IntWalk.i64_in _ ⟨by omega, by omega⟩
          obtain ⟨f1, f2, -, -⟩ := floor_in (a := Z) (b := qa - ra) (by omega) (by omega) (by omega)
          obtain ⟨F, hF⟩ : ∃ F, Z / (qa - ra) = F := ⟨_, rfl⟩
          rw [hF] at f1 f2 hv
          have HV := Lib.hid hv.symm
          have HF := Lib.hid hF
          have hfl : ∀ w, Calls Try.prog 85 #[.int .i64 Z, .int .i64 (qa - ra)] w fun e w' => e = .returned (.int .i64 F) ∧ w = w' := fun w => by
            have := floorref_any Z (qa - ra) w (by omega) (by omega) (by omega) (by omega)
            rwa [HF.out] at this
          have HFL := Lib.hid hfl
          have v1 := IntWalk.i64_in (qv - rv) ⟨by omega, by omega⟩
          have v2 := IntWalk.i64_in (x - ra) ⟨by omega, by omega⟩
          have v3 := IntWalk.i64_in (qa - ra) ⟨by omega, by omega⟩
          have v4 := IntWalk.i64_in (rv + F) ⟨by omega, by omega⟩
          clear hfl hF hv hZ hk4 hk5 hk6 hk7 wk
          go_wp2
          clear hpx hpq pa1 pa2 pv1 pv2 qa1 qa2 qv1 qv2 m1 m2 f1 f2 x1 x2 n1 n2 hbs hxb hyb hzb
          refine Fx.regionW (fun W f w' => Below W.heap.size W w') (by kernel_rfl) (by kernel_rfl) ?_ ?_
          · intro f hf0
            exact below_drewN (Below.refl _ _) 1
          repeat (first
            | (refine Fx.skip_ (by rfl) (fun f w h => h) ?_; simp only [Act.put, List.setIfInBounds_toArray, List.set_cons_zero, List.set_cons_succ])
            | (refine Fx.val_ ?_ (by rfl) ?_ (fun f w h => h) ?_
               rotate_left
               · intro f w' hD hk
                 have hb := hD
                 have kb0 := step_blk hb (show Blk _ (w1.heap.size + 1) 60 #[.int .i64 (ra), .int .i64 (rv)] by repeat' (first | exact K0_2.out | exact K1_2.out | exact Blk.at_ _ (by first | rfl | (simp; done) | (simp; omega)) _ _ | refine Blk.drewN ?_ _ | refine Blk.drew ?_ | refine Blk.alloc ?_ _ | refine Blk.far ?_ (by first | omega | (simp; done) | (simp; omega)) _ | assumption))
                 have y0_0 : w'.cell? ⟨w1.heap.size + 1, 0, none⟩ = some (.int .i64 (ra)) := kb0.cell 0
                 have y0_1 : w'.cell? ⟨w1.heap.size + 1, 1, none⟩ = some (.int .i64 (rv)) := kb0.cell 1
                 have kb1 := step_blk hb (show Blk _ (w1.heap.size) 60 #[.int .i64 (qa), .int .i64 (qv)] by repeat' (first | exact K0_2.out | exact K1_2.out | exact Blk.at_ _ (by first | rfl | (simp; done) | (simp; omega)) _ _ | refine Blk.drewN ?_ _ | refine Blk.drew ?_ | refine Blk.alloc ?_ _ | refine Blk.far ?_ (by first | omega | (simp; done) | (simp; omega)) _ | assumption))
                 have y1_0 : w'.cell? ⟨w1.heap.size, 0, none⟩ = some (.int .i64 (qa)) := kb1.cell 0
                 have y1_1 : w'.cell? ⟨w1.heap.size, 1, none⟩ = some (.int .i64 (qv)) := kb1.cell 1
                 clear kb0 kb1
                 clear hk hD hb
                 go_simp
                 try rfl
               simp only [Act.put, List.setIfInBounds_toArray, List.set_cons_zero, List.set_cons_succ]))
          refine Fx.call_ (.int .i64 F) ?_ ?_ (by rfl) ?_ ?_ ?_
          rotate_left 2
          · intro w'
            go_simp
            refine ⟨?_, ?_⟩ <;> rfl
          · intro f w' hD hk
            exact (HFL.out _).mono fun e w'' ⟨he, hw⟩ => ⟨he, hw ▸ hD⟩
          simp only [Act.put, List.setIfInBounds_toArray, List.set_cons_zero, List.set_cons_succ]
          repeat (first
            | (refine Fx.skip_ (by rfl) (fun f w h => h) ?_; simp only [Act.put, List.setIfInBounds_toArray, List.set_cons_zero, List.set_cons_succ])
            | (refine Fx.val_ ?_ (by rfl) ?_ (fun f w h => h) ?_
               rotate_left
               · intro f w' hD hk
                 have hb := hD
                 have kb0 := step_blk hb (show Blk _ (w1.heap.size + 1) 60 #[.int .i64 (ra), .int .i64 (rv)] by repeat' (first | exact K0_2.out | exact K1_2.out | exact Blk.at_ _ (by first | rfl | (simp; done) | (simp; omega)) _ _ | refine Blk.drewN ?_ _ | refine Blk.drew ?_ | refine Blk.alloc ?_ _ | refine Blk.far ?_ (by first | omega | (simp; done) | (simp; omega)) _ | assumption))
                 have y0_0 : w'.cell? ⟨w1.heap.size + 1, 0, none⟩ = some (.int .i64 (ra)) := kb0.cell 0
                 have y0_1 : w'.cell? ⟨w1.heap.size + 1, 1, none⟩ = some (.int .i64 (rv)) := kb0.cell 1
                 have kb1 := step_blk hb (show Blk _ (w1.heap.size) 60 #[.int .i64 (qa), .int .i64 (qv)] by repeat' (first | exact K0_2.out | exact K1_2.out | exact Blk.at_ _ (by first | rfl | (simp; done) | (simp; omega)) _ _ | refine Blk.drewN ?_ _ | refine Blk.drew ?_ | refine Blk.alloc ?_ _ | refine Blk.far ?_ (by first | omega | (simp; done) | (simp; omega)) _ | assumption))
                 have y1_0 : w'.cell? ⟨w1.heap.size, 0, none⟩ = some (.int .i64 (qa)) := kb1.cell 0
                 have y1_1 : w'.cell? ⟨w1.heap.size, 1, none⟩ = some (.int .i64 (qv)) := kb1.cell 1
                 clear kb0 kb1
                 clear hk hD hb
                 go_simp
                 try rfl
               simp only [Act.put, List.setIfInBounds_toArray, List.set_cons_zero, List.set_cons_succ]))
          refine Fx.nil_ ?_
          intro f w3 hall hb
          try clear hall
          have HB23 := Lib.hid hb
          have HB3 := Lib.hid (show Below w.heap.size w w3 from step_below hb (by repeat' (first | exact Below.refl _ _ | exact HB2.out | refine below_drewN ?_ _ | refine Below.drew ?_ | refine Below.alloc ?_ (by first | omega | (simp; done) | (simp; omega) | (simp [World.setCell]; omega)) _ | refine Below.setCell ?_ (by first | omega | (simp; done) | (simp; omega)) _ | assumption)))
          have K0_3 := Lib.hid (step_blk hb (show Blk _ (w1.heap.size + 1) 60 #[.int .i64 (ra), .int .i64 (rv)] by repeat' (first | exact K0_2.out | exact K1_2.out | exact Blk.at_ _ (by first | rfl | (simp; done) | (simp; omega)) _ _ | refine Blk.drewN ?_ _ | refine Blk.drew ?_ | refine Blk.alloc ?_ _ | refine Blk.far ?_ (by first | omega | (simp; done) | (simp; omega)) _ | assumption)))
          have K1_3 := Lib.hid (step_blk hb (show Blk _ (w1.heap.size) 60 #[.int .i64 (qa), .int .i64 (qv)] by repeat' (first | exact K0_2.out | exact K1_2.out | exact Blk.at_ _ (by first | rfl | (simp; done) | (simp; omega)) _ _ | refine Blk.drewN ?_ _ | refine Blk.drew ?_ | refine Blk.alloc ?_ _ | refine Blk.far ?_ (by first | omega | (simp; done) | (simp; omega)) _ | assumption)))
          have hz3 := hb.size
          try simp only [World.size_alloc, World.drewN, World.drew] at hz3
          clear hb K0_2 K1_2 z0_0_2 z0_1_2 l0_2 z1_0_2 z1_1_2 l1_2
          have l0_3 : w1.heap.size + 1 < w3.heap.size := K0_3.out.lt
          have z0_0_3 : w3.cell? ⟨w1.heap.size + 1, 0, none⟩ = some (.int .i64 (ra)) := K0_3.out.cell 0
          have z0_1_3 : w3.cell? ⟨w1.heap.size + 1, 1, none⟩ = some (.int .i64 (rv)) := K0_3.out.cell 1
          have l1_3 : w1.heap.size < w3.heap.size := K1_3.out.lt
          have z1_0_3 : w3.cell? ⟨w1.heap.size, 0, none⟩ = some (.int .i64 (qa)) := K1_3.out.cell 0
          have z1_1_3 : w3.cell? ⟨w1.heap.size, 1, none⟩ = some (.int .i64 (qv)) := K1_3.out.cell 1
          go_wp2
          go_ret
          exact ⟨ret_int HV.out, HB3.out⟩
        · have hv := HST.out
          rw [if_neg hxq] at hv
          have HV := Lib.hid hv.symm
          clear hv
          go_wp2
          go_roundw
          case rel => exact ⟨k + 1, (qa, qv), by omega, by first | rfl | go_num, HB2.out, HQ.out, by show qa ≤ x; omega, HV.out⟩
          case measure => simp [intOf]; omega
    · have hkn : k + 1 = n := by omega
      have hv : T = rv := by
        rw [← HGO.out, List.drop_of_length_le (by rw [HXL.out]; omega)]
        rfl
      have HV := Lib.hid hv
      have hkn2 : (n : Int) - 1 = (k : Int) := by omega
      have hkn3 : (k : Int) + 1 = (n : Int) := by omega
      clear hv hkn
      go_wp2
      go_ret
      exact ⟨ret_int HV.out.symm, HB.out⟩

end Go.Proofs.Ytclnffpfbngjoaa

end
