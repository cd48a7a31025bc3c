import Derived.Test.YtgamepmipoociaaQ31

section
/- The walk of the statement on stars that a model predicts exactly: its loops. -/
namespace Go.Proofs.Ytgamepmipoociaa
open Go Go.RowKit

set_option maxRecDepth 100000 in
set_option maxHeartbeats 8000000 in
theorem lawPX_yes (A : Option Addr) (n c : Nat) (l : List Star) (B : Option Addr) (m d : Nat) (ts : List Int) (w : World) (hnc : n ≤ c ∧ c ≤ 9223372036854775807) (hx : StarsAt l A n w) (hmd : m ≤ d ∧ d ≤ 9223372036854775807) (hy : Reads w w.heap.size 1 B m (ts.map (.int .i64)))
    (hr : fewStars l = true) (h8 : n ≤ 8) (hE : starsF l = ((m : Int), 0)) :
    Calls Try.prog 13 #[.slice A n c, .slice B m d] w fun e w' => e = .returned (.bool true) ∧ Below w.heap.size w w' := by
  obtain ⟨hnc, hcm⟩ := hnc
  obtain ⟨hmd, hdm⟩ := hmd
  obtain ⟨hn1, -, hmT, hSR⟩ := stars_right hE rfl
  have hmN : termsN l = m := by omega
  rw [hmN] at hSR
  have hll := hx.len
  rw [hll] at hn1
  have hlm := hy.ilen
  have hm3 : 1 ≤ m ∧ m ≤ 3 := by
    have := star_right (hSR _ (List.getElem_mem (show 0 < l.length by omega)))
    omega
  have d8 : ¬ (8 : Int) < (n : Int) := by omega
  have d3 : ¬ (3 : Int) < (m : Int) := by omega
  have q1 : ((0 : Int) != 0) = false := by decide
  have q2 : ((m : Int) != (m : Int)) = false := by simp
  have HXW := Lib.hid hx
  have HYW := Lib.hid hy
  have HR := Lib.hid hr
  have HF := Lib.hid (fewStars_right hr)
  have HE := Lib.hid hE
  have HSR := Lib.hid hSR
  have HMN := Lib.hid hmN
  have HLL := Lib.hid hll
  have HLM := Lib.hid hlm
  clear hr hE hSR hmT hmN hll hlm
  go_enter Try.func13, Try.ntmps13
  have R0_0 := Lib.hid hx
  clear hx
  have R1_0 := Lib.hid hy
  clear hy
  go_wp2_with fail
  refine (awakept_any _).mono ?_
  rintro e w1 ⟨rfl, hb⟩
  have HB1 := Lib.hid (show Below w.heap.size w w1 from step_below hb (by repeat' (first | exact Below.refl _ _ | exact HB0.out | refine below_drewN ?_ _ | refine Below.drew ?_ | refine Below.alloc ?_ (by first | omega | (simp; done) | (simp; omega) | (simp [World.setCell]; omega)) _ | refine Below.setCell ?_ (by first | omega | (simp; done) | (simp; omega)) _ | assumption)))
  have hL1 := Lib.hid (show Below w.heap.size w _ from reads_mid hb (by repeat' (first | exact Below.refl _ _ | refine below_drewN ?_ _ | refine Below.drew ?_ | refine Below.alloc ?_ (by first | omega | (simp; done) | (simp; omega) | (simp [World.setCell]; omega)) _ | refine Below.setCell ?_ (by first | omega | (simp; done) | (simp; omega)) _)))
  have R0_1 := Lib.hid (stars_lay hb hL1.out R0_0.out)
  have R1_1 := Lib.hid (reads_lay hb hL1.out R1_0.out)
  clear hL1 R0_0 R1_0
  have hz1 := hb.size
  try simp only [World.size_alloc, World.drewN, World.drew] at hz1
  clear hb
  go_wp2_with fail
  refine (fewstars_is l A n c true HR.out _ R0_1.out (by omega)).mono ?_
  rintro e w' ⟨rfl, rfl⟩
  go_wp2_with fail
  refine (cstars_any l A n c _ R0_1.out (by omega) (fun s hs => Nat.le_trans (HF.out.1 s hs) (by decide))).mono ?_
  rintro e w2 ⟨A2, c2, S, rfl, hb, hS, hso⟩
  have HB2 := Lib.hid (show Below w.heap.size w w2 from step_below hb (by repeat' (first | exact Below.refl _ _ | exact HB1.out | refine below_drewN ?_ _ | refine Below.drew ?_ | refine Below.alloc ?_ (by first | omega | (simp; done) | (simp; omega) | (simp [World.setCell]; omega)) _ | refine Below.setCell ?_ (by first | omega | (simp; done) | (simp; omega)) _ | assumption)))
  have hL2 := Lib.hid (show Below w1.heap.size w1 _ from reads_mid hb (by repeat' (first | exact Below.refl _ _ | refine below_drewN ?_ _ | refine Below.drew ?_ | refine Below.alloc ?_ (by first | omega | (simp; done) | (simp; omega) | (simp [World.setCell]; omega)) _ | refine Below.setCell ?_ (by first | omega | (simp; done) | (simp; omega)) _)))
  have R0_2 := Lib.hid (stars_lay hb hL2.out R0_1.out)
  have R1_2 := Lib.hid (reads_lay hb hL2.out R1_1.out)
  clear hL2 R0_1 R1_1
  have hz2 := hb.size
  try simp only [World.size_alloc, World.drewN, World.drew] at hz2
  clear hb
  have hsa := hso.at_
  have R2_2 := Lib.hid hsa
  clear hsa
  have HSE := Lib.hid (stars_alike hS HE.out)
  clear hS hso
  go_wp2_with fail
  refine (pstars_is S A2 n c2 (m : Int) 0 HSE.out _ R2_2.out (by omega)).mono ?_
  rintro e w3 ⟨rfl, hb⟩
  have HB3 := Lib.hid (show Below w.heap.size w w3 from step_below hb (by repeat' (first | exact Below.refl _ _ | exact HB2.out | refine below_drewN ?_ _ | refine Below.drew ?_ | refine Below.alloc ?_ (by first | omega | (simp; done) | (simp; omega) | (simp [World.setCell]; omega)) _ | refine Below.setCell ?_ (by first | omega | (simp; done) | (simp; omega)) _ | assumption)))
  have hL3 := Lib.hid (show Below w2.heap.size w2 _ from reads_mid hb (by repeat' (first | exact Below.refl _ _ | refine below_drewN ?_ _ | refine Below.drew ?_ | refine Below.alloc ?_ (by first | omega | (simp; done) | (simp; omega) | (simp [World.setCell]; omega)) _ | refine Below.setCell ?_ (by first | omega | (simp; done) | (simp; omega)) _)))
  have R0_3 := Lib.hid (stars_lay hb hL3.out R0_2.out)
  have R1_3 := Lib.hid (reads_lay hb hL3.out R1_2.out)
  have R2_3 := Lib.hid (stars_lay hb hL3.out R2_2.out)
  clear hL3 R0_2 R1_2 R2_2
  have hz3 := hb.size
  try simp only [World.size_alloc, World.drewN, World.drew] at hz3
  clear hb
  clear HSE
  go_wp2_with fail
  refine (cstars_any l A n c _ R0_3.out (by omega) (fun s hs => Nat.le_trans (HF.out.1 s hs) (by decide))).mono ?_
  rintro e w4 ⟨A4, c4, X, rfl, hb, hX, hxo⟩
  have HB4 := Lib.hid (show Below w.heap.size w w4 from step_below hb (by repeat' (first | exact Below.refl _ _ | exact HB3.out | refine below_drewN ?_ _ | refine Below.drew ?_ | refine Below.alloc ?_ (by first | omega | (simp; done) | (simp; omega) | (simp [World.setCell]; omega)) _ | refine Below.setCell ?_ (by first | omega | (simp; done) | (simp; omega)) _ | assumption)))
  have hL4 := Lib.hid (show Below w3.heap.size w3 _ from reads_mid hb (by repeat' (first | exact Below.refl _ _ | refine below_drewN ?_ _ | refine Below.drew ?_ | refine Below.alloc ?_ (by first | omega | (simp; done) | (simp; omega) | (simp [World.setCell]; omega)) _ | refine Below.setCell ?_ (by first | omega | (simp; done) | (simp; omega)) _)))
  have R0_4 := Lib.hid (stars_lay hb hL4.out R0_3.out)
  have R1_4 := Lib.hid (reads_lay hb hL4.out R1_3.out)
  have R2_4 := Lib.hid (stars_lay hb hL4.out R2_3.out)
  clear hL4 R0_3 R1_3 R2_3
  have hz4 := hb.size
  try simp only [World.size_alloc, World.drewN, World.drew] at hz4
  clear hb
  have HX4 := Lib.hid hX
  have HXO4 := Lib.hid hxo
  clear hX hxo
  go_wp2_with fail
  refine (cstars2_any l A n c _ R0_4.out (by omega) (fun s hs => Nat.le_trans (HF.out.1 s hs) (by decide))).mono ?_
  rintro e w5 ⟨A5, c5, Y, rfl, hb, hb5, hY, hyo⟩
  have HB5 := Lib.hid (show Below w.heap.size w w5 from step_below hb (by repeat' (first | exact Below.refl _ _ | exact HB4.out | refine below_drewN ?_ _ | refine Below.drew ?_ | refine Below.alloc ?_ (by first | omega | (simp; done) | (simp; omega) | (simp [World.setCell]; omega)) _ | refine Below.setCell ?_ (by first | omega | (simp; done) | (simp; omega)) _ | assumption)))
  have hL5 := Lib.hid (show Below w4.heap.size w4 _ from reads_mid hb (by repeat' (first | exact Below.refl _ _ | refine below_drewN ?_ _ | refine Below.drew ?_ | refine Below.alloc ?_ (by first | omega | (simp; done) | (simp; omega) | (simp [World.setCell]; omega)) _ | refine Below.setCell ?_ (by first | omega | (simp; done) | (simp; omega)) _)))
  have R0_5 := Lib.hid (stars_lay hb hL5.out R0_4.out)
  have R1_5 := Lib.hid (reads_lay hb hL5.out R1_4.out)
  have R2_5 := Lib.hid (stars_lay hb hL5.out R2_4.out)
  clear hL5 R0_4 R1_4 R2_4
  have hz5 := hb.size
  try simp only [World.size_alloc, World.drewN, World.drew] at hz5
  clear hb
  have HXO5 := Lib.hid (HXO4.out.below hb5)
  obtain ⟨gx, cx, hvx, hgx, hgx4, -⟩ := own_store HXO4.out.row (by omega) 0 (.int .i64 0)
  obtain ⟨gy, cy, hvy, hgy, hgy5, -⟩ := own_store hyo.row (by omega) 0 (.int .i64 0)
  cases hvx
  cases hvy
  have HY5 := Lib.hid (xs_of hY)
  have HX5 := Lib.hid (xs_of HX4.out)
  have HYO5 := Lib.hid hyo
  have hgne : gx ≠ gy := by omega
  clear hY hyo HX4 HXO4 hb5
  go_wp2
  go_loopw [9] (fun i wr => ∃ (k : Nat) (X' Y' : List Star), k ≤ n ∧ i = .int .i64 k ∧ PxI l ts n gx c4 gy c5 w3.heap.size w4.heap.size k X' Y' w wr) (fun i _ => n - (intOf i).toNat)
  case atStart => exact ⟨0, X, Y, by omega, rfl, HB5.out, HXO5.out, HYO5.out, HX5.out, HY5.out, fun _ _ h => absurd h (by omega), fun _ _ _ h => absurd h (by omega), fun h => absurd h (by omega)⟩
  case round =>
    obtain ⟨k, X', Y', hk, rfl, hi⟩ := hrel
    have HI := Lib.hid hi
    clear hi
    by_cases hlt : k < n
    · obtain ⟨s, hs⟩ : ∃ s, X'[k]? = some s := ⟨_, List.getElem?_eq_getElem (by have := HI.out.xo.at_.len; omega)⟩
      obtain ⟨gx', cx', hvx, -, hgxl, hfx, hst⟩ := HI.out.xo.store hs (by omega) 0
      cases hvx
      obtain ⟨xb, xo, s', hA, -, hs', x0, x1, -, hsl, hsr⟩ := HI.out.xo.at_.at_ hlt
      cases hA
      obtain rfl : s = s' := by rw [hs] at hs'; exact Option.some.inj hs'
      simp only [Nat.zero_add] at x0 x1
      have hkk : (k : Int) < (n : Int) := by omega
      have HST := Lib.hid hst
      have HSS := Lib.hid hs
      have HSR' := Lib.hid hsr
      have HSL := Lib.hid hsl
      clear hst hs hs' hsr hsl
      go_wp2
      generalize hw6 : World.setCell _ _ _ = w6
      rw [hw6] at HST
      have hbel6 : Below w.heap.size w w6 := by rw [← hw6]; exact HI.out.bel.setCell (by show _ ≤ gx; omega) _
      have hyo6 : StarsOwn w4.heap.size Y' (.slice (some ⟨gy, 0, none⟩) n c5) n w6 := by rw [← hw6]; exact HI.out.yo.far2 HI.out.xo (fun e => hgne e.symm) _
      have HBL6 := Lib.hid hbel6
      have HYO6 := Lib.hid hyo6
      clear hbel6 hyo6 hw6 x0 x1 hfx
      go_loopw [10] (fun i wr => ∃ j : Nat, j ≤ m ∧ i = .int .i64 j ∧ Below w.heap.size w wr ∧ StarsOwn w3.heap.size (X'.set k { s with er := dotP ts s.xs j }) (.slice (some ⟨gx, 0, none⟩) n c4) n wr ∧ StarsOwn w4.heap.size Y' (.slice (some ⟨gy, 0, none⟩) n c5) n wr ∧ ∀ q z, q < j → ts[q]? = some z → -3 ≤ z ∧ z ≤ 3) (fun i _ => m - (intOf i).toNat)
      case atStart => exact ⟨0, by omega, rfl, HBL6.out, HST.out, HYO6.out, fun _ _ h => absurd h (by omega)⟩
      case round =>
        obtain ⟨j, hjm, rfl, hb7, hx7, hy7, htin⟩ := hrel
        obtain ⟨w7, hnm⟩ : ∃ z : World, z = wr := ⟨_, rfl⟩
        subst hnm
        have HB7 := Lib.hid hb7
        have HX7 := Lib.hid hx7
        have HY7 := Lib.hid hy7
        have HTI := Lib.hid htin
        have hx7' := hx7.at_
        clear hb7 hx7 hy7 htin
        have hsk : (X'.set k { s with er := dotP ts s.xs j })[k]? = some { s with er := dotP ts s.xs j } := by
          rw [List.getElem?_set_self (List.getElem?_eq_some_iff.1 HSS.out).1]
        obtain ⟨xb, xo, s', hA, -, hs', x0, x1, -, -, hsr7⟩ := hx7'.at_ hlt
        cases hA
        obtain rfl : { s with er := dotP ts s.xs j } = s' := by rw [hsk] at hs'; exact Option.some.inj hs'
        simp only [Nat.zero_add] at x0 x1
        obtain ⟨t, ht, hst⟩ : ∃ t, l[k]? = some t ∧ s.xs = t.xs := by
          have h1 := congrArg (fun z => z[k]?) HI.out.xs
          simp only [List.getElem?_map, HSS.out, Option.map_some] at h1
          cases hl : l[k]? with
          | none => rw [hl] at h1; cases h1
          | some t => rw [hl] at h1; exact ⟨t, rfl, Option.some.inj h1⟩
        have hright := star_right (HSR.out t (List.mem_of_getElem? ht))
        have hxm : s.xs.length = m := by rw [hst]; exact hright.1
        have hsm : s.n = m := by rw [← HSL.out]; exact hxm
        have hxr : ∀ z ∈ s.xs, -100 ≤ z ∧ z ≤ 100 := by rw [hst]; exact hright.2.2.2.1
        have her := hright.2.2.2.2
        rw [hsm] at x0
        have HXM := Lib.hid hxm
        have HXR := Lib.hid hxr
        have HT := Lib.hid ht
        clear hx7' hs' hst hright hxm hxr ht
        by_cases hlt2 : j < m
        · obtain ⟨tb, to, z, rfl, htb, hz, z0⟩ := HYW.out.int_ hlt2
          have z1 := (HB7.out.cell (p := ⟨tb, to + j, none⟩) htb).trans z0
          have hjj : (j : Int) < (m : Int) := by omega
          have HZ := Lib.hid hz
          cases hwi : withinB z (-3) 3
          · have HWI := Lib.hid hwi
            clear hwi hz hsr7 hsk hsm z0
            go_wp2_with (go_at_call 47; refine (withinref_is _ _ _ _ HWI.out _).mono ?_; rintro e w' ⟨rfl, rfl⟩)
            go_ret
            exact ⟨rfl, HB7.out⟩
          · have HWI := Lib.hid hwi
            obtain ⟨pb, po, hsA, hpb, hpc⟩ := hsr7.2 (by show 0 < s.n; omega)
            simp only at hsA
            obtain ⟨a, ha⟩ : ∃ a, s.xs[j]? = some a := ⟨_, List.getElem?_eq_getElem (by have := HXM.out; omega)⟩
            have hca := hpc j (.int .i64 a) (by simp only [List.getElem?_map, ha, Option.map_some])
            have HA := Lib.hid ha
            have ha1 := HXR.out a (List.mem_of_getElem? ha)
            have hz3 := withinB_in hwi
            have p1 := mulb hz3 ha1 (by decide) (by decide)
            have p2 := dotP_in2 HTI.out HXR.out
            have v1 := IntWalk.i64_in (z * a) ⟨by omega, by omega⟩
            have v2 := IntWalk.i64_in (dotP ts s.xs j + z * a) ⟨by omega, by omega⟩
            rw [hsA] at x0
            obtain ⟨_, _, hvx, -, -, hfx, hst8⟩ := (HX7.out.below (below_drewN (Below.refl _ _) 1)).store hsk (by omega) (dotP ts s.xs (j + 1))
            cases hvx
            rw [List.set_set] at hst8
            have HST8 := Lib.hid hst8
            have HZ3 := Lib.hid hz3
            clear hwi hz hsr7 hsk hsm hpc hsA ha ha1 hz3 p1 p2 z0 hst8
            go_wp2_with (go_at_call 47; refine (withinref_is _ _ _ _ HWI.out _).mono ?_; rintro e w' ⟨rfl, rfl⟩)
            go_wp2
            obtain ⟨W0, hW0⟩ : ∃ W0, W0 = w7.drewN 1 := ⟨_, rfl⟩
            have m0 : W0.cell? ⟨gx, k * 2, none⟩ = some (.slice (some ⟨pb, po, none⟩) m s.c) := by rw [hW0]; exact x0
            have m1 : W0.cell? ⟨tb, to + j, none⟩ = some (.int .i64 z) := by rw [hW0]; exact z1
            have m2 : W0.cell? ⟨pb, po + j, none⟩ = some (.int .i64 a) := by rw [hW0]; exact hca
            have mo : W0.cell? ⟨gx, k * 2 + 1, none⟩ = some (.int .i64 (dotP ts s.xs j)) := by rw [hW0]; exact x1
            have mf : W0.frozen? ⟨gx, k * 2 + 1, none⟩ = false := by rw [hW0]; exact hfx
            refine Fx.region (fun f w' => (f 23 = false → w' = W0) ∧ (f 23 = true → w' = W0.setCell ⟨gx, k * 2 + 1, none⟩ (.int .i64 (dotP ts s.xs j + z * a)))) (by kernel_rfl) (by kernel_rfl) ?_ ?_
            · intro f hf0
              exact ⟨fun _ => hW0.symm, fun h => by rw [hf0 23] at h; cases h⟩
            have HW0 := Lib.hid hW0
            clear hW0
            iterate 21 (first
              | (refine Fx.skip_ (by rfl) (fun f w h => h) ?_; simp only [Act.put, List.setIfInBounds_toArray, List.set_cons_zero, List.set_cons_succ])
              | (refine Fx.val_ ?_ (by rfl) ?_ (fun f w h => h) ?_
                 rotate_left
                 · intro f w' hD hk
                   obtain ⟨jw, jr⟩ := id hD
                   have jw := jw (hk.2.1 23 (by kernel_rfl))
                   have q0 : w'.cell? ⟨gx, k * 2, none⟩ = some (.slice (some ⟨pb, po, none⟩) m s.c) := by rw [jw]; exact m0
                   have q1 : w'.cell? ⟨tb, to + j, none⟩ = some (.int .i64 z) := by rw [jw]; exact m1
                   have q2 : w'.cell? ⟨pb, po + j, none⟩ = some (.int .i64 a) := by rw [jw]; exact m2
                   have qo : w'.cell? ⟨gx, k * 2 + 1, none⟩ = some (.int .i64 (dotP ts s.xs j)) := by rw [jw]; exact mo
                   clear hk hD jw jr
                   go_simp
                   try rfl
                 simp only [Act.put, List.setIfInBounds_toArray, List.set_cons_zero, List.set_cons_succ]))
            refine Fx.val_ ?_ (by rfl) ?_ (fun f w h => h) ?_
            rotate_left
            · intro f w' hD hk
              obtain ⟨jw, jr⟩ := id hD
              clear hk hD jw jr
              go_simp
              try rfl
            simp only [Act.put, List.setIfInBounds_toArray, List.set_cons_zero, List.set_cons_succ]
            repeat (first
              | (refine Fx.skip_ (by rfl) (fun f w h => h) ?_; simp only [Act.put, List.setIfInBounds_toArray, List.set_cons_zero, List.set_cons_succ])
              | (refine Fx.val_ ?_ (by rfl) ?_ (fun f w h => h) ?_
                 rotate_left
                 · intro f w' hD hk
                   obtain ⟨jw, jr⟩ := id hD
                   have jw := jw (hk.2.1 23 (by kernel_rfl))
                   have q0 : w'.cell? ⟨gx, k * 2, none⟩ = some (.slice (some ⟨pb, po, none⟩) m s.c) := by rw [jw]; exact m0
                   have q1 : w'.cell? ⟨tb, to + j, none⟩ = some (.int .i64 z) := by rw [jw]; exact m1
                   have q2 : w'.cell? ⟨pb, po + j, none⟩ = some (.int .i64 a) := by rw [jw]; exact m2
                   have qo : w'.cell? ⟨gx, k * 2 + 1, none⟩ = some (.int .i64 (dotP ts s.xs j)) := by rw [jw]; exact mo
                   clear hk hD jw jr
                   go_simp
                   try rfl
                 simp only [Act.put, List.setIfInBounds_toArray, List.set_cons_zero, List.set_cons_succ]))
            refine Fx.store_ (fun w' => w'.setCell ⟨gx, k * 2 + 1, none⟩ (.int .i64 (dotP ts s.xs j + z * a))) (by rfl) ?_ ?_ ?_
            · intro f w' hD hk
              obtain ⟨jw, jr⟩ := id hD
              have jw := jw hk.1
              have q0 : w'.cell? ⟨gx, k * 2 + 1, none⟩ = some (.int .i64 (dotP ts s.xs j)) := by rw [jw]; exact mo
              have q1 : w'.frozen? ⟨gx, k * 2 + 1, none⟩ = false := by rw [jw]; exact mf
              clear hk hD jw jr
              go_simp
            · intro f w' hD hk
              obtain ⟨jw, jr⟩ := id hD
              have jw := jw hk.1
              exact ⟨fun h => by simp [Fx.add] at h, fun _ => by rw [jw]⟩
            simp only [Act.put, List.setIfInBounds_toArray, List.set_cons_zero, List.set_cons_succ]
            refine Fx.nil_ ?_
            intro f w8 hall hD
            have hwn := hD.2 (hall 23 (by simp))
            rw [HW0.out] at hwn
            clear hall hD HW0 mo mf m0 m1 m2
            have hb8 : Below w.heap.size w w8 := by rw [hwn]; exact (below_drewN HB7.out 1).setCell (by show _ ≤ gx; omega) _
            have hx8 : StarsOwn w3.heap.size (X'.set k { s with er := dotP ts s.xs (j + 1) }) (.slice (some ⟨gx, 0, none⟩) n c4) n w8 := by rw [hwn, ← dotP_succ HZ.out HA.out]; exact HST8.out
            have hy8 : StarsOwn w4.heap.size Y' (.slice (some ⟨gy, 0, none⟩) n c5) n w8 := by rw [hwn]; exact (HY7.out.below (below_drewN (Below.refl _ _) 1)).far2 (HX7.out.below (below_drewN (Below.refl _ _) 1)) (fun e => hgne e.symm) _
            have HB8 := Lib.hid hb8
            have HX8 := Lib.hid hx8
            have HY8 := Lib.hid hy8
            clear hb8 hx8 hy8 hwn v1 v2 x0 x1 z1 hca hfx
            go_wp2
            go_roundw
            case rel =>
              refine ⟨j + 1, by omega, by go_num, HB8.out, HX8.out, HY8.out, fun q z' hq hz' => ?_⟩
              by_cases e : q < j
              · exact HTI.out q z' e hz'
              · obtain rfl : j = q := by omega
                obtain rfl := Option.some.inj (HZ.out.symm.trans hz')
                exact HZ3.out
            case measure => simp [intOf]; omega
        · obtain rfl : m = j := by omega
          obtain ⟨lb, lo, t', rfl, hlb, ht', -, d1, -, -, -⟩ := HXW.out.at_ hlt
          obtain rfl := Option.some.inj (HT.out.symm.trans ht')
          have d1 := (HB7.out.cell (p := ⟨lb, lo + k * 2 + 1, none⟩) hlb).trans d1
          obtain ⟨sy, hsy⟩ : ∃ sy, Y'[k]? = some sy := ⟨_, List.getElem?_eq_getElem (by have := HY7.out.at_.len; omega)⟩
          obtain ⟨_, _, hvy, -, -, hfy, hsty⟩ := HY7.out.store hsy (by omega) (t.er % 500)
          cases hvy
          obtain ⟨_, _, sy', hA, -, hsy', -, y1, -, -, -⟩ := HY7.out.at_.at_ hlt
          cases hA
          simp only [Nat.zero_add] at y1
          have hx9 := HX7.out.far2 (q := k * 2 + 1) HY7.out hgne (.int .i64 (t.er % 500))
          have HSY := Lib.hid hsy
          have HX9 := Lib.hid hx9
          have HY9 := Lib.hid hsty
          clear hsy hsy' hx9 hsty ht' hsr7 hsk hsm x0 x1
          go_wp2_with (go_at_call 48; refine (mod9_any _ _ _ (by omega) (by omega) (by omega) (by omega)).mono ?_; rintro e w' ⟨rfl, rfl⟩)
          generalize hw9 : World.setCell _ _ _ = w9
          rw [hw9] at HX9 HY9
          have hb9 : Below w.heap.size w w9 := by rw [← hw9]; exact HB7.out.setCell (by show _ ≤ gy; omega) _
          have HB9 := Lib.hid hb9
          clear hb9 hw9
          go_wp2
          go_roundw
          case rel =>
            refine ⟨k + 1, X'.set k { s with er := dotP ts s.xs m }, Y'.set k { sy with er := t.er % 500 }, by omega, by go_num, HB9.out, HX9.out, HY9.out, (xs_set HSS.out _).trans HI.out.xs, (xs_set HSY.out _).trans HI.out.ys, fun q s' hq hs' => ?_, fun q s' t' hq hs' ht' => ?_, fun _ z hz => ?_⟩
            · by_cases e : q = k
              · subst e
                rw [List.getElem?_set_self (List.getElem?_eq_some_iff.1 HSS.out).1] at hs'
                cases hs'
                have h3 := dotP_all (ts := ts) (s := s) (by rw [HXM.out, HLM.out]) (by rw [HLM.out]; omega)
                rw [HLM.out] at h3
                exact h3
              · rw [List.getElem?_set_ne (fun h => e h.symm)] at hs'
                exact HI.out.xe q s' (by omega) hs'
            · by_cases e : q = k
              · subst e
                rw [List.getElem?_set_self (List.getElem?_eq_some_iff.1 HSY.out).1] at hs'
                cases hs'
                obtain rfl := Option.some.inj (HT.out.symm.trans ht')
                rfl
              · rw [List.getElem?_set_ne (fun h => e h.symm)] at hs'
                exact HI.out.ye q s' t' (by omega) hs' ht'
            · obtain ⟨q, hq⟩ := List.getElem?_of_mem hz
              have h3 := (List.getElem?_eq_some_iff.1 hq).1
              have h4 := HLM.out
              exact HTI.out q z (by omega) hq
          case measure => simp [intOf]; omega
    · obtain rfl : n = k := by omega
      obtain ⟨w6, hnm⟩ : ∃ z : World, z = wr := ⟨_, rfl⟩
      subst hnm
      have hbl6 := HI.out.bel
      obtain ⟨_, _, hvy6, -, hgy6, -⟩ := own_store HI.out.yo.row (by omega) 0 (.int .i64 0)
      cases hvy6
      have hx6 := HI.out.xo.at_
      have hy6 := HI.out.yo.at_
      have hts6 := (HYW.out.below hbl6).more hbl6.size
      have htin := HI.out.tin (by omega)
      have hxer : ∀ s ∈ X', s.er = dotS ts s := fun s hs => by
        obtain ⟨j, hj⟩ := List.getElem?_of_mem hs
        have h1 := (List.getElem?_eq_some_iff.1 hj).1
        have h2 := hx6.len
        exact HI.out.xe j s (by omega) hj
      have hTX : termsN X' = m := by rw [termsN_congr HI.out.xs]; exact HMN.out
      have hSX := exact_stars HE.out HI.out.xs HLM.out htin hxer
      have hfx := exact_fit (l := X') (t := ts) (by rw [hTX]; exact HLM.out.symm) (by rw [HLM.out]; omega) (by rw [HLM.out]; omega) htin hxer
      have hyer : ∀ s ∈ Y', 0 ≤ s.er ∧ s.er ≤ 499 := fun s hs => by
        obtain ⟨j, hj⟩ := List.getElem?_of_mem hs
        have h1 := (List.getElem?_eq_some_iff.1 hj).1
        have h2 := hy6.len
        have h3 := HLL.out
        have := HI.out.ye j s l[j] (by omega) hj (List.getElem?_eq_getElem (by omega))
        omega
      have hSY : starsF Y' = ((m : Int), 0) := stars_er HI.out.ys HE.out (fun s hs => by have := hyer s hs; omega)
      have hyn : ∀ s ∈ Y', s.n ≤ 1000 := fun s hs => by
        have h1 := (hy6.each s hs).2.ilen
        obtain ⟨t, ht, e⟩ := xs_mem HI.out.ys hs
        obtain ⟨a1, -⟩ := star_right (HSR.out t ht)
        rw [e] at h1
        omega
      have HYN := Lib.hid hyn
      have HSX := Lib.hid hSX
      have HSY := Lib.hid hSY
      have HYE := Lib.hid hyer
      have HTX := Lib.hid hTX
      clear htin hxer hTX hSX hyer hSY hyn
      have HB6 := Lib.hid hbl6
      clear hbl6
      have hz6 := HB6.out.size
      have R0_6 := Lib.hid hx6
      clear hx6
      have R1_6 := Lib.hid hy6
      clear hy6
      have R2_6 := Lib.hid hts6
      clear hts6
      rcases hfx with hf | hf
      · have HF1 := Lib.hid hf
        clear hf
        go_wp2_with fail
        refine (pfit_is HF1.out rfl _ n c4 (by rw [HSX.out]) _ R0_6.out).mono ?_
        rintro e w7 ⟨A7, c7, rfl, hb, -, -⟩
        have HB7 := Lib.hid (show Below w.heap.size w w7 from step_below hb (by repeat' (first | exact Below.refl _ _ | exact HB6.out | refine below_drewN ?_ _ | refine Below.drew ?_ | refine Below.alloc ?_ (by first | omega | (simp; done) | (simp; omega) | (simp [World.setCell]; omega)) _ | refine Below.setCell ?_ (by first | omega | (simp; done) | (simp; omega)) _ | assumption)))
        have hL7 := Lib.hid (show Below w6.heap.size w6 _ from reads_mid hb (by repeat' (first | exact Below.refl _ _ | refine below_drewN ?_ _ | refine Below.drew ?_ | refine Below.alloc ?_ (by first | omega | (simp; done) | (simp; omega) | (simp [World.setCell]; omega)) _ | refine Below.setCell ?_ (by first | omega | (simp; done) | (simp; omega)) _)))
        have R0_7 := Lib.hid (stars_lay hb hL7.out R0_6.out)
        have R1_7 := Lib.hid (stars_lay hb hL7.out R1_6.out)
        have R2_7 := Lib.hid (reads_lay hb hL7.out R2_6.out)
        clear hL7 R0_6 R1_6 R2_6
        have hz7 := hb.size
        try simp only [World.size_alloc, World.drewN, World.drew] at hz7
        clear hb
        go_wp2
        go_ret
        exact ⟨rfl, by repeat' (first | exact Below.refl _ _ | exact HB7.out | refine below_drewN ?_ _ | refine Below.drew ?_ | refine Below.alloc ?_ (by first | omega | (simp; done) | (simp; omega) | (simp [World.setCell]; omega)) _ | refine Below.setCell ?_ (by first | omega | (simp; done) | (simp; omega)) _ | assumption)⟩
      · have HF1 := Lib.hid hf
        clear hf
        have HA6 := Lib.hid (show Below w6.heap.size w6 w6 from Below.refl _ _)
        go_wp2_with fail
        refine (pfit_is HF1.out HLM.out _ n c4 (by rw [HSX.out]) _ R0_6.out).mono ?_
        rintro e w7 ⟨A7, c7, rfl, hb, hT7, -⟩
        have HB7 := Lib.hid (show Below w.heap.size w w7 from step_below hb (by repeat' (first | exact Below.refl _ _ | exact HB6.out | refine below_drewN ?_ _ | refine Below.drew ?_ | refine Below.alloc ?_ (by first | omega | (simp; done) | (simp; omega) | (simp [World.setCell]; omega)) _ | refine Below.setCell ?_ (by first | omega | (simp; done) | (simp; omega)) _ | assumption)))
        have hL7 := Lib.hid (show Below w6.heap.size w6 _ from reads_mid hb (by repeat' (first | exact Below.refl _ _ | refine below_drewN ?_ _ | refine Below.drew ?_ | refine Below.alloc ?_ (by first | omega | (simp; done) | (simp; omega) | (simp [World.setCell]; omega)) _ | refine Below.setCell ?_ (by first | omega | (simp; done) | (simp; omega)) _)))
        have R0_7 := Lib.hid (stars_lay hb hL7.out R0_6.out)
        have R1_7 := Lib.hid (stars_lay hb hL7.out R1_6.out)
        have R2_7 := Lib.hid (reads_lay hb hL7.out R2_6.out)
        clear hL7 R0_6 R1_6 R2_6
        have HA7 := Lib.hid (step_below hb HA6.out)
        clear HA6
        have hz7 := hb.size
        try simp only [World.size_alloc, World.drewN, World.drew] at hz7
        clear hb
        have R3_7 := Lib.hid hT7
        clear hT7
        go_wp2_with fail
        generalize hwn : (w7.alloc (.cells #[.slice A7 m c7, .int .i64 (1)] 102)) = w8
        have hbn : Below w7.heap.size w7 w8 := by rw [← hwn]; repeat' (first | exact Below.refl _ _ | refine below_drewN ?_ _ | refine Below.drew ?_ | refine Below.alloc ?_ (by first | omega | (simp; done) | (simp; omega) | (simp [World.setCell]; omega)) _ | refine Below.setCell ?_ (by first | omega | (simp; done) | (simp; omega)) _)
        have HB8 := Lib.hid (show Below w.heap.size w w8 from HB7.out.trans (hbn.mono HB7.out.size))
        have K0_8 := Lib.hid (show Blk w8 (w7.heap.size) 102 #[.slice A7 m c7, .int .i64 (1)] by rw [← hwn]; repeat' (first | exact Blk.at_ _ (by first | rfl | (simp; done) | (simp; omega)) _ _ | refine Blk.drewN ?_ _ | refine Blk.drew ?_ | refine Blk.alloc ?_ _ | refine Blk.far ?_ (by first | omega | (simp; done) | (simp; omega)) _ | assumption))
        have R0_8 := Lib.hid (R0_7.out.lay hbn)
        have R1_8 := Lib.hid (R1_7.out.lay hbn)
        have R2_8 := Lib.hid ((R2_7.out.below hbn).more hbn.size)
        have R3_8 := Lib.hid ((R3_7.out.below hbn).more hbn.size)
        have HA8 := Lib.hid (step_below hbn HA7.out)
        clear HA7
        have HN8 := Lib.hid hbn
        have hz8 := hbn.size
        clear hwn hbn R0_7 R1_7 R2_7 R3_7
        have l0_8 : w7.heap.size < w8.heap.size := K0_8.out.lt
        have z0_0_8 : w8.cell? ⟨w7.heap.size, 0, none⟩ = some (.slice A7 m c7) := K0_8.out.cell 0
        have z0_1_8 : w8.cell? ⟨w7.heap.size, 1, none⟩ = some (.int .i64 (1)) := K0_8.out.cell 1
        refine (low (ints_eqd A7 B c7 d m m ts ts true (by simp) _ _ _ R3_8.out R2_8.out (by omega) (by omega))).mono ?_
        rintro e w9 ⟨rfl, hb⟩
        have HB9 := Lib.hid (show Below w.heap.size w w9 from step_below hb (by repeat' (first | exact Below.refl _ _ | exact HB8.out | refine below_drewN ?_ _ | refine Below.drew ?_ | refine Below.alloc ?_ (by first | omega | (simp; done) | (simp; omega) | (simp [World.setCell]; omega)) _ | refine Below.setCell ?_ (by first | omega | (simp; done) | (simp; omega)) _ | assumption)))
        have K0_9 := Lib.hid (step_blk hb (show Blk _ (w7.heap.size) 102 #[.slice A7 m c7, .int .i64 (1)] by repeat' (first | exact K0_8.out | exact Blk.at_ _ (by first | rfl | (simp; done) | (simp; omega)) _ _ | refine Blk.drewN ?_ _ | refine Blk.drew ?_ | refine Blk.alloc ?_ _ | refine Blk.far ?_ (by first | omega | (simp; done) | (simp; omega)) _ | assumption)))
        have hL9 := Lib.hid (show Below w8.heap.size w8 _ from reads_mid hb (by repeat' (first | exact Below.refl _ _ | refine below_drewN ?_ _ | refine Below.drew ?_ | refine Below.alloc ?_ (by first | omega | (simp; done) | (simp; omega) | (simp [World.setCell]; omega)) _ | refine Below.setCell ?_ (by first | omega | (simp; done) | (simp; omega)) _)))
        have R0_9 := Lib.hid (stars_lay hb hL9.out R0_8.out)
        have R1_9 := Lib.hid (stars_lay hb hL9.out R1_8.out)
        have R2_9 := Lib.hid (reads_lay hb hL9.out R2_8.out)
        have R3_9 := Lib.hid (reads_lay hb hL9.out R3_8.out)
        clear hL9 R0_8 R1_8 R2_8 R3_8
        have HA9 := Lib.hid (step_below hb HA8.out)
        clear HA8
        have hz9 := hb.size
        try simp only [World.size_alloc, World.drewN, World.drew] at hz9
        clear hb K0_8 z0_0_8 z0_1_8 l0_8
        have l0_9 : w7.heap.size < w9.heap.size := K0_9.out.lt
        have z0_0_9 : w9.cell? ⟨w7.heap.size, 0, none⟩ = some (.slice A7 m c7) := K0_9.out.cell 0
        have z0_1_9 : w9.cell? ⟨w7.heap.size, 1, none⟩ = some (.int .i64 (1)) := K0_9.out.cell 1
        go_wp2_with fail
        refine (cstars_any Y' (some ⟨gy, 0, none⟩) n c5 _ R1_9.out (by omega) HYN.out).mono ?_
        rintro e w10 ⟨A10, c10, S2, rfl, hb, hS2, hso2⟩
        have HB10 := Lib.hid (show Below w.heap.size w w10 from step_below hb (by repeat' (first | exact Below.refl _ _ | exact HB9.out | refine below_drewN ?_ _ | refine Below.drew ?_ | refine Below.alloc ?_ (by first | omega | (simp; done) | (simp; omega) | (simp [World.setCell]; omega)) _ | refine Below.setCell ?_ (by first | omega | (simp; done) | (simp; omega)) _ | assumption)))
        have K0_10 := Lib.hid (step_blk hb (show Blk _ (w7.heap.size) 102 #[.slice A7 m c7, .int .i64 (1)] by repeat' (first | exact K0_9.out | exact Blk.at_ _ (by first | rfl | (simp; done) | (simp; omega)) _ _ | refine Blk.drewN ?_ _ | refine Blk.drew ?_ | refine Blk.alloc ?_ _ | refine Blk.far ?_ (by first | omega | (simp; done) | (simp; omega)) _ | assumption)))
        have hL10 := Lib.hid (show Below w9.heap.size w9 _ from reads_mid hb (by repeat' (first | exact Below.refl _ _ | refine below_drewN ?_ _ | refine Below.drew ?_ | refine Below.alloc ?_ (by first | omega | (simp; done) | (simp; omega) | (simp [World.setCell]; omega)) _ | refine Below.setCell ?_ (by first | omega | (simp; done) | (simp; omega)) _)))
        have R0_10 := Lib.hid (stars_lay hb hL10.out R0_9.out)
        have R1_10 := Lib.hid (stars_lay hb hL10.out R1_9.out)
        have R2_10 := Lib.hid (reads_lay hb hL10.out R2_9.out)
        have R3_10 := Lib.hid (reads_lay hb hL10.out R3_9.out)
        clear hL10 R0_9 R1_9 R2_9 R3_9
        have HA10 := Lib.hid (step_below hb HA9.out)
        clear HA9
        have hz10 := hb.size
        try simp only [World.size_alloc, World.drewN, World.drew] at hz10
        clear hb K0_9 z0_0_9 z0_1_9 l0_9
        have l0_10 : w7.heap.size < w10.heap.size := K0_10.out.lt
        have z0_0_10 : w10.cell? ⟨w7.heap.size, 0, none⟩ = some (.slice A7 m c7) := K0_10.out.cell 0
        have z0_1_10 : w10.cell? ⟨w7.heap.size, 1, none⟩ = some (.int .i64 (1)) := K0_10.out.cell 1
        have hs10 := hso2.at_
        have HS2 := Lib.hid (stars_alike hS2 HSY.out)
        have HS2M := Lib.hid hS2
        have R4_10 := Lib.hid hs10
        clear hs10
        clear hS2 hso2
        obtain ⟨⟨⟨Ta, Da⟩, Ea⟩, hfa⟩ : ∃ z, fitF S2 = z := ⟨_, rfl⟩
        obtain ⟨nA, hnA⟩ : ∃ nA, Ta.length = nA := ⟨_, rfl⟩
        have HFA := Lib.hid hfa
        have HNA := Lib.hid hnA
        clear hfa hnA
        go_wp2_with fail
        refine (pfit_is HFA.out HNA.out A10 n c10 (by rw [HS2.out]) _ R4_10.out).mono ?_
        rintro e w11 ⟨A11, c11, rfl, hb, hTa, hfr⟩
        have HB11 := Lib.hid (show Below w.heap.size w w11 from step_below hb (by repeat' (first | exact Below.refl _ _ | exact HB10.out | refine below_drewN ?_ _ | refine Below.drew ?_ | refine Below.alloc ?_ (by first | omega | (simp; done) | (simp; omega) | (simp [World.setCell]; omega)) _ | refine Below.setCell ?_ (by first | omega | (simp; done) | (simp; omega)) _ | assumption)))
        have K0_11 := Lib.hid (step_blk hb (show Blk _ (w7.heap.size) 102 #[.slice A7 m c7, .int .i64 (1)] by repeat' (first | exact K0_10.out | exact Blk.at_ _ (by first | rfl | (simp; done) | (simp; omega)) _ _ | refine Blk.drewN ?_ _ | refine Blk.drew ?_ | refine Blk.alloc ?_ _ | refine Blk.far ?_ (by first | omega | (simp; done) | (simp; omega)) _ | assumption)))
        have hL11 := Lib.hid (show Below w10.heap.size w10 _ from reads_mid hb (by repeat' (first | exact Below.refl _ _ | refine below_drewN ?_ _ | refine Below.drew ?_ | refine Below.alloc ?_ (by first | omega | (simp; done) | (simp; omega) | (simp [World.setCell]; omega)) _ | refine Below.setCell ?_ (by first | omega | (simp; done) | (simp; omega)) _)))
        have R0_11 := Lib.hid (stars_lay hb hL11.out R0_10.out)
        have R1_11 := Lib.hid (stars_lay hb hL11.out R1_10.out)
        have R2_11 := Lib.hid (reads_lay hb hL11.out R2_10.out)
        have R3_11 := Lib.hid (reads_lay hb hL11.out R3_10.out)
        have R4_11 := Lib.hid (stars_lay hb hL11.out R4_10.out)
        clear hL11 R0_10 R1_10 R2_10 R3_10 R4_10
        have HA11 := Lib.hid (step_below hb HA10.out)
        clear HA10
        have hz11 := hb.size
        try simp only [World.size_alloc, World.drewN, World.drew] at hz11
        clear hb K0_10 z0_0_10 z0_1_10 l0_10
        have l0_11 : w7.heap.size < w11.heap.size := K0_11.out.lt
        have z0_0_11 : w11.cell? ⟨w7.heap.size, 0, none⟩ = some (.slice A7 m c7) := K0_11.out.cell 0
        have z0_1_11 : w11.cell? ⟨w7.heap.size, 1, none⟩ = some (.int .i64 (1)) := K0_11.out.cell 1
        have R5_11 := Lib.hid hTa
        clear hTa
        go_wp2
        generalize hwn : (w11.alloc (.cells #[.slice (A11) (nA) c11, .int .i64 (Da)] 102)) = w12
        have hbn : Below w11.heap.size w11 w12 := by rw [← hwn]; repeat' (first | exact Below.refl _ _ | refine below_drewN ?_ _ | refine Below.drew ?_ | refine Below.alloc ?_ (by first | omega | (simp; done) | (simp; omega) | (simp [World.setCell]; omega)) _ | refine Below.setCell ?_ (by first | omega | (simp; done) | (simp; omega)) _)
        have HB12 := Lib.hid (show Below w.heap.size w w12 from HB11.out.trans (hbn.mono HB11.out.size))
        have K0_12 := Lib.hid (step_blk hbn K0_11.out)
        have K1_12 := Lib.hid (show Blk w12 (w11.heap.size) 102 #[.slice (A11) (nA) c11, .int .i64 (Da)] by rw [← hwn]; repeat' (first | exact Blk.at_ _ (by first | rfl | (simp; done) | (simp; omega)) _ _ | refine Blk.drewN ?_ _ | refine Blk.drew ?_ | refine Blk.alloc ?_ _ | refine Blk.far ?_ (by first | omega | (simp; done) | (simp; omega)) _ | assumption))
        have R0_12 := Lib.hid (R0_11.out.lay hbn)
        have R1_12 := Lib.hid (R1_11.out.lay hbn)
        have R2_12 := Lib.hid ((R2_11.out.below hbn).more hbn.size)
        have R3_12 := Lib.hid ((R3_11.out.below hbn).more hbn.size)
        have R4_12 := Lib.hid (R4_11.out.lay hbn)
        have R5_12 := Lib.hid ((R5_11.out.below hbn).more hbn.size)
        have HA12 := Lib.hid (step_below hbn HA11.out)
        clear HA11
        have HN12 := Lib.hid hbn
        have hz12 := hbn.size
        clear hwn hbn K0_11 l0_11 z0_0_11 z0_1_11 R0_11 R1_11 R2_11 R3_11 R4_11 R5_11
        have l0_12 : w7.heap.size < w12.heap.size := K0_12.out.lt
        have z0_0_12 : w12.cell? ⟨w7.heap.size, 0, none⟩ = some (.slice A7 m c7) := K0_12.out.cell 0
        have z0_1_12 : w12.cell? ⟨w7.heap.size, 1, none⟩ = some (.int .i64 (1)) := K0_12.out.cell 1
        have l1_12 : w11.heap.size < w12.heap.size := K1_12.out.lt
        have z1_0_12 : w12.cell? ⟨w11.heap.size, 0, none⟩ = some (.slice (A11) (nA) c11) := K1_12.out.cell 0
        have z1_1_12 : w12.cell? ⟨w11.heap.size, 1, none⟩ = some (.int .i64 (Da)) := K1_12.out.cell 1
        have hyo12 := HI.out.yo.below HA12.out
        have HYO12 := Lib.hid hyo12
        clear hyo12
        go_loopw [15] (fun i wr => ∃ (k : Nat) (Z : List Star), k ≤ n ∧ i = .int .i64 k ∧ Tch (fun g => g = gy) w12 wr ∧ StarsOwn w4.heap.size Z (.slice (some ⟨gy, 0, none⟩) n c5) n wr ∧ Z.map Star.xs = Y'.map Star.xs ∧ ∀ j s t, Z[j]? = some s → Y'[j]? = some t → s.er = if j < k then 2 * t.er else t.er) (fun i _ => n - (intOf i).toNat)
        case atStart => exact ⟨0, Y', by omega, rfl, Tch.refl _ _, HYO12.out, rfl, fun j s t h1 h2 => by rw [h1] at h2; cases h2; rw [if_neg (by omega)]⟩
        case round =>
          obtain ⟨k, Z, hk, rfl, ht13, hz13, hzx, hze⟩ := hrel
          obtain ⟨w13, hnm⟩ : ∃ z : World, z = wr := ⟨_, rfl⟩
          subst hnm
          have HT13 := Lib.hid ht13
          have HZ13 := Lib.hid hz13
          have HZX := Lib.hid hzx
          have HZE := Lib.hid hze
          have hsz13 := ht13.size
          clear ht13 hz13 hzx hze
          by_cases hlt : k < n
          · obtain ⟨sz, hsz⟩ : ∃ sz, Z[k]? = some sz := ⟨_, List.getElem?_eq_getElem (by have := HZ13.out.at_.len; omega)⟩
            obtain ⟨sy, hsy⟩ : ∃ sy, Y'[k]? = some sy := ⟨_, List.getElem?_eq_getElem (by have := HI.out.yo.at_.len; omega)⟩
            have her := HZE.out k sz sy hsz hsy
            rw [if_neg (by omega)] at her
            have hyr := HYE.out sy (List.mem_of_getElem? hsy)
            obtain ⟨_, _, hvz, -, -, hfz, hstz⟩ := HZ13.out.store hsz (by omega) (2 * sz.er)
            cases hvz
            obtain ⟨_, _, sz', hA, -, hsz', -, y1, -, -, -⟩ := HZ13.out.at_.at_ hlt
            cases hA
            obtain rfl := Option.some.inj (hsz.symm.trans hsz')
            simp only [Nat.zero_add] at y1
            have v1 := IntWalk.i64_in (2 * sz.er) ⟨by omega, by omega⟩
            have hkk : (k : Int) < (n : Int) := by omega
            have HSZ := Lib.hid hsz
            have HSY' := Lib.hid hsy
            have HER := Lib.hid her
            have HST := Lib.hid hstz
            clear hsz hsz' hsy her hyr hstz
            go_wp2
            generalize hw14 : World.setCell _ _ _ = w14
            rw [hw14] at HST
            have ht14 : Tch (fun g => g = gy) w12 w14 := by rw [← hw14]; exact HT13.out.setCell (.inl rfl) _
            have HT14 := Lib.hid ht14
            clear ht14 hw14
            go_wp2
            go_roundw
            case rel =>
              refine ⟨k + 1, Z.set k { sz with er := 2 * sz.er }, by omega, by go_num, HT14.out, HST.out, (xs_set HSZ.out _).trans HZX.out, fun j s t hj ht => ?_⟩
              by_cases e : j = k
              · subst e
                rw [List.getElem?_set_self (List.getElem?_eq_some_iff.1 HSZ.out).1] at hj
                cases hj
                obtain rfl := Option.some.inj (HSY'.out.symm.trans ht)
                rw [if_pos (by omega)]
                show 2 * sz.er = 2 * sy.er
                rw [HER.out]
              · rw [List.getElem?_set_ne (fun h => e h.symm)] at hj
                rw [HZE.out j s t hj ht]
                by_cases h : j < k
                · rw [if_pos h, if_pos (by omega)]
                · rw [if_neg h, if_neg (by omega)]
            case measure => simp [intOf]; omega
          · obtain rfl : n = k := by omega
            have hb13 : Below w.heap.size w w13 := HB12.out.trans (HT13.out.below (B := w.heap.size) (fun q hq => by omega) HB12.out.size)
            have hka := HT13.out.blk K1_12.out (by show ¬ w11.heap.size = gy; omega)
            have hs13 := HZ13.out.at_
            have hta := HT13.out.reads R5_12.out (fun b o e => by have := hfr b o e; show ¬ b = gy; omega)
            have hzl : Z.length = n := hs13.len
            have hyl : Y'.length = n := by rw [← hzl]; simpa using congrArg List.length HZX.out.symm
            have hzr : ∀ s ∈ Z, -1000 ≤ s.er ∧ s.er ≤ 1000 := fun s hs => by
              obtain ⟨j, hj⟩ := List.getElem?_of_mem hs
              have h1 := (List.getElem?_eq_some_iff.1 hj).1
              have h2 := HZE.out j s Y'[j] hj (List.getElem?_eq_getElem (by omega))
              rw [if_pos (by omega)] at h2
              have h3 := HYE.out _ (List.getElem_mem (show j < Y'.length by omega))
              omega
            have hSZ := stars_er HZX.out HSY.out hzr
            have hdm := dbl_map HS2M.out HZX.out HZE.out hyl
            have HSZ := Lib.hid hSZ
            have HDM := Lib.hid hdm
            clear hzl hyl hzr hSZ hdm
            have HB13 := Lib.hid hb13
            have K0_13 := Lib.hid (show Blk w13 (w11.heap.size) 102 #[.slice (A11) (nA) c11, .int .i64 (Da)] from hka)
            clear hb13 hka
            have l0_13 : w11.heap.size < w13.heap.size := K0_13.out.lt
            have z0_0_13 : w13.cell? ⟨w11.heap.size, 0, none⟩ = some (.slice (A11) (nA) c11) := K0_13.out.cell 0
            have z0_1_13 : w13.cell? ⟨w11.heap.size, 1, none⟩ = some (.int .i64 (Da)) := K0_13.out.cell 1
            have hz13 := HB13.out.size
            have R0_13 := Lib.hid hs13
            clear hs13
            have R1_13 := Lib.hid hta
            clear hta
            obtain ⟨⟨⟨Tb, Db⟩, Eb⟩, hfb⟩ : ∃ z, fitF Z = z := ⟨_, rfl⟩
            obtain ⟨nB, hnB⟩ : ∃ nB, Tb.length = nB := ⟨_, rfl⟩
            have HFB := Lib.hid hfb
            have HNB := Lib.hid hnB
            clear hfb hnB
            go_wp2_with fail
            refine (pfit_is HFB.out HNB.out (some ⟨gy, 0, none⟩) n c5 (by rw [HSZ.out]) _ R0_13.out).mono ?_
            rintro e w14 ⟨A14, c14, rfl, hb, hTb, -⟩
            have HB14 := Lib.hid (show Below w.heap.size w w14 from step_below hb (by repeat' (first | exact Below.refl _ _ | exact HB13.out | refine below_drewN ?_ _ | refine Below.drew ?_ | refine Below.alloc ?_ (by first | omega | (simp; done) | (simp; omega) | (simp [World.setCell]; omega)) _ | refine Below.setCell ?_ (by first | omega | (simp; done) | (simp; omega)) _ | assumption)))
            have K0_14 := Lib.hid (step_blk hb (show Blk _ (w11.heap.size) 102 #[.slice (A11) (nA) c11, .int .i64 (Da)] by repeat' (first | exact K0_13.out | exact Blk.at_ _ (by first | rfl | (simp; done) | (simp; omega)) _ _ | refine Blk.drewN ?_ _ | refine Blk.drew ?_ | refine Blk.alloc ?_ _ | refine Blk.far ?_ (by first | omega | (simp; done) | (simp; omega)) _ | assumption)))
            have hL14 := Lib.hid (show Below w13.heap.size w13 _ from reads_mid hb (by repeat' (first | exact Below.refl _ _ | refine below_drewN ?_ _ | refine Below.drew ?_ | refine Below.alloc ?_ (by first | omega | (simp; done) | (simp; omega) | (simp [World.setCell]; omega)) _ | refine Below.setCell ?_ (by first | omega | (simp; done) | (simp; omega)) _)))
            have R0_14 := Lib.hid (stars_lay hb hL14.out R0_13.out)
            have R1_14 := Lib.hid (reads_lay hb hL14.out R1_13.out)
            clear hL14 R0_13 R1_13
            have hz14 := hb.size
            try simp only [World.size_alloc, World.drewN, World.drew] at hz14
            clear hb K0_13 z0_0_13 z0_1_13 l0_13
            have l0_14 : w11.heap.size < w14.heap.size := K0_14.out.lt
            have z0_0_14 : w14.cell? ⟨w11.heap.size, 0, none⟩ = some (.slice (A11) (nA) c11) := K0_14.out.cell 0
            have z0_1_14 : w14.cell? ⟨w11.heap.size, 1, none⟩ = some (.int .i64 (Da)) := K0_14.out.cell 1
            have R2_14 := Lib.hid hTb
            clear hTb
            have hdet : detM (fitM X' (termsN X')) ≠ 0 := (fit_ok (l := X') (by rw [HF1.out])).1
            have hxS : S2.map Star.xs = l.map Star.xs := (xs_of HS2M.out).trans HI.out.ys
            have hxZ : Z.map Star.xs = l.map Star.xs := HZX.out.trans HI.out.ys
            have hea : Ea = 0 ∨ Ea = 8 := by
              have h1 := fit_err S2
              rw [HFA.out, fitM_congr (hxS.trans HI.out.xs.symm), termsN_congr (hxS.trans HI.out.xs.symm)] at h1
              rcases h1 with h | h | h
              · exact .inl h
              · exact .inr h
              · exact absurd h.2 hdet
            have heb : Eb = 0 ∨ Eb = 8 := by
              have h1 := fit_err Z
              rw [HFB.out, fitM_congr (hxZ.trans HI.out.xs.symm), termsN_congr (hxZ.trans HI.out.xs.symm)] at h1
              rcases h1 with h | h | h
              · exact .inl h
              · exact .inr h
              · exact absurd h.2 hdet
            have hTS : termsN S2 = m := by rw [termsN_congr hxS]; exact HMN.out
            clear hdet hxZ hxS
            rcases hea with rfl | rfl
            rotate_left
            · rcases heb with rfl | rfl
              · go_wp2
                go_ret
                exact ⟨rfl, by repeat' (first | exact Below.refl _ _ | exact HB14.out | refine below_drewN ?_ _ | refine Below.drew ?_ | refine Below.alloc ?_ (by first | omega | (simp; done) | (simp; omega) | (simp [World.setCell]; omega)) _ | refine Below.setCell ?_ (by first | omega | (simp; done) | (simp; omega)) _ | assumption)⟩
              · skip
                go_wp2
                go_ret
                exact ⟨rfl, by repeat' (first | exact Below.refl _ _ | exact HB14.out | refine below_drewN ?_ _ | refine Below.drew ?_ | refine Below.alloc ?_ (by first | omega | (simp; done) | (simp; omega) | (simp [World.setCell]; omega)) _ | refine Below.setCell ?_ (by first | omega | (simp; done) | (simp; omega)) _ | assumption)⟩
            rcases heb with rfl | rfl
            rotate_left
            · skip
              go_wp2
              go_ret
              exact ⟨rfl, by repeat' (first | exact Below.refl _ _ | exact HB14.out | refine below_drewN ?_ _ | refine Below.drew ?_ | refine Below.alloc ?_ (by first | omega | (simp; done) | (simp; omega) | (simp [World.setCell]; omega)) _ | refine Below.setCell ?_ (by first | omega | (simp; done) | (simp; omega)) _ | assumption)⟩
            have hdf := double_fit HDM.out (by rw [hTS]; omega) (by rw [hTS]; omega) (by rw [HFA.out]) (by rw [HFB.out])
            rw [HFA.out, HFB.out, hTS] at hdf
            simp only at hdf
            obtain ⟨l1, l2, hmul⟩ := hdf
            have HMUL := Lib.hid hmul
            obtain rfl : m = nA := by rw [← l1]; exact HNA.out
            obtain rfl : m = nB := by rw [← l2]; exact HNB.out
            clear l1 l2 hmul hTS
            go_wp2_with fail
            generalize hwn : (w14.alloc (.cells #[.slice (A14) (m) c14, .int .i64 (Db)] 102)) = w15
            have hbn : Below w14.heap.size w14 w15 := by rw [← hwn]; repeat' (first | exact Below.refl _ _ | refine below_drewN ?_ _ | refine Below.drew ?_ | refine Below.alloc ?_ (by first | omega | (simp; done) | (simp; omega) | (simp [World.setCell]; omega)) _ | refine Below.setCell ?_ (by first | omega | (simp; done) | (simp; omega)) _)
            have HB15 := Lib.hid (show Below w.heap.size w w15 from HB14.out.trans (hbn.mono HB14.out.size))
            have K0_15 := Lib.hid (step_blk hbn K0_14.out)
            have K1_15 := Lib.hid (show Blk w15 (w14.heap.size) 102 #[.slice (A14) (m) c14, .int .i64 (Db)] by rw [← hwn]; repeat' (first | exact Blk.at_ _ (by first | rfl | (simp; done) | (simp; omega)) _ _ | refine Blk.drewN ?_ _ | refine Blk.drew ?_ | refine Blk.alloc ?_ _ | refine Blk.far ?_ (by first | omega | (simp; done) | (simp; omega)) _ | assumption))
            have R0_15 := Lib.hid (R0_14.out.lay hbn)
            have R1_15 := Lib.hid ((R1_14.out.below hbn).more hbn.size)
            have R2_15 := Lib.hid ((R2_14.out.below hbn).more hbn.size)
            have HN15 := Lib.hid hbn
            have hz15 := hbn.size
            clear hwn hbn K0_14 l0_14 z0_0_14 z0_1_14 R0_14 R1_14 R2_14
            have l0_15 : w11.heap.size < w15.heap.size := K0_15.out.lt
            have z0_0_15 : w15.cell? ⟨w11.heap.size, 0, none⟩ = some (.slice (A11) (m) c11) := K0_15.out.cell 0
            have z0_1_15 : w15.cell? ⟨w11.heap.size, 1, none⟩ = some (.int .i64 (Da)) := K0_15.out.cell 1
            have l1_15 : w14.heap.size < w15.heap.size := K1_15.out.lt
            have z1_0_15 : w15.cell? ⟨w14.heap.size, 0, none⟩ = some (.slice (A14) (m) c14) := K1_15.out.cell 0
            have z1_1_15 : w15.cell? ⟨w14.heap.size, 1, none⟩ = some (.int .i64 (Db)) := K1_15.out.cell 1
            cases hwa : withinB Da 1 1000000000
            · have HWA := Lib.hid hwa
              clear hwa
              refine (withinref_is _ _ _ _ HWA.out _).mono ?_
              rintro e w' ⟨rfl, rfl⟩
              go_wp2
              go_ret
              exact ⟨rfl, by repeat' (first | exact Below.refl _ _ | exact HB15.out | refine below_drewN ?_ _ | refine Below.drew ?_ | refine Below.alloc ?_ (by first | omega | (simp; done) | (simp; omega) | (simp [World.setCell]; omega)) _ | refine Below.setCell ?_ (by first | omega | (simp; done) | (simp; omega)) _ | assumption)⟩
            have HWA := Lib.hid hwa
            clear hwa
            refine (withinref_is _ _ _ _ HWA.out _).mono ?_
            rintro e w' ⟨rfl, rfl⟩
            go_wp2_with fail
            cases hwb : withinB Db 1 1000000000
            · have HWB := Lib.hid hwb
              clear hwb
              refine (withinref_is _ _ _ _ HWB.out _).mono ?_
              rintro e w' ⟨rfl, rfl⟩
              go_wp2
              go_ret
              exact ⟨rfl, by repeat' (first | exact Below.refl _ _ | exact HB15.out | refine below_drewN ?_ _ | refine Below.drew ?_ | refine Below.alloc ?_ (by first | omega | (simp; done) | (simp; omega) | (simp [World.setCell]; omega)) _ | refine Below.setCell ?_ (by first | omega | (simp; done) | (simp; omega)) _ | assumption)⟩
            have HWB := Lib.hid hwb
            clear hwb
            refine (withinref_is _ _ _ _ HWB.out _).mono ?_
            rintro e w' ⟨rfl, rfl⟩
            go_wp2
            go_loopw [18] (fun i wr => ∃ k : Nat, k ≤ m ∧ i = .int .i64 k ∧ Below w15.heap.size w15 wr) (fun i _ => m - (intOf i).toNat)
            case atStart => exact ⟨0, by omega, rfl, Below.refl _ _⟩
            case round =>
              obtain ⟨k, hk, rfl, hb16⟩ := hrel
              obtain ⟨w16, hnm⟩ : ∃ z : World, z = wr := ⟨_, rfl⟩
              subst hnm
              have HBW := Lib.hid hb16
              have hbw16 := HB15.out.trans (hb16.mono HB15.out.size)
              have hka := Blk.below K0_15.out hb16 l0_15
              have hkb := Blk.below K1_15.out hb16 l1_15
              have hra := (R1_15.out.below hb16).more hb16.size
              have hrb := (R2_15.out.below hb16).more hb16.size
              clear hb16
              have HB16 := Lib.hid hbw16
              have K0_16 := Lib.hid (show Blk w16 (w11.heap.size) 102 #[.slice (A11) (m) c11, .int .i64 (Da)] from hka)
              have K1_16 := Lib.hid (show Blk w16 (w14.heap.size) 102 #[.slice (A14) (m) c14, .int .i64 (Db)] from hkb)
              clear hbw16 hka hkb
              have l0_16 : w11.heap.size < w16.heap.size := K0_16.out.lt
              have z0_0_16 : w16.cell? ⟨w11.heap.size, 0, none⟩ = some (.slice (A11) (m) c11) := K0_16.out.cell 0
              have z0_1_16 : w16.cell? ⟨w11.heap.size, 1, none⟩ = some (.int .i64 (Da)) := K0_16.out.cell 1
              have l1_16 : w14.heap.size < w16.heap.size := K1_16.out.lt
              have z1_0_16 : w16.cell? ⟨w14.heap.size, 0, none⟩ = some (.slice (A14) (m) c14) := K1_16.out.cell 0
              have z1_1_16 : w16.cell? ⟨w14.heap.size, 1, none⟩ = some (.int .i64 (Db)) := K1_16.out.cell 1
              by_cases hlt : k < m
              · obtain ⟨ab, ao, za, rfl, hab, hza, a0⟩ := hra.int_ hlt
                obtain ⟨bb, bo, zb, rfl, hbb, hzb, b0⟩ := hrb.int_ hlt
                have hkk : (k : Int) < (m : Int) := by omega
                have HMU := Lib.hid (HMUL.out k za zb hza hzb)
                clear hza hzb hra hrb
                cases hwx : withinB za (-1000000000) 1000000000
                · have HWX := Lib.hid hwx
                  clear hwx
                  go_wp2_with fail
                  refine (withinref_is _ _ _ _ HWX.out _).mono ?_
                  rintro e w' ⟨rfl, rfl⟩
                  go_wp2
                  go_ret
                  exact ⟨rfl, by repeat' (first | exact Below.refl _ _ | exact HB16.out | refine below_drewN ?_ _ | refine Below.drew ?_ | refine Below.alloc ?_ (by first | omega | (simp; done) | (simp; omega) | (simp [World.setCell]; omega)) _ | refine Below.setCell ?_ (by first | omega | (simp; done) | (simp; omega)) _ | assumption)⟩
                have HWX := Lib.hid hwx
                clear hwx
                go_wp2_with fail
                refine (withinref_is _ _ _ _ HWX.out _).mono ?_
                rintro e w' ⟨rfl, rfl⟩
                go_wp2_with fail
                cases hwy : withinB zb (-1000000000) 1000000000
                · have HWY := Lib.hid hwy
                  clear hwy
                  refine (withinref_is _ _ _ _ HWY.out _).mono ?_
                  rintro e w' ⟨rfl, rfl⟩
                  go_wp2
                  go_ret
                  exact ⟨rfl, by repeat' (first | exact Below.refl _ _ | exact HB16.out | refine below_drewN ?_ _ | refine Below.drew ?_ | refine Below.alloc ?_ (by first | omega | (simp; done) | (simp; omega) | (simp [World.setCell]; omega)) _ | refine Below.setCell ?_ (by first | omega | (simp; done) | (simp; omega)) _ | assumption)⟩
                have HWY := Lib.hid hwy
                clear hwy
                refine (withinref_is _ _ _ _ HWY.out _).mono ?_
                rintro e w' ⟨rfl, rfl⟩
                have b1 := withinB_in HWA.out
                have b2 := withinB_in HWB.out
                have b3 := withinB_in HWX.out
                have b4 := withinB_in HWY.out
                have p1 := mulb (show -2000000000 ≤ 2 * za ∧ 2 * za ≤ 2000000000 by omega) (show -1000000000 ≤ Db ∧ Db ≤ 1000000000 by omega) (by decide) (by decide)
                have p2 := mulb b4 (show -1000000000 ≤ Da ∧ Da ≤ 1000000000 by omega) (by decide) (by decide)
                have v1 := IntWalk.i64_in (2 * za) ⟨by omega, by omega⟩
                have v2 := IntWalk.i64_in (2 * za * Db) ⟨by omega, by omega⟩
                have v3 := IntWalk.i64_in (zb * Da) ⟨by omega, by omega⟩
                have e1 : (2 * za * Db != zb * Da) = false := by rw [HMU.out]; simp
                clear b1 b2 b3 b4 p1 p2
                go_wp2_with fail
                refine Fx.regionW (fun W f w' => Below W.heap.size W w') (by kernel_rfl) (by kernel_rfl) ?_ ?_
                · intro f hf0
                  exact below_drewN (Below.refl _ _) 1
                repeat (first
                  | (refine Fx.skip_ (by rfl) (fun f w h => h) ?_; simp only [Act.put, List.setIfInBounds_toArray, List.set_cons_zero, List.set_cons_succ])
                  | (refine Fx.val_ ?_ (by rfl) ?_ (fun f w h => h) ?_
                     rotate_left
                     · intro f w' hD hk
                       have hb := hD
                       have kb0 := step_blk hb (show Blk _ (w11.heap.size) 102 #[.slice (some ⟨ab, ao, none⟩) (m) c11, .int .i64 (Da)] by repeat' (first | exact K0_16.out | exact K1_16.out | exact Blk.at_ _ (by first | rfl | (simp; done) | (simp; omega)) _ _ | refine Blk.drewN ?_ _ | refine Blk.drew ?_ | refine Blk.alloc ?_ _ | refine Blk.far ?_ (by first | omega | (simp; done) | (simp; omega)) _ | assumption))
                       have y0_0 : w'.cell? ⟨w11.heap.size, 0, none⟩ = some (.slice (some ⟨ab, ao, none⟩) (m) c11) := kb0.cell 0
                       have y0_1 : w'.cell? ⟨w11.heap.size, 1, none⟩ = some (.int .i64 (Da)) := kb0.cell 1
                       have kb1 := step_blk hb (show Blk _ (w14.heap.size) 102 #[.slice (some ⟨bb, bo, none⟩) (m) c14, .int .i64 (Db)] by repeat' (first | exact K0_16.out | exact K1_16.out | exact Blk.at_ _ (by first | rfl | (simp; done) | (simp; omega)) _ _ | refine Blk.drewN ?_ _ | refine Blk.drew ?_ | refine Blk.alloc ?_ _ | refine Blk.far ?_ (by first | omega | (simp; done) | (simp; omega)) _ | assumption))
                       have y1_0 : w'.cell? ⟨w14.heap.size, 0, none⟩ = some (.slice (some ⟨bb, bo, none⟩) (m) c14) := kb1.cell 0
                       have y1_1 : w'.cell? ⟨w14.heap.size, 1, none⟩ = some (.int .i64 (Db)) := kb1.cell 1
                       have x8 := (hb.cell (p := ⟨ab, ao + k, none⟩) hab).trans a0
                       have x9 := (hb.cell (p := ⟨bb, bo + k, none⟩) hbb).trans b0
                       clear kb0 kb1
                       clear hk hD hb
                       go_simp
                       try rfl
                     simp only [Act.put, List.setIfInBounds_toArray, List.set_cons_zero, List.set_cons_succ]))
                refine Fx.nil_ ?_
                intro f w17 hall hb
                try clear hall
                have HB1617 := Lib.hid hb
                have HB17 := Lib.hid (show Below w.heap.size w w17 from step_below hb (by repeat' (first | exact Below.refl _ _ | exact HB16.out | refine below_drewN ?_ _ | refine Below.drew ?_ | refine Below.alloc ?_ (by first | omega | (simp; done) | (simp; omega) | (simp [World.setCell]; omega)) _ | refine Below.setCell ?_ (by first | omega | (simp; done) | (simp; omega)) _ | assumption)))
                have K0_17 := Lib.hid (step_blk hb (show Blk _ (w11.heap.size) 102 #[.slice (some ⟨ab, ao, none⟩) (m) c11, .int .i64 (Da)] by repeat' (first | exact K0_16.out | exact K1_16.out | exact Blk.at_ _ (by first | rfl | (simp; done) | (simp; omega)) _ _ | refine Blk.drewN ?_ _ | refine Blk.drew ?_ | refine Blk.alloc ?_ _ | refine Blk.far ?_ (by first | omega | (simp; done) | (simp; omega)) _ | assumption)))
                have K1_17 := Lib.hid (step_blk hb (show Blk _ (w14.heap.size) 102 #[.slice (some ⟨bb, bo, none⟩) (m) c14, .int .i64 (Db)] by repeat' (first | exact K0_16.out | exact K1_16.out | exact Blk.at_ _ (by first | rfl | (simp; done) | (simp; omega)) _ _ | refine Blk.drewN ?_ _ | refine Blk.drew ?_ | refine Blk.alloc ?_ _ | refine Blk.far ?_ (by first | omega | (simp; done) | (simp; omega)) _ | assumption)))
                have hz17 := hb.size
                try simp only [World.size_alloc, World.drewN, World.drew] at hz17
                clear hb K0_16 K1_16 z0_0_16 z0_1_16 l0_16 z1_0_16 z1_1_16 l1_16
                have l0_17 : w11.heap.size < w17.heap.size := K0_17.out.lt
                have z0_0_17 : w17.cell? ⟨w11.heap.size, 0, none⟩ = some (.slice (some ⟨ab, ao, none⟩) (m) c11) := K0_17.out.cell 0
                have z0_1_17 : w17.cell? ⟨w11.heap.size, 1, none⟩ = some (.int .i64 (Da)) := K0_17.out.cell 1
                have l1_17 : w14.heap.size < w17.heap.size := K1_17.out.lt
                have z1_0_17 : w17.cell? ⟨w14.heap.size, 0, none⟩ = some (.slice (some ⟨bb, bo, none⟩) (m) c14) := K1_17.out.cell 0
                have z1_1_17 : w17.cell? ⟨w14.heap.size, 1, none⟩ = some (.int .i64 (Db)) := K1_17.out.cell 1
                go_wp2
                go_roundw
                case rel => exact ⟨k + 1, by omega, by go_num, HBW.out.trans (HB1617.out.mono HBW.out.size)⟩
                case measure => simp [intOf]; omega
              · obtain rfl : m = k := by omega
                go_wp2
                go_ret
                exact ⟨rfl, by repeat' (first | exact Below.refl _ _ | exact HB16.out | refine below_drewN ?_ _ | refine Below.drew ?_ | refine Below.alloc ?_ (by first | omega | (simp; done) | (simp; omega) | (simp [World.setCell]; omega)) _ | refine Below.setCell ?_ (by first | omega | (simp; done) | (simp; omega)) _ | assumption)⟩

theorem lawPY_any (A : Option Addr) (n c : Nat) (l : List Star) (B : Option Addr) (m d : Nat) (ts : List Int) (w : World) (hnc : n ≤ c ∧ c ≤ 9223372036854775807) (_ : ∀ s ∈ l, (∀ z ∈ s.xs, I64 z) ∧ I64 s.er) (hx : StarsAt l A n w)
    (hmd : m ≤ d ∧ d ≤ 9223372036854775807) (_ : ts.length = m) (_ : ∀ z ∈ ts, I64 z) (hy : Reads w w.heap.size 1 B m (ts.map (.int .i64))) :
    Calls Try.prog 13 #[.slice A n c, .slice B m d] w fun e w' => e = .returned (.bool true) ∧ Below w.heap.size w w' := by
  by_cases h : fewStars l = false ∨ 8 < n ∨ 3 < m ∨ ∃ T E, starsF l = (T, E) ∧ (E ≠ 0 ∨ T ≠ (m : Int))
  · exact lawPX_no A n c l B m d ts w hnc hx hmd hy h
  · rw [not_or, not_or, not_or] at h
    obtain ⟨h1, h2, h3, h4⟩ := h
    refine lawPX_yes A n c l B m d ts w hnc hx hmd hy (by simpa using h1) (by omega) ?_
    obtain ⟨⟨T, E⟩, hE⟩ : ∃ z, starsF l = z := ⟨_, rfl⟩
    have hz : E = 0 := Decidable.byContradiction fun hz => h4 ⟨T, E, hE, .inl hz⟩
    have hT : T = (m : Int) := Decidable.byContradiction fun hT => h4 ⟨T, E, hE, .inr hT⟩
    rw [hE, hz, hT]
end Go.Proofs.Ytgamepmipoociaa

end
