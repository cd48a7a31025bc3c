/- The walk of the statement on periodic errors. -/
import Derived.Test.YtmioamcgbihhjaaPer
import Derived.Test.YtmioamcgbihhjaaLaw4
namespace Go.Proofs.Ytmioamcgbihhjaa
open Go.RowKit

theorem perAll_one {p : Int × Int} {t : Int} (hp : okP p = true) (ht : errErr t = 0) : perAll [p] [t] = (t, 0) := by
  obtain ⟨p1, p2, p3, p4⟩ := okP_part hp
  obtain ⟨q1, q2, q3, q4⟩ := red_teeth p1 p2 p3 p4
  have hs : smallB (1 * p.1) (1 * p.2) = true := by
    rw [Int.one_mul, Int.one_mul]
    unfold redN at q1 q2
    unfold redD at q3 q4
    unfold smallB
    simp only [Bool.and_eq_true, withinB_iff, decide_eq_true_eq]
    omega
  have hb : begF (1, 1) [p] = ((1, 1) :: [(redN (1 * p.1) (1 * p.2), redD (1 * p.1) (1 * p.2))], true) := by
    rw [begF_step hs]
    rfl
  unfold perAll
  rw [trainErr_one, hp]
  simp only [if_true, ne_eq, not_true_eq_false, if_false]
  unfold perF
  simp only [List.length_cons, List.length_nil, ne_eq, not_true_eq_false, if_false, firstErr, ht, List.reverse_cons, List.reverse_nil, List.nil_append]
  rw [hb]
  simp [perStep]

theorem perF_ok {l : List (Int × Int)} {z : List Int} {x : Int} (h : perF l z = (x, 0)) : z.length = l.length ∧ ∀ e ∈ z, errErr e = 0 := by
  unfold perF at h
  split at h
  · cases h
  · split at h
    · cases h
    · rename_i h1 h2
      exact ⟨by simpa using h1, firstErr_zero (by simpa using h2)⟩

set_option maxRecDepth 100000 in
set_option maxHeartbeats 4000000 in
theorem law13_any (A : Option Addr) (n c : Nat) (l : List (Int × Int)) (A1 : Option Addr) (n1 c1 : Nat) (z : List Int) (w : World) (hnc : n ≤ c ∧ c ≤ 9223372036854775807) (hl : l.length = n) (_ : ∀ p ∈ l, I64 p.1 ∧ I64 p.2) (hx : Reads w w.heap.size 2 A n (cells2 l))
    (hnc1 : n1 ≤ c1 ∧ c1 ≤ 9223372036854775807) (hl1 : z.length = n1) (_ : ∀ p ∈ z, I64 p) (hx1 : Reads w w.heap.size 1 A1 n1 (z.map (.int .i64))) :
    Calls Try.prog 13 #[.slice A n c, .slice A1 n1 c1] w fun e w' => e = .returned (.bool true) ∧ Below w.heap.size w w' := by
  obtain ⟨hnc0, hnc2⟩ := hnc
  obtain ⟨hnc3, hnc4⟩ := hnc1
  have hn : n ≤ 9223372036854775807 := by omega
  have hn1 : n1 ≤ 9223372036854775807 := by omega
  have HX := Lib.hid hx
  have HL := Lib.hid hl
  have HX1 := Lib.hid hx1
  have HL1 := Lib.hid hl1
  clear hx hl hx1 hl1
  cases hs : shortB n with
  | false =>
    have HS := Lib.hid hs
    clear hs
    go_enter Try.func13, Try.ntmps13
    go_wp2_with fail
    refine (awake_any _).mono ?_
    rintro e w1 ⟨rfl, hb⟩
    have HB1 := Lib.hid (show Below w.heap.size w w1 from step_below hb (by repeat' (first | exact Below.refl _ _ | exact HB0.out | refine below_drewN ?_ _ | refine Below.drew ?_ | refine Below.alloc ?_ (by first | omega | (simp; done) | (simp; omega) | (simp [World.setCell]; omega)) _ | refine Below.setCell ?_ (by first | omega | (simp; done) | (simp; omega)) _ | assumption)))
    have hz1 := hb.size
    try simp only [World.size_alloc, World.drewN, World.drew] at hz1
    clear hb
    go_wp2_with (go_at_call 21; refine (short_is _ _ _ _ HS.out _ hn).mono ?_; rintro e w' ⟨rfl, rfl⟩)
    go_ret
    exact ⟨rfl, by repeat' (first | exact Below.refl _ _ | exact HB1.out | refine below_drewN ?_ _ | refine Below.drew ?_ | refine Below.alloc ?_ (by first | omega | (simp; done) | (simp; omega) | (simp [World.setCell]; omega)) _ | refine Below.setCell ?_ (by first | omega | (simp; done) | (simp; omega)) _ | assumption)⟩
  | true =>
    have hn15 : n ≤ 15 := by unfold shortB at hs; simp at hs; omega
    have HS := Lib.hid hs
    clear hs
    by_cases h20 : (20 : Int) < (n1 : Int)
    · go_enter Try.func13, Try.ntmps13
      go_wp2_with fail
      refine (awake_any _).mono ?_
      rintro e w1 ⟨rfl, hb⟩
      have HB1 := Lib.hid (show Below w.heap.size w w1 from step_below hb (by repeat' (first | exact Below.refl _ _ | exact HB0.out | refine below_drewN ?_ _ | refine Below.drew ?_ | refine Below.alloc ?_ (by first | omega | (simp; done) | (simp; omega) | (simp [World.setCell]; omega)) _ | refine Below.setCell ?_ (by first | omega | (simp; done) | (simp; omega)) _ | assumption)))
      have hz1 := hb.size
      try simp only [World.size_alloc, World.drewN, World.drew] at hz1
      clear hb
      go_wp2_with fail
      refine (short_is _ _ _ _ HS.out _ hn).mono ?_
      rintro en w' ⟨rfl, rfl⟩
      go_wp2
      go_ret
      exact ⟨rfl, by repeat' (first | exact Below.refl _ _ | exact HB1.out | refine below_drewN ?_ _ | refine Below.drew ?_ | refine Below.alloc ?_ (by first | omega | (simp; done) | (simp; omega) | (simp [World.setCell]; omega)) _ | refine Below.setCell ?_ (by first | omega | (simp; done) | (simp; omega)) _ | assumption)⟩
    obtain ⟨E, hE⟩ : ∃ E, trainErr l = E := ⟨_, rfl⟩
    obtain ⟨R, hR⟩ : ∃ R, perAll l z = R := ⟨_, rfl⟩
    obtain ⟨x, e⟩ := R
    have HE := Lib.hid hE
    have HR := Lib.hid hR
    clear hE hR
    go_enter Try.func13, Try.ntmps13
    go_wp2_with fail
    refine (awake_any _).mono ?_
    rintro e w1 ⟨rfl, hb⟩
    have HB1 := Lib.hid (show Below w.heap.size w w1 from step_below hb (by repeat' (first | exact Below.refl _ _ | exact HB0.out | refine below_drewN ?_ _ | refine Below.drew ?_ | refine Below.alloc ?_ (by first | omega | (simp; done) | (simp; omega) | (simp [World.setCell]; omega)) _ | refine Below.setCell ?_ (by first | omega | (simp; done) | (simp; omega)) _ | assumption)))
    have hz1 := hb.size
    try simp only [World.size_alloc, World.drewN, World.drew] at hz1
    clear hb
    go_wp2_with fail
    refine (short_is _ _ _ _ HS.out _ hn).mono ?_
    rintro en w' ⟨rfl, rfl⟩
    go_wp2_with fail
    refine (copytrain_any A n c w.heap.size l _ (HX.out.belowLe HB1.out (Nat.le_refl _)) HB1.out.size (by omega)).mono ?_
    rintro en w2 ⟨A2, c2, rfl, hb2, hr2, -⟩
    have HR2 := Lib.hid hr2
    clear hr2
    have HB2 := Lib.hid (show Below w.heap.size w w2 from step_below hb2 (by repeat' (first | exact Below.refl _ _ | exact HB1.out | refine below_drewN ?_ _ | refine Below.drew ?_ | refine Below.alloc ?_ (by first | omega | (simp; done) | (simp; omega) | (simp [World.setCell]; omega)) _ | refine Below.setCell ?_ (by first | omega | (simp; done) | (simp; omega)) _ | assumption)))
    have hz2 := hb2.size
    try simp only [World.size_alloc, World.drewN, World.drew] at hz2
    clear hb2
    go_wp2_with fail
    refine (copyints_any A1 n1 c1 w.heap.size z _ (HX1.out.belowLe HB2.out (Nat.le_refl _)) HB2.out.size (by omega)).mono ?_
    rintro en w3 ⟨A3, c3, rfl, hb3, hr3, -⟩
    have HR3 := Lib.hid hr3
    have HR23 := Lib.hid (HR2.out.below hb3)
    have hsz3 := hb3.size
    clear hr3
    have HB3 := Lib.hid (show Below w.heap.size w w3 from step_below hb3 (by repeat' (first | exact Below.refl _ _ | exact HB2.out | refine below_drewN ?_ _ | refine Below.drew ?_ | refine Below.alloc ?_ (by first | omega | (simp; done) | (simp; omega) | (simp [World.setCell]; omega)) _ | refine Below.setCell ?_ (by first | omega | (simp; done) | (simp; omega)) _ | assumption)))
    have hz3 := hb3.size
    try simp only [World.size_alloc, World.drewN, World.drew] at hz3
    clear hb3
    go_wp2_with fail
    refine (per_any A2 n c2 w2.heap.size l A3 n1 c3 w3.heap.size z _ HR23.out hsz3 hn HR3.out (Nat.le_refl _) hn1 x e HR.out).mono ?_
    rintro e w4 ⟨rfl, hb⟩
    have HB4 := Lib.hid (show Below w.heap.size w w4 from step_below hb (by repeat' (first | exact Below.refl _ _ | exact HB3.out | refine below_drewN ?_ _ | refine Below.drew ?_ | refine Below.alloc ?_ (by first | omega | (simp; done) | (simp; omega) | (simp [World.setCell]; omega)) _ | refine Below.setCell ?_ (by first | omega | (simp; done) | (simp; omega)) _ | assumption)))
    have hz4 := hb.size
    try simp only [World.size_alloc, World.drewN, World.drew] at hz4
    clear hb
    go_wp2_with fail
    refine (rchecktrain_is A n c w.heap.size l E HE.out _ (HX.out.belowLe HB4.out (Nat.le_refl _)) HB4.out.size hn).mono ?_
    rintro e w5 ⟨rfl, hb⟩
    have HB5 := Lib.hid (show Below w.heap.size w w5 from step_below hb (by repeat' (first | exact Below.refl _ _ | exact HB4.out | refine below_drewN ?_ _ | refine Below.drew ?_ | refine Below.alloc ?_ (by first | omega | (simp; done) | (simp; omega) | (simp [World.setCell]; omega)) _ | refine Below.setCell ?_ (by first | omega | (simp; done) | (simp; omega)) _ | assumption)))
    have hz5 := hb.size
    try simp only [World.size_alloc, World.drewN, World.drew] at hz5
    clear hb
    by_cases h0 : E = 0
    rotate_left
    · have e0 : (E != 0) = true := by simpa using h0
      have hr := HR.out
      unfold perAll at hr
      rw [HE.out, if_pos h0] at hr
      cases hr
      go_wp2
      go_ret
      exact ⟨rfl, by repeat' (first | exact Below.refl _ _ | exact HB5.out | refine below_drewN ?_ _ | refine Below.drew ?_ | refine Below.alloc ?_ (by first | omega | (simp; done) | (simp; omega) | (simp [World.setCell]; omega)) _ | refine Below.setCell ?_ (by first | omega | (simp; done) | (simp; omega)) _ | assumption)⟩
    subst h0
    have hr := HR.out
    unfold perAll at hr
    rw [HE.out, if_neg (by simp)] at hr
    have HRF := Lib.hid hr
    clear hr
    go_wp2_with fail
    refine (rper_any A n c w.heap.size l A1 n1 c1 w.heap.size z _ (HX.out.belowLe HB5.out (Nat.le_refl _)) HB5.out.size (HX1.out.belowLe HB5.out (Nat.le_refl _)) HB5.out.size hn1 HE.out x e HRF.out).mono ?_
    rintro e w6 ⟨rfl, hb⟩
    have HB6 := Lib.hid (show Below w.heap.size w w6 from step_below hb (by repeat' (first | exact Below.refl _ _ | exact HB5.out | refine below_drewN ?_ _ | refine Below.drew ?_ | refine Below.alloc ?_ (by first | omega | (simp; done) | (simp; omega) | (simp [World.setCell]; omega)) _ | refine Below.setCell ?_ (by first | omega | (simp; done) | (simp; omega)) _ | assumption)))
    have hz6 := hb.size
    try simp only [World.size_alloc, World.drewN, World.drew] at hz6
    clear hb
    by_cases h0 : e = 0
    rotate_left
    · have e0 : (e != 0) = true := by simpa using h0
      go_wp2
      go_ret
      exact ⟨rfl, by repeat' (first | exact Below.refl _ _ | exact HB6.out | refine below_drewN ?_ _ | refine Below.drew ?_ | refine Below.alloc ?_ (by first | omega | (simp; done) | (simp; omega) | (simp [World.setCell]; omega)) _ | refine Below.setCell ?_ (by first | omega | (simp; done) | (simp; omega)) _ | assumption)⟩
    subst h0
    by_cases hz : n = 0
    · subst hz
      go_wp2
      go_ret
      exact ⟨rfl, by repeat' (first | exact Below.refl _ _ | exact HB6.out | refine below_drewN ?_ _ | refine Below.drew ?_ | refine Below.alloc ?_ (by first | omega | (simp; done) | (simp; omega) | (simp [World.setCell]; omega)) _ | refine Below.setCell ?_ (by first | omega | (simp; done) | (simp; omega)) _ | assumption)⟩
    obtain ⟨k, rfl⟩ : ∃ k, n = k + 1 := ⟨n - 1, by omega⟩
    obtain ⟨hll, hzok⟩ := perF_ok HRF.out
    have hnk : n1 = k + 1 := by rw [← HL1.out, ← HL.out]; exact hll
    subst hnk
    obtain ⟨hlen, hok⟩ := trainErr_ok HE.out
    obtain ⟨xb, xo, p, rfl, hxb, hp, b0, b1⟩ := HX.out.pair (show k < k + 1 by omega)
    obtain ⟨zb, zo, u, rfl, hzb, hu, b2⟩ := HX1.out.at_ (show k < k + 1 by omega)
    obtain ⟨t, hz', rfl⟩ : ∃ t, z[k]? = some t ∧ .int .i64 t = u := by
      rw [List.getElem?_map] at hu
      cases h : z[k]? with
      | none => rw [h] at hu; cases hu
      | some t => rw [h] at hu; exact ⟨t, rfl, Option.some.inj hu⟩
    have hone := perAll_one (List.all_eq_true.1 hok p (List.mem_of_getElem? hp)) (hzok t (List.mem_of_getElem? hz'))
    have HONE := Lib.hid hone
    have c0 := (HB6.out.cell (p := ⟨xb, xo + k * 2, none⟩) hxb).trans b0
    have c1' := (HB6.out.cell (p := ⟨xb, xo + k * 2 + 1, none⟩) hxb).trans b1
    have c2' := (HB6.out.cell (p := ⟨zb, zo + k, none⟩) hzb).trans b2
    have hsz6 := HB6.out.size
    have v1 : IntKind.i64.wrap (k : Int) = (k : Int) := IntWalk.i64_in (k : Int) ⟨by omega, by omega⟩
    have v2 : (0 : Int) ≤ (k : Int) := by omega
    have v3 : (k : Int) < (k : Int) + 1 := by omega
    have v4 : (k : Int) ≤ (k : Int) + 1 := by omega
    have v5 : ¬ c = k := by omega
    have v6 : ((k + 1 : Nat) : Int) - 1 = (k : Int) := by omega
    have v7 : IntKind.i64.wrap (((k + 1 : Nat) : Int) - 1) = (k : Int) := by rw [v6]; exact v1
    clear hone hp hu hz' hll hzok hlen hok b0 b1 b2
    go_wp2
    apply share (Fact := fun (_ _ : Pick) (wz : World) => Below w6.heap.size w6 wz)
    · intro key
      refine Fx.regionM (fun W g f w' => Below W.heap.size W w' ∧ RdM 2 1 (cells2 [p]) 5 13 g f w' ∧ RdM 1 1 [.int .i64 t] 12 13 g f w') (fun i (x : Pick) => if i = 12 then .slice x.1 1 1 else .slice x.1 1 x.2) (by kernel_rfl) ?_ ?_
      · intro f hf0
        exact ⟨below_drewN (Below.refl _ _) 1, RdM.start, RdM.start⟩
      first
      | (refine Fx.WM.skip 0 (by rfl) (by kernel_rfl) (by kernel_rfl) (by kernel_rfl) (by rfl) (fun g f w h => h) ?_; simp only [Act.put, List.setIfInBounds_toArray, List.set_cons_zero, List.set_cons_succ])
      | (refine Fx.WM.val_ 0 ?_ (by rfl) (by kernel_rfl) (by kernel_rfl) (by kernel_rfl) (by rfl) ?_ (fun g f w h => h) ?_
         rotate_left
         · intro g f w' hx hD hk
           obtain ⟨hb, hr, hm1⟩ := id hD
           have y0 := (hb.cell (p := ⟨zb, zo + k, none⟩) (by show zb < _; omega)).trans c2'
           clear hx hk hD hb hr hm1
           go_simp
           try rfl
         simp only [Act.put, List.setIfInBounds_toArray, List.set_cons_zero, List.set_cons_succ])
      first
      | (refine Fx.WM.skip 1 (by rfl) (by kernel_rfl) (by kernel_rfl) (by kernel_rfl) (by rfl) (fun g f w h => h) ?_; simp only [Act.put, List.setIfInBounds_toArray, List.set_cons_zero, List.set_cons_succ])
      | (refine Fx.WM.val_ 1 ?_ (by rfl) (by kernel_rfl) (by kernel_rfl) (by kernel_rfl) (by rfl) ?_ (fun g f w h => h) ?_
         rotate_left
         · intro g f w' hx hD hk
           obtain ⟨hb, hr, hm1⟩ := id hD
           have y0 := (hb.cell (p := ⟨zb, zo + k, none⟩) (by show zb < _; omega)).trans c2'
           clear hx hk hD hb hr hm1
           go_simp
           try rfl
         simp only [Act.put, List.setIfInBounds_toArray, List.set_cons_zero, List.set_cons_succ])
      first
      | (refine Fx.WM.skip 2 (by rfl) (by kernel_rfl) (by kernel_rfl) (by kernel_rfl) (by rfl) (fun g f w h => h) ?_; simp only [Act.put, List.setIfInBounds_toArray, List.set_cons_zero, List.set_cons_succ])
      | (refine Fx.WM.val_ 2 ?_ (by rfl) (by kernel_rfl) (by kernel_rfl) (by kernel_rfl) (by rfl) ?_ (fun g f w h => h) ?_
         rotate_left
         · intro g f w' hx hD hk
           obtain ⟨hb, hr, hm1⟩ := id hD
           have y0 := (hb.cell (p := ⟨zb, zo + k, none⟩) (by show zb < _; omega)).trans c2'
           clear hx hk hD hb hr hm1
           go_simp
           try rfl
         simp only [Act.put, List.setIfInBounds_toArray, List.set_cons_zero, List.set_cons_succ])
      first
      | (refine Fx.WM.skip 3 (by rfl) (by kernel_rfl) (by kernel_rfl) (by kernel_rfl) (by rfl) (fun g f w h => h) ?_; simp only [Act.put, List.setIfInBounds_toArray, List.set_cons_zero, List.set_cons_succ])
      | (refine Fx.WM.val_ 3 ?_ (by rfl) (by kernel_rfl) (by kernel_rfl) (by kernel_rfl) (by rfl) ?_ (fun g f w h => h) ?_
         rotate_left
         · intro g f w' hx hD hk
           obtain ⟨hb, hr, hm1⟩ := id hD
           have y0 := (hb.cell (p := ⟨zb, zo + k, none⟩) (by show zb < _; omega)).trans c2'
           clear hx hk hD hb hr hm1
           go_simp
           try rfl
         simp only [Act.put, List.setIfInBounds_toArray, List.set_cons_zero, List.set_cons_succ])
      first
      | (refine Fx.WM.skip 4 (by rfl) (by kernel_rfl) (by kernel_rfl) (by kernel_rfl) (by rfl) (fun g f w h => h) ?_; simp only [Act.put, List.setIfInBounds_toArray, List.set_cons_zero, List.set_cons_succ])
      | (refine Fx.WM.val_ 4 ?_ (by rfl) (by kernel_rfl) (by kernel_rfl) (by kernel_rfl) (by rfl) ?_ (fun g f w h => h) ?_
         rotate_left
         · intro g f w' hx hD hk
           obtain ⟨hb, hr, hm1⟩ := id hD
           have y0 := (hb.cell (p := ⟨zb, zo + k, none⟩) (by show zb < _; omega)).trans c2'
           clear hx hk hD hb hr hm1
           go_simp
           try rfl
         simp only [Act.put, List.setIfInBounds_toArray, List.set_cons_zero, List.set_cons_succ])
      first
      | (refine Fx.WM.skip 6 (by rfl) (by kernel_rfl) (by kernel_rfl) (by kernel_rfl) (by rfl) (fun g f w h => h) ?_; simp only [Act.put, List.setIfInBounds_toArray, List.set_cons_zero, List.set_cons_succ])
      | (refine Fx.WM.val_ 6 ?_ (by rfl) (by kernel_rfl) (by kernel_rfl) (by kernel_rfl) (by rfl) ?_ (fun g f w h => h) ?_
         rotate_left
         · intro g f w' hx hD hk
           obtain ⟨hb, hr, hm1⟩ := id hD
           have y0 := (hb.cell (p := ⟨zb, zo + k, none⟩) (by show zb < _; omega)).trans c2'
           clear hx hk hD hb hr hm1
           go_simp
           try rfl
         simp only [Act.put, List.setIfInBounds_toArray, List.set_cons_zero, List.set_cons_succ])
      first
      | (refine Fx.WM.skip 7 (by rfl) (by kernel_rfl) (by kernel_rfl) (by kernel_rfl) (by rfl) (fun g f w h => h) ?_; simp only [Act.put, List.setIfInBounds_toArray, List.set_cons_zero, List.set_cons_succ])
      | (refine Fx.WM.val_ 7 ?_ (by rfl) (by kernel_rfl) (by kernel_rfl) (by kernel_rfl) (by rfl) ?_ (fun g f w h => h) ?_
         rotate_left
         · intro g f w' hx hD hk
           obtain ⟨hb, hr, hm1⟩ := id hD
           have y0 := (hb.cell (p := ⟨zb, zo + k, none⟩) (by show zb < _; omega)).trans c2'
           clear hx hk hD hb hr hm1
           go_simp
           try rfl
         simp only [Act.put, List.setIfInBounds_toArray, List.set_cons_zero, List.set_cons_succ])
      first
      | (refine Fx.WM.skip 8 (by rfl) (by kernel_rfl) (by kernel_rfl) (by kernel_rfl) (by rfl) (fun g f w h => h) ?_; simp only [Act.put, List.setIfInBounds_toArray, List.set_cons_zero, List.set_cons_succ])
      | (refine Fx.WM.val_ 8 ?_ (by rfl) (by kernel_rfl) (by kernel_rfl) (by kernel_rfl) (by rfl) ?_ (fun g f w h => h) ?_
         rotate_left
         · intro g f w' hx hD hk
           obtain ⟨hb, hr, hm1⟩ := id hD
           have y0 := (hb.cell (p := ⟨zb, zo + k, none⟩) (by show zb < _; omega)).trans c2'
           clear hx hk hD hb hr hm1
           go_simp
           try rfl
         simp only [Act.put, List.setIfInBounds_toArray, List.set_cons_zero, List.set_cons_succ])
      first
      | (refine Fx.WM.skip 9 (by rfl) (by kernel_rfl) (by kernel_rfl) (by kernel_rfl) (by rfl) (fun g f w h => h) ?_; simp only [Act.put, List.setIfInBounds_toArray, List.set_cons_zero, List.set_cons_succ])
      | (refine Fx.WM.val_ 9 ?_ (by rfl) (by kernel_rfl) (by kernel_rfl) (by kernel_rfl) (by rfl) ?_ (fun g f w h => h) ?_
         rotate_left
         · intro g f w' hx hD hk
           obtain ⟨hb, hr, hm1⟩ := id hD
           have y0 := (hb.cell (p := ⟨zb, zo + k, none⟩) (by show zb < _; omega)).trans c2'
           clear hx hk hD hb hr hm1
           go_simp
           try rfl
         simp only [Act.put, List.setIfInBounds_toArray, List.set_cons_zero, List.set_cons_succ])
      first
      | (refine Fx.WM.skip 10 (by rfl) (by kernel_rfl) (by kernel_rfl) (by kernel_rfl) (by rfl) (fun g f w h => h) ?_; simp only [Act.put, List.setIfInBounds_toArray, List.set_cons_zero, List.set_cons_succ])
      | (refine Fx.WM.val_ 10 ?_ (by rfl) (by kernel_rfl) (by kernel_rfl) (by kernel_rfl) (by rfl) ?_ (fun g f w h => h) ?_
         rotate_left
         · intro g f w' hx hD hk
           obtain ⟨hb, hr, hm1⟩ := id hD
           have y0 := (hb.cell (p := ⟨zb, zo + k, none⟩) (by show zb < _; omega)).trans c2'
           clear hx hk hD hb hr hm1
           go_simp
           try rfl
         simp only [Act.put, List.setIfInBounds_toArray, List.set_cons_zero, List.set_cons_succ])
      first
      | (refine Fx.WM.skip 11 (by rfl) (by kernel_rfl) (by kernel_rfl) (by kernel_rfl) (by rfl) (fun g f w h => h) ?_; simp only [Act.put, List.setIfInBounds_toArray, List.set_cons_zero, List.set_cons_succ])
      | (refine Fx.WM.val_ 11 ?_ (by rfl) (by kernel_rfl) (by kernel_rfl) (by kernel_rfl) (by rfl) ?_ (fun g f w h => h) ?_
         rotate_left
         · intro g f w' hx hD hk
           obtain ⟨hb, hr, hm1⟩ := id hD
           have y0 := (hb.cell (p := ⟨zb, zo + k, none⟩) (by show zb < _; omega)).trans c2'
           clear hx hk hD hb hr hm1
           go_simp
           try rfl
         simp only [Act.put, List.setIfInBounds_toArray, List.set_cons_zero, List.set_cons_succ])
      refine Fx.WM.choose2 5 12 (by rfl) (by rfl) (by kernel_rfl) (by rfl) (by rfl) ?_ ?_ ?_ ?_
      · skip
        refine Fx.Chooses.call ?_ ?_ (by rfl) ?_ ?_
        rotate_left 2
        · intro w'
          go_simp
          refine ⟨?_, ?_⟩ <;> rfl
        · intro f w' hD hk
          exact (copytrain_any (some ⟨xb, xo + k * 2, none⟩) 1 (c - k) w.heap.size [p] w' (Reads.one hxb ((hD.1.cell (p := ⟨xb, xo + k * 2, none⟩) (by show xb < _; omega)).trans c0) ((hD.1.cell (p := ⟨xb, xo + k * 2 + 1, none⟩) (by show xb < _; omega)).trans c1')) (Nat.le_trans hsz6 hD.1.size) (by omega)).mono fun e w'' ⟨A', c', he, hb, hr, _⟩ => ⟨(A', c'), he, step_below hb hD.1, RdM.new hr, (hD.2.2.step hb (by decide)).other (by decide)⟩
      · skip
        refine Fx.Chooses.make (by rfl) ?_
        intro f w' hD hk
        obtain ⟨hb, hr, hm1⟩ := id hD
        refine ⟨(some ⟨w'.heap.size, 0, none⟩, 0), w'.alloc (.cells #[.int .i64 t] 3), ?_, ?_⟩
        · clear hk hD
          go_simp
          try rfl
        · exact ⟨hb.alloc hb.size _, (hr.step ((Below.refl _ _).alloc (Nat.le_refl _) _) (by decide)).other (by decide), RdM.new (Blk.reads (Blk.new _ _ _) rfl)⟩
      · intro x
        simp only [Act.put, List.setIfInBounds_toArray, List.set_cons_zero, List.set_cons_succ]
        refine Fx.WM.choose 12 (by rfl) (by kernel_rfl) (by rfl) ?_ ?_
        · skip
          refine Fx.Chooses.make (by rfl) ?_
          intro f w' hD hk
          obtain ⟨hb, hr, hm1⟩ := id hD
          refine ⟨(some ⟨w'.heap.size, 0, none⟩, 0), w'.alloc (.cells #[.int .i64 t] 3), ?_, ?_⟩
          · clear hk hD
            go_simp
            try rfl
          · exact ⟨hb.alloc hb.size _, (hr.step ((Below.refl _ _).alloc (Nat.le_refl _) _) (by decide)).other (by decide), RdM.new (Blk.reads (Blk.new _ _ _) rfl)⟩
        intro y
        simp only [Act.put, List.setIfInBounds_toArray, List.set_cons_zero, List.set_cons_succ]
        refine Fx.WM.call 13 (.tuple #[.int .i64 t, .int .i64 0]) ?_ ?_ (by rfl) (by kernel_rfl) (by kernel_rfl) (by kernel_rfl) (by rfl) ?_ ?_ ?_
        rotate_left 2
        · intro w'
          go_simp
          refine ⟨?_, ?_⟩ <;> rfl
        · intro g f w' hx hD hk
          exact (per_any x.1 1 x.2 w'.heap.size [p] y.1 1 1 w'.heap.size [t] w' (hD.2.1 x (hx 5 _ rfl) hk.1) (Nat.le_refl _) (by omega) (hD.2.2 y (hx 12 _ rfl) hk.1) (Nat.le_refl _) (by omega) t 0 HONE.out).mono fun e w'' ⟨he, hw⟩ => ⟨he, step_below hw hD.1, RdM.stored, RdM.stored⟩
        simp only [Act.put, List.setIfInBounds_toArray, List.set_cons_zero, List.set_cons_succ]
        first
        | (refine Fx.WM.skip 14 (by rfl) (by kernel_rfl) (by kernel_rfl) (by kernel_rfl) (by rfl) (fun g f w h => h) ?_; simp only [Act.put, List.setIfInBounds_toArray, List.set_cons_zero, List.set_cons_succ])
        | (refine Fx.WM.val_ 14 ?_ (by rfl) (by kernel_rfl) (by kernel_rfl) (by kernel_rfl) (by rfl) ?_ (fun g f w h => h) ?_
           rotate_left
           · intro g f w' hx hD hk
             obtain ⟨hb, hr, hm1⟩ := id hD
             have y0 := (hb.cell (p := ⟨zb, zo + k, none⟩) (by show zb < _; omega)).trans c2'
             clear hx hk hD hb hr hm1
             go_simp
             try rfl
           simp only [Act.put, List.setIfInBounds_toArray, List.set_cons_zero, List.set_cons_succ])
        first
        | (refine Fx.WM.skip 15 (by rfl) (by kernel_rfl) (by kernel_rfl) (by kernel_rfl) (by rfl) (fun g f w h => h) ?_; simp only [Act.put, List.setIfInBounds_toArray, List.set_cons_zero, List.set_cons_succ])
        | (refine Fx.WM.val_ 15 ?_ (by rfl) (by kernel_rfl) (by kernel_rfl) (by kernel_rfl) (by rfl) ?_ (fun g f w h => h) ?_
           rotate_left
           · intro g f w' hx hD hk
             obtain ⟨hb, hr, hm1⟩ := id hD
             have y0 := (hb.cell (p := ⟨zb, zo + k, none⟩) (by show zb < _; omega)).trans c2'
             clear hx hk hD hb hr hm1
             go_simp
             try rfl
           simp only [Act.put, List.setIfInBounds_toArray, List.set_cons_zero, List.set_cons_succ])
        first
        | (refine Fx.WM.skip 16 (by rfl) (by kernel_rfl) (by kernel_rfl) (by kernel_rfl) (by rfl) (fun g f w h => h) ?_; simp only [Act.put, List.setIfInBounds_toArray, List.set_cons_zero, List.set_cons_succ])
        | (refine Fx.WM.val_ 16 ?_ (by rfl) (by kernel_rfl) (by kernel_rfl) (by kernel_rfl) (by rfl) ?_ (fun g f w h => h) ?_
           rotate_left
           · intro g f w' hx hD hk
             obtain ⟨hb, hr, hm1⟩ := id hD
             have y0 := (hb.cell (p := ⟨zb, zo + k, none⟩) (by show zb < _; omega)).trans c2'
             clear hx hk hD hb hr hm1
             go_simp
             try rfl
           simp only [Act.put, List.setIfInBounds_toArray, List.set_cons_zero, List.set_cons_succ])
        first
        | (refine Fx.WM.skip 17 (by rfl) (by kernel_rfl) (by kernel_rfl) (by kernel_rfl) (by rfl) (fun g f w h => h) ?_; simp only [Act.put, List.setIfInBounds_toArray, List.set_cons_zero, List.set_cons_succ])
        | (refine Fx.WM.val_ 17 ?_ (by rfl) (by kernel_rfl) (by kernel_rfl) (by kernel_rfl) (by rfl) ?_ (fun g f w h => h) ?_
           rotate_left
           · intro g f w' hx hD hk
             obtain ⟨hb, hr, hm1⟩ := id hD
             have y0 := (hb.cell (p := ⟨zb, zo + k, none⟩) (by show zb < _; omega)).trans c2'
             clear hx hk hD hb hr hm1
             go_simp
             try rfl
           simp only [Act.put, List.setIfInBounds_toArray, List.set_cons_zero, List.set_cons_succ])
        first
        | (refine Fx.WM.skip 18 (by rfl) (by kernel_rfl) (by kernel_rfl) (by kernel_rfl) (by rfl) (fun g f w h => h) ?_; simp only [Act.put, List.setIfInBounds_toArray, List.set_cons_zero, List.set_cons_succ])
        | (refine Fx.WM.val_ 18 ?_ (by rfl) (by kernel_rfl) (by kernel_rfl) (by kernel_rfl) (by rfl) ?_ (fun g f w h => h) ?_
           rotate_left
           · intro g f w' hx hD hk
             obtain ⟨hb, hr, hm1⟩ := id hD
             have y0 := (hb.cell (p := ⟨zb, zo + k, none⟩) (by show zb < _; omega)).trans c2'
             clear hx hk hD hb hr hm1
             go_simp
             try rfl
           simp only [Act.put, List.setIfInBounds_toArray, List.set_cons_zero, List.set_cons_succ])
        refine Fx.WM.nil (by kernel_rfl) ?_
        intro wz hD
        exact key x y wz hD.1
      · intro y
        simp only [Act.put, List.setIfInBounds_toArray, List.set_cons_zero, List.set_cons_succ]
        refine Fx.WM.choose 5 (by rfl) (by kernel_rfl) (by rfl) ?_ ?_
        · skip
          refine Fx.Chooses.call ?_ ?_ (by rfl) ?_ ?_
          rotate_left 2
          · intro w'
            go_simp
            refine ⟨?_, ?_⟩ <;> rfl
          · intro f w' hD hk
            exact (copytrain_any (some ⟨xb, xo + k * 2, none⟩) 1 (c - k) w.heap.size [p] w' (Reads.one hxb ((hD.1.cell (p := ⟨xb, xo + k * 2, none⟩) (by show xb < _; omega)).trans c0) ((hD.1.cell (p := ⟨xb, xo + k * 2 + 1, none⟩) (by show xb < _; omega)).trans c1')) (Nat.le_trans hsz6 hD.1.size) (by omega)).mono fun e w'' ⟨A', c', he, hb, hr, _⟩ => ⟨(A', c'), he, step_below hb hD.1, RdM.new hr, (hD.2.2.step hb (by decide)).other (by decide)⟩
        intro x
        simp only [Act.put, List.setIfInBounds_toArray, List.set_cons_zero, List.set_cons_succ]
        refine Fx.WM.call 13 (.tuple #[.int .i64 t, .int .i64 0]) ?_ ?_ (by rfl) (by kernel_rfl) (by kernel_rfl) (by kernel_rfl) (by rfl) ?_ ?_ ?_
        rotate_left 2
        · intro w'
          go_simp
          refine ⟨?_, ?_⟩ <;> rfl
        · intro g f w' hx hD hk
          exact (per_any x.1 1 x.2 w'.heap.size [p] y.1 1 1 w'.heap.size [t] w' (hD.2.1 x (hx 5 _ rfl) hk.1) (Nat.le_refl _) (by omega) (hD.2.2 y (hx 12 _ rfl) hk.1) (Nat.le_refl _) (by omega) t 0 HONE.out).mono fun e w'' ⟨he, hw⟩ => ⟨he, step_below hw hD.1, RdM.stored, RdM.stored⟩
        simp only [Act.put, List.setIfInBounds_toArray, List.set_cons_zero, List.set_cons_succ]
        first
        | (refine Fx.WM.skip 14 (by rfl) (by kernel_rfl) (by kernel_rfl) (by kernel_rfl) (by rfl) (fun g f w h => h) ?_; simp only [Act.put, List.setIfInBounds_toArray, List.set_cons_zero, List.set_cons_succ])
        | (refine Fx.WM.val_ 14 ?_ (by rfl) (by kernel_rfl) (by kernel_rfl) (by kernel_rfl) (by rfl) ?_ (fun g f w h => h) ?_
           rotate_left
           · intro g f w' hx hD hk
             obtain ⟨hb, hr, hm1⟩ := id hD
             have y0 := (hb.cell (p := ⟨zb, zo + k, none⟩) (by show zb < _; omega)).trans c2'
             clear hx hk hD hb hr hm1
             go_simp
             try rfl
           simp only [Act.put, List.setIfInBounds_toArray, List.set_cons_zero, List.set_cons_succ])
        first
        | (refine Fx.WM.skip 15 (by rfl) (by kernel_rfl) (by kernel_rfl) (by kernel_rfl) (by rfl) (fun g f w h => h) ?_; simp only [Act.put, List.setIfInBounds_toArray, List.set_cons_zero, List.set_cons_succ])
        | (refine Fx.WM.val_ 15 ?_ (by rfl) (by kernel_rfl) (by kernel_rfl) (by kernel_rfl) (by rfl) ?_ (fun g f w h => h) ?_
           rotate_left
           · intro g f w' hx hD hk
             obtain ⟨hb, hr, hm1⟩ := id hD
             have y0 := (hb.cell (p := ⟨zb, zo + k, none⟩) (by show zb < _; omega)).trans c2'
             clear hx hk hD hb hr hm1
             go_simp
             try rfl
           simp only [Act.put, List.setIfInBounds_toArray, List.set_cons_zero, List.set_cons_succ])
        first
        | (refine Fx.WM.skip 16 (by rfl) (by kernel_rfl) (by kernel_rfl) (by kernel_rfl) (by rfl) (fun g f w h => h) ?_; simp only [Act.put, List.setIfInBounds_toArray, List.set_cons_zero, List.set_cons_succ])
        | (refine Fx.WM.val_ 16 ?_ (by rfl) (by kernel_rfl) (by kernel_rfl) (by kernel_rfl) (by rfl) ?_ (fun g f w h => h) ?_
           rotate_left
           · intro g f w' hx hD hk
             obtain ⟨hb, hr, hm1⟩ := id hD
             have y0 := (hb.cell (p := ⟨zb, zo + k, none⟩) (by show zb < _; omega)).trans c2'
             clear hx hk hD hb hr hm1
             go_simp
             try rfl
           simp only [Act.put, List.setIfInBounds_toArray, List.set_cons_zero, List.set_cons_succ])
        first
        | (refine Fx.WM.skip 17 (by rfl) (by kernel_rfl) (by kernel_rfl) (by kernel_rfl) (by rfl) (fun g f w h => h) ?_; simp only [Act.put, List.setIfInBounds_toArray, List.set_cons_zero, List.set_cons_succ])
        | (refine Fx.WM.val_ 17 ?_ (by rfl) (by kernel_rfl) (by kernel_rfl) (by kernel_rfl) (by rfl) ?_ (fun g f w h => h) ?_
           rotate_left
           · intro g f w' hx hD hk
             obtain ⟨hb, hr, hm1⟩ := id hD
             have y0 := (hb.cell (p := ⟨zb, zo + k, none⟩) (by show zb < _; omega)).trans c2'
             clear hx hk hD hb hr hm1
             go_simp
             try rfl
           simp only [Act.put, List.setIfInBounds_toArray, List.set_cons_zero, List.set_cons_succ])
        first
        | (refine Fx.WM.skip 18 (by rfl) (by kernel_rfl) (by kernel_rfl) (by kernel_rfl) (by rfl) (fun g f w h => h) ?_; simp only [Act.put, List.setIfInBounds_toArray, List.set_cons_zero, List.set_cons_succ])
        | (refine Fx.WM.val_ 18 ?_ (by rfl) (by kernel_rfl) (by kernel_rfl) (by kernel_rfl) (by rfl) ?_ (fun g f w h => h) ?_
           rotate_left
           · intro g f w' hx hD hk
             obtain ⟨hb, hr, hm1⟩ := id hD
             have y0 := (hb.cell (p := ⟨zb, zo + k, none⟩) (by show zb < _; omega)).trans c2'
             clear hx hk hD hb hr hm1
             go_simp
             try rfl
           simp only [Act.put, List.setIfInBounds_toArray, List.set_cons_zero, List.set_cons_succ])
        refine Fx.WM.nil (by kernel_rfl) ?_
        intro wz hD
        exact key x y wz hD.1
    intro x y w7 hb
    have c3 := (hb.cell (p := ⟨zb, zo + k, none⟩) (by show zb < _; omega)).trans c2'
    clear c0 c1' c2'
    have HB7 := Lib.hid (show Below w.heap.size w w7 from step_below hb (by repeat' (first | exact Below.refl _ _ | exact HB6.out | refine below_drewN ?_ _ | refine Below.drew ?_ | refine Below.alloc ?_ (by first | omega | (simp; done) | (simp; omega) | (simp [World.setCell]; omega)) _ | refine Below.setCell ?_ (by first | omega | (simp; done) | (simp; omega)) _ | assumption)))
    have hz7 := hb.size
    try simp only [World.size_alloc, World.drewN, World.drew] at hz7
    clear hb
    go_wp2
    go_ret
    exact ⟨rfl, by repeat' (first | exact Below.refl _ _ | exact HB7.out | refine below_drewN ?_ _ | refine Below.drew ?_ | refine Below.alloc ?_ (by first | omega | (simp; done) | (simp; omega) | (simp [World.setCell]; omega)) _ | refine Below.setCell ?_ (by first | omega | (simp; done) | (simp; omega)) _ | assumption)⟩

end Go.Proofs.Ytmioamcgbihhjaa
