import Derived.Test.YtdidcpealabaiaaQ13
import Derived.Test.YtdidcpealabaiaaQ17

section
/- Contract of the reference's check of stars. -/
namespace Go.Proofs.Ytdidcpealabaiaa
open Go Go.RowKit

set_option maxRecDepth 100000 in
set_option maxHeartbeats 4000000 in
theorem rstars_is (l : List Star) (A : Option Addr) (n c : Nat) (T E : Int) (hE : starsF l = (T, E)) (w : World) (hx : StarsAt l A n w) (hn : n ≤ 9223372036854775807) :
    Calls Try.prog 23 #[.slice A n c] w fun e w' => e = .returned (.tuple #[.int .i64 T, .int .i64 E]) ∧ Below w.heap.size w w' := by
  have hl := hx.len
  have HE := Lib.hid hE
  have HL := Lib.hid hl
  clear hE hl
  by_cases h0 : n = 0
  · have he : (T, E) = (0, 10) := by rw [← HE.out]; unfold starsF; rw [if_pos (by rw [HL.out]; exact h0)]
    cases he
    have hd : ((n : Int) == 0) = true := by simp [h0]
    clear hx
    go_enter Try.func23, Try.ntmps23
    go_wp2
    go_ret2
    exact ⟨rfl, Below.refl _ _⟩
  have hd0 : ((n : Int) == 0) = false := by simpa using h0
  by_cases h20 : 20 < n
  · have he : (T, E) = (0, 8) := by rw [← HE.out]; unfold starsF; rw [if_neg (by rw [HL.out]; exact h0), if_pos (by rw [HL.out]; exact h20)]
    cases he
    have hd : (20 : Int) < (n : Int) := by omega
    clear hx
    go_enter Try.func23, Try.ntmps23
    go_wp2
    go_ret2
    exact ⟨rfl, Below.refl _ _⟩
  have hd20 : ¬ (20 : Int) < (n : Int) := by omega
  obtain ⟨zb, zo, s0, rfl, hzb, hs0, c0, -, -, hs0l, -⟩ := hx.at_ (i := 0) (by omega)
  simp only [Nat.zero_mul, Nat.add_zero] at c0
  obtain ⟨N, hN⟩ : ∃ N, termsN l = N := ⟨_, rfl⟩
  have hNs : s0.n = N := by rw [← hN]; unfold termsN; rw [hs0]; exact hs0l.symm
  rw [hNs] at c0
  have HX := Lib.hid hx
  have HN := Lib.hid hN
  have HC0 := Lib.hid c0
  clear hx hs0 hs0l hNs hN c0
  go_enter Try.func23, Try.ntmps23
  go_wp2
  go_loopw [4] (fun i wr => ∃ k : Nat, k ≤ n ∧ i = .int .i64 k ∧ Below w.heap.size w wr ∧ ∀ j t, j < k → l[j]? = some t → starErr (termsN l) t = 0) (fun i _ => n - (intOf i).toNat)
  case atStart => exact ⟨0, by omega, rfl, Below.refl _ _, fun j t hj => absurd hj (by omega)⟩
  case round =>
    obtain ⟨k, hk, rfl, hb, hpre⟩ := hrel
    obtain ⟨w1, hnm⟩ : ∃ z : World, z = wr := ⟨_, rfl⟩
    subst hnm
    have hxr := HX.out.lay hb
    have hzs := hb.size
    have c1 := (hb.cell (p := ⟨zb, zo, none⟩) hzb).trans HC0.out
    have HPRE := Lib.hid hpre
    clear hpre
    by_cases hlt : k < n
    rotate_left
    · have he : (T, E) = ((N : Int), 0) := by rw [← HE.out, stars_all (by rw [HL.out]; exact h0) (by rw [HL.out]; exact h20) (fun j t hj ht => HPRE.out j t (by rw [HL.out] at hj; omega) ht), HN.out]
      cases he
      have HB := Lib.hid hb
      clear hb
      go_wp2
      go_ret2
      exact ⟨rfl, HB.out⟩
    have HB1 := Lib.hid hb
    clear hb
    obtain ⟨xb, xo, s, hA, hxb, hs, d0, d1, ⟨sc1, sc2⟩, hsl, hsr⟩ := hxr.at_ hlt
    obtain ⟨rfl, rfl⟩ : zb = xb ∧ zo = xo := by simpa using hA
    have HS := Lib.hid hs
    have HSR := Lib.hid hsr
    have HSL := Lib.hid hsl
    clear hs hsr hsl hA hxr
    obtain ⟨sA, sn, sc, sx, se⟩ := s
    simp only at d0 d1 sc1 sc2
    have hkk : (k : Int) < (n : Int) := by omega
    have h0n : 0 < n := by omega
    by_cases hsn : sn = N
    rotate_left
    · have hne : ((sn : Int) != (N : Int)) = true := by rw [bne_iff_ne]; omega
      have he : (T, E) = (0, 10) := by
        rw [← HE.out]
        refine stars_stop (by rw [HL.out]; exact h0) (by rw [HL.out]; exact h20) HPRE.out HS.out ?_ (by decide)
        unfold starErr
        rw [if_pos (.inl (by rw [HN.out]; have := HSL.out; simp only at this ⊢; omega))]
      cases he
      go_wp2_with fail
      refine Fx.regionW (fun W f w' => Below W.heap.size W w') (by kernel_rfl) (by kernel_rfl) ?_ ?_
      · intro f hf0
        exact below_drewN (Below.refl _ _) 1
      repeat (first
        | (refine Fx.skip_ (by rfl) (fun f w h => h) ?_; simp only [Act.put, List.setIfInBounds_toArray, List.set_cons_zero, List.set_cons_succ])
        | (refine Fx.val_ ?_ (by rfl) ?_ (fun f w h => h) ?_
           rotate_left
           · intro f w' hD hk
             have hb := hD
             have y0 := (hb.cell (p := ⟨zb, zo, none⟩) (by show zb < _; omega)).trans c1
             have y1 := (hb.cell (p := ⟨zb, zo + k * 2, none⟩) (by show zb < _; omega)).trans d0
             clear hk hD hb
             go_simp
             try rfl
           simp only [Act.put, List.setIfInBounds_toArray, List.set_cons_zero, List.set_cons_succ]))
      refine Fx.nil_ ?_
      intro f w2 hall hb
      try clear hall
      have HB12 := Lib.hid hb
      have HB2 := Lib.hid (show Below w.heap.size w w2 from step_below hb (by repeat' (first | exact Below.refl _ _ | exact HB1.out | refine below_drewN ?_ _ | refine Below.drew ?_ | refine Below.alloc ?_ (by first | omega | (simp; done) | (simp; omega) | (simp [World.setCell]; omega)) _ | refine Below.setCell ?_ (by first | omega | (simp; done) | (simp; omega)) _ | assumption)))
      have hz2 := hb.size
      try simp only [World.size_alloc, World.drewN, World.drew] at hz2
      clear hb
      go_wp2
      go_ret2
      exact ⟨rfl, HB2.out⟩
    subst hsn
    have heq : ((sn : Int) != (sn : Int)) = false := by simp
    cases hw : withinB (sn : Int) 1 3 with
    | false =>
      have HW := Lib.hid hw
      have he : (T, E) = (0, 10) := by
        rw [← HE.out]
        refine stars_stop (by rw [HL.out]; exact h0) (by rw [HL.out]; exact h20) HPRE.out HS.out ?_ (by decide)
        unfold starErr
        rw [if_pos (.inr (by rw [HN.out]; exact hw))]
      cases he
      clear hw
      go_wp2_with fail
      refine Fx.regionW (fun W f w' => Below W.heap.size W w') (by kernel_rfl) (by kernel_rfl) ?_ ?_
      · intro f hf0
        exact below_drewN (Below.refl _ _) 1
      repeat (first
        | (refine Fx.skip_ (by rfl) (fun f w h => h) ?_; simp only [Act.put, List.setIfInBounds_toArray, List.set_cons_zero, List.set_cons_succ])
        | (refine Fx.val_ ?_ (by rfl) ?_ (fun f w h => h) ?_
           rotate_left
           · intro f w' hD hk
             have hb := hD
             have y0 := (hb.cell (p := ⟨zb, zo, none⟩) (by show zb < _; omega)).trans c1
             have y1 := (hb.cell (p := ⟨zb, zo + k * 2, none⟩) (by show zb < _; omega)).trans d0
             clear hk hD hb
             go_simp
             try rfl
           simp only [Act.put, List.setIfInBounds_toArray, List.set_cons_zero, List.set_cons_succ]))
      refine Fx.call_ (.bool false) ?_ ?_ (by rfl) ?_ ?_ ?_
      rotate_left 2
      · intro w'
        go_simp
        refine ⟨?_, ?_⟩ <;> rfl
      · intro f w' hD hk
        exact (withinref_is _ _ _ false HW.out _).mono fun e w'' ⟨he, hw⟩ => ⟨he, hw ▸ hD⟩
      simp only [Act.put, List.setIfInBounds_toArray, List.set_cons_zero, List.set_cons_succ]
      repeat (first
        | (refine Fx.skip_ (by rfl) (fun f w h => h) ?_; simp only [Act.put, List.setIfInBounds_toArray, List.set_cons_zero, List.set_cons_succ])
        | (refine Fx.val_ ?_ (by rfl) ?_ (fun f w h => h) ?_
           rotate_left
           · intro f w' hD hk
             have hb := hD
             have y0 := (hb.cell (p := ⟨zb, zo, none⟩) (by show zb < _; omega)).trans c1
             have y1 := (hb.cell (p := ⟨zb, zo + k * 2, none⟩) (by show zb < _; omega)).trans d0
             clear hk hD hb
             go_simp
             try rfl
           simp only [Act.put, List.setIfInBounds_toArray, List.set_cons_zero, List.set_cons_succ]))
      refine Fx.nil_ ?_
      intro f w2 hall hb
      try clear hall
      have HB12 := Lib.hid hb
      have HB2 := Lib.hid (show Below w.heap.size w w2 from step_below hb (by repeat' (first | exact Below.refl _ _ | exact HB1.out | refine below_drewN ?_ _ | refine Below.drew ?_ | refine Below.alloc ?_ (by first | omega | (simp; done) | (simp; omega) | (simp [World.setCell]; omega)) _ | refine Below.setCell ?_ (by first | omega | (simp; done) | (simp; omega)) _ | assumption)))
      have hz2 := hb.size
      try simp only [World.size_alloc, World.drewN, World.drew] at hz2
      clear hb
      go_wp2
      go_ret2
      exact ⟨rfl, HB2.out⟩
    | true =>
      have HW := Lib.hid hw
      have hn13 := (withinB_iff _ _ _).1 hw
      clear hw
      go_wp2_with fail
      refine Fx.regionW (fun W f w' => Below W.heap.size W w') (by kernel_rfl) (by kernel_rfl) ?_ ?_
      · intro f hf0
        exact below_drewN (Below.refl _ _) 1
      repeat (first
        | (refine Fx.skip_ (by rfl) (fun f w h => h) ?_; simp only [Act.put, List.setIfInBounds_toArray, List.set_cons_zero, List.set_cons_succ])
        | (refine Fx.val_ ?_ (by rfl) ?_ (fun f w h => h) ?_
           rotate_left
           · intro f w' hD hk
             have hb := hD
             have y0 := (hb.cell (p := ⟨zb, zo, none⟩) (by show zb < _; omega)).trans c1
             have y1 := (hb.cell (p := ⟨zb, zo + k * 2, none⟩) (by show zb < _; omega)).trans d0
             clear hk hD hb
             go_simp
             try rfl
           simp only [Act.put, List.setIfInBounds_toArray, List.set_cons_zero, List.set_cons_succ]))
      refine Fx.call_ (.bool true) ?_ ?_ (by rfl) ?_ ?_ ?_
      rotate_left 2
      · intro w'
        go_simp
        refine ⟨?_, ?_⟩ <;> rfl
      · intro f w' hD hk
        exact (withinref_is _ _ _ true HW.out _).mono fun e w'' ⟨he, hw⟩ => ⟨he, hw ▸ hD⟩
      simp only [Act.put, List.setIfInBounds_toArray, List.set_cons_zero, List.set_cons_succ]
      repeat (first
        | (refine Fx.skip_ (by rfl) (fun f w h => h) ?_; simp only [Act.put, List.setIfInBounds_toArray, List.set_cons_zero, List.set_cons_succ])
        | (refine Fx.val_ ?_ (by rfl) ?_ (fun f w h => h) ?_
           rotate_left
           · intro f w' hD hk
             have hb := hD
             have y0 := (hb.cell (p := ⟨zb, zo, none⟩) (by show zb < _; omega)).trans c1
             have y1 := (hb.cell (p := ⟨zb, zo + k * 2, none⟩) (by show zb < _; omega)).trans d0
             clear hk hD hb
             go_simp
             try rfl
           simp only [Act.put, List.setIfInBounds_toArray, List.set_cons_zero, List.set_cons_succ]))
      refine Fx.nil_ ?_
      intro f w2 hall hb
      try clear hall
      have HB12 := Lib.hid hb
      have HB2 := Lib.hid (show Below w.heap.size w w2 from step_below hb (by repeat' (first | exact Below.refl _ _ | exact HB1.out | refine below_drewN ?_ _ | refine Below.drew ?_ | refine Below.alloc ?_ (by first | omega | (simp; done) | (simp; omega) | (simp [World.setCell]; omega)) _ | refine Below.setCell ?_ (by first | omega | (simp; done) | (simp; omega)) _ | assumption)))
      have hz2 := hb.size
      try simp only [World.size_alloc, World.drewN, World.drew] at hz2
      clear hb
      have e0 := (HB12.out.cell (p := ⟨zb, zo + k * 2, none⟩) (by show zb < _; omega)).trans d0
      have e1 := (HB12.out.cell (p := ⟨zb, zo + k * 2 + 1, none⟩) (by show zb < _; omega)).trans d1
      have e2 := (HB12.out.cell (p := ⟨zb, zo, none⟩) (by show zb < _; omega)).trans c1
      have hsr2 := (HSR.out.below HB12.out).more HB12.out.size
      have HSR2 := Lib.hid hsr2
      clear hsr2 c1 d0 d1
      go_wp2
      go_loopw [5] (fun i wr => ∃ j : Nat, j ≤ sn ∧ i = .int .i64 j ∧ wr = w2 ∧ smallL 100 (sx.take j) = true) (fun i _ => sn - (intOf i).toNat)
      case atStart => exact ⟨0, by omega, rfl, by trivial, rfl⟩
      case round =>
        obtain ⟨j, hjn, rfl, rfl, hsm⟩ := hrel
        have HSM := Lib.hid hsm
        clear hsm
        by_cases hlt2 : j < sn
        · obtain ⟨pb, po, z, rfl, -, hz, g0⟩ := HSR2.out.int_ hlt2
          have hjj : (j : Int) < (sn : Int) := by omega
          have hst : sx.take (j + 1) = sx.take j ++ [z] := by rw [List.take_add_one, hz]; rfl
          cases hwz : withinB z (-100) 100
          · have hs : smallL 100 sx = false := by
              cases hh : smallL 100 sx
              · rfl
              · have := List.all_eq_true.1 hh z (List.mem_of_getElem? hz)
                rw [hwz] at this; cases this
            have he : (T, E) = (0, 2) := by
              rw [← HE.out]
              refine stars_stop (by rw [HL.out]; exact h0) (by rw [HL.out]; exact h20) HPRE.out HS.out ?_ (by decide)
              unfold starErr
              rw [HN.out, if_neg (by rw [HW.out]; have := HSL.out; (try simp only at this); simp [this]), if_pos (.inl hs)]
            cases he
            have HWZ := Lib.hid hwz
            clear hz hst hwz hs
            go_wp2_with fail
            refine (withinref_is _ _ _ false HWZ.out _).mono ?_
            rintro e w' ⟨rfl, rfl⟩
            go_wp2
            go_ret2
            exact ⟨rfl, HB2.out⟩
          · have hs2 : smallL 100 (sx.take (j + 1)) = true := by
              have := HSM.out
              unfold smallL at this ⊢
              rw [hst, List.all_append, this]
              simpa using hwz
            have HWZ := Lib.hid hwz
            have HS2 := Lib.hid hs2
            clear hz hst hwz hs2
            go_wp2_with fail
            refine (withinref_is _ _ _ true HWZ.out _).mono ?_
            rintro e w' ⟨rfl, rfl⟩
            go_wp2
            go_roundw
            case rel => exact ⟨j + 1, by omega, by go_num, by trivial, HS2.out⟩
            case measure => simp [intOf]; omega
        · obtain rfl : sn = j := by omega
          have hall : smallL 100 sx = true := by
            have := HSM.out
            rwa [List.take_of_length_le (by have := HSL.out; (try simp only at this); omega)] at this
          cases hwe : withinB se (-1000) 1000
          · have he : (T, E) = (0, 2) := by
              rw [← HE.out]
              refine stars_stop (by rw [HL.out]; exact h0) (by rw [HL.out]; exact h20) HPRE.out HS.out ?_ (by decide)
              unfold starErr
              rw [HN.out, if_neg (by rw [HW.out]; have := HSL.out; (try simp only at this); simp [this]), if_pos (.inr (by rw [small_one]; exact hwe))]
            cases he
            have HWE := Lib.hid hwe
            clear hwe hall
            go_wp2_with fail
            refine (withinref_is _ _ _ false HWE.out _).mono ?_
            rintro e w' ⟨rfl, rfl⟩
            go_wp2
            go_ret2
            exact ⟨rfl, HB2.out⟩
          · have hok : starErr (termsN l) ⟨sA, sn, sc, sx, se⟩ = 0 := by
              unfold starErr
              rw [HN.out, if_neg (by rw [HW.out]; have := HSL.out; (try simp only at this); simp [this]), if_neg (by rw [small_one, hall]; simp [hwe])]
            have HOK := Lib.hid hok
            have HWE := Lib.hid hwe
            clear hwe hall hok
            go_wp2_with fail
            refine (withinref_is _ _ _ true HWE.out _).mono ?_
            rintro e w' ⟨rfl, rfl⟩
            go_wp2
            go_roundw
            case rel =>
              refine ⟨k + 1, by omega, by go_num, HB2.out, fun j t hj ht => ?_⟩
              by_cases hjk : j < k
              · exact HPRE.out j t hjk ht
              · obtain rfl : k = j := by omega
                obtain rfl := Option.some.inj (HS.out.symm.trans ht)
                exact HOK.out
            case measure => simp [intOf]; omega
end Go.Proofs.Ytdidcpealabaiaa

end

section
/- Copies of stars and of a model, each in memory of its own. -/
namespace Go.Proofs.Ytdidcpealabaiaa
open Go Go.RowKit

def Star.own (B : Nat) (w : World) (r : Star) : Prop := w.ownsRow B 3 1 (.slice r.A r.n r.c) r.n (r.xs.map (.int .i64))
/-- Stars in memory of their own. -/
structure StarsOwn (B : Nat) (S : List Star) (u : Value) (k : Nat) (w : World) : Prop where
  row : w.ownsRow B 112 2 u k (starCells S)
  each : ∀ r ∈ S, r.own B w
theorem StarsOwn.nil (B : Nat) (w : World) : StarsOwn B [] (.slice none 0 0) 0 w := ⟨World.ownsRow_nil _ _ _ _, fun _ h => absurd h (by simp)⟩
theorem StarsOwn.below {B : Nat} {S : List Star} {u : Value} {k : Nat} {w w' : World} (h : StarsOwn B S u k w) (hb : Below w.heap.size w w') : StarsOwn B S u k w' :=
  ⟨own_below h.row hb (Nat.le_refl _), fun r hr => own_below (h.each r hr) hb (Nat.le_refl _)⟩
theorem StarsOwn.at_ {B : Nat} {S : List Star} {A : Option Addr} {k c : Nat} {w : World} (h : StarsOwn B S (.slice A k c) k w) : StarsAt S A k w :=
  ⟨own_reads2 h.row, fun r hr => ⟨own_cap (h.each r hr), own_reads2 (h.each r hr)⟩⟩
theorem starCells_snoc (S : List Star) (s : Star) : starCells (S ++ [s]) = starCells S ++ s.cells := by unfold starCells; simp

structure SrD (B k : Nat) (u : Value) (S : List Star) (xs : List Int) (er : Int) (sn : Nat) (W : World) (g : Nat → Option Pick2) (f : Nat → Bool) (w' : World) : Prop where
  bel : Below B W w'
  pre : f 14 = false → Below W.heap.size W w'
  c6 : f 14 = false → ∀ x, g 6 = some x → w'.ownsRow B 3 1 (.slice x.1.1 sn x.1.2) sn (xs.map (.int .i64))
  c13 : f 14 = false → ∀ x y, g 6 = some x → g 13 = some y → ∃ q, y.1.1 = some ⟨q, 0, none⟩ ∧ Blk w' q 112 #[.slice x.1.1 sn x.1.2, .int .i64 er]
  post : ∀ x z, g 6 = some x → g 14 = some z → StarsOwn B (S ++ [⟨x.1.1, sn, x.1.2, xs, er⟩]) (.slice z.1.1 (k + 1) z.1.2) (k + 1) w'
section
variable {B k sn i : Nat} {u : Value} {S : List Star} {xs : List Int} {er : Int} {W w' w'' : World} {g : Nat → Option Pick2} {f : Nat → Bool}
theorem SrD.start : SrD B k u S xs er sn W (fun _ => none) f (W.drewN 1) := ⟨below_drewN (Below.refl _ _) 1, fun _ => below_drewN (Below.refl _ _) 1, fun _ _ h => (nomatch h), fun _ _ _ h => (nomatch h), fun _ _ h => (nomatch h)⟩
theorem SrD.same (h : SrD B k u S xs er sn W g f w') (hi : i ≠ 14) : SrD B k u S xs er sn W g (Fx.add f i) w' :=
  ⟨h.bel, fun hf => h.pre (by rwa [add_ne' hi] at hf), fun hf => h.c6 (by rwa [add_ne' hi] at hf), fun hf => h.c13 (by rwa [add_ne' hi] at hf), h.post⟩
theorem SrD.copy (h : SrD B k u S xs er sn W g f w') (hB : B ≤ W.heap.size) (h14 : f 14 = false) (g13 : g 13 = none) (g14 : g 14 = none) (hb : Below w'.heap.size w' w'') (x : Pick2) (ho : w''.ownsRow w'.heap.size 3 1 (.slice x.1.1 sn x.1.2) sn (xs.map (.int .i64))) :
    SrD B k u S xs er sn W (Fx.upd g 6 x) (Fx.add f 6) w'' := by
  have hz := (h.pre h14).size
  refine ⟨h.bel.trans (hb.mono (by omega)), fun _ => step_below hb (h.pre h14), fun _ y hy => ?_, fun _ y z hy hz => ?_, fun y z hy hz => ?_⟩
  · rw [Fx.upd_same] at hy
    cases hy
    exact own_mono ho (by omega)
  · rw [upd_ne (by decide), g13] at hz
    cases hz
  · rw [upd_ne (by decide), g14] at hz
    cases hz
theorem SrD.lit (h : SrD B k u S xs er sn W g f w') (hB : B ≤ W.heap.size) (h14 : f 14 = false) (g14 : g 14 = none) {x : Pick2} (hx : g 6 = some x) :
    SrD B k u S xs er sn W (Fx.upd g 13 ((some ⟨w'.heap.size, 0, none⟩, 1), (none, 0))) (Fx.add f 13) (w'.alloc (.cells #[.slice x.1.1 sn x.1.2, .int .i64 er] 112)) := by
  have hb : Below w'.heap.size w' (w'.alloc (.cells #[.slice x.1.1 sn x.1.2, .int .i64 er] 112)) := (Below.refl _ _).alloc (Nat.le_refl _) _
  have hz := (h.pre h14).size
  refine ⟨h.bel.trans (hb.mono (by omega)), fun _ => step_below hb (h.pre h14), fun _ y hy => ?_, fun _ y z hy hz => ?_, fun y z hy hz => ?_⟩
  · rw [upd_ne (by decide)] at hy
    exact own_below (h.c6 h14 y hy) hb (Nat.le_refl _)
  · rw [upd_ne (by decide), hx] at hy
    cases hy
    rw [Fx.upd_same] at hz
    cases hz
    exact ⟨_, rfl, Blk.new _ _ _⟩
  · rw [upd_ne (by decide), g14] at hz
    cases hz
theorem info_star : (Try.prog.info? 112).map (fun i => (i.zero, i.size, i.bytes)) = some (some (.agg #[.slice none 0 0, .int .i64 0]), 2, 32) := by kernel_rfl
theorem SrD.app (h : SrD B k u S xs er sn W g f w') (hB : B ≤ W.heap.size) (hS : StarsOwn B S u k W) (hk : k ≤ 100000) (h14 : f 14 = false) {x y : Pick2} (hx : g 6 = some x) (hy : g 13 = some y) :
    ∃ (z : Pick2) (w'' : World), (Builtin.append_ #[38, 38] 38 #[u, .slice y.1.1 1 1]).run Try.prog w' = .ok (.slice z.1.1 (k + 1) z.1.2) w'' ∧ SrD B k u S xs er sn W (Fx.upd g 14 z) (Fx.add f 14) w'' := by
  obtain ⟨i0, hi0, hz0, hz1, hz2⟩ := info_parts info_star
  obtain ⟨q, hq, hblk⟩ := h.c13 h14 x y hx hy
  have hz := (h.pre h14).size
  have ho := (hS.below (h.pre h14))
  have hr : Reads w' w'.heap.size 2 (some ⟨q, 0, none⟩) 1 [.slice x.1.1 sn x.1.2, .int .i64 er] := Blk.reads hblk rfl
  rw [hq]
  obtain ⟨v', W2, hrun, o2', hg2, -⟩ := run_append_any (P := Try.prog) w' B 38 38 112 i0 _ 2 32 Try.underlying38 hi0 hz0 hz1 hz2 rfl (by omega) u k (starCells S) ho.row w'.heap.size (some ⟨q, 0, none⟩) 1 1 [.slice x.1.1 sn x.1.2, .int .i64 er] hr (by simp [Value.oneCell']) (by unfold maxLen; omega) (by omega) (by omega)
  obtain ⟨A2, c2, rfl, -⟩ := own_reads o2'
  refine ⟨((A2, c2), (none, 0)), W2, hrun, h.bel.grown hg2 (by omega) (fun q hq => (own_lt ho.row hq).1), fun hf => ?_, fun hf => ?_, fun hf => ?_, fun x' z hx' hz => ?_⟩
  · rw [add_same] at hf; cases hf
  · rw [add_same] at hf; cases hf
  · rw [add_same] at hf; cases hf
  · rw [upd_ne (by decide), hx] at hx'
    cases hx'
    rw [Fx.upd_same] at hz
    cases hz
    refine ⟨by rw [starCells_snoc]; exact o2', fun r hr => ?_⟩
    rcases List.mem_append.1 hr with hr | hr
    · exact own_apart (ho.each r hr) ho.row (by decide) hg2
    · obtain rfl : r = _ := by simpa using hr
      exact own_apart (h.c6 h14 x hx) ho.row (by decide) hg2
end

/-- The stars of a copy. -/
def StarsPost (l : List Star) (n : Nat) (w : World) (e : Ending) (w' : World) : Prop :=
  ∃ A c S, e = .returned (.slice A n c) ∧ Below w.heap.size w w' ∧ S.map (fun s => (s.xs, s.er)) = l.map (fun s => (s.xs, s.er)) ∧ StarsOwn w.heap.size S (.slice A n c) n w'

set_option maxRecDepth 100000 in
set_option maxHeartbeats 4000000 in
theorem cstars_any (l : List Star) (A : Option Addr) (n c : Nat) (w : World) (hx : StarsAt l A n w) (hn : n ≤ 1000) (h6 : ∀ s ∈ l, s.n ≤ 1000) :
    Calls Try.prog 21 #[.slice A n c] w (StarsPost l n w) := by
  have hl := hx.len
  have HX := Lib.hid hx
  have HL := Lib.hid hl
  have H6 := Lib.hid h6
  clear hx hl h6
  go_enter Try.func21, Try.ntmps21
  go_wp2
  go_loopw [3, 4] (fun o i wr => ∃ (k : Nat) (S : List Star), k ≤ n ∧ i = .int .i64 k ∧ Below w.heap.size w wr ∧ S.map (fun s => (s.xs, s.er)) = (l.take k).map (fun s => (s.xs, s.er)) ∧ StarsOwn w.heap.size S o k wr) (fun _ i _ => n - (intOf i).toNat)
  case atStart => exact ⟨0, [], by omega, rfl, Below.refl _ _, by simp, StarsOwn.nil _ _⟩
  case round =>
    obtain ⟨k, S, hk, rfl, hb, hS, ho⟩ := hrel
    have HO := Lib.hid ho
    have HBR := Lib.hid hb
    have HS := Lib.hid hS
    have hbr := hb.size
    clear ho hb hS
    by_cases hlt : k < n
    · obtain ⟨xb, xo, s, rfl, hxb, hs, c0, c1, ⟨sc1, sc2⟩, hsl, hsr⟩ := HX.out.at_ hlt
      have hsn := H6.out s (List.mem_of_getElem? hs)
      obtain ⟨sA, sn, sc, sx, se⟩ := s
      simp only at c0 c1 sc1 sc2 hsl hsr hsn
      have HSR := Lib.hid ((hsr.below HBR.out).more hbr)
      have HSS := Lib.hid hs
      have C0 := Lib.hid ((HBR.out.cell (p := ⟨xb, xo + k * 2, none⟩) hxb).trans c0)
      have C1 := Lib.hid ((HBR.out.cell (p := ⟨xb, xo + k * 2 + 1, none⟩) hxb).trans c1)
      have hkk : (k : Int) < (n : Int) := by omega
      clear hsl hsr hs c0 c1
      go_wp2_with fail
      refine Fx.regionM (fun W (g : Nat → Option Pick2) f w' => SrD w.heap.size k u3 S sx se sn W g f w') (fun i (x : Pick2) => if i = 14 then .slice x.1.1 (k + 1) x.1.2 else if i = 13 then .slice x.1.1 1 1 else .slice x.1.1 sn x.1.2) (by kernel_rfl) ?_ ?_
      · intro f hf0
        exact SrD.start
      first
      | (refine Fx.WM.skip 0 (by rfl) (by kernel_rfl) (by kernel_rfl) (by kernel_rfl) (by rfl) (fun g f w h => h.same (by decide)) ?_; simp only [Act.put, List.setIfInBounds_toArray, List.set_cons_zero, List.set_cons_succ])
      | (refine Fx.WM.val_ 0 ?_ (by rfl) (by kernel_rfl) (by kernel_rfl) (by kernel_rfl) (by rfl) ?_ (fun g f w h => h.same (by decide)) ?_
         rotate_left
         · intro g f w' hx hD hk
           obtain hsd := id hD
           have y0 := (hsd.bel.cell (p := ⟨xb, xo + k * 2, none⟩) hxb).trans C0.out
           have y1 := (hsd.bel.cell (p := ⟨xb, xo + k * 2 + 1, none⟩) hxb).trans C1.out
           clear hx hk hD hsd
           go_simp
           try rfl
         simp only [Act.put, List.setIfInBounds_toArray, List.set_cons_zero, List.set_cons_succ])
      first
      | (refine Fx.WM.skip 1 (by rfl) (by kernel_rfl) (by kernel_rfl) (by kernel_rfl) (by rfl) (fun g f w h => h.same (by decide)) ?_; simp only [Act.put, List.setIfInBounds_toArray, List.set_cons_zero, List.set_cons_succ])
      | (refine Fx.WM.val_ 1 ?_ (by rfl) (by kernel_rfl) (by kernel_rfl) (by kernel_rfl) (by rfl) ?_ (fun g f w h => h.same (by decide)) ?_
         rotate_left
         · intro g f w' hx hD hk
           obtain hsd := id hD
           have y0 := (hsd.bel.cell (p := ⟨xb, xo + k * 2, none⟩) hxb).trans C0.out
           have y1 := (hsd.bel.cell (p := ⟨xb, xo + k * 2 + 1, none⟩) hxb).trans C1.out
           clear hx hk hD hsd
           go_simp
           try rfl
         simp only [Act.put, List.setIfInBounds_toArray, List.set_cons_zero, List.set_cons_succ])
      first
      | (refine Fx.WM.skip 2 (by rfl) (by kernel_rfl) (by kernel_rfl) (by kernel_rfl) (by rfl) (fun g f w h => h.same (by decide)) ?_; simp only [Act.put, List.setIfInBounds_toArray, List.set_cons_zero, List.set_cons_succ])
      | (refine Fx.WM.val_ 2 ?_ (by rfl) (by kernel_rfl) (by kernel_rfl) (by kernel_rfl) (by rfl) ?_ (fun g f w h => h.same (by decide)) ?_
         rotate_left
         · intro g f w' hx hD hk
           obtain hsd := id hD
           have y0 := (hsd.bel.cell (p := ⟨xb, xo + k * 2, none⟩) hxb).trans C0.out
           have y1 := (hsd.bel.cell (p := ⟨xb, xo + k * 2 + 1, none⟩) hxb).trans C1.out
           clear hx hk hD hsd
           go_simp
           try rfl
         simp only [Act.put, List.setIfInBounds_toArray, List.set_cons_zero, List.set_cons_succ])
      first
      | (refine Fx.WM.skip 3 (by rfl) (by kernel_rfl) (by kernel_rfl) (by kernel_rfl) (by rfl) (fun g f w h => h.same (by decide)) ?_; simp only [Act.put, List.setIfInBounds_toArray, List.set_cons_zero, List.set_cons_succ])
      | (refine Fx.WM.val_ 3 ?_ (by rfl) (by kernel_rfl) (by kernel_rfl) (by kernel_rfl) (by rfl) ?_ (fun g f w h => h.same (by decide)) ?_
         rotate_left
         · intro g f w' hx hD hk
           obtain hsd := id hD
           have y0 := (hsd.bel.cell (p := ⟨xb, xo + k * 2, none⟩) hxb).trans C0.out
           have y1 := (hsd.bel.cell (p := ⟨xb, xo + k * 2 + 1, none⟩) hxb).trans C1.out
           clear hx hk hD hsd
           go_simp
           try rfl
         simp only [Act.put, List.setIfInBounds_toArray, List.set_cons_zero, List.set_cons_succ])
      first
      | (refine Fx.WM.skip 4 (by rfl) (by kernel_rfl) (by kernel_rfl) (by kernel_rfl) (by rfl) (fun g f w h => h.same (by decide)) ?_; simp only [Act.put, List.setIfInBounds_toArray, List.set_cons_zero, List.set_cons_succ])
      | (refine Fx.WM.val_ 4 ?_ (by rfl) (by kernel_rfl) (by kernel_rfl) (by kernel_rfl) (by rfl) ?_ (fun g f w h => h.same (by decide)) ?_
         rotate_left
         · intro g f w' hx hD hk
           obtain hsd := id hD
           have y0 := (hsd.bel.cell (p := ⟨xb, xo + k * 2, none⟩) hxb).trans C0.out
           have y1 := (hsd.bel.cell (p := ⟨xb, xo + k * 2 + 1, none⟩) hxb).trans C1.out
           clear hx hk hD hsd
           go_simp
           try rfl
         simp only [Act.put, List.setIfInBounds_toArray, List.set_cons_zero, List.set_cons_succ])
      first
      | (refine Fx.WM.skip 5 (by rfl) (by kernel_rfl) (by kernel_rfl) (by kernel_rfl) (by rfl) (fun g f w h => h.same (by decide)) ?_; simp only [Act.put, List.setIfInBounds_toArray, List.set_cons_zero, List.set_cons_succ])
      | (refine Fx.WM.val_ 5 ?_ (by rfl) (by kernel_rfl) (by kernel_rfl) (by kernel_rfl) (by rfl) ?_ (fun g f w h => h.same (by decide)) ?_
         rotate_left
         · intro g f w' hx hD hk
           obtain hsd := id hD
           have y0 := (hsd.bel.cell (p := ⟨xb, xo + k * 2, none⟩) hxb).trans C0.out
           have y1 := (hsd.bel.cell (p := ⟨xb, xo + k * 2 + 1, none⟩) hxb).trans C1.out
           clear hx hk hD hsd
           go_simp
           try rfl
         simp only [Act.put, List.setIfInBounds_toArray, List.set_cons_zero, List.set_cons_succ])
      first
      | (refine Fx.WM.skip 7 (by rfl) (by kernel_rfl) (by kernel_rfl) (by kernel_rfl) (by rfl) (fun g f w h => h.same (by decide)) ?_; simp only [Act.put, List.setIfInBounds_toArray, List.set_cons_zero, List.set_cons_succ])
      | (refine Fx.WM.val_ 7 ?_ (by rfl) (by kernel_rfl) (by kernel_rfl) (by kernel_rfl) (by rfl) ?_ (fun g f w h => h.same (by decide)) ?_
         rotate_left
         · intro g f w' hx hD hk
           obtain hsd := id hD
           have y0 := (hsd.bel.cell (p := ⟨xb, xo + k * 2, none⟩) hxb).trans C0.out
           have y1 := (hsd.bel.cell (p := ⟨xb, xo + k * 2 + 1, none⟩) hxb).trans C1.out
           clear hx hk hD hsd
           go_simp
           try rfl
         simp only [Act.put, List.setIfInBounds_toArray, List.set_cons_zero, List.set_cons_succ])
      first
      | (refine Fx.WM.skip 8 (by rfl) (by kernel_rfl) (by kernel_rfl) (by kernel_rfl) (by rfl) (fun g f w h => h.same (by decide)) ?_; simp only [Act.put, List.setIfInBounds_toArray, List.set_cons_zero, List.set_cons_succ])
      | (refine Fx.WM.val_ 8 ?_ (by rfl) (by kernel_rfl) (by kernel_rfl) (by kernel_rfl) (by rfl) ?_ (fun g f w h => h.same (by decide)) ?_
         rotate_left
         · intro g f w' hx hD hk
           obtain hsd := id hD
           have y0 := (hsd.bel.cell (p := ⟨xb, xo + k * 2, none⟩) hxb).trans C0.out
           have y1 := (hsd.bel.cell (p := ⟨xb, xo + k * 2 + 1, none⟩) hxb).trans C1.out
           clear hx hk hD hsd
           go_simp
           try rfl
         simp only [Act.put, List.setIfInBounds_toArray, List.set_cons_zero, List.set_cons_succ])
      first
      | (refine Fx.WM.skip 9 (by rfl) (by kernel_rfl) (by kernel_rfl) (by kernel_rfl) (by rfl) (fun g f w h => h.same (by decide)) ?_; simp only [Act.put, List.setIfInBounds_toArray, List.set_cons_zero, List.set_cons_succ])
      | (refine Fx.WM.val_ 9 ?_ (by rfl) (by kernel_rfl) (by kernel_rfl) (by kernel_rfl) (by rfl) ?_ (fun g f w h => h.same (by decide)) ?_
         rotate_left
         · intro g f w' hx hD hk
           obtain hsd := id hD
           have y0 := (hsd.bel.cell (p := ⟨xb, xo + k * 2, none⟩) hxb).trans C0.out
           have y1 := (hsd.bel.cell (p := ⟨xb, xo + k * 2 + 1, none⟩) hxb).trans C1.out
           clear hx hk hD hsd
           go_simp
           try rfl
         simp only [Act.put, List.setIfInBounds_toArray, List.set_cons_zero, List.set_cons_succ])
      first
      | (refine Fx.WM.skip 10 (by rfl) (by kernel_rfl) (by kernel_rfl) (by kernel_rfl) (by rfl) (fun g f w h => h.same (by decide)) ?_; simp only [Act.put, List.setIfInBounds_toArray, List.set_cons_zero, List.set_cons_succ])
      | (refine Fx.WM.val_ 10 ?_ (by rfl) (by kernel_rfl) (by kernel_rfl) (by kernel_rfl) (by rfl) ?_ (fun g f w h => h.same (by decide)) ?_
         rotate_left
         · intro g f w' hx hD hk
           obtain hsd := id hD
           have y0 := (hsd.bel.cell (p := ⟨xb, xo + k * 2, none⟩) hxb).trans C0.out
           have y1 := (hsd.bel.cell (p := ⟨xb, xo + k * 2 + 1, none⟩) hxb).trans C1.out
           clear hx hk hD hsd
           go_simp
           try rfl
         simp only [Act.put, List.setIfInBounds_toArray, List.set_cons_zero, List.set_cons_succ])
      first
      | (refine Fx.WM.skip 11 (by rfl) (by kernel_rfl) (by kernel_rfl) (by kernel_rfl) (by rfl) (fun g f w h => h.same (by decide)) ?_; simp only [Act.put, List.setIfInBounds_toArray, List.set_cons_zero, List.set_cons_succ])
      | (refine Fx.WM.val_ 11 ?_ (by rfl) (by kernel_rfl) (by kernel_rfl) (by kernel_rfl) (by rfl) ?_ (fun g f w h => h.same (by decide)) ?_
         rotate_left
         · intro g f w' hx hD hk
           obtain hsd := id hD
           have y0 := (hsd.bel.cell (p := ⟨xb, xo + k * 2, none⟩) hxb).trans C0.out
           have y1 := (hsd.bel.cell (p := ⟨xb, xo + k * 2 + 1, none⟩) hxb).trans C1.out
           clear hx hk hD hsd
           go_simp
           try rfl
         simp only [Act.put, List.setIfInBounds_toArray, List.set_cons_zero, List.set_cons_succ])
      refine Fx.WM.choose 6 (by rfl) (by kernel_rfl) (by rfl) ?_ ?_
      · skip
        refine Fx.Chooses.call ?_ ?_ (by rfl) ?_ ?_
        rotate_left 2
        · intro w'
          go_simp
          refine ⟨?_, ?_⟩ <;> rfl
        · intro f w' hD hk
          exact (copyints_any sA sn sc w'.heap.size sx w' ((HSR.out.below (hD.pre (hk.2.1 14 (by kernel_rfl)))).more (hD.pre (hk.2.1 14 (by kernel_rfl))).size) (Nat.le_refl _) (by omega)).mono fun e w'' ⟨A', c', he, hb, hr, ho⟩ => ⟨((A', c'), (none, 0)), he, hD.copy hbr (hk.2.1 14 (by kernel_rfl)) (by rfl) (by rfl) hb _ ho⟩
      intro x
      simp only [Act.put, List.setIfInBounds_toArray, List.set_cons_zero, List.set_cons_succ]
      first
      | (refine Fx.WM.skip 12 (by rfl) (by kernel_rfl) (by kernel_rfl) (by kernel_rfl) (by rfl) (fun g f w h => h.same (by decide)) ?_; simp only [Act.put, List.setIfInBounds_toArray, List.set_cons_zero, List.set_cons_succ])
      | (refine Fx.WM.val_ 12 ?_ (by rfl) (by kernel_rfl) (by kernel_rfl) (by kernel_rfl) (by rfl) ?_ (fun g f w h => h.same (by decide)) ?_
         rotate_left
         · intro g f w' hx hD hk
           obtain hsd := id hD
           clear hx hk hD hsd
           go_simp
           try rfl
         simp only [Act.put, List.setIfInBounds_toArray, List.set_cons_zero, List.set_cons_succ])
      refine Fx.WM.choose 13 (by rfl) (by kernel_rfl) (by rfl) ?_ ?_
      · skip
        refine Fx.Chooses.make (by rfl) ?_
        intro f w' hD hk
        refine ⟨((some ⟨w'.heap.size, 0, none⟩, 1), (none, 0)), w'.alloc (.cells #[.slice x.1.1 sn x.1.2, .int .i64 se] 112), ?_, ?_⟩
        · clear hk hD
          go_simp
          try rfl
        · exact hD.lit hbr (hk.2.1 14 (by kernel_rfl)) (by rfl) (by rfl)
      intro y
      simp only [Act.put, List.setIfInBounds_toArray, List.set_cons_zero, List.set_cons_succ]
      refine Fx.WM.choose 14 (by rfl) (by kernel_rfl) (by rfl) ?_ ?_
      · skip
        refine Fx.Chooses.make (by rfl) ?_
        intro f w' hD hk
        obtain ⟨z', w2', hrun, hD2⟩ := SrD.app hD hbr HO.out (by omega) hk.1 (by rfl) (by rfl)
        exact ⟨z', w2', exec_append _ _ _ rfl hrun, hD2⟩
      intro z
      simp only [Act.put, List.setIfInBounds_toArray, List.set_cons_zero, List.set_cons_succ]
      first
      | (refine Fx.WM.skip 15 (by rfl) (by kernel_rfl) (by kernel_rfl) (by kernel_rfl) (by rfl) (fun g f w h => h.same (by decide)) ?_; simp only [Act.put, List.setIfInBounds_toArray, List.set_cons_zero, List.set_cons_succ])
      | (refine Fx.WM.val_ 15 ?_ (by rfl) (by kernel_rfl) (by kernel_rfl) (by kernel_rfl) (by rfl) ?_ (fun g f w h => h.same (by decide)) ?_
         rotate_left
         · intro g f w' hx hD hk
           obtain hsd := id hD
           clear hx hk hD hsd
           go_simp
           try rfl
         simp only [Act.put, List.setIfInBounds_toArray, List.set_cons_zero, List.set_cons_succ])
      refine Fx.WM.nil (by kernel_rfl) ?_
      intro wz hsd
      have hpost := hsd.post x z (by rfl) (by rfl)
      have HPOST := Lib.hid hpost
      have HBZ := Lib.hid (HBR.out.trans hsd.bel)
      clear hpost hsd
      go_wp2
      go_roundw
      case rel =>
        refine ⟨k + 1, S ++ [⟨x.1.1, sn, x.1.2, sx, se⟩], by omega, by go_num, HBZ.out, ?_, HPOST.out⟩
        rw [List.map_append, HS.out, List.take_add_one, HSS.out, List.map_append]
        rfl
      case measure => simp [intOf]; omega
    · have hkn : k = n := by omega
      rw [hkn] at HO HS
      clear hkn
      obtain ⟨A3, c3, rfl, -⟩ := own_reads HO.out.row
      go_wp2
      go_ret
      exact ⟨A3, c3, S, rfl, HBR.out, by rw [HS.out, List.take_of_length_le (by rw [HL.out]; omega)], HO.out⟩
end Go.Proofs.Ytdidcpealabaiaa

end
