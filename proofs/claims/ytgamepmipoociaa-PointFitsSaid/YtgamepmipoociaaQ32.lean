import Derived.Test.YtgamepmipoociaaQ31

section
/- The check of a model as the best one of stars, and predictions: the reference's contracts. -/
namespace Go.Proofs.Ytgamepmipoociaa
open Go Go.RowKit

set_option maxRecDepth 100000 in
theorem rvalue_is (A : Option Addr) (n c : Nat) (T : List Int) (D : Int) (B : Option Addr) (cb : Nat) (S : List Int) (b v : Int) (hv : dotTo T S n = v) (w : World) (hx : Reads w w.heap.size 1 A n (T.map (.int .i64))) (hy : Reads w w.heap.size 1 B n (S.map (.int .i64))) (hn : n ≤ 3) (h0 : 0 ≤ b) (hb : b ≤ 1000) (hT : ∀ z ∈ T, -1000000000000 ≤ z ∧ z ≤ 1000000000000) (hS : ∀ z ∈ S, -b ≤ z ∧ z ≤ b) :
    Calls Try.prog 110 #[.agg #[.slice A n c, .int .i64 D], .slice B n cb] w fun e w' => e = .returned (.int .i64 v) ∧ Below w.heap.size w w' := by
  have HX := Lib.hid hx
  have HY := Lib.hid hy
  have HV := Lib.hid hv
  have HT := Lib.hid hT
  have HS := Lib.hid hS
  clear hx hy hv hT hS
  go_enter Try.func110, Try.ntmps110
  go_wp2_with fail
  generalize hwn : (w.alloc (.cells #[.slice (A) n c, .int .i64 (D)] 102)) = w1
  have hbn : Below w.heap.size w w1 := by rw [← hwn]; repeat' (first | exact Below.refl _ _ | refine below_drewN ?_ _ | refine Below.drew ?_ | refine Below.alloc ?_ (by first | omega | (simp; done) | (simp; omega) | (simp [World.setCell]; omega)) _ | refine Below.setCell ?_ (by first | omega | (simp; done) | (simp; omega)) _)
  have HB1 := Lib.hid (show Below w.heap.size w w1 from hbn)
  have K0_1 := Lib.hid (show Blk w1 (w.heap.size) 102 #[.slice (A) n c, .int .i64 (D)] by rw [← hwn]; repeat' (first | exact Blk.at_ _ (by first | rfl | (simp; done) | (simp; omega)) _ _ | refine Blk.drewN ?_ _ | refine Blk.drew ?_ | refine Blk.alloc ?_ _ | refine Blk.far ?_ (by first | omega | (simp; done) | (simp; omega)) _ | assumption))
  have HN1 := Lib.hid hbn
  have hz1 := hbn.size
  clear hwn hbn
  have l0_1 : w.heap.size < w1.heap.size := K0_1.out.lt
  have z0_0_1 : w1.cell? ⟨w.heap.size, 0, none⟩ = some (.slice (A) n c) := K0_1.out.cell 0
  have z0_1_1 : w1.cell? ⟨w.heap.size, 1, none⟩ = some (.int .i64 (D)) := K0_1.out.cell 1
  go_loopw [5, 6] (fun s i wr => ∃ k : Nat, k ≤ n ∧ s = .int .i64 (dotTo T S k) ∧ i = .int .i64 k ∧ Below w.heap.size w wr ∧ Blk wr w.heap.size 102 #[.slice A n c, .int .i64 D]) (fun _ i _ => n - (intOf i).toNat)
  case atStart => exact ⟨0, by omega, rfl, rfl, HB1.out, K0_1.out⟩
  case round =>
    obtain ⟨k, hk, rfl, rfl, hb2, hk2⟩ := hrel
    obtain ⟨w2, hnm⟩ : ∃ z : World, z = wr := ⟨_, rfl⟩
    subst hnm
    have HB2 := Lib.hid hb2
    have K0_2 := Lib.hid (show Blk w2 (w.heap.size) 102 #[.slice (A) n c, .int .i64 (D)] from hk2)
    clear hb2 hk2
    have l0_2 : w.heap.size < w2.heap.size := K0_2.out.lt
    have z0_0_2 : w2.cell? ⟨w.heap.size, 0, none⟩ = some (.slice (A) n c) := K0_2.out.cell 0
    have z0_1_2 : w2.cell? ⟨w.heap.size, 1, none⟩ = some (.int .i64 (D)) := K0_2.out.cell 1
    by_cases hlt : k < n
    · obtain ⟨xb, xo, x, rfl, hxb, hx, c0⟩ := (HX.out.below HB2.out).int_ hlt
      obtain ⟨yb, yo, y, rfl, hyb, hy, c1⟩ := (HY.out.below HB2.out).int_ hlt
      have hzw := HB2.out.size
      have i1 := dotTo_in h0 hb HT.out HS.out k (by omega)
      have i2 := dotTo_in h0 hb HT.out HS.out (k + 1) (by omega)
      have hsn := dotTo_succ hx hy
      have hm := mulb (HT.out x (List.mem_of_getElem? hx)) (HS.out y (List.mem_of_getElem? hy)) (by decide) h0
      have e0 : 1000000000000 * b ≤ 1000000000000000 := by omega
      have e1 : 1000000000000 * b * (k : Int) ≤ 1000000000000000 * 3 := by
        have := Int.mul_le_mul (show 1000000000000 * b ≤ 1000000000000000 by omega) (show (k : Int) ≤ 3 by omega) (by omega) (by decide)
        exact this
      have e2 : 1000000000000 * b * ((k + 1 : Nat) : Int) ≤ 1000000000000000 * 3 := by
        have := Int.mul_le_mul (show 1000000000000 * b ≤ 1000000000000000 by omega) (show ((k + 1 : Nat) : Int) ≤ 3 by omega) (by omega) (by decide)
        exact this
      obtain ⟨s, hs⟩ : ∃ s, dotTo T S k = s := ⟨_, rfl⟩
      rw [hs] at i1 hsn ⊢
      rw [hsn] at i2
      have v1 := IntWalk.i64_in (x * y) ⟨by omega, by omega⟩
      have v2 := IntWalk.i64_in (s + x * y) ⟨by omega, by omega⟩
      have HSN := Lib.hid hsn
      have hkk : (k : Int) < (n : Int) := by omega
      clear hx hy hs i1 i2 hsn hm e0 e1 e2
      go_wp2_with fail
      refine Fx.regionW (fun W f w' => Below W.heap.size W w') (by kernel_rfl) (by kernel_rfl) ?_ ?_
      · intro f hf0
        exact below_drewN (Below.refl _ _) 1
      repeat (first
        | (refine Fx.skip_ (by rfl) (fun f w h => h) ?_; simp only [Act.put, List.setIfInBounds_toArray, List.set_cons_zero, List.set_cons_succ])
        | (refine Fx.val_ ?_ (by rfl) ?_ (fun f w h => h) ?_
           rotate_left
           · intro f w' hD hk
             have hb := hD
             have kb0 := step_blk hb (show Blk _ (w.heap.size) 102 #[.slice (some ⟨xb, xo, none⟩) n c, .int .i64 (D)] by repeat' (first | exact K0_2.out | exact Blk.at_ _ (by first | rfl | (simp; done) | (simp; omega)) _ _ | refine Blk.drewN ?_ _ | refine Blk.drew ?_ | refine Blk.alloc ?_ _ | refine Blk.far ?_ (by first | omega | (simp; done) | (simp; omega)) _ | assumption))
             have y0_0 : w'.cell? ⟨w.heap.size, 0, none⟩ = some (.slice (some ⟨xb, xo, none⟩) n c) := kb0.cell 0
             have y0_1 : w'.cell? ⟨w.heap.size, 1, none⟩ = some (.int .i64 (D)) := kb0.cell 1
             have y8 := (hb.cell (p := ⟨xb, xo + k, none⟩) (by show xb < _; omega)).trans c0
             have y9 := (hb.cell (p := ⟨yb, yo + k, none⟩) (by show yb < _; omega)).trans c1
             clear kb0
             clear hk hD hb
             go_simp
             try rfl
           simp only [Act.put, List.setIfInBounds_toArray, List.set_cons_zero, List.set_cons_succ]))
      refine Fx.nil_ ?_
      intro f w3 hall hb
      try clear hall
      have HB23 := Lib.hid hb
      have HB3 := Lib.hid (show Below w.heap.size w w3 from step_below hb (by repeat' (first | exact Below.refl _ _ | exact HB2.out | refine below_drewN ?_ _ | refine Below.drew ?_ | refine Below.alloc ?_ (by first | omega | (simp; done) | (simp; omega) | (simp [World.setCell]; omega)) _ | refine Below.setCell ?_ (by first | omega | (simp; done) | (simp; omega)) _ | assumption)))
      have K0_3 := Lib.hid (step_blk hb (show Blk _ (w.heap.size) 102 #[.slice (some ⟨xb, xo, none⟩) n c, .int .i64 (D)] by repeat' (first | exact K0_2.out | exact Blk.at_ _ (by first | rfl | (simp; done) | (simp; omega)) _ _ | refine Blk.drewN ?_ _ | refine Blk.drew ?_ | refine Blk.alloc ?_ _ | refine Blk.far ?_ (by first | omega | (simp; done) | (simp; omega)) _ | assumption)))
      have hz3 := hb.size
      try simp only [World.size_alloc, World.drewN, World.drew] at hz3
      clear hb K0_2 z0_0_2 z0_1_2 l0_2
      have l0_3 : w.heap.size < w3.heap.size := K0_3.out.lt
      have z0_0_3 : w3.cell? ⟨w.heap.size, 0, none⟩ = some (.slice (some ⟨xb, xo, none⟩) n c) := K0_3.out.cell 0
      have z0_1_3 : w3.cell? ⟨w.heap.size, 1, none⟩ = some (.int .i64 (D)) := K0_3.out.cell 1
      go_wp2
      go_roundw
      case rel => exact ⟨k + 1, by omega, by rw [HSN.out], by go_num, HB3.out, K0_3.out⟩
      case measure => simp [intOf]; omega
    · obtain rfl : n = k := by omega
      rw [HV.out]
      go_wp2
      go_ret
      exact ⟨rfl, HB2.out⟩

set_option maxRecDepth 100000 in
set_option maxHeartbeats 4000000 in
theorem rcheckfit_is (l : List Star) (A : Option Addr) (n c : Nat) (B : Option Addr) (m cb : Nat) (T : List Int) (D E : Int) (h0 : (starsF l).2 = 0) (h1 : mdlErr T D = 0) (hE : fitErr l T D = E) (w : World) (hx : StarsAt l A n w) (hy : Reads w w.heap.size 1 B m (T.map (.int .i64))) (hn : n ≤ 9223372036854775807) (hm : m ≤ 9223372036854775807) :
    Calls Try.prog 69 #[.slice A n c, .agg #[.slice B m cb, .int .i64 D]] w fun e w' => e = .returned (.int .i64 E) ∧ Below w.heap.size w w' := by
  have hll := hx.len
  have hlm := hy.ilen
  obtain ⟨⟨T0, E0⟩, h0'⟩ : ∃ z, starsF l = z := ⟨_, rfl⟩
  rw [h0'] at h0
  simp only at h0
  obtain ⟨s1, s2, s3, s4⟩ := stars_right h0' h0
  rw [hll] at s1 s2
  obtain ⟨zb, zo, s0, rfl, hzb, hs0, c0, -, -, hs0l, -⟩ := hx.at_ (i := 0) (by omega)
  simp only [Nat.zero_mul, Nat.add_zero] at c0
  obtain ⟨N, hN⟩ : ∃ N, termsN l = N := ⟨_, rfl⟩
  have hNs : s0.n = N := by rw [← hN]; unfold termsN; rw [hs0]; exact hs0l.symm
  rw [hNs] at c0
  have H1 := Lib.hid h1
  have h0n : 0 < n := by omega
  by_cases hlen : T.length = termsN l
  rotate_left
  · obtain rfl : E = 10 := by rw [← hE]; unfold fitErr; rw [if_pos hlen]
    have q2 : ((m : Int) != (N : Int)) = true := by rw [bne_iff_ne]; omega
    clear hE h0 h0' h1 s4 hlen hs0 hs0l hNs
    go_enter Try.func69, Try.ntmps69
    go_wp2_with fail
    generalize hwn : (w.alloc (.cells #[.slice B m cb, .int .i64 (D)] 102)) = w1
    have hbn : Below w.heap.size w w1 := by rw [← hwn]; repeat' (first | exact Below.refl _ _ | refine below_drewN ?_ _ | refine Below.drew ?_ | refine Below.alloc ?_ (by first | omega | (simp; done) | (simp; omega) | (simp [World.setCell]; omega)) _ | refine Below.setCell ?_ (by first | omega | (simp; done) | (simp; omega)) _)
    have HB1 := Lib.hid (show Below w.heap.size w w1 from hbn)
    have K0_1 := Lib.hid (show Blk w1 (w.heap.size) 102 #[.slice B m cb, .int .i64 (D)] by rw [← hwn]; repeat' (first | exact Blk.at_ _ (by first | rfl | (simp; done) | (simp; omega)) _ _ | refine Blk.drewN ?_ _ | refine Blk.drew ?_ | refine Blk.alloc ?_ _ | refine Blk.far ?_ (by first | omega | (simp; done) | (simp; omega)) _ | assumption))
    have HN1 := Lib.hid hbn
    have hz1 := hbn.size
    clear hwn hbn
    have l0_1 : w.heap.size < w1.heap.size := K0_1.out.lt
    have z0_0_1 : w1.cell? ⟨w.heap.size, 0, none⟩ = some (.slice B m cb) := K0_1.out.cell 0
    have z0_1_1 : w1.cell? ⟨w.heap.size, 1, none⟩ = some (.int .i64 (D)) := K0_1.out.cell 1
    have c1 := (HB1.out.cell (p := ⟨zb, zo, none⟩) hzb).trans c0
    refine Fx.regionW (fun W f w' => Below W.heap.size W w') (by kernel_rfl) (by kernel_rfl) ?_ ?_
    · intro f hf0
      exact below_drewN (Below.refl _ _) 1
    repeat (first
      | (refine Fx.skip_ (by rfl) (fun f w h => h) ?_; simp only [Act.put, List.setIfInBounds_toArray, List.set_cons_zero, List.set_cons_succ])
      | (refine Fx.val_ ?_ (by rfl) ?_ (fun f w h => h) ?_
         rotate_left
         · intro f w' hD hk
           have hb := hD
           have kb0 := step_blk hb (show Blk _ (w.heap.size) 102 #[.slice B m cb, .int .i64 (D)] by repeat' (first | exact K0_1.out | exact Blk.at_ _ (by first | rfl | (simp; done) | (simp; omega)) _ _ | refine Blk.drewN ?_ _ | refine Blk.drew ?_ | refine Blk.alloc ?_ _ | refine Blk.far ?_ (by first | omega | (simp; done) | (simp; omega)) _ | assumption))
           have y0_0 : w'.cell? ⟨w.heap.size, 0, none⟩ = some (.slice B m cb) := kb0.cell 0
           have y0_1 : w'.cell? ⟨w.heap.size, 1, none⟩ = some (.int .i64 (D)) := kb0.cell 1
           have y9 := (hb.cell (p := ⟨zb, zo, none⟩) (by have := HB1.out.size; show zb < _; omega)).trans c1
           clear kb0
           clear hk hD hb
           go_simp
           try rfl
         simp only [Act.put, List.setIfInBounds_toArray, List.set_cons_zero, List.set_cons_succ]))
    refine Fx.nil_ ?_
    intro f w2 hall hb
    try clear hall
    have HB12 := Lib.hid hb
    have HB2 := Lib.hid (show Below w.heap.size w w2 from step_below hb (by repeat' (first | exact Below.refl _ _ | exact HB1.out | refine below_drewN ?_ _ | refine Below.drew ?_ | refine Below.alloc ?_ (by first | omega | (simp; done) | (simp; omega) | (simp [World.setCell]; omega)) _ | refine Below.setCell ?_ (by first | omega | (simp; done) | (simp; omega)) _ | assumption)))
    have K0_2 := Lib.hid (step_blk hb (show Blk _ (w.heap.size) 102 #[.slice B m cb, .int .i64 (D)] by repeat' (first | exact K0_1.out | exact Blk.at_ _ (by first | rfl | (simp; done) | (simp; omega)) _ _ | refine Blk.drewN ?_ _ | refine Blk.drew ?_ | refine Blk.alloc ?_ _ | refine Blk.far ?_ (by first | omega | (simp; done) | (simp; omega)) _ | assumption)))
    have hz2 := hb.size
    try simp only [World.size_alloc, World.drewN, World.drew] at hz2
    clear hb K0_1 z0_0_1 z0_1_1 l0_1
    have l0_2 : w.heap.size < w2.heap.size := K0_2.out.lt
    have z0_0_2 : w2.cell? ⟨w.heap.size, 0, none⟩ = some (.slice B m cb) := K0_2.out.cell 0
    have z0_1_2 : w2.cell? ⟨w.heap.size, 1, none⟩ = some (.int .i64 (D)) := K0_2.out.cell 1
    go_wp2
    go_ret
    exact ⟨rfl, HB2.out⟩
  have hTN : N = m := by omega
  subst hTN
  have hEE : E = if ∀ k, k < T.length → chkTo l T D k l.length = 0 then 0 else 22 := by rw [← hE]; unfold fitErr; rw [if_neg (by simpa using hlen)]
  rw [hll, hlm] at hEE
  have q2 : ((N : Int) != (N : Int)) = false := by simp
  rw [← hlen] at s4
  obtain ⟨mT1, mT3, mD, mT, -⟩ := mdl_right h1
  rw [hlm] at mT1 mT3
  have HX := Lib.hid hx
  have HY := Lib.hid hy
  have HE := Lib.hid hEE
  have HS4 := Lib.hid s4
  have HMT := Lib.hid mT
  have HLL := Lib.hid hll
  have HLM := Lib.hid hlm
  clear hE hEE s4 mT h0 h0' h1 hx hy hlen hN hll hlm hs0 hs0l hNs
  go_enter Try.func69, Try.ntmps69
  go_wp2_with fail
  generalize hwn : (w.alloc (.cells #[.slice B N cb, .int .i64 (D)] 102)) = w1
  have hbn : Below w.heap.size w w1 := by rw [← hwn]; repeat' (first | exact Below.refl _ _ | refine below_drewN ?_ _ | refine Below.drew ?_ | refine Below.alloc ?_ (by first | omega | (simp; done) | (simp; omega) | (simp [World.setCell]; omega)) _ | refine Below.setCell ?_ (by first | omega | (simp; done) | (simp; omega)) _)
  have HB1 := Lib.hid (show Below w.heap.size w w1 from hbn)
  have K0_1 := Lib.hid (show Blk w1 (w.heap.size) 102 #[.slice B N cb, .int .i64 (D)] by rw [← hwn]; repeat' (first | exact Blk.at_ _ (by first | rfl | (simp; done) | (simp; omega)) _ _ | refine Blk.drewN ?_ _ | refine Blk.drew ?_ | refine Blk.alloc ?_ _ | refine Blk.far ?_ (by first | omega | (simp; done) | (simp; omega)) _ | assumption))
  have HN1 := Lib.hid hbn
  have hz1 := hbn.size
  clear hwn hbn
  have l0_1 : w.heap.size < w1.heap.size := K0_1.out.lt
  have z0_0_1 : w1.cell? ⟨w.heap.size, 0, none⟩ = some (.slice B N cb) := K0_1.out.cell 0
  have z0_1_1 : w1.cell? ⟨w.heap.size, 1, none⟩ = some (.int .i64 (D)) := K0_1.out.cell 1
  have c1 := (HB1.out.cell (p := ⟨zb, zo, none⟩) hzb).trans c0
  refine Fx.regionW (fun W f w' => Below W.heap.size W w') (by kernel_rfl) (by kernel_rfl) ?_ ?_
  · intro f hf0
    exact below_drewN (Below.refl _ _) 1
  repeat (first
    | (refine Fx.skip_ (by rfl) (fun f w h => h) ?_; simp only [Act.put, List.setIfInBounds_toArray, List.set_cons_zero, List.set_cons_succ])
    | (refine Fx.val_ ?_ (by rfl) ?_ (fun f w h => h) ?_
       rotate_left
       · intro f w' hD hk
         have hb := hD
         have kb0 := step_blk hb (show Blk _ (w.heap.size) 102 #[.slice B N cb, .int .i64 (D)] by repeat' (first | exact K0_1.out | exact Blk.at_ _ (by first | rfl | (simp; done) | (simp; omega)) _ _ | refine Blk.drewN ?_ _ | refine Blk.drew ?_ | refine Blk.alloc ?_ _ | refine Blk.far ?_ (by first | omega | (simp; done) | (simp; omega)) _ | assumption))
         have y0_0 : w'.cell? ⟨w.heap.size, 0, none⟩ = some (.slice B N cb) := kb0.cell 0
         have y0_1 : w'.cell? ⟨w.heap.size, 1, none⟩ = some (.int .i64 (D)) := kb0.cell 1
         have y9 := (hb.cell (p := ⟨zb, zo, none⟩) (by have := HB1.out.size; show zb < _; omega)).trans c1
         clear kb0
         clear hk hD hb
         go_simp
         try rfl
       simp only [Act.put, List.setIfInBounds_toArray, List.set_cons_zero, List.set_cons_succ]))
  refine Fx.nil_ ?_
  intro f w2 hall hb
  try clear hall
  have HB12 := Lib.hid hb
  have HB2 := Lib.hid (show Below w.heap.size w w2 from step_below hb (by repeat' (first | exact Below.refl _ _ | exact HB1.out | refine below_drewN ?_ _ | refine Below.drew ?_ | refine Below.alloc ?_ (by first | omega | (simp; done) | (simp; omega) | (simp [World.setCell]; omega)) _ | refine Below.setCell ?_ (by first | omega | (simp; done) | (simp; omega)) _ | assumption)))
  have K0_2 := Lib.hid (step_blk hb (show Blk _ (w.heap.size) 102 #[.slice B N cb, .int .i64 (D)] by repeat' (first | exact K0_1.out | exact Blk.at_ _ (by first | rfl | (simp; done) | (simp; omega)) _ _ | refine Blk.drewN ?_ _ | refine Blk.drew ?_ | refine Blk.alloc ?_ _ | refine Blk.far ?_ (by first | omega | (simp; done) | (simp; omega)) _ | assumption)))
  have hz2 := hb.size
  try simp only [World.size_alloc, World.drewN, World.drew] at hz2
  clear hb K0_1 z0_0_1 z0_1_1 l0_1
  have l0_2 : w.heap.size < w2.heap.size := K0_2.out.lt
  have z0_0_2 : w2.cell? ⟨w.heap.size, 0, none⟩ = some (.slice B N cb) := K0_2.out.cell 0
  have z0_1_2 : w2.cell? ⟨w.heap.size, 1, none⟩ = some (.int .i64 (D)) := K0_2.out.cell 1
  clear c0 c1
  go_wp2
  go_loopw [5] (fun i wr => ∃ k : Nat, k ≤ N ∧ i = .int .i64 k ∧ Below w.heap.size w wr ∧ Blk wr w.heap.size 102 #[.slice B N cb, .int .i64 D] ∧ ∀ j, j < k → chkTo l T D j n = 0) (fun i _ => N - (intOf i).toNat)
  case atStart => exact ⟨0, by omega, rfl, HB2.out, K0_2.out, fun j hj => absurd hj (by omega)⟩
  case round =>
    obtain ⟨k, hk, rfl, hb4, hk4, hz⟩ := hrel
    obtain ⟨w4, hnm⟩ : ∃ z : World, z = wr := ⟨_, rfl⟩
    subst hnm
    have HZ := Lib.hid hz
    clear hz
    have HB4 := Lib.hid hb4
    have K0_4 := Lib.hid (show Blk w4 (w.heap.size) 102 #[.slice B N cb, .int .i64 (D)] from hk4)
    clear hb4 hk4
    have l0_4 : w.heap.size < w4.heap.size := K0_4.out.lt
    have z0_0_4 : w4.cell? ⟨w.heap.size, 0, none⟩ = some (.slice B N cb) := K0_4.out.cell 0
    have z0_1_4 : w4.cell? ⟨w.heap.size, 1, none⟩ = some (.int .i64 (D)) := K0_4.out.cell 1
    by_cases hlt : k < N
    rotate_left
    · obtain rfl : N = k := by omega
      obtain rfl : E = 0 := by rw [HE.out, if_pos HZ.out]
      go_wp2
      go_ret
      exact ⟨rfl, HB4.out⟩
    have hkk : (k : Int) < (N : Int) := by omega
    go_wp2
    go_loopw [6, 7] (fun s i wr => ∃ q : Nat, q ≤ n ∧ s = .int .i64 (chkTo l T D k q) ∧ i = .int .i64 q ∧ Below w.heap.size w wr ∧ Blk wr w.heap.size 102 #[.slice B N cb, .int .i64 D]) (fun _ i _ => n - (intOf i).toNat)
    case atStart => exact ⟨0, by omega, rfl, rfl, HB4.out, K0_4.out⟩
    case round =>
      obtain ⟨q, hq, rfl, rfl, hb5, hk5⟩ := hrel
      obtain ⟨w5, hnm⟩ : ∃ z : World, z = wr := ⟨_, rfl⟩
      subst hnm
      have HB5 := Lib.hid hb5
      have K0_5 := Lib.hid (show Blk w5 (w.heap.size) 102 #[.slice B N cb, .int .i64 (D)] from hk5)
      clear hb5 hk5
      have l0_5 : w.heap.size < w5.heap.size := K0_5.out.lt
      have z0_0_5 : w5.cell? ⟨w.heap.size, 0, none⟩ = some (.slice B N cb) := K0_5.out.cell 0
      have z0_1_5 : w5.cell? ⟨w.heap.size, 1, none⟩ = some (.int .i64 (D)) := K0_5.out.cell 1
      by_cases hlt2 : q < n
      · obtain ⟨xb, xo, s, hA, hxb, hs, d0, d1, -, hsl, -⟩ := (HX.out.lay HB5.out).at_ hlt2
        obtain ⟨rfl, rfl⟩ : zb = xb ∧ zo = xo := by simpa using hA
        clear hA
        have hsr := (HX.out.each s (List.mem_of_getElem? hs)).2
        have hok := HS4.out s (List.mem_of_getElem? hs)
        have hsx := (star_right hok).1
        rw [HLM.out] at hsx
        obtain ⟨i1, i2, i3⟩ := chkS_in hok H1.out k
        have j1 := chkTo_in HS4.out H1.out k q (by omega)
        have j2 := chkTo_in HS4.out H1.out k (q + 1) (by omega)
        have hsn := chkTo_succ (T := T) (D := D) (k := k) hs
        rw [hsn] at j2
        have hxr := (star_right hok).2.2.2.1
        have hsh : s.xs[k]? = some (shp s k) := by
          unfold shp
          rw [List.getD_eq_getElem?_getD, List.getElem?_eq_getElem (by omega)]
          rfl
        obtain ⟨sA, sn, sc, sx, se⟩ := s
        simp only at d0 d1 hsl hsr hsx i1 i2 hxr hsh
        obtain rfl : N = sn := by omega
        obtain ⟨x, hxx⟩ : ∃ x, shp (⟨sA, N, sc, sx, se⟩ : Star) k = x := ⟨_, rfl⟩
        obtain ⟨v, hv⟩ : ∃ v, dotTo T sx T.length = v := ⟨_, rfl⟩
        obtain ⟨u, hu⟩ : ∃ u, chkTo l T D k q = u := ⟨_, rfl⟩
        unfold chkS at hsn i3 j2
        simp only at hsn i3 j2
        rw [hxx, hv] at hsn i3 j2
        rw [hu] at hsn j1 j2
        rw [hxx] at hsh
        rw [hv] at i2
        rw [HLM.out] at hv
        have v1 := IntWalk.i64_in (se * D) ⟨by omega, by omega⟩
        have v2 := IntWalk.i64_in (se * D - v) ⟨by omega, by omega⟩
        have v3 := IntWalk.i64_in (x * (se * D - v)) ⟨by omega, by omega⟩
        have v4 := IntWalk.i64_in (u + x * (se * D - v)) ⟨by omega, by omega⟩
        have HSN := Lib.hid hsn
        have hs5 := (hsr.below HB5.out).more HB5.out.size
        have hy5 := (HY.out.below HB5.out).more HB5.out.size
        have HV := Lib.hid hv
        have HXR := Lib.hid hxr
        obtain ⟨pb, po, rfl, hpb, hpc⟩ := hs5.2 (by omega)
        have g0 := hpc k (.int .i64 x) (by rw [List.getElem?_map, hsh]; rfl)
        have HY5 := Lib.hid hy5
        have HS5 := Lib.hid hs5
        have hqq : (q : Int) < (n : Int) := by omega
        rw [hu]
        clear hs hsr hok hsx hsn hxr hsh i1 i2 i3 j1 j2 hxx hu hv hsl hy5 hs5 hpc
        go_wp2_with fail
        refine Fx.regionW (fun W f w' => Below W.heap.size W w') (by kernel_rfl) (by kernel_rfl) ?_ ?_
        · intro f hf0
          exact below_drewN (Below.refl _ _) 1
        repeat (first
          | (refine Fx.skip_ (by rfl) (fun f w h => h) ?_; simp only [Act.put, List.setIfInBounds_toArray, List.set_cons_zero, List.set_cons_succ])
          | (refine Fx.val_ ?_ (by rfl) ?_ (fun f w h => h) ?_
             rotate_left
             · intro f w' hD hk
               have hb := hD
               have kb0 := step_blk hb (show Blk _ (w.heap.size) 102 #[.slice B N cb, .int .i64 (D)] by repeat' (first | exact K0_5.out | exact Blk.at_ _ (by first | rfl | (simp; done) | (simp; omega)) _ _ | refine Blk.drewN ?_ _ | refine Blk.drew ?_ | refine Blk.alloc ?_ _ | refine Blk.far ?_ (by first | omega | (simp; done) | (simp; omega)) _ | assumption))
               have y0_0 : w'.cell? ⟨w.heap.size, 0, none⟩ = some (.slice B N cb) := kb0.cell 0
               have y0_1 : w'.cell? ⟨w.heap.size, 1, none⟩ = some (.int .i64 (D)) := kb0.cell 1
               have y9 := (hb.cell (p := ⟨pb, po + k, none⟩) hpb).trans g0
               have x8 := (hb.cell (p := ⟨zb, zo + q * 2, none⟩) (by show zb < _; omega)).trans d0
               have x9 := (hb.cell (p := ⟨zb, zo + q * 2 + 1, none⟩) (by show zb < _; omega)).trans d1
               clear kb0
               clear hk hD hb
               go_simp
               try rfl
             simp only [Act.put, List.setIfInBounds_toArray, List.set_cons_zero, List.set_cons_succ]))
        refine Fx.call_ (.int .i64 (v)) ?_ ?_ (by rfl) ?_ ?_ ?_
        rotate_left 2
        · intro w'
          go_simp
          refine ⟨?_, ?_⟩ <;> rfl
        · intro f w' hD hk
          exact (rvalue_is B N cb T D (some ⟨pb, po, none⟩) sc sx 100 v HV.out w' ((HY5.out.below hD).more hD.size) ((HS5.out.below hD).more hD.size) (by omega) (by decide) (by decide) HMT.out HXR.out).mono fun e w'' ⟨he, hw⟩ => ⟨he, step_below hw hD⟩
        simp only [Act.put, List.setIfInBounds_toArray, List.set_cons_zero, List.set_cons_succ]
        repeat (first
          | (refine Fx.skip_ (by rfl) (fun f w h => h) ?_; simp only [Act.put, List.setIfInBounds_toArray, List.set_cons_zero, List.set_cons_succ])
          | (refine Fx.val_ ?_ (by rfl) ?_ (fun f w h => h) ?_
             rotate_left
             · intro f w' hD hk
               have hb := hD
               have kb0 := step_blk hb (show Blk _ (w.heap.size) 102 #[.slice B N cb, .int .i64 (D)] by repeat' (first | exact K0_5.out | exact Blk.at_ _ (by first | rfl | (simp; done) | (simp; omega)) _ _ | refine Blk.drewN ?_ _ | refine Blk.drew ?_ | refine Blk.alloc ?_ _ | refine Blk.far ?_ (by first | omega | (simp; done) | (simp; omega)) _ | assumption))
               have y0_0 : w'.cell? ⟨w.heap.size, 0, none⟩ = some (.slice B N cb) := kb0.cell 0
               have y0_1 : w'.cell? ⟨w.heap.size, 1, none⟩ = some (.int .i64 (D)) := kb0.cell 1
               have y9 := (hb.cell (p := ⟨pb, po + k, none⟩) hpb).trans g0
               have x8 := (hb.cell (p := ⟨zb, zo + q * 2, none⟩) (by show zb < _; omega)).trans d0
               have x9 := (hb.cell (p := ⟨zb, zo + q * 2 + 1, none⟩) (by show zb < _; omega)).trans d1
               clear kb0
               clear hk hD hb
               go_simp
               try rfl
             simp only [Act.put, List.setIfInBounds_toArray, List.set_cons_zero, List.set_cons_succ]))
        refine Fx.nil_ ?_
        intro f w6 hall hb
        try clear hall
        have HB56 := Lib.hid hb
        have HB6 := Lib.hid (show Below w.heap.size w w6 from step_below hb (by repeat' (first | exact Below.refl _ _ | exact HB5.out | refine below_drewN ?_ _ | refine Below.drew ?_ | refine Below.alloc ?_ (by first | omega | (simp; done) | (simp; omega) | (simp [World.setCell]; omega)) _ | refine Below.setCell ?_ (by first | omega | (simp; done) | (simp; omega)) _ | assumption)))
        have K0_6 := Lib.hid (step_blk hb (show Blk _ (w.heap.size) 102 #[.slice B N cb, .int .i64 (D)] by repeat' (first | exact K0_5.out | exact Blk.at_ _ (by first | rfl | (simp; done) | (simp; omega)) _ _ | refine Blk.drewN ?_ _ | refine Blk.drew ?_ | refine Blk.alloc ?_ _ | refine Blk.far ?_ (by first | omega | (simp; done) | (simp; omega)) _ | assumption)))
        have hz6 := hb.size
        try simp only [World.size_alloc, World.drewN, World.drew] at hz6
        clear hb K0_5 z0_0_5 z0_1_5 l0_5
        have l0_6 : w.heap.size < w6.heap.size := K0_6.out.lt
        have z0_0_6 : w6.cell? ⟨w.heap.size, 0, none⟩ = some (.slice B N cb) := K0_6.out.cell 0
        have z0_1_6 : w6.cell? ⟨w.heap.size, 1, none⟩ = some (.int .i64 (D)) := K0_6.out.cell 1
        go_wp2
        go_roundw
        case rel => exact ⟨q + 1, by omega, by rw [HSN.out], by go_num, HB6.out, K0_6.out⟩
        case measure => simp [intOf]; omega
      · obtain rfl : n = q := by omega
        by_cases hz0 : chkTo l T D k n = 0
        · have e1 : (chkTo l T D k n != 0) = false := by simpa using hz0
          have HZ0 := Lib.hid hz0
          clear hz0
          go_wp2
          go_roundw
          case rel =>
            refine ⟨k + 1, by omega, by go_num, HB5.out, K0_5.out, fun j hj => ?_⟩
            rcases Nat.lt_succ_iff_lt_or_eq.1 hj with h | rfl
            · exact HZ.out j h
            · exact HZ0.out
          case measure => simp [intOf]; omega
        · have e1 : (chkTo l T D k n != 0) = true := by simpa using hz0
          obtain rfl : E = 22 := by rw [HE.out, if_neg (fun h => hz0 (h k hlt))]
          clear hz0
          go_wp2
          go_ret
          exact ⟨rfl, HB5.out⟩

set_option maxRecDepth 100000 in
set_option maxHeartbeats 4000000 in
theorem rpred_is (A : Option Addr) (n c : Nat) (T : List Int) (D : Int) (B : Option Addr) (m d : Nat) (S : List Int) (lo hi E : Int) (h1 : mdlErr T D = 0) (hE : prdF T D S = ((lo, hi), E)) (w : World) (hx : Reads w w.heap.size 1 A n (T.map (.int .i64))) (hy : Reads w w.heap.size 1 B m (S.map (.int .i64))) (hn : n ≤ 9223372036854775807) (hm : m ≤ 9223372036854775807) :
    Calls Try.prog 70 #[.agg #[.slice A n c, .int .i64 D], .slice B m d] w fun e w' => e = .returned (.tuple #[.agg #[.int .i64 lo, .int .i64 hi], .int .i64 E]) ∧ Below w.heap.size w w' := by
  have hln := hx.ilen
  have hlm := hy.ilen
  unfold prdF at hE
  by_cases hlen : S.length = T.length
  rotate_left
  · rw [if_pos hlen] at hE
    cases hE
    have q2 : ((m : Int) != (n : Int)) = true := by rw [bne_iff_ne]; omega
    clear h1 hlen
    go_enter Try.func70, Try.ntmps70
    go_wp2
    exact bodyPost_ret (v := .tuple #[.agg #[.int .i64 0, .int .i64 0], .int .i64 10]) (by simp [results, Try.results70, go_sem]) rfl ⟨rfl, by repeat' (first | exact Below.refl _ _ | refine below_drewN ?_ _ | refine Below.drew ?_ | refine Below.alloc ?_ (by first | omega | (simp; done) | (simp; omega) | (simp [World.setCell]; omega)) _ | refine Below.setCell ?_ (by first | omega | (simp; done) | (simp; omega)) _)⟩
  rw [if_neg (by simpa using hlen)] at hE
  have q2 : ((m : Int) != (n : Int)) = false := by simp; omega
  obtain rfl : n = m := by omega
  obtain ⟨mT1, mT3, mD, mT, -⟩ := mdl_right h1
  obtain ⟨v, hv⟩ : ∃ v, dotTo T S T.length = v := ⟨_, rfl⟩
  rw [hv] at hE
  rw [hln] at hv mT1 mT3
  have HX := Lib.hid hx
  have HY := Lib.hid hy
  have HE := Lib.hid hE
  have HV := Lib.hid hv
  have HMT := Lib.hid mT
  have HLM := Lib.hid hlm
  clear hx hy hE hv mT h1 hlen hln hlm
  go_enter Try.func70, Try.ntmps70
  go_wp2
  go_loopw [6] (fun i wr => ∃ k : Nat, k ≤ n ∧ i = .int .i64 k ∧ Below w.heap.size w wr ∧ Blk wr w.heap.size 102 #[.slice A n c, .int .i64 D] ∧ Blk wr (w.heap.size + 1) 112 #[.int .i64 0, .int .i64 0] ∧ smallL 1000 (S.take k) = true) (fun i _ => n - (intOf i).toNat)
  case atStart => exact ⟨0, by omega, rfl, by repeat' (first | exact Below.refl _ _ | refine below_drewN ?_ _ | refine Below.drew ?_ | refine Below.alloc ?_ (by first | omega | (simp; done) | (simp; omega) | (simp [World.setCell]; omega)) _ | refine Below.setCell ?_ (by first | omega | (simp; done) | (simp; omega)) _), by repeat' (first | exact Blk.at_ _ (by first | rfl | (simp; done) | (simp; omega)) _ _ | refine Blk.drewN ?_ _ | refine Blk.drew ?_ | refine Blk.alloc ?_ _ | refine Blk.far ?_ (by first | omega | (simp; done) | (simp; omega)) _ | assumption), by repeat' (first | exact Blk.at_ _ (by first | rfl | (simp; done) | (simp; omega)) _ _ | refine Blk.drewN ?_ _ | refine Blk.drew ?_ | refine Blk.alloc ?_ _ | refine Blk.far ?_ (by first | omega | (simp; done) | (simp; omega)) _ | assumption), rfl⟩
  case round =>
    obtain ⟨k, hk, rfl, hb1, hk1, hk2, hsm⟩ := hrel
    obtain ⟨w1, hnm⟩ : ∃ z : World, z = wr := ⟨_, rfl⟩
    subst hnm
    have HSM := Lib.hid hsm
    clear hsm
    have HB1 := Lib.hid hb1
    have K0_1 := Lib.hid (show Blk w1 (w.heap.size) 102 #[.slice A n c, .int .i64 (D)] from hk1)
    have K1_1 := Lib.hid (show Blk w1 (w.heap.size + 1) 112 #[.int .i64 (0), .int .i64 (0)] from hk2)
    clear hb1 hk1 hk2
    have l0_1 : w.heap.size < w1.heap.size := K0_1.out.lt
    have z0_0_1 : w1.cell? ⟨w.heap.size, 0, none⟩ = some (.slice A n c) := K0_1.out.cell 0
    have z0_1_1 : w1.cell? ⟨w.heap.size, 1, none⟩ = some (.int .i64 (D)) := K0_1.out.cell 1
    have l1_1 : w.heap.size + 1 < w1.heap.size := K1_1.out.lt
    have z1_0_1 : w1.cell? ⟨w.heap.size + 1, 0, none⟩ = some (.int .i64 (0)) := K1_1.out.cell 0
    have z1_1_1 : w1.cell? ⟨w.heap.size + 1, 1, none⟩ = some (.int .i64 (0)) := K1_1.out.cell 1
    by_cases hlt : k < n
    · obtain ⟨xb, xo, z, rfl, hxb, hz, c0⟩ := (HY.out.below HB1.out).int_ hlt
      have hkk : (k : Int) < (n : Int) := by omega
      have hst : S.take (k + 1) = S.take k ++ [z] := by rw [List.take_add_one, hz]; rfl
      cases hw : withinB z (-1000) 1000
      · have hs : smallL 1000 S = false := by
          cases hh : smallL 1000 S
          · rfl
          · have := List.all_eq_true.1 hh z (List.mem_of_getElem? hz)
            rw [hw] at this; cases this
        have hE := HE.out
        rw [if_pos hs] at hE
        cases hE
        have HW := Lib.hid hw
        clear hz hst hw hs HE
        go_wp2_with fail
        refine (withinref_is _ _ _ false HW.out _).mono ?_
        rintro e w' ⟨rfl, rfl⟩
        have zf1_0 := K1_1.out.frozen 0
        have zf1_1 := K1_1.out.frozen 1
        go_wp2
        exact bodyPost_ret (v := .tuple #[.agg #[.int .i64 0, .int .i64 0], .int .i64 2]) (by simp [results, Try.results70, go_sem, z1_0_1, z1_1_1, l1_1]) rfl ⟨rfl, by repeat' (first | exact Below.refl _ _ | exact HB1.out | refine below_drewN ?_ _ | refine Below.drew ?_ | refine Below.alloc ?_ (by first | omega | (simp; done) | (simp; omega) | (simp [World.setCell]; omega)) _ | refine Below.setCell ?_ (by first | omega | (simp; done) | (simp; omega)) _ | assumption)⟩
      have hs2 : smallL 1000 (S.take (k + 1)) = true := by
        have := HSM.out
        unfold smallL at this ⊢
        rw [hst, List.all_append, this]
        simpa using hw
      have HS2 := Lib.hid hs2
      have HW := Lib.hid hw
      clear hz hst hs2 hw
      go_wp2_with fail
      refine (withinref_is _ _ _ true HW.out _).mono ?_
      rintro e w' ⟨rfl, rfl⟩
      go_wp2
      go_roundw
      case rel => exact ⟨k + 1, by omega, by go_num, HB1.out, K0_1.out, K1_1.out, HS2.out⟩
      case measure => simp [intOf]; omega
    · obtain rfl : n = k := by omega
      have hsm := HSM.out
      rw [List.take_of_length_le (by rw [HLM.out]; exact Nat.le_refl _)] at hsm
      have hE := HE.out
      rw [if_neg (by simp [hsm])] at hE
      have hSm : ∀ z ∈ S, -1000 ≤ z ∧ z ≤ 1000 := fun z hz => (withinB_iff _ _ _).1 (List.all_eq_true.1 hsm z hz)
      have hvb := dotTo_in (b := 1000) (by decide) (by decide) HMT.out hSm n (by omega)
      rw [HV.out] at hvb
      have HSS := Lib.hid hSm
      cases hE
      clear hsm hSm HE
      have hx1 := (HX.out.below HB1.out).more HB1.out.size
      have hy1 := (HY.out.below HB1.out).more HB1.out.size
      have R0_1 := Lib.hid hx1
      clear hx1
      have R1_1 := Lib.hid hy1
      clear hy1
      go_wp2_with fail
      refine (rvalue_is A n c T D B d S 1000 v HV.out _ R0_1.out R1_1.out (by omega) (by decide) (by decide) HMT.out HSS.out).mono ?_
      rintro e w2 ⟨rfl, hb⟩
      have HB2 := Lib.hid (show Below w.heap.size w w2 from step_below hb (by repeat' (first | exact Below.refl _ _ | exact HB1.out | refine below_drewN ?_ _ | refine Below.drew ?_ | refine Below.alloc ?_ (by first | omega | (simp; done) | (simp; omega) | (simp [World.setCell]; omega)) _ | refine Below.setCell ?_ (by first | omega | (simp; done) | (simp; omega)) _ | assumption)))
      have K0_2 := Lib.hid (step_blk hb (show Blk _ (w.heap.size) 102 #[.slice A n c, .int .i64 (D)] by repeat' (first | exact K0_1.out | exact K1_1.out | exact Blk.at_ _ (by first | rfl | (simp; done) | (simp; omega)) _ _ | refine Blk.drewN ?_ _ | refine Blk.drew ?_ | refine Blk.alloc ?_ _ | refine Blk.far ?_ (by first | omega | (simp; done) | (simp; omega)) _ | assumption)))
      have K1_2 := Lib.hid (step_blk hb (show Blk _ (w.heap.size + 1) 112 #[.int .i64 (0), .int .i64 (0)] by repeat' (first | exact K0_1.out | exact K1_1.out | exact Blk.at_ _ (by first | rfl | (simp; done) | (simp; omega)) _ _ | refine Blk.drewN ?_ _ | refine Blk.drew ?_ | refine Blk.alloc ?_ _ | refine Blk.far ?_ (by first | omega | (simp; done) | (simp; omega)) _ | assumption)))
      have hL2 := Lib.hid (show Below w1.heap.size w1 _ from reads_mid hb (by repeat' (first | exact Below.refl _ _ | refine below_drewN ?_ _ | refine Below.drew ?_ | refine Below.alloc ?_ (by first | omega | (simp; done) | (simp; omega) | (simp [World.setCell]; omega)) _ | refine Below.setCell ?_ (by first | omega | (simp; done) | (simp; omega)) _)))
      have R0_2 := Lib.hid (reads_lay hb hL2.out R0_1.out)
      have R1_2 := Lib.hid (reads_lay hb hL2.out R1_1.out)
      clear hL2 R0_1 R1_1
      have hz2 := hb.size
      try simp only [World.size_alloc, World.drewN, World.drew] at hz2
      clear hb K0_1 K1_1 z0_0_1 z0_1_1 l0_1 z1_0_1 z1_1_1 l1_1
      have l0_2 : w.heap.size < w2.heap.size := K0_2.out.lt
      have z0_0_2 : w2.cell? ⟨w.heap.size, 0, none⟩ = some (.slice A n c) := K0_2.out.cell 0
      have z0_1_2 : w2.cell? ⟨w.heap.size, 1, none⟩ = some (.int .i64 (D)) := K0_2.out.cell 1
      have l1_2 : w.heap.size + 1 < w2.heap.size := K1_2.out.lt
      have z1_0_2 : w2.cell? ⟨w.heap.size + 1, 0, none⟩ = some (.int .i64 (0)) := K1_2.out.cell 0
      have z1_1_2 : w2.cell? ⟨w.heap.size + 1, 1, none⟩ = some (.int .i64 (0)) := K1_2.out.cell 1
      go_wp2_with fail
      refine Fx.regionW (fun W f w' => Below (w.heap.size + 1) W w' ∧ Blk w' (w.heap.size + 1) 112 (if f 9 then #[.int .i64 (v / D), .int .i64 (-((-v) / D))] else #[.int .i64 (0), .int .i64 (0)])) (by kernel_rfl) (by kernel_rfl) ?_ ?_
      · intro f hf0
        rw [hf0 9]
        exact ⟨below_drewN (Below.refl _ _) 1, Blk.drewN K1_2.out 1⟩
      repeat (first
        | (refine Fx.skip_ (by rfl) (fun f w h => h) ?_; simp only [Act.put, List.setIfInBounds_toArray, List.set_cons_zero, List.set_cons_succ])
        | (refine Fx.val_ ?_ (by rfl) ?_ (fun f w h => h) ?_
           rotate_left
           · intro f w' hD hk
             obtain ⟨hb, hblk⟩ := id hD
             have y0_0 : w'.cell? ⟨w.heap.size, 0, none⟩ = some (.slice A n c) := (Blk.below K0_2.out hb (by first | omega | (simp; omega))).cell 0
             have y0_1 : w'.cell? ⟨w.heap.size, 1, none⟩ = some (.int .i64 (D)) := (Blk.below K0_2.out hb (by first | omega | (simp; omega))).cell 1
             clear hk hD hb hblk
             go_simp
             try rfl
           simp only [Act.put, List.setIfInBounds_toArray, List.set_cons_zero, List.set_cons_succ]))
      refine Fx.call_ (.int .i64 (v / D)) ?_ ?_ (by rfl) ?_ ?_ ?_
      rotate_left 2
      · intro w'
        go_simp
        refine ⟨?_, ?_⟩ <;> rfl
      · intro f w' hD hk
        exact (floorref_any v D _ (by omega) (by omega) (by omega) (by omega)).mono fun e w'' ⟨he, hw⟩ => ⟨he, by subst hw; exact hD⟩
      simp only [Act.put, List.setIfInBounds_toArray, List.set_cons_zero, List.set_cons_succ]
      repeat (first
        | (refine Fx.skip_ (by rfl) (fun f w h => h) ?_; simp only [Act.put, List.setIfInBounds_toArray, List.set_cons_zero, List.set_cons_succ])
        | (refine Fx.val_ ?_ (by rfl) ?_ (fun f w h => h) ?_
           rotate_left
           · intro f w' hD hk
             obtain ⟨hb, hblk⟩ := id hD
             have y0_0 : w'.cell? ⟨w.heap.size, 0, none⟩ = some (.slice A n c) := (Blk.below K0_2.out hb (by first | omega | (simp; omega))).cell 0
             have y0_1 : w'.cell? ⟨w.heap.size, 1, none⟩ = some (.int .i64 (D)) := (Blk.below K0_2.out hb (by first | omega | (simp; omega))).cell 1
             clear hk hD hb hblk
             go_simp
             try rfl
           simp only [Act.put, List.setIfInBounds_toArray, List.set_cons_zero, List.set_cons_succ]))
      refine Fx.call_ (.int .i64 (-((-v) / D))) ?_ ?_ (by rfl) ?_ ?_ ?_
      rotate_left 2
      · intro w'
        go_simp
        refine ⟨?_, ?_⟩ <;> rfl
      · intro f w' hD hk
        exact (ceilref_any v D _ (by omega) (by omega) (by omega) (by omega)).mono fun e w'' ⟨he, hw⟩ => ⟨he, by subst hw; exact hD⟩
      simp only [Act.put, List.setIfInBounds_toArray, List.set_cons_zero, List.set_cons_succ]
      repeat (first
        | (refine Fx.skip_ (by rfl) (fun f w h => h) ?_; simp only [Act.put, List.setIfInBounds_toArray, List.set_cons_zero, List.set_cons_succ])
        | (refine Fx.val_ ?_ (by rfl) ?_ (fun f w h => h) ?_
           rotate_left
           · intro f w' hD hk
             obtain ⟨hb, hblk⟩ := id hD
             have y0_0 : w'.cell? ⟨w.heap.size, 0, none⟩ = some (.slice A n c) := (Blk.below K0_2.out hb (by first | omega | (simp; omega))).cell 0
             have y0_1 : w'.cell? ⟨w.heap.size, 1, none⟩ = some (.int .i64 (D)) := (Blk.below K0_2.out hb (by first | omega | (simp; omega))).cell 1
             clear hk hD hb hblk
             go_simp
             try rfl
           simp only [Act.put, List.setIfInBounds_toArray, List.set_cons_zero, List.set_cons_succ]))
      refine Fx.store_ (fun w' => ((w'.setCell ⟨w.heap.size + 1, 0, none⟩ (.int .i64 (v / D))).setCell ⟨w.heap.size + 1, 1, none⟩ (.int .i64 (-((-v) / D))))) (by rfl) ?_ ?_ ?_
      · intro f w' hD hk
        obtain ⟨hb, hblk⟩ := id hD
        rw [show f 9 = false from hk.1] at hblk
        have q0 := hblk.cell 0
        have q1 := hblk.cell 1
        have p0 := hblk.frozen 0
        have p1 := hblk.frozen 1
        clear hk hD hb hblk
        go_simp
      · intro f w' hD hk
        obtain ⟨hb, hblk⟩ := id hD
        rw [show f 9 = false from hk.1] at hblk
        have q0 := hblk.cell 0
        have q1 := hblk.cell 1
        have p0 := hblk.frozen 0
        have p1 := hblk.frozen 1
        exact ⟨((hb.setCell (p := ⟨w.heap.size + 1, 0, none⟩) (Nat.le_refl _) _).setCell (p := ⟨w.heap.size + 1, 1, none⟩) (Nat.le_refl _) _), by simpa [Fx.add] using ((hblk.set_ 0 (.int .i64 (v / D))).set_ 1 (.int .i64 (-((-v) / D))))⟩
      simp only [Act.put, List.setIfInBounds_toArray, List.set_cons_zero, List.set_cons_succ]
      repeat (first
        | (refine Fx.skip_ (by rfl) (fun f w h => h) ?_; simp only [Act.put, List.setIfInBounds_toArray, List.set_cons_zero, List.set_cons_succ])
        | (refine Fx.val_ ?_ (by rfl) ?_ (fun f w h => h) ?_
           rotate_left
           · intro f w' hD hk
             obtain ⟨hb, hblk⟩ := id hD
             have y0_0 : w'.cell? ⟨w.heap.size, 0, none⟩ = some (.slice A n c) := (Blk.below K0_2.out hb (by first | omega | (simp; omega))).cell 0
             have y0_1 : w'.cell? ⟨w.heap.size, 1, none⟩ = some (.int .i64 (D)) := (Blk.below K0_2.out hb (by first | omega | (simp; omega))).cell 1
             clear hk hD hb hblk
             go_simp
             try rfl
           simp only [Act.put, List.setIfInBounds_toArray, List.set_cons_zero, List.set_cons_succ]))
      refine Fx.nil_ ?_
      intro f w3 hall hD
      obtain ⟨hb, hblk⟩ := hD
      rw [hall 9 (by simp)] at hblk
      clear hall
      replace hblk : Blk w3 (w.heap.size + 1) 112 #[.int .i64 (v / D), .int .i64 (-((-v) / D))] := hblk
      have hbw : Below w.heap.size w w3 := HB2.out.trans (hb.mono (by first | omega | (simp; omega)))
      have kk0 := Blk.below K0_2.out hb (by first | omega | (simp; omega))
      clear hb
      have HB3 := Lib.hid hbw
      have K0_3 := Lib.hid (show Blk w3 (w.heap.size) 102 #[.slice A n c, .int .i64 (D)] from kk0)
      have K1_3 := Lib.hid (show Blk w3 (w.heap.size + 1) 112 #[.int .i64 (v / D), .int .i64 (-((-v) / D))] from hblk)
      clear hbw kk0 hblk
      have l0_3 : w.heap.size < w3.heap.size := K0_3.out.lt
      have z0_0_3 : w3.cell? ⟨w.heap.size, 0, none⟩ = some (.slice A n c) := K0_3.out.cell 0
      have z0_1_3 : w3.cell? ⟨w.heap.size, 1, none⟩ = some (.int .i64 (D)) := K0_3.out.cell 1
      have l1_3 : w.heap.size + 1 < w3.heap.size := K1_3.out.lt
      have z1_0_3 : w3.cell? ⟨w.heap.size + 1, 0, none⟩ = some (.int .i64 (v / D)) := K1_3.out.cell 0
      have z1_1_3 : w3.cell? ⟨w.heap.size + 1, 1, none⟩ = some (.int .i64 (-((-v) / D))) := K1_3.out.cell 1
      go_wp2
      exact bodyPost_ret (v := .tuple #[.agg #[.int .i64 (v / D), .int .i64 (-((-v) / D))], .int .i64 0]) (by simp [results, Try.results70, go_sem, z1_0_3, z1_1_3, l1_3]) rfl ⟨rfl, by repeat' (first | exact Below.refl _ _ | exact HB3.out | refine below_drewN ?_ _ | refine Below.drew ?_ | refine Below.alloc ?_ (by first | omega | (simp; done) | (simp; omega) | (simp [World.setCell]; omega)) _ | refine Below.setCell ?_ (by first | omega | (simp; done) | (simp; omega)) _ | assumption)⟩
end Go.Proofs.Ytgamepmipoociaa

end
