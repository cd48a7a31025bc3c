import Derived.Test.YtmejiafmmmeloaaQ22

section
/- The reference's mean squares. -/
namespace Go.Proofs.Ytmejiafmmmeloaa
open Go Go.RowKit

theorem snoc2fr_run (B : Nat) (v : Value) (k : Nat) (xs : List Value) (a b c d : Int) (w : World) (ho : w.ownsRow B 25 2 v k xs) (hB : B ≤ w.heap.size) (hk : k ≤ 100000) :
    ∃ v' W2, (Builtin.append_ #[55, 55] 55 #[v, .slice (some ⟨w.heap.size, 0, none⟩) 2 2]).run Try.prog (w.alloc (.cells #[.int .i64 a, .int .i64 b, .int .i64 c, .int .i64 d] 25)) = .ok v' W2 ∧ W2.ownsRow B 25 2 v' (k + 2) (xs ++ [.int .i64 a, .int .i64 b, .int .i64 c, .int .i64 d]) ∧ Below B w W2 := by
  obtain ⟨i0, hi0, hz0, hz1, hz2⟩ := info_parts info_frac6
  have hbW : Below B w (w.alloc (.cells #[.int .i64 a, .int .i64 b, .int .i64 c, .int .i64 d] 25)) := (Below.refl _ _).alloc hB _
  obtain ⟨v', W2, hrun, o2', hg2, -⟩ := run_append_any (P := Try.prog) (w.alloc (.cells #[.int .i64 a, .int .i64 b, .int .i64 c, .int .i64 d] 25)) B 55 55 25 i0 _ 2 16 Try.underlying55 hi0 hz0 hz1 hz2 rfl (by omega) v k _ (ho.alloc _) (w.alloc (.cells #[.int .i64 a, .int .i64 b, .int .i64 c, .int .i64 d] 25)).heap.size (some ⟨w.heap.size, 0, none⟩) 2 2 [.int .i64 a, .int .i64 b, .int .i64 c, .int .i64 d] (Blk.reads (Blk.new _ _ _) rfl) (by simp [Value.oneCell']) (by unfold maxLen; omega) (by first | omega | (simp; omega)) (by first | omega | (simp; omega))
  exact ⟨v', W2, hrun, o2', hbW.grown hg2 (Nat.le_trans hB hbW.size) (fun g hg => (own_lt ho hg).1)⟩
set_option maxRecDepth 100000 in
set_option maxHeartbeats 8000000 in
theorem rsqr_is (A : Option Addr) (n c : Nat) (l : List Rg) (hl : RgIn l) (hn : 1 ≤ n ∧ n ≤ 6) (a b s v : Int) (h1 : minK (levV l) (levF l).length = (a, b)) (h2 : maxK (a, b) (cornF l) (2 ^ n) = (s, v)) (w : World) (hx : Reads w w.heap.size 2 A n (cells2 l)) :
    Calls Try.prog 8 #[.slice A n c] w fun e w' => e = .returned (.agg #[.int .i64 a, .int .i64 b, .int .i64 s, .int .i64 v]) ∧ Below w.heap.size w w' := by
  have hln : l.length = n := by have := hx.1; rw [cells2_length] at this; omega
  obtain ⟨N2, hN2⟩ : ∃ N2, 2 * n = N2 := ⟨_, rfl⟩
  have hN2b : 1 ≤ N2 ∧ N2 ≤ 12 := by omega
  have HX := Lib.hid hx
  have HL := Lib.hid hl
  have HLN := Lib.hid hln
  have HN2 := Lib.hid hN2
  have HA1 := Lib.hid h1
  have HA2 := Lib.hid h2
  clear hx hl hln hN2 h1 h2
  go_enter Try.func8, Try.ntmps8
  go_wp2_with fail
  generalize hwn : (w.alloc (.cells #[.int .i64 (0), .int .i64 (0), .int .i64 (0), .int .i64 (0)] 26)) = w1
  have hbn : Below w.heap.size w w1 := by rw [← hwn]; repeat' (first | exact Below.refl _ _ | refine below_drewN ?_ _ | refine Below.drew ?_ | refine Below.alloc ?_ (by first | omega | (simp; done) | (simp; omega) | (simp [World.setCell]; omega)) _ | refine Below.setCell ?_ (by first | omega | (simp; done) | (simp; omega)) _)
  have HB1 := Lib.hid (show Below w.heap.size w w1 from hbn)
  have K0_1 := Lib.hid (show Blk w1 (w.heap.size) 26 #[.int .i64 (0), .int .i64 (0), .int .i64 (0), .int .i64 (0)] by rw [← hwn]; repeat' (first | exact Blk.at_ _ (by first | rfl | (simp; done) | (simp; omega)) _ _ | refine Blk.drewN ?_ _ | refine Blk.drew ?_ | refine Blk.alloc ?_ _ | refine Blk.far ?_ (by first | omega | (simp; done) | (simp; omega)) _ | assumption))
  have HN1 := Lib.hid hbn
  have hz1 := hbn.size
  clear hwn hbn
  have l0_1 : w.heap.size < w1.heap.size := K0_1.out.lt
  have z0_0_1 : w1.cell? ⟨w.heap.size, 0, none⟩ = some (.int .i64 (0)) := K0_1.out.cell 0
  have z0_1_1 : w1.cell? ⟨w.heap.size, 1, none⟩ = some (.int .i64 (0)) := K0_1.out.cell 1
  have z0_2_1 : w1.cell? ⟨w.heap.size, 2, none⟩ = some (.int .i64 (0)) := K0_1.out.cell 2
  have z0_3_1 : w1.cell? ⟨w.heap.size, 3, none⟩ = some (.int .i64 (0)) := K0_1.out.cell 3
  go_loopw [3, 4] (fun o x wr => ∃ i : Nat, i ≤ n ∧ x = .int .i64 i ∧ Below w1.heap.size w1 wr ∧ wr.ownsRow w1.heap.size 25 2 o (2 * i) (cells2 (endsL (l.take i)))) (fun _ x _ => n - (intOf x).toNat)
  case atStart => exact ⟨0, by omega, rfl, Below.refl _ _, World.ownsRow_nil _ _ _ _⟩
  case round =>
    obtain ⟨i, hi, rfl, hb, ho⟩ := hrel
    obtain ⟨w2, hnm⟩ : ∃ z : World, z = wr := ⟨_, rfl⟩
    subst hnm
    have HBJ := Lib.hid hb
    have HO2 := Lib.hid ho
    have hb2s := hb.size
    clear hb ho
    by_cases hlt : i < n
    rotate_left
    · obtain rfl : n = i := by omega
      have ho := HO2.out
      rw [List.take_of_length_le (by rw [HLN.out]; omega), HN2.out, ← levP_zero] at ho
      obtain ⟨A2, c2, rfl, -⟩ := own_reads ho
      have HO := Lib.hid ho
      clear ho HO2
      go_wp2
      go_loopw [3, 6] (fun o x wr => ∃ k m : Nat, k ≤ N2 ∧ m ≤ N2 + 2 * k ∧ (levP l k).length = m ∧ x = .int .i64 k ∧ Below w1.heap.size w1 wr ∧ wr.ownsRow w1.heap.size 25 2 o m (cells2 (levP l k))) (fun _ x _ => N2 - (intOf x).toNat)
      case atStart => exact ⟨0, N2, by omega, by omega, by rw [levP_zero, endsL_len, HLN.out]; exact HN2.out, rfl, HBJ.out, HO.out⟩
      case round =>
        obtain ⟨k, m, hk, hm, hlm, rfl, hb, ho⟩ := hrel
        obtain ⟨w3, hnm⟩ : ∃ z : World, z = wr := ⟨_, rfl⟩
        subst hnm
        have HB3 := Lib.hid hb
        have HO3 := Lib.hid ho
        have HLM := Lib.hid hlm
        have hb3s := hb.size
        clear hb ho hlm HO HBJ
        by_cases hlt2 : k < N2
        rotate_left
        · obtain rfl : N2 = k := by omega
          have hlm := HLM.out
          have hlf : levP l N2 = levF l := by rw [← HN2.out, ← HLN.out]; exact levP_all l
          rw [hlf] at hlm
          have ho := HO3.out
          rw [hlf] at ho
          obtain ⟨A3, c3, rfl, hr3⟩ := own_reads ho
          have HRL := Lib.hid hr3
          have HLF := Lib.hid hlm
          have hmm : 1 ≤ m ∧ m ≤ 36 := by
            have h3 : (levF l).length ≥ N2 := by unfold levF; rw [List.length_append, endsL_len, HLN.out]; have := HN2.out; omega
            omega
          have hbw := HB1.out.trans (HB3.out.mono HB1.out.size)
          have HXW := Lib.hid (show Reads w3 w3.heap.size 2 A n (cells2 l) from (HX.out.below hbw).more hbw.size)
          have hk3 := K0_1.out.below HB3.out K0_1.out.lt
          clear hlm hlf ho hr3 HO3 HLM
          have HB3 := Lib.hid hbw
          have K0_3 := Lib.hid (show Blk w3 (w.heap.size) 26 #[.int .i64 (0), .int .i64 (0), .int .i64 (0), .int .i64 (0)] from hk3)
          clear hbw hk3
          have l0_3 : w.heap.size < w3.heap.size := K0_3.out.lt
          have z0_0_3 : w3.cell? ⟨w.heap.size, 0, none⟩ = some (.int .i64 (0)) := K0_3.out.cell 0
          have z0_1_3 : w3.cell? ⟨w.heap.size, 1, none⟩ = some (.int .i64 (0)) := K0_3.out.cell 1
          have z0_2_3 : w3.cell? ⟨w.heap.size, 2, none⟩ = some (.int .i64 (0)) := K0_3.out.cell 2
          have z0_3_3 : w3.cell? ⟨w.heap.size, 3, none⟩ = some (.int .i64 (0)) := K0_3.out.cell 3
          obtain ⟨eb, eo, ⟨N0, D0⟩, hAe, heb, hget, c0, c1⟩ := HRL.out.pair (show 0 < m by omega)
          simp only [Nat.zero_mul, Nat.add_zero] at c0 c1
          obtain ⟨s0, v0, hsv0⟩ : ∃ s0 v0, levV l 0 = (s0, v0) := ⟨_, _, rfl⟩
          have HSQ := Lib.hid (levsq_is HL.out HLN.out hn hget hsv0)
          have HNEAR := Lib.hid (fun (w' : World) (hb : Below w3.heap.size w3 w') => levnear_is HL.out HLN.out hn hget A c w' ((HXW.out.below hb).more hb.size))
          have HC0 := Lib.hid (fun (w' : World) (hb : Below w3.heap.size w3 w') => (hb.cell (p := ⟨eb, eo, none⟩) heb).trans c0)
          have HC1 := Lib.hid (fun (w' : World) (hb : Below w3.heap.size w3 w') => (hb.cell (p := ⟨eb, eo + 1, none⟩) heb).trans c1)
          have HS0 := Lib.hid (show minK (levV l) 1 = (s0, v0) by show (if lessB (levV l 0) (levV l 0) then levV l 0 else levV l 0) = _; rw [hsv0]; split <;> rfl)
          have hm0 : 0 < m := by omega
          have HAE := Lib.hid hAe
          subst hAe
          clear hget hsv0 c0 c1
          go_wp2
          apply share (Fact := fun (x y : Pick2) (wz : World) => ∃ bq, y.1.1 = some ⟨bq, 0, none⟩ ∧ w3.heap.size ≤ bq ∧ Below w3.heap.size w3 wz ∧ Blk wz bq 25 #[.int .i64 (s0), .int .i64 (v0)])
          · skip
            intro key
            refine Fx.regionM (fun W g f w' => KpS (PfN (l.map (clampF N0 D0)) n 4) 25 (.int .i64 (s0)) (.int .i64 (v0)) 10 11 W g f w') (fun i (x : Pick2) => if i = 4 then .slice x.1.1 n x.1.2 else .pointer x.1.1) (by kernel_rfl) ?_ ?_
            · intro f hf0
              exact KpS.start
            first
            | (refine Fx.WM.skip 0 (by rfl) (by kernel_rfl) (by kernel_rfl) (by kernel_rfl) (by rfl) (fun g f w h => h.same (by decide)) ?_; simp only [Act.put, List.setIfInBounds_toArray, List.set_cons_zero, List.set_cons_succ])
            | (refine Fx.WM.val_ 0 ?_ (by rfl) (by kernel_rfl) (by kernel_rfl) (by kernel_rfl) (by rfl) ?_ (fun g f w h => h.same (by decide)) ?_
               rotate_left
               · intro g f w' hx hD hk
                 obtain hkp := id hD
                 clear hx hk hD hkp
                 go_simp
                 try rfl
               simp only [Act.put, List.setIfInBounds_toArray, List.set_cons_zero, List.set_cons_succ])
            first
            | (refine Fx.WM.skip 1 (by rfl) (by kernel_rfl) (by kernel_rfl) (by kernel_rfl) (by rfl) (fun g f w h => h.same (by decide)) ?_; simp only [Act.put, List.setIfInBounds_toArray, List.set_cons_zero, List.set_cons_succ])
            | (refine Fx.WM.val_ 1 ?_ (by rfl) (by kernel_rfl) (by kernel_rfl) (by kernel_rfl) (by rfl) ?_ (fun g f w h => h.same (by decide)) ?_
               rotate_left
               · intro g f w' hx hD hk
                 obtain hkp := id hD
                 clear hx hk hD hkp
                 go_simp
                 try rfl
               simp only [Act.put, List.setIfInBounds_toArray, List.set_cons_zero, List.set_cons_succ])
            first
            | (refine Fx.WM.skip 2 (by rfl) (by kernel_rfl) (by kernel_rfl) (by kernel_rfl) (by rfl) (fun g f w h => h.same (by decide)) ?_; simp only [Act.put, List.setIfInBounds_toArray, List.set_cons_zero, List.set_cons_succ])
            | (refine Fx.WM.val_ 2 ?_ (by rfl) (by kernel_rfl) (by kernel_rfl) (by kernel_rfl) (by rfl) ?_ (fun g f w h => h.same (by decide)) ?_
               rotate_left
               · intro g f w' hx hD hk
                 obtain hkp := id hD
                 clear hx hk hD hkp
                 go_simp
                 try rfl
               simp only [Act.put, List.setIfInBounds_toArray, List.set_cons_zero, List.set_cons_succ])
            first
            | (refine Fx.WM.skip 3 (by rfl) (by kernel_rfl) (by kernel_rfl) (by kernel_rfl) (by rfl) (fun g f w h => h.same (by decide)) ?_; simp only [Act.put, List.setIfInBounds_toArray, List.set_cons_zero, List.set_cons_succ])
            | (refine Fx.WM.val_ 3 ?_ (by rfl) (by kernel_rfl) (by kernel_rfl) (by kernel_rfl) (by rfl) ?_ (fun g f w h => h.same (by decide)) ?_
               rotate_left
               · intro g f w' hx hD hk
                 obtain hkp := id hD
                 have y1 := HC0.out w' hkp.bel
                 have y2 := HC1.out w' hkp.bel
                 clear hx hk hD hkp
                 go_simp
                 try rfl
               simp only [Act.put, List.setIfInBounds_toArray, List.set_cons_zero, List.set_cons_succ])
            first
            | (refine Fx.WM.skip 5 (by rfl) (by kernel_rfl) (by kernel_rfl) (by kernel_rfl) (by rfl) (fun g f w h => h.same (by decide)) ?_; simp only [Act.put, List.setIfInBounds_toArray, List.set_cons_zero, List.set_cons_succ])
            | (refine Fx.WM.val_ 5 ?_ (by rfl) (by kernel_rfl) (by kernel_rfl) (by kernel_rfl) (by rfl) ?_ (fun g f w h => h.same (by decide)) ?_
               rotate_left
               · intro g f w' hx hD hk
                 obtain hkp := id hD
                 clear hx hk hD hkp
                 go_simp
                 try rfl
               simp only [Act.put, List.setIfInBounds_toArray, List.set_cons_zero, List.set_cons_succ])
            first
            | (refine Fx.WM.skip 6 (by rfl) (by kernel_rfl) (by kernel_rfl) (by kernel_rfl) (by rfl) (fun g f w h => h.same (by decide)) ?_; simp only [Act.put, List.setIfInBounds_toArray, List.set_cons_zero, List.set_cons_succ])
            | (refine Fx.WM.val_ 6 ?_ (by rfl) (by kernel_rfl) (by kernel_rfl) (by kernel_rfl) (by rfl) ?_ (fun g f w h => h.same (by decide)) ?_
               rotate_left
               · intro g f w' hx hD hk
                 obtain hkp := id hD
                 clear hx hk hD hkp
                 go_simp
                 try rfl
               simp only [Act.put, List.setIfInBounds_toArray, List.set_cons_zero, List.set_cons_succ])
            first
            | (refine Fx.WM.skip 7 (by rfl) (by kernel_rfl) (by kernel_rfl) (by kernel_rfl) (by rfl) (fun g f w h => h.same (by decide)) ?_; simp only [Act.put, List.setIfInBounds_toArray, List.set_cons_zero, List.set_cons_succ])
            | (refine Fx.WM.val_ 7 ?_ (by rfl) (by kernel_rfl) (by kernel_rfl) (by kernel_rfl) (by rfl) ?_ (fun g f w h => h.same (by decide)) ?_
               rotate_left
               · intro g f w' hx hD hk
                 obtain hkp := id hD
                 clear hx hk hD hkp
                 go_simp
                 try rfl
               simp only [Act.put, List.setIfInBounds_toArray, List.set_cons_zero, List.set_cons_succ])
            first
            | (refine Fx.WM.skip 8 (by rfl) (by kernel_rfl) (by kernel_rfl) (by kernel_rfl) (by rfl) (fun g f w h => h.same (by decide)) ?_; simp only [Act.put, List.setIfInBounds_toArray, List.set_cons_zero, List.set_cons_succ])
            | (refine Fx.WM.val_ 8 ?_ (by rfl) (by kernel_rfl) (by kernel_rfl) (by kernel_rfl) (by rfl) ?_ (fun g f w h => h.same (by decide)) ?_
               rotate_left
               · intro g f w' hx hD hk
                 obtain hkp := id hD
                 have y2 := HC1.out w' hkp.bel
                 clear hx hk hD hkp
                 go_simp
                 try rfl
               simp only [Act.put, List.setIfInBounds_toArray, List.set_cons_zero, List.set_cons_succ])
            refine Fx.WM.choose2 4 10 (by rfl) (by rfl) (by kernel_rfl) (by rfl) (by rfl) ?_ ?_ ?_ ?_
            · skip
              refine Fx.Chooses.call ?_ ?_ (by rfl) ?_ ?_
              rotate_left 2
              · intro w'
                go_simp
                refine ⟨?_, ?_⟩ <;> rfl
              · intro f w' hD hk
                exact (HNEAR.out w' hD.bel).mono fun e w'' ⟨A', c', he, hb, hr⟩ => ⟨((A', c'), (none, 0)), he, hD.choose PfN.stb hb 4 _ (by decide) (by decide) (fun _ => hr)⟩
            · skip
              refine Fx.Chooses.make (by rfl) ?_
              intro f w' hD hk
              refine ⟨((some ⟨w'.heap.size, 0, none⟩, 0), (none, 0)), w'.alloc (.cells #[.int .i64 (0), .int .i64 (0)] 25), ?_, ?_⟩
              · clear hk hD
                go_simp
                try rfl
              · exact hD.make PfN.stb (hk.2.1 11 (by kernel_rfl)) (by decide)
            · skip
              intro x
              simp only [Act.put, List.setIfInBounds_toArray, List.set_cons_zero, List.set_cons_succ]
              refine Fx.WM.call 9 (.agg #[.int .i64 (s0), .int .i64 (v0)]) ?_ ?_ (by rfl) (by kernel_rfl) (by kernel_rfl) (by kernel_rfl) (by rfl) ?_ ?_ ?_
              rotate_left 2
              · intro w'
                go_simp
                refine ⟨?_, ?_⟩ <;> rfl
              · intro g f w' hx hD hk
                exact (HSQ.out _ _ w' ((hD.has (hk.2.1 11 (by kernel_rfl)) 4 x (hx 4 _ (by rfl)) (by decide)) rfl)).mono fun e w'' ⟨he, hw⟩ => ⟨he, hD.call PfN.stb (by decide) hw⟩
              simp only [Act.put, List.setIfInBounds_toArray, List.set_cons_zero, List.set_cons_succ]
              refine Fx.WM.choose 10 (by rfl) (by kernel_rfl) (by rfl) ?_ ?_
              · skip
                refine Fx.Chooses.make (by rfl) ?_
                intro f w' hD hk
                refine ⟨((some ⟨w'.heap.size, 0, none⟩, 0), (none, 0)), w'.alloc (.cells #[.int .i64 (0), .int .i64 (0)] 25), ?_, ?_⟩
                · clear hk hD
                  go_simp
                  try rfl
                · exact hD.make PfN.stb (hk.2.1 11 (by kernel_rfl)) (by decide)
              intro y
              simp only [Act.put, List.setIfInBounds_toArray, List.set_cons_zero, List.set_cons_succ]
              refine Fx.WM.eff 11 undef (by rfl) (by kernel_rfl) (by kernel_rfl) (by kernel_rfl) (by rfl) ?_ ?_
              · intro g f w' hx hD hk
                obtain ⟨bx, e0, e1, r0, r1, r2, r3, r4, r5⟩ := KpS.cells hD (hx 10 _ (by rfl))
                refine Fx.gives_skip (w' := ((w'.setCell ⟨bx, 0, none⟩ (.int .i64 (s0))).setCell ⟨bx, 1, none⟩ (.int .i64 (v0)))) ?_ ?_
                · clear hx hk hD
                  go_simp
                  try rfl
                · exact KpS.store hD (hx 10 _ (by rfl)) r0
              simp only [Act.put, List.setIfInBounds_toArray, List.set_cons_zero, List.set_cons_succ]
              refine Fx.WM.nil (by kernel_rfl) ?_
              intro wz hkp
              obtain ⟨bq, h1, h2, h3⟩ := hkp.end_ (x := y) (by rfl) (by rfl)
              exact key x y wz ⟨bq, h1, h2, hkp.bel, h3⟩
            · skip
              intro y
              simp only [Act.put, List.setIfInBounds_toArray, List.set_cons_zero, List.set_cons_succ]
              refine Fx.WM.choose 4 (by rfl) (by kernel_rfl) (by rfl) ?_ ?_
              · skip
                refine Fx.Chooses.call ?_ ?_ (by rfl) ?_ ?_
                rotate_left 2
                · intro w'
                  go_simp
                  refine ⟨?_, ?_⟩ <;> rfl
                · intro f w' hD hk
                  exact (HNEAR.out w' hD.bel).mono fun e w'' ⟨A', c', he, hb, hr⟩ => ⟨((A', c'), (none, 0)), he, hD.choose PfN.stb hb 4 _ (by decide) (by decide) (fun _ => hr)⟩
              intro x
              simp only [Act.put, List.setIfInBounds_toArray, List.set_cons_zero, List.set_cons_succ]
              refine Fx.WM.call 9 (.agg #[.int .i64 (s0), .int .i64 (v0)]) ?_ ?_ (by rfl) (by kernel_rfl) (by kernel_rfl) (by kernel_rfl) (by rfl) ?_ ?_ ?_
              rotate_left 2
              · intro w'
                go_simp
                refine ⟨?_, ?_⟩ <;> rfl
              · intro g f w' hx hD hk
                exact (HSQ.out _ _ w' ((hD.has (hk.2.1 11 (by kernel_rfl)) 4 x (hx 4 _ (by rfl)) (by decide)) rfl)).mono fun e w'' ⟨he, hw⟩ => ⟨he, hD.call PfN.stb (by decide) hw⟩
              simp only [Act.put, List.setIfInBounds_toArray, List.set_cons_zero, List.set_cons_succ]
              refine Fx.WM.eff 11 undef (by rfl) (by kernel_rfl) (by kernel_rfl) (by kernel_rfl) (by rfl) ?_ ?_
              · intro g f w' hx hD hk
                obtain ⟨bx, e0, e1, r0, r1, r2, r3, r4, r5⟩ := KpS.cells hD (hx 10 _ (by rfl))
                refine Fx.gives_skip (w' := ((w'.setCell ⟨bx, 0, none⟩ (.int .i64 (s0))).setCell ⟨bx, 1, none⟩ (.int .i64 (v0)))) ?_ ?_
                · clear hx hk hD
                  go_simp
                  try rfl
                · exact KpS.store hD (hx 10 _ (by rfl)) r0
              simp only [Act.put, List.setIfInBounds_toArray, List.set_cons_zero, List.set_cons_succ]
              refine Fx.WM.nil (by kernel_rfl) ?_
              intro wz hkp
              obtain ⟨bq, h1, h2, h3⟩ := hkp.end_ (x := y) (by rfl) (by rfl)
              exact key x y wz ⟨bq, h1, h2, hkp.bel, h3⟩
          rintro ⟨⟨x1, x2⟩, ⟨x3, x4⟩⟩ ⟨⟨y1, y2⟩, ⟨y3, y4⟩⟩ w4 ⟨bx, hy, hbx, hb, hbk⟩
          simp only at hy
          subst hy
          simp only [show ((10 : Nat) = 4) = False from by simp, if_false, if_true]
          have HW4 := Lib.hid hb
          have HK4 := Lib.hid hbk
          clear hb hbk HSQ HNEAR HC0 HC1
          go_wp2
          go_loopw [13] (fun x wr => ∃ k : Nat, 1 ≤ k ∧ k ≤ m ∧ x = .int .i64 k ∧ Below w3.heap.size w3 wr ∧ ∃ p q, minK (levV l) k = (p, q) ∧ Blk wr bx 25 #[.int .i64 p, .int .i64 q]) (fun x _ => m - (intOf x).toNat)
          case atStart => exact ⟨1, by omega, by omega, rfl, HW4.out, s0, v0, HS0.out, HK4.out⟩
          case round =>
            obtain ⟨k, hk1, hk, rfl, hb, p, q, hpq, hbk⟩ := hrel
            obtain ⟨w5, hnm⟩ : ∃ z : World, z = wr := ⟨_, rfl⟩
            subst hnm
            have HW5 := Lib.hid hb
            have hb5s := hb.size
            have hbw := HB3.out.trans (hb.mono HB3.out.size)
            have hk5 := K0_3.out.below hb K0_3.out.lt
            have HPQ := Lib.hid hpq
            clear hb hpq HW4 HK4 HS0
            by_cases hlt5 : k < m
            rotate_left
            · obtain rfl : m = k := by omega
              have e := HA1.out
              rw [HLF.out, HPQ.out] at e
              have e1 := congrArg Prod.fst e
              have e2 := congrArg Prod.snd e
              simp only at e1 e2
              rw [e1, e2] at hbk
              clear e e1 e2
              have hk5s : w1.heap.size ≤ w5.heap.size := by have := HB3.out.size; omega
              have HB5 := Lib.hid hbw
              have K0_5 := Lib.hid (show Blk w5 (w.heap.size) 26 #[.int .i64 (0), .int .i64 (0), .int .i64 (0), .int .i64 (0)] from hk5)
              have K1_5 := Lib.hid (show Blk w5 (bx) 25 #[.int .i64 (a), .int .i64 (b)] from hbk)
              clear hbw hk5 hbk
              have l0_5 : w.heap.size < w5.heap.size := K0_5.out.lt
              have z0_0_5 : w5.cell? ⟨w.heap.size, 0, none⟩ = some (.int .i64 (0)) := K0_5.out.cell 0
              have z0_1_5 : w5.cell? ⟨w.heap.size, 1, none⟩ = some (.int .i64 (0)) := K0_5.out.cell 1
              have z0_2_5 : w5.cell? ⟨w.heap.size, 2, none⟩ = some (.int .i64 (0)) := K0_5.out.cell 2
              have z0_3_5 : w5.cell? ⟨w.heap.size, 3, none⟩ = some (.int .i64 (0)) := K0_5.out.cell 3
              have l1_5 : bx < w5.heap.size := K1_5.out.lt
              have z1_0_5 : w5.cell? ⟨bx, 0, none⟩ = some (.int .i64 (a)) := K1_5.out.cell 0
              have z1_1_5 : w5.cell? ⟨bx, 1, none⟩ = some (.int .i64 (b)) := K1_5.out.cell 1
              have hlbx : bx < w5.heap.size := l1_5
              have hwl5 : w.heap.size ≤ w5.heap.size := HB5.out.size
              have hab : LevB (a, b) := by rw [← HA1.out]; exact minK_bd (fun i hi => levV_in HL.out (by rw [HLN.out]; exact hn) hi) (by rw [HLF.out]; omega) (Nat.le_refl _)
              have HAB := Lib.hid hab
              obtain ⟨N, hN⟩ : ∃ N, 2 ^ n = N := ⟨_, rfl⟩
              have hNb : 1 ≤ N ∧ N ≤ 1024 := by rw [← hN]; exact ⟨Nat.one_le_two_pow, pow_lt10 (by omega)⟩
              have hshl := pow63 hN (by omega)
              have ha2 := HA2.out
              rw [hN] at ha2
              have HA3 := Lib.hid ha2
              clear hab ha2 hN
              go_wp2_with fail
              generalize hwn : (w5.alloc (.cells #[.int .i64 (a), .int .i64 (b)] 25)) = w6
              have hbn : Below w5.heap.size w5 w6 := by rw [← hwn]; repeat' (first | exact Below.refl _ _ | refine below_drewN ?_ _ | refine Below.drew ?_ | refine Below.alloc ?_ (by first | omega | (simp; done) | (simp; omega) | (simp [World.setCell]; omega)) _ | refine Below.setCell ?_ (by first | omega | (simp; done) | (simp; omega)) _)
              have HB6 := Lib.hid (show Below w.heap.size w w6 from HB5.out.trans (hbn.mono HB5.out.size))
              have K0_6 := Lib.hid (step_blk hbn K0_5.out)
              have K1_6 := Lib.hid (step_blk hbn K1_5.out)
              have K2_6 := Lib.hid (show Blk w6 (w5.heap.size) 25 #[.int .i64 (a), .int .i64 (b)] by rw [← hwn]; repeat' (first | exact Blk.at_ _ (by first | rfl | (simp; done) | (simp; omega)) _ _ | refine Blk.drewN ?_ _ | refine Blk.drew ?_ | refine Blk.alloc ?_ _ | refine Blk.far ?_ (by first | omega | (simp; done) | (simp; omega)) _ | assumption))
              have HN6 := Lib.hid hbn
              have hz6 := hbn.size
              clear hwn hbn K0_5 l0_5 z0_0_5 z0_1_5 z0_2_5 z0_3_5 K1_5 l1_5 z1_0_5 z1_1_5
              have l0_6 : w.heap.size < w6.heap.size := K0_6.out.lt
              have z0_0_6 : w6.cell? ⟨w.heap.size, 0, none⟩ = some (.int .i64 (0)) := K0_6.out.cell 0
              have z0_1_6 : w6.cell? ⟨w.heap.size, 1, none⟩ = some (.int .i64 (0)) := K0_6.out.cell 1
              have z0_2_6 : w6.cell? ⟨w.heap.size, 2, none⟩ = some (.int .i64 (0)) := K0_6.out.cell 2
              have z0_3_6 : w6.cell? ⟨w.heap.size, 3, none⟩ = some (.int .i64 (0)) := K0_6.out.cell 3
              have l1_6 : bx < w6.heap.size := K1_6.out.lt
              have z1_0_6 : w6.cell? ⟨bx, 0, none⟩ = some (.int .i64 (a)) := K1_6.out.cell 0
              have z1_1_6 : w6.cell? ⟨bx, 1, none⟩ = some (.int .i64 (b)) := K1_6.out.cell 1
              have l2_6 : w5.heap.size < w6.heap.size := K2_6.out.lt
              have z2_0_6 : w6.cell? ⟨w5.heap.size, 0, none⟩ = some (.int .i64 (a)) := K2_6.out.cell 0
              have z2_1_6 : w6.cell? ⟨w5.heap.size, 1, none⟩ = some (.int .i64 (b)) := K2_6.out.cell 1
              go_loopw [16] (fun x wr => ∃ t : Nat, t ≤ N ∧ x = .int .i64 t ∧ Below w5.heap.size w6 wr ∧ ∃ p q, maxK (a, b) (cornF l) t = (p, q) ∧ Blk wr w5.heap.size 25 #[.int .i64 p, .int .i64 q]) (fun x _ => N - (intOf x).toNat)
              case atStart => exact ⟨0, by omega, rfl, Below.refl _ _, a, b, rfl, K2_6.out⟩
              case round =>
                obtain ⟨t, ht, rfl, hb, p2, q2, hpq2, hbk⟩ := hrel
                obtain ⟨w7, hnm⟩ : ∃ z : World, z = wr := ⟨_, rfl⟩
                subst hnm
                have HW7 := Lib.hid hb
                have hb7s := hb.size
                have hbw := HB6.out.trans (hb.mono hwl5)
                have hk7 := K0_6.out.below hb (by omega)
                have hx7 := K1_6.out.below hb hlbx
                have HPQ2 := Lib.hid hpq2
                clear hb hpq2
                by_cases hlt7 : t < N
                rotate_left
                · obtain rfl : N = t := by omega
                  have e := HA3.out
                  rw [HPQ2.out] at e
                  have e1 := congrArg Prod.fst e
                  have e2 := congrArg Prod.snd e
                  simp only at e1 e2
                  rw [e1, e2] at hbk
                  clear e e1 e2
                  have HB7 := Lib.hid hbw
                  have K0_7 := Lib.hid (show Blk w7 (w.heap.size) 26 #[.int .i64 (0), .int .i64 (0), .int .i64 (0), .int .i64 (0)] from hk7)
                  have K1_7 := Lib.hid (show Blk w7 (bx) 25 #[.int .i64 (a), .int .i64 (b)] from hx7)
                  have K2_7 := Lib.hid (show Blk w7 (w5.heap.size) 25 #[.int .i64 (s), .int .i64 (v)] from hbk)
                  clear hbw hk7 hx7 hbk
                  have l0_7 : w.heap.size < w7.heap.size := K0_7.out.lt
                  have z0_0_7 : w7.cell? ⟨w.heap.size, 0, none⟩ = some (.int .i64 (0)) := K0_7.out.cell 0
                  have z0_1_7 : w7.cell? ⟨w.heap.size, 1, none⟩ = some (.int .i64 (0)) := K0_7.out.cell 1
                  have z0_2_7 : w7.cell? ⟨w.heap.size, 2, none⟩ = some (.int .i64 (0)) := K0_7.out.cell 2
                  have z0_3_7 : w7.cell? ⟨w.heap.size, 3, none⟩ = some (.int .i64 (0)) := K0_7.out.cell 3
                  have l1_7 : bx < w7.heap.size := K1_7.out.lt
                  have z1_0_7 : w7.cell? ⟨bx, 0, none⟩ = some (.int .i64 (a)) := K1_7.out.cell 0
                  have z1_1_7 : w7.cell? ⟨bx, 1, none⟩ = some (.int .i64 (b)) := K1_7.out.cell 1
                  have l2_7 : w5.heap.size < w7.heap.size := K2_7.out.lt
                  have z2_0_7 : w7.cell? ⟨w5.heap.size, 0, none⟩ = some (.int .i64 (s)) := K2_7.out.cell 0
                  have z2_1_7 : w7.cell? ⟨w5.heap.size, 1, none⟩ = some (.int .i64 (v)) := K2_7.out.cell 1
                  have zf0_0 := K0_7.out.frozen 0
                  have zf0_1 := K0_7.out.frozen 1
                  have zf0_2 := K0_7.out.frozen 2
                  have zf0_3 := K0_7.out.frozen 3
                  go_wp2
                  exact bodyPost_ret (v := .agg #[.int .i64 a, .int .i64 b, .int .i64 s, .int .i64 v]) (by simp [results, Try.results8, go_sem, z0_0_7, z0_1_7, z0_2_7, z0_3_7, l0_7]) rfl ⟨rfl, by repeat' (first | exact Below.refl _ _ | exact HB7.out | refine below_drewN ?_ _ | refine Below.drew ?_ | refine Below.alloc ?_ (by first | omega | (simp; done) | (simp; omega) | (simp [World.setCell]; omega)) _ | refine Below.setCell ?_ (by first | omega | (simp; done) | (simp; omega)) _ | assumption)⟩
                have htt : (t : Int) < (N : Int) := by omega
                have et := IntWalk.i64_in ((t : Int) + 1) ⟨by omega, by omega⟩
                obtain ⟨s2, v2, hsv2⟩ : ∃ s2 v2, cornF l t = (s2, v2) := ⟨_, _, rfl⟩
                have hcv : LevB (s2, v2) := by rw [← hsv2]; exact cornF_in HL.out (by rw [HLN.out]; exact hn) t
                have hmv : LevB (p2, q2) := by rw [← HPQ2.out]; exact maxK_bd (m := N) (fun i _ => cornF_in HL.out (by rw [HLN.out]; exact hn) i) HAB.out ht
                have HNX2 := Lib.hid (show maxK (a, b) (cornF l) (t + 1) = if lessB (p2, q2) (s2, v2) then (s2, v2) else (p2, q2) by show (if lessB (maxK (a, b) (cornF l) t) (cornF l t) then cornF l t else maxK (a, b) (cornF l) t) = _; rw [HPQ2.out, hsv2])
                have HCV := Lib.hid hcv
                have HMV2 := Lib.hid hmv
                have HSV2 := Lib.hid hsv2
                have HBW7 := Lib.hid hbw
                have HK7 := Lib.hid hk7
                have HX7 := Lib.hid hx7
                have HC7 := Lib.hid hbk
                have HXW7 := Lib.hid (show Reads w7 w.heap.size 2 A n (cells2 l) from HX.out.below hbw)
                have hwl7 := hbw.size
                clear hcv hmv hsv2 hbw hk7 hx7 hbk
                go_wp2
                go_loopw [17, 18] (fun h x wr => ∃ i : Nat, i ≤ n ∧ x = .int .i64 i ∧ Below w7.heap.size w7 wr ∧ wr.ownsRow w7.heap.size 3 1 h i ((cornL l t i).map (.int .i64))) (fun _ x _ => n - (intOf x).toNat)
                case atStart => exact ⟨0, by omega, rfl, Below.refl _ _, World.ownsRow_nil _ _ _ _⟩
                case round =>
                  obtain ⟨i, hi, rfl, hb, ho⟩ := hrel
                  obtain ⟨w8, hnm⟩ : ∃ z : World, z = wr := ⟨_, rfl⟩
                  subst hnm
                  have HW8 := Lib.hid hb
                  have HO8 := Lib.hid ho
                  have hb8s := hb.size
                  clear hb ho
                  by_cases hlt8 : i < n
                  rotate_left
                  · obtain rfl : n = i := by omega
                    obtain ⟨A8, c8, rfl, hr8⟩ := own_reads HO8.out
                    have HR8 := Lib.hid hr8
                    clear hr8
                    go_wp2_with fail
                    refine (cornsq_is HL.out HLN.out hn HSV2.out A8 c8 _ HR8.out).mono ?_
                    rintro e w9 ⟨rfl, hb9⟩
                    have hb79 := HW8.out.trans (hb9.mono hb8s)
                    have hbw := HBW7.out.trans (hb79.mono hwl7)
                    have hk9 := HK7.out.below hb79 HK7.out.lt
                    have hx9 := HX7.out.below hb79 HX7.out.lt
                    have hc9 := HC7.out.below hb79 HC7.out.lt
                    have HB79 := Lib.hid hb79
                    have hb79s := hb79.size
                    clear hb79 hb9
                    have HB9 := Lib.hid hbw
                    have K0_9 := Lib.hid (show Blk w9 (w.heap.size) 26 #[.int .i64 (0), .int .i64 (0), .int .i64 (0), .int .i64 (0)] from hk9)
                    have K1_9 := Lib.hid (show Blk w9 (bx) 25 #[.int .i64 (a), .int .i64 (b)] from hx9)
                    have K2_9 := Lib.hid (show Blk w9 (w5.heap.size) 25 #[.int .i64 (p2), .int .i64 (q2)] from hc9)
                    clear hbw hk9 hx9 hc9
                    have l0_9 : w.heap.size < w9.heap.size := K0_9.out.lt
                    have z0_0_9 : w9.cell? ⟨w.heap.size, 0, none⟩ = some (.int .i64 (0)) := K0_9.out.cell 0
                    have z0_1_9 : w9.cell? ⟨w.heap.size, 1, none⟩ = some (.int .i64 (0)) := K0_9.out.cell 1
                    have z0_2_9 : w9.cell? ⟨w.heap.size, 2, none⟩ = some (.int .i64 (0)) := K0_9.out.cell 2
                    have z0_3_9 : w9.cell? ⟨w.heap.size, 3, none⟩ = some (.int .i64 (0)) := K0_9.out.cell 3
                    have l1_9 : bx < w9.heap.size := K1_9.out.lt
                    have z1_0_9 : w9.cell? ⟨bx, 0, none⟩ = some (.int .i64 (a)) := K1_9.out.cell 0
                    have z1_1_9 : w9.cell? ⟨bx, 1, none⟩ = some (.int .i64 (b)) := K1_9.out.cell 1
                    have l2_9 : w5.heap.size < w9.heap.size := K2_9.out.lt
                    have z2_0_9 : w9.cell? ⟨w5.heap.size, 0, none⟩ = some (.int .i64 (p2)) := K2_9.out.cell 0
                    have z2_1_9 : w9.cell? ⟨w5.heap.size, 1, none⟩ = some (.int .i64 (q2)) := K2_9.out.cell 1
                    have HA9 := Lib.hid (show Below w9.heap.size w9 w9 from Below.refl _ _)
                    go_wp2_with fail
                    generalize hwn : (w9.alloc (.cells #[.int .i64 (s2), .int .i64 (v2)] 25)) = w10
                    have hbn : Below w9.heap.size w9 w10 := by rw [← hwn]; repeat' (first | exact Below.refl _ _ | refine below_drewN ?_ _ | refine Below.drew ?_ | refine Below.alloc ?_ (by first | omega | (simp; done) | (simp; omega) | (simp [World.setCell]; omega)) _ | refine Below.setCell ?_ (by first | omega | (simp; done) | (simp; omega)) _)
                    have HB10 := Lib.hid (show Below w.heap.size w w10 from HB9.out.trans (hbn.mono HB9.out.size))
                    have K0_10 := Lib.hid (step_blk hbn K0_9.out)
                    have K1_10 := Lib.hid (step_blk hbn K1_9.out)
                    have K2_10 := Lib.hid (step_blk hbn K2_9.out)
                    have K3_10 := Lib.hid (show Blk w10 (w9.heap.size) 25 #[.int .i64 (s2), .int .i64 (v2)] by rw [← hwn]; repeat' (first | exact Blk.at_ _ (by first | rfl | (simp; done) | (simp; omega)) _ _ | refine Blk.drewN ?_ _ | refine Blk.drew ?_ | refine Blk.alloc ?_ _ | refine Blk.far ?_ (by first | omega | (simp; done) | (simp; omega)) _ | assumption))
                    have HA10 := Lib.hid (step_below hbn HA9.out)
                    clear HA9
                    have HN10 := Lib.hid hbn
                    have hz10 := hbn.size
                    clear hwn hbn K0_9 l0_9 z0_0_9 z0_1_9 z0_2_9 z0_3_9 K1_9 l1_9 z1_0_9 z1_1_9 K2_9 l2_9 z2_0_9 z2_1_9
                    have l0_10 : w.heap.size < w10.heap.size := K0_10.out.lt
                    have z0_0_10 : w10.cell? ⟨w.heap.size, 0, none⟩ = some (.int .i64 (0)) := K0_10.out.cell 0
                    have z0_1_10 : w10.cell? ⟨w.heap.size, 1, none⟩ = some (.int .i64 (0)) := K0_10.out.cell 1
                    have z0_2_10 : w10.cell? ⟨w.heap.size, 2, none⟩ = some (.int .i64 (0)) := K0_10.out.cell 2
                    have z0_3_10 : w10.cell? ⟨w.heap.size, 3, none⟩ = some (.int .i64 (0)) := K0_10.out.cell 3
                    have l1_10 : bx < w10.heap.size := K1_10.out.lt
                    have z1_0_10 : w10.cell? ⟨bx, 0, none⟩ = some (.int .i64 (a)) := K1_10.out.cell 0
                    have z1_1_10 : w10.cell? ⟨bx, 1, none⟩ = some (.int .i64 (b)) := K1_10.out.cell 1
                    have l2_10 : w5.heap.size < w10.heap.size := K2_10.out.lt
                    have z2_0_10 : w10.cell? ⟨w5.heap.size, 0, none⟩ = some (.int .i64 (p2)) := K2_10.out.cell 0
                    have z2_1_10 : w10.cell? ⟨w5.heap.size, 1, none⟩ = some (.int .i64 (q2)) := K2_10.out.cell 1
                    have l3_10 : w9.heap.size < w10.heap.size := K3_10.out.lt
                    have z3_0_10 : w10.cell? ⟨w9.heap.size, 0, none⟩ = some (.int .i64 (s2)) := K3_10.out.cell 0
                    have z3_1_10 : w10.cell? ⟨w9.heap.size, 1, none⟩ = some (.int .i64 (v2)) := K3_10.out.cell 1
                    obtain ⟨tt, hte⟩ : ∃ tt, lessB (p2, q2) (s2, v2) = tt := ⟨_, rfl⟩
                    have HTE := Lib.hid hte
                    have HNY2 := Lib.hid (show maxK (a, b) (cornF l) (t + 1) = if tt then (s2, v2) else (p2, q2) by rw [HNX2.out, hte])
                    clear hte
                    refine (rless2_is p2 q2 s2 v2 tt HTE.out HMV2.out.1 HMV2.out.2 HCV.out.1 HCV.out.2 _).mono ?_
                    rintro e w11 ⟨rfl, hb⟩
                    have HB11 := Lib.hid (show Below w.heap.size w w11 from step_below hb (by repeat' (first | exact Below.refl _ _ | exact HB10.out | refine below_drewN ?_ _ | refine Below.drew ?_ | refine Below.alloc ?_ (by first | omega | (simp; done) | (simp; omega) | (simp [World.setCell]; omega)) _ | refine Below.setCell ?_ (by first | omega | (simp; done) | (simp; omega)) _ | assumption)))
                    have K0_11 := Lib.hid (step_blk hb (show Blk _ (w.heap.size) 26 #[.int .i64 (0), .int .i64 (0), .int .i64 (0), .int .i64 (0)] by repeat' (first | exact K0_10.out | exact K1_10.out | exact K2_10.out | exact K3_10.out | exact Blk.at_ _ (by first | rfl | (simp; done) | (simp; omega)) _ _ | refine Blk.drewN ?_ _ | refine Blk.drew ?_ | refine Blk.alloc ?_ _ | refine Blk.far ?_ (by first | omega | (simp; done) | (simp; omega)) _ | assumption)))
                    have K1_11 := Lib.hid (step_blk hb (show Blk _ (bx) 25 #[.int .i64 (a), .int .i64 (b)] by repeat' (first | exact K0_10.out | exact K1_10.out | exact K2_10.out | exact K3_10.out | exact Blk.at_ _ (by first | rfl | (simp; done) | (simp; omega)) _ _ | refine Blk.drewN ?_ _ | refine Blk.drew ?_ | refine Blk.alloc ?_ _ | refine Blk.far ?_ (by first | omega | (simp; done) | (simp; omega)) _ | assumption)))
                    have K2_11 := Lib.hid (step_blk hb (show Blk _ (w5.heap.size) 25 #[.int .i64 (p2), .int .i64 (q2)] by repeat' (first | exact K0_10.out | exact K1_10.out | exact K2_10.out | exact K3_10.out | exact Blk.at_ _ (by first | rfl | (simp; done) | (simp; omega)) _ _ | refine Blk.drewN ?_ _ | refine Blk.drew ?_ | refine Blk.alloc ?_ _ | refine Blk.far ?_ (by first | omega | (simp; done) | (simp; omega)) _ | assumption)))
                    have K3_11 := Lib.hid (step_blk hb (show Blk _ (w9.heap.size) 25 #[.int .i64 (s2), .int .i64 (v2)] by repeat' (first | exact K0_10.out | exact K1_10.out | exact K2_10.out | exact K3_10.out | exact Blk.at_ _ (by first | rfl | (simp; done) | (simp; omega)) _ _ | refine Blk.drewN ?_ _ | refine Blk.drew ?_ | refine Blk.alloc ?_ _ | refine Blk.far ?_ (by first | omega | (simp; done) | (simp; omega)) _ | assumption)))
                    have HA11 := Lib.hid (step_below hb HA10.out)
                    clear HA10
                    have hz11 := hb.size
                    try simp only [World.size_alloc, World.drewN, World.drew] at hz11
                    clear hb K0_10 K1_10 K2_10 K3_10 z0_0_10 z0_1_10 z0_2_10 z0_3_10 l0_10 z1_0_10 z1_1_10 l1_10 z2_0_10 z2_1_10 l2_10 z3_0_10 z3_1_10 l3_10
                    have l0_11 : w.heap.size < w11.heap.size := K0_11.out.lt
                    have z0_0_11 : w11.cell? ⟨w.heap.size, 0, none⟩ = some (.int .i64 (0)) := K0_11.out.cell 0
                    have z0_1_11 : w11.cell? ⟨w.heap.size, 1, none⟩ = some (.int .i64 (0)) := K0_11.out.cell 1
                    have z0_2_11 : w11.cell? ⟨w.heap.size, 2, none⟩ = some (.int .i64 (0)) := K0_11.out.cell 2
                    have z0_3_11 : w11.cell? ⟨w.heap.size, 3, none⟩ = some (.int .i64 (0)) := K0_11.out.cell 3
                    have l1_11 : bx < w11.heap.size := K1_11.out.lt
                    have z1_0_11 : w11.cell? ⟨bx, 0, none⟩ = some (.int .i64 (a)) := K1_11.out.cell 0
                    have z1_1_11 : w11.cell? ⟨bx, 1, none⟩ = some (.int .i64 (b)) := K1_11.out.cell 1
                    have l2_11 : w5.heap.size < w11.heap.size := K2_11.out.lt
                    have z2_0_11 : w11.cell? ⟨w5.heap.size, 0, none⟩ = some (.int .i64 (p2)) := K2_11.out.cell 0
                    have z2_1_11 : w11.cell? ⟨w5.heap.size, 1, none⟩ = some (.int .i64 (q2)) := K2_11.out.cell 1
                    have l3_11 : w9.heap.size < w11.heap.size := K3_11.out.lt
                    have z3_0_11 : w11.cell? ⟨w9.heap.size, 0, none⟩ = some (.int .i64 (s2)) := K3_11.out.cell 0
                    have z3_1_11 : w11.cell? ⟨w9.heap.size, 1, none⟩ = some (.int .i64 (v2)) := K3_11.out.cell 1
                    have hbz := HW7.out.trans ((HB79.out.trans (HA11.out.mono hb79s)).mono (by omega))
                    have HBZ := Lib.hid hbz
                    clear hbz
                    cases tt with
                    | true =>
                      have sc0 := (K2_11.out).cell 0
                      have sf0 := (K2_11.out).frozen 0
                      have sk0 : Blk (w11.setCell ⟨w5.heap.size, 0, none⟩ (.int .i64 (s2))) (w5.heap.size) 25 #[.int .i64 (s2), .int .i64 (q2)] := by simpa using (K2_11.out).set_ 0 (.int .i64 (s2))
                      have sc1 := (sk0).cell 1
                      have sf1 := (sk0).frozen 1
                      have sk1 : Blk ((w11.setCell ⟨w5.heap.size, 0, none⟩ (.int .i64 (s2))).setCell ⟨w5.heap.size, 1, none⟩ (.int .i64 (v2))) (w5.heap.size) 25 #[.int .i64 (s2), .int .i64 (v2)] := by simpa using (sk0).set_ 1 (.int .i64 (v2))
                      have sK := Lib.hid sk1
                      have sd0 := sk1.cell 0
                      have sd1 := sk1.cell 1
                      clear sk0 sk1
                      go_wp2
                      go_roundw
                      case rel => exact ⟨t + 1, by omega, by go_num, (HBZ.out.setCell (p := ⟨w5.heap.size, 0, none⟩) (Nat.le_refl _) _).setCell (p := ⟨w5.heap.size, 1, none⟩) (Nat.le_refl _) _, s2, v2, by rw [HNY2.out]; rfl, sK.out⟩
                      case measure => simp [intOf]; omega
                    | false =>
                      go_wp2
                      go_roundw
                      case rel => exact ⟨t + 1, by omega, by go_num, HBZ.out, p2, q2, by rw [HNY2.out]; rfl, K2_11.out⟩
                      case measure => simp [intOf]; omega
                  have hii : (i : Int) < (n : Int) := by omega
                  have ei := IntWalk.i64_in ((i : Int) + 1) ⟨by omega, by omega⟩
                  obtain ⟨xb, xo, ⟨r1, r2⟩, hAe, hxb, hri, d0, d1⟩ := (HXW7.out.below (HW8.out.mono hwl7)).pair hlt8
                  simp only at d0 d1
                  subst hAe
                  obtain ⟨y, hy⟩ : ∃ y, hBit t i (r1, r2) = y := ⟨_, rfl⟩
                  have HS := Lib.hid (show cornL l t (i + 1) = cornL l t i ++ [y] by rw [cornL_succ, List.getD_eq_getElem?_getD, hri, ← hy]; rfl)
                  obtain ⟨v', W2, hrun, ho5, hb5⟩ := snoc1i_run w7.heap.size _ i _ y w8 HO8.out hb8s (by omega)
                  have HRUN := Lib.hid hrun
                  have HO5 := Lib.hid (show W2.ownsRow w7.heap.size 3 1 v' (i + 1) ((cornL l t (i + 1)).map (.int .i64)) by rw [HS.out, List.map_append]; exact ho5)
                  have HB5Z := Lib.hid (HW8.out.trans hb5)
                  have hbn := bits_one64 (b := t) (i := i) (by omega)
                  unfold hBit at hy
                  clear hrun ho5 hb5 hri
                  cases hte : t.testBit i with
                  | true =>
                    have hbn := hbn.1 hte
                    rw [hte, if_pos rfl] at hy
                    simp only at hy
                    subst hy
                    clear hte
                    go_wp2_with (first | (at_builtin; refine wpList_app _ W2 v' rfl _ _ _ rfl _ _ rfl rfl HRUN.out ?_))
                    go_roundw
                    case rel => exact ⟨i + 1, by omega, by go_num, HB5Z.out, HO5.out⟩
                    case measure => simp [intOf]; omega
                  | false =>
                    have hbn := hbn.2 hte
                    rw [hte, if_neg (by simp)] at hy
                    simp only at hy
                    subst hy
                    clear hte
                    go_wp2_with (first | (at_builtin; refine wpList_app _ W2 v' rfl _ _ _ rfl _ _ rfl rfl HRUN.out ?_))
                    go_roundw
                    case rel => exact ⟨i + 1, by omega, by go_num, HB5Z.out, HO5.out⟩
                    case measure => simp [intOf]; omega
            have hkk : (k : Int) < (m : Int) := by omega
            have ek := IntWalk.i64_in ((k : Int) + 1) ⟨by omega, by omega⟩
            obtain ⟨eb', eo', ⟨N1, D1⟩, hAe, -, hget, c0, c1⟩ := (HRL.out.below HW5.out).pair hlt5
            obtain ⟨rfl, rfl⟩ : eb = eb' ∧ eo = eo' := by simpa using hAe
            have heb5 : eb < w5.heap.size := by omega
            obtain ⟨s1, v1, hsv1⟩ : ∃ s1 v1, levV l k = (s1, v1) := ⟨_, _, rfl⟩
            have HSQ := Lib.hid (levsq_is HL.out HLN.out hn hget hsv1)
            have HXW5 := Lib.hid (show Reads w5 w5.heap.size 2 A n (cells2 l) from (HXW.out.below HW5.out).more HW5.out.size)
            have HNEAR := Lib.hid (fun (w' : World) (hb : Below w5.heap.size w5 w') => levnear_is HL.out HLN.out hn hget A c w' ((HXW5.out.below hb).more hb.size))
            have HC0 := Lib.hid (fun (w' : World) (hb : Below w5.heap.size w5 w') => (hb.cell (p := ⟨eb, eo + k * 2, none⟩) heb5).trans c0)
            have HC1 := Lib.hid (fun (w' : World) (hb : Below w5.heap.size w5 w') => (hb.cell (p := ⟨eb, eo + k * 2 + 1, none⟩) heb5).trans c1)
            have hlv : LevB (s1, v1) := by rw [← hsv1]; exact levV_in HL.out (by rw [HLN.out]; exact hn) (by rw [HLF.out]; exact hlt5)
            have hmv : LevB (p, q) := by rw [← HPQ.out]; exact minK_bd (fun i hi => levV_in HL.out (by rw [HLN.out]; exact hn) hi) (by rw [HLF.out]; omega) (by rw [HLF.out]; exact hk)
            have HNX := Lib.hid (show minK (levV l) (k + 1) = if lessB (s1, v1) (p, q) then (s1, v1) else (p, q) by show (if lessB (levV l k) (minK (levV l) k) then levV l k else minK (levV l) k) = _; rw [HPQ.out, hsv1])
            have HLV := Lib.hid hlv
            have HMV := Lib.hid hmv
            clear hget hsv1 c0 c1 hAe hlv hmv
            have HB5 := Lib.hid hbw
            have K0_5 := Lib.hid (show Blk w5 (w.heap.size) 26 #[.int .i64 (0), .int .i64 (0), .int .i64 (0), .int .i64 (0)] from hk5)
            have K1_5 := Lib.hid (show Blk w5 (bx) 25 #[.int .i64 (p), .int .i64 (q)] from hbk)
            clear hbw hk5 hbk
            have l0_5 : w.heap.size < w5.heap.size := K0_5.out.lt
            have z0_0_5 : w5.cell? ⟨w.heap.size, 0, none⟩ = some (.int .i64 (0)) := K0_5.out.cell 0
            have z0_1_5 : w5.cell? ⟨w.heap.size, 1, none⟩ = some (.int .i64 (0)) := K0_5.out.cell 1
            have z0_2_5 : w5.cell? ⟨w.heap.size, 2, none⟩ = some (.int .i64 (0)) := K0_5.out.cell 2
            have z0_3_5 : w5.cell? ⟨w.heap.size, 3, none⟩ = some (.int .i64 (0)) := K0_5.out.cell 3
            have l1_5 : bx < w5.heap.size := K1_5.out.lt
            have z1_0_5 : w5.cell? ⟨bx, 0, none⟩ = some (.int .i64 (p)) := K1_5.out.cell 0
            have z1_1_5 : w5.cell? ⟨bx, 1, none⟩ = some (.int .i64 (q)) := K1_5.out.cell 1
            go_wp2
            apply share (Fact := fun (x y : Pick2) (wz : World) => ∃ bq, y.1.1 = some ⟨bq, 0, none⟩ ∧ w5.heap.size ≤ bq ∧ Below w5.heap.size w5 wz ∧ Blk wz bq 25 #[.int .i64 (s1), .int .i64 (v1)])
            · skip
              intro key
              refine Fx.regionM (fun W g f w' => KpS (PfN (l.map (clampF N1 D1)) n 5) 25 (.int .i64 (s1)) (.int .i64 (v1)) 12 13 W g f w') (fun i (x : Pick2) => if i = 5 then .slice x.1.1 n x.1.2 else .pointer x.1.1) (by kernel_rfl) ?_ ?_
              · intro f hf0
                exact KpS.start
              first
              | (refine Fx.WM.skip 0 (by rfl) (by kernel_rfl) (by kernel_rfl) (by kernel_rfl) (by rfl) (fun g f w h => h.same (by decide)) ?_; simp only [Act.put, List.setIfInBounds_toArray, List.set_cons_zero, List.set_cons_succ])
              | (refine Fx.WM.val_ 0 ?_ (by rfl) (by kernel_rfl) (by kernel_rfl) (by kernel_rfl) (by rfl) ?_ (fun g f w h => h.same (by decide)) ?_
                 rotate_left
                 · intro g f w' hx hD hk
                   obtain hkp := id hD
                   clear hx hk hD hkp
                   go_simp
                   try rfl
                 simp only [Act.put, List.setIfInBounds_toArray, List.set_cons_zero, List.set_cons_succ])
              first
              | (refine Fx.WM.skip 1 (by rfl) (by kernel_rfl) (by kernel_rfl) (by kernel_rfl) (by rfl) (fun g f w h => h.same (by decide)) ?_; simp only [Act.put, List.setIfInBounds_toArray, List.set_cons_zero, List.set_cons_succ])
              | (refine Fx.WM.val_ 1 ?_ (by rfl) (by kernel_rfl) (by kernel_rfl) (by kernel_rfl) (by rfl) ?_ (fun g f w h => h.same (by decide)) ?_
                 rotate_left
                 · intro g f w' hx hD hk
                   obtain hkp := id hD
                   clear hx hk hD hkp
                   go_simp
                   try rfl
                 simp only [Act.put, List.setIfInBounds_toArray, List.set_cons_zero, List.set_cons_succ])
              first
              | (refine Fx.WM.skip 2 (by rfl) (by kernel_rfl) (by kernel_rfl) (by kernel_rfl) (by rfl) (fun g f w h => h.same (by decide)) ?_; simp only [Act.put, List.setIfInBounds_toArray, List.set_cons_zero, List.set_cons_succ])
              | (refine Fx.WM.val_ 2 ?_ (by rfl) (by kernel_rfl) (by kernel_rfl) (by kernel_rfl) (by rfl) ?_ (fun g f w h => h.same (by decide)) ?_
                 rotate_left
                 · intro g f w' hx hD hk
                   obtain hkp := id hD
                   clear hx hk hD hkp
                   go_simp
                   try rfl
                 simp only [Act.put, List.setIfInBounds_toArray, List.set_cons_zero, List.set_cons_succ])
              first
              | (refine Fx.WM.skip 3 (by rfl) (by kernel_rfl) (by kernel_rfl) (by kernel_rfl) (by rfl) (fun g f w h => h.same (by decide)) ?_; simp only [Act.put, List.setIfInBounds_toArray, List.set_cons_zero, List.set_cons_succ])
              | (refine Fx.WM.val_ 3 ?_ (by rfl) (by kernel_rfl) (by kernel_rfl) (by kernel_rfl) (by rfl) ?_ (fun g f w h => h.same (by decide)) ?_
                 rotate_left
                 · intro g f w' hx hD hk
                   obtain hkp := id hD
                   clear hx hk hD hkp
                   go_simp
                   try rfl
                 simp only [Act.put, List.setIfInBounds_toArray, List.set_cons_zero, List.set_cons_succ])
              first
              | (refine Fx.WM.skip 4 (by rfl) (by kernel_rfl) (by kernel_rfl) (by kernel_rfl) (by rfl) (fun g f w h => h.same (by decide)) ?_; simp only [Act.put, List.setIfInBounds_toArray, List.set_cons_zero, List.set_cons_succ])
              | (refine Fx.WM.val_ 4 ?_ (by rfl) (by kernel_rfl) (by kernel_rfl) (by kernel_rfl) (by rfl) ?_ (fun g f w h => h.same (by decide)) ?_
                 rotate_left
                 · intro g f w' hx hD hk
                   obtain hkp := id hD
                   have y1 := HC0.out w' hkp.bel
                   have y2 := HC1.out w' hkp.bel
                   clear hx hk hD hkp
                   go_simp
                   try rfl
                 simp only [Act.put, List.setIfInBounds_toArray, List.set_cons_zero, List.set_cons_succ])
              first
              | (refine Fx.WM.skip 6 (by rfl) (by kernel_rfl) (by kernel_rfl) (by kernel_rfl) (by rfl) (fun g f w h => h.same (by decide)) ?_; simp only [Act.put, List.setIfInBounds_toArray, List.set_cons_zero, List.set_cons_succ])
              | (refine Fx.WM.val_ 6 ?_ (by rfl) (by kernel_rfl) (by kernel_rfl) (by kernel_rfl) (by rfl) ?_ (fun g f w h => h.same (by decide)) ?_
                 rotate_left
                 · intro g f w' hx hD hk
                   obtain hkp := id hD
                   clear hx hk hD hkp
                   go_simp
                   try rfl
                 simp only [Act.put, List.setIfInBounds_toArray, List.set_cons_zero, List.set_cons_succ])
              first
              | (refine Fx.WM.skip 7 (by rfl) (by kernel_rfl) (by kernel_rfl) (by kernel_rfl) (by rfl) (fun g f w h => h.same (by decide)) ?_; simp only [Act.put, List.setIfInBounds_toArray, List.set_cons_zero, List.set_cons_succ])
              | (refine Fx.WM.val_ 7 ?_ (by rfl) (by kernel_rfl) (by kernel_rfl) (by kernel_rfl) (by rfl) ?_ (fun g f w h => h.same (by decide)) ?_
                 rotate_left
                 · intro g f w' hx hD hk
                   obtain hkp := id hD
                   clear hx hk hD hkp
                   go_simp
                   try rfl
                 simp only [Act.put, List.setIfInBounds_toArray, List.set_cons_zero, List.set_cons_succ])
              first
              | (refine Fx.WM.skip 8 (by rfl) (by kernel_rfl) (by kernel_rfl) (by kernel_rfl) (by rfl) (fun g f w h => h.same (by decide)) ?_; simp only [Act.put, List.setIfInBounds_toArray, List.set_cons_zero, List.set_cons_succ])
              | (refine Fx.WM.val_ 8 ?_ (by rfl) (by kernel_rfl) (by kernel_rfl) (by kernel_rfl) (by rfl) ?_ (fun g f w h => h.same (by decide)) ?_
                 rotate_left
                 · intro g f w' hx hD hk
                   obtain hkp := id hD
                   clear hx hk hD hkp
                   go_simp
                   try rfl
                 simp only [Act.put, List.setIfInBounds_toArray, List.set_cons_zero, List.set_cons_succ])
              first
              | (refine Fx.WM.skip 9 (by rfl) (by kernel_rfl) (by kernel_rfl) (by kernel_rfl) (by rfl) (fun g f w h => h.same (by decide)) ?_; simp only [Act.put, List.setIfInBounds_toArray, List.set_cons_zero, List.set_cons_succ])
              | (refine Fx.WM.val_ 9 ?_ (by rfl) (by kernel_rfl) (by kernel_rfl) (by kernel_rfl) (by rfl) ?_ (fun g f w h => h.same (by decide)) ?_
                 rotate_left
                 · intro g f w' hx hD hk
                   obtain hkp := id hD
                   clear hx hk hD hkp
                   go_simp
                   try rfl
                 simp only [Act.put, List.setIfInBounds_toArray, List.set_cons_zero, List.set_cons_succ])
              first
              | (refine Fx.WM.skip 10 (by rfl) (by kernel_rfl) (by kernel_rfl) (by kernel_rfl) (by rfl) (fun g f w h => h.same (by decide)) ?_; simp only [Act.put, List.setIfInBounds_toArray, List.set_cons_zero, List.set_cons_succ])
              | (refine Fx.WM.val_ 10 ?_ (by rfl) (by kernel_rfl) (by kernel_rfl) (by kernel_rfl) (by rfl) ?_ (fun g f w h => h.same (by decide)) ?_
                 rotate_left
                 · intro g f w' hx hD hk
                   obtain hkp := id hD
                   have y2 := HC1.out w' hkp.bel
                   clear hx hk hD hkp
                   go_simp
                   try rfl
                 simp only [Act.put, List.setIfInBounds_toArray, List.set_cons_zero, List.set_cons_succ])
              refine Fx.WM.choose2 5 12 (by rfl) (by rfl) (by kernel_rfl) (by rfl) (by rfl) ?_ ?_ ?_ ?_
              · skip
                refine Fx.Chooses.call ?_ ?_ (by rfl) ?_ ?_
                rotate_left 2
                · intro w'
                  go_simp
                  refine ⟨?_, ?_⟩ <;> rfl
                · intro f w' hD hk
                  exact (HNEAR.out w' hD.bel).mono fun e w'' ⟨A', c', he, hb, hr⟩ => ⟨((A', c'), (none, 0)), he, hD.choose PfN.stb hb 5 _ (by decide) (by decide) (fun _ => hr)⟩
              · skip
                refine Fx.Chooses.make (by rfl) ?_
                intro f w' hD hk
                refine ⟨((some ⟨w'.heap.size, 0, none⟩, 0), (none, 0)), w'.alloc (.cells #[.int .i64 (0), .int .i64 (0)] 25), ?_, ?_⟩
                · clear hk hD
                  go_simp
                  try rfl
                · exact hD.make PfN.stb (hk.2.1 13 (by kernel_rfl)) (by decide)
              · skip
                intro x
                simp only [Act.put, List.setIfInBounds_toArray, List.set_cons_zero, List.set_cons_succ]
                refine Fx.WM.call 11 (.agg #[.int .i64 (s1), .int .i64 (v1)]) ?_ ?_ (by rfl) (by kernel_rfl) (by kernel_rfl) (by kernel_rfl) (by rfl) ?_ ?_ ?_
                rotate_left 2
                · intro w'
                  go_simp
                  refine ⟨?_, ?_⟩ <;> rfl
                · intro g f w' hx hD hk
                  exact (HSQ.out _ _ w' ((hD.has (hk.2.1 13 (by kernel_rfl)) 5 x (hx 5 _ (by rfl)) (by decide)) rfl)).mono fun e w'' ⟨he, hw⟩ => ⟨he, hD.call PfN.stb (by decide) hw⟩
                simp only [Act.put, List.setIfInBounds_toArray, List.set_cons_zero, List.set_cons_succ]
                refine Fx.WM.choose 12 (by rfl) (by kernel_rfl) (by rfl) ?_ ?_
                · skip
                  refine Fx.Chooses.make (by rfl) ?_
                  intro f w' hD hk
                  refine ⟨((some ⟨w'.heap.size, 0, none⟩, 0), (none, 0)), w'.alloc (.cells #[.int .i64 (0), .int .i64 (0)] 25), ?_, ?_⟩
                  · clear hk hD
                    go_simp
                    try rfl
                  · exact hD.make PfN.stb (hk.2.1 13 (by kernel_rfl)) (by decide)
                intro y
                simp only [Act.put, List.setIfInBounds_toArray, List.set_cons_zero, List.set_cons_succ]
                refine Fx.WM.eff 13 undef (by rfl) (by kernel_rfl) (by kernel_rfl) (by kernel_rfl) (by rfl) ?_ ?_
                · intro g f w' hx hD hk
                  obtain ⟨bx, e0, e1, r0, r1, r2, r3, r4, r5⟩ := KpS.cells hD (hx 12 _ (by rfl))
                  refine Fx.gives_skip (w' := ((w'.setCell ⟨bx, 0, none⟩ (.int .i64 (s1))).setCell ⟨bx, 1, none⟩ (.int .i64 (v1)))) ?_ ?_
                  · clear hx hk hD
                    go_simp
                    try rfl
                  · exact KpS.store hD (hx 12 _ (by rfl)) r0
                simp only [Act.put, List.setIfInBounds_toArray, List.set_cons_zero, List.set_cons_succ]
                refine Fx.WM.nil (by kernel_rfl) ?_
                intro wz hkp
                obtain ⟨bq, h1, h2, h3⟩ := hkp.end_ (x := y) (by rfl) (by rfl)
                exact key x y wz ⟨bq, h1, h2, hkp.bel, h3⟩
              · skip
                intro y
                simp only [Act.put, List.setIfInBounds_toArray, List.set_cons_zero, List.set_cons_succ]
                refine Fx.WM.choose 5 (by rfl) (by kernel_rfl) (by rfl) ?_ ?_
                · skip
                  refine Fx.Chooses.call ?_ ?_ (by rfl) ?_ ?_
                  rotate_left 2
                  · intro w'
                    go_simp
                    refine ⟨?_, ?_⟩ <;> rfl
                  · intro f w' hD hk
                    exact (HNEAR.out w' hD.bel).mono fun e w'' ⟨A', c', he, hb, hr⟩ => ⟨((A', c'), (none, 0)), he, hD.choose PfN.stb hb 5 _ (by decide) (by decide) (fun _ => hr)⟩
                intro x
                simp only [Act.put, List.setIfInBounds_toArray, List.set_cons_zero, List.set_cons_succ]
                refine Fx.WM.call 11 (.agg #[.int .i64 (s1), .int .i64 (v1)]) ?_ ?_ (by rfl) (by kernel_rfl) (by kernel_rfl) (by kernel_rfl) (by rfl) ?_ ?_ ?_
                rotate_left 2
                · intro w'
                  go_simp
                  refine ⟨?_, ?_⟩ <;> rfl
                · intro g f w' hx hD hk
                  exact (HSQ.out _ _ w' ((hD.has (hk.2.1 13 (by kernel_rfl)) 5 x (hx 5 _ (by rfl)) (by decide)) rfl)).mono fun e w'' ⟨he, hw⟩ => ⟨he, hD.call PfN.stb (by decide) hw⟩
                simp only [Act.put, List.setIfInBounds_toArray, List.set_cons_zero, List.set_cons_succ]
                refine Fx.WM.eff 13 undef (by rfl) (by kernel_rfl) (by kernel_rfl) (by kernel_rfl) (by rfl) ?_ ?_
                · intro g f w' hx hD hk
                  obtain ⟨bx, e0, e1, r0, r1, r2, r3, r4, r5⟩ := KpS.cells hD (hx 12 _ (by rfl))
                  refine Fx.gives_skip (w' := ((w'.setCell ⟨bx, 0, none⟩ (.int .i64 (s1))).setCell ⟨bx, 1, none⟩ (.int .i64 (v1)))) ?_ ?_
                  · clear hx hk hD
                    go_simp
                    try rfl
                  · exact KpS.store hD (hx 12 _ (by rfl)) r0
                simp only [Act.put, List.setIfInBounds_toArray, List.set_cons_zero, List.set_cons_succ]
                refine Fx.WM.nil (by kernel_rfl) ?_
                intro wz hkp
                obtain ⟨bq, h1, h2, h3⟩ := hkp.end_ (x := y) (by rfl) (by rfl)
                exact key x y wz ⟨bq, h1, h2, hkp.bel, h3⟩
            rintro ⟨⟨x1, x2⟩, ⟨x3, x4⟩⟩ ⟨⟨y1, y2⟩, ⟨y3, y4⟩⟩ w6 ⟨by_, hy, hby, hb, hbk⟩
            simp only at hy
            subst hy
            simp only [show ((12 : Nat) = 5) = False from by simp, if_false, if_true]
            have HW6 := Lib.hid hb
            clear HSQ HNEAR HC0 HC1
            have HB6 := Lib.hid (show Below w.heap.size w w6 from step_below hb (by repeat' (first | exact Below.refl _ _ | exact HB5.out | refine below_drewN ?_ _ | refine Below.drew ?_ | refine Below.alloc ?_ (by first | omega | (simp; done) | (simp; omega) | (simp [World.setCell]; omega)) _ | refine Below.setCell ?_ (by first | omega | (simp; done) | (simp; omega)) _ | assumption)))
            have K0_6 := Lib.hid (step_blk hb (show Blk _ (w.heap.size) 26 #[.int .i64 (0), .int .i64 (0), .int .i64 (0), .int .i64 (0)] by repeat' (first | exact K0_5.out | exact K1_5.out | exact Blk.at_ _ (by first | rfl | (simp; done) | (simp; omega)) _ _ | refine Blk.drewN ?_ _ | refine Blk.drew ?_ | refine Blk.alloc ?_ _ | refine Blk.far ?_ (by first | omega | (simp; done) | (simp; omega)) _ | assumption)))
            have K1_6 := Lib.hid (step_blk hb (show Blk _ (bx) 25 #[.int .i64 (p), .int .i64 (q)] by repeat' (first | exact K0_5.out | exact K1_5.out | exact Blk.at_ _ (by first | rfl | (simp; done) | (simp; omega)) _ _ | refine Blk.drewN ?_ _ | refine Blk.drew ?_ | refine Blk.alloc ?_ _ | refine Blk.far ?_ (by first | omega | (simp; done) | (simp; omega)) _ | assumption)))
            have hz6 := hb.size
            try simp only [World.size_alloc, World.drewN, World.drew] at hz6
            clear hb K0_5 K1_5 z0_0_5 z0_1_5 z0_2_5 z0_3_5 l0_5 z1_0_5 z1_1_5 l1_5
            have l0_6 : w.heap.size < w6.heap.size := K0_6.out.lt
            have z0_0_6 : w6.cell? ⟨w.heap.size, 0, none⟩ = some (.int .i64 (0)) := K0_6.out.cell 0
            have z0_1_6 : w6.cell? ⟨w.heap.size, 1, none⟩ = some (.int .i64 (0)) := K0_6.out.cell 1
            have z0_2_6 : w6.cell? ⟨w.heap.size, 2, none⟩ = some (.int .i64 (0)) := K0_6.out.cell 2
            have z0_3_6 : w6.cell? ⟨w.heap.size, 3, none⟩ = some (.int .i64 (0)) := K0_6.out.cell 3
            have l1_6 : bx < w6.heap.size := K1_6.out.lt
            have z1_0_6 : w6.cell? ⟨bx, 0, none⟩ = some (.int .i64 (p)) := K1_6.out.cell 0
            have z1_1_6 : w6.cell? ⟨bx, 1, none⟩ = some (.int .i64 (q)) := K1_6.out.cell 1
            have K2_6 := Lib.hid (show Blk w6 (by_) 25 #[.int .i64 (s1), .int .i64 (v1)] from hbk)
            clear hbk
            have l2_6 : by_ < w6.heap.size := K2_6.out.lt
            have z2_0_6 : w6.cell? ⟨by_, 0, none⟩ = some (.int .i64 (s1)) := K2_6.out.cell 0
            have z2_1_6 : w6.cell? ⟨by_, 1, none⟩ = some (.int .i64 (v1)) := K2_6.out.cell 1
            obtain ⟨tt, htt⟩ : ∃ tt, lessB (s1, v1) (p, q) = tt := ⟨_, rfl⟩
            have HTT := Lib.hid htt
            have HNY := Lib.hid (show minK (levV l) (k + 1) = if tt then (s1, v1) else (p, q) by rw [HNX.out, htt])
            clear htt
            have HA6 := Lib.hid (show Below w6.heap.size w6 w6 from Below.refl _ _)
            go_wp2_with fail
            refine (rless2_is s1 v1 p q tt HTT.out HLV.out.1 HLV.out.2 HMV.out.1 HMV.out.2 _).mono ?_
            rintro e w7 ⟨rfl, hb⟩
            have HB7 := Lib.hid (show Below w.heap.size w w7 from step_below hb (by repeat' (first | exact Below.refl _ _ | exact HB6.out | refine below_drewN ?_ _ | refine Below.drew ?_ | refine Below.alloc ?_ (by first | omega | (simp; done) | (simp; omega) | (simp [World.setCell]; omega)) _ | refine Below.setCell ?_ (by first | omega | (simp; done) | (simp; omega)) _ | assumption)))
            have K0_7 := Lib.hid (step_blk hb (show Blk _ (w.heap.size) 26 #[.int .i64 (0), .int .i64 (0), .int .i64 (0), .int .i64 (0)] by repeat' (first | exact K0_6.out | exact K1_6.out | exact K2_6.out | exact Blk.at_ _ (by first | rfl | (simp; done) | (simp; omega)) _ _ | refine Blk.drewN ?_ _ | refine Blk.drew ?_ | refine Blk.alloc ?_ _ | refine Blk.far ?_ (by first | omega | (simp; done) | (simp; omega)) _ | assumption)))
            have K1_7 := Lib.hid (step_blk hb (show Blk _ (bx) 25 #[.int .i64 (p), .int .i64 (q)] by repeat' (first | exact K0_6.out | exact K1_6.out | exact K2_6.out | exact Blk.at_ _ (by first | rfl | (simp; done) | (simp; omega)) _ _ | refine Blk.drewN ?_ _ | refine Blk.drew ?_ | refine Blk.alloc ?_ _ | refine Blk.far ?_ (by first | omega | (simp; done) | (simp; omega)) _ | assumption)))
            have K2_7 := Lib.hid (step_blk hb (show Blk _ (by_) 25 #[.int .i64 (s1), .int .i64 (v1)] by repeat' (first | exact K0_6.out | exact K1_6.out | exact K2_6.out | exact Blk.at_ _ (by first | rfl | (simp; done) | (simp; omega)) _ _ | refine Blk.drewN ?_ _ | refine Blk.drew ?_ | refine Blk.alloc ?_ _ | refine Blk.far ?_ (by first | omega | (simp; done) | (simp; omega)) _ | assumption)))
            have HA7 := Lib.hid (step_below hb HA6.out)
            clear HA6
            have hz7 := hb.size
            try simp only [World.size_alloc, World.drewN, World.drew] at hz7
            clear hb K0_6 K1_6 K2_6 z0_0_6 z0_1_6 z0_2_6 z0_3_6 l0_6 z1_0_6 z1_1_6 l1_6 z2_0_6 z2_1_6 l2_6
            have l0_7 : w.heap.size < w7.heap.size := K0_7.out.lt
            have z0_0_7 : w7.cell? ⟨w.heap.size, 0, none⟩ = some (.int .i64 (0)) := K0_7.out.cell 0
            have z0_1_7 : w7.cell? ⟨w.heap.size, 1, none⟩ = some (.int .i64 (0)) := K0_7.out.cell 1
            have z0_2_7 : w7.cell? ⟨w.heap.size, 2, none⟩ = some (.int .i64 (0)) := K0_7.out.cell 2
            have z0_3_7 : w7.cell? ⟨w.heap.size, 3, none⟩ = some (.int .i64 (0)) := K0_7.out.cell 3
            have l1_7 : bx < w7.heap.size := K1_7.out.lt
            have z1_0_7 : w7.cell? ⟨bx, 0, none⟩ = some (.int .i64 (p)) := K1_7.out.cell 0
            have z1_1_7 : w7.cell? ⟨bx, 1, none⟩ = some (.int .i64 (q)) := K1_7.out.cell 1
            have l2_7 : by_ < w7.heap.size := K2_7.out.lt
            have z2_0_7 : w7.cell? ⟨by_, 0, none⟩ = some (.int .i64 (s1)) := K2_7.out.cell 0
            have z2_1_7 : w7.cell? ⟨by_, 1, none⟩ = some (.int .i64 (v1)) := K2_7.out.cell 1
            have hb7 := HW5.out.trans ((HW6.out.trans (HA7.out.mono HW6.out.size)).mono hb5s)
            have HB37 := Lib.hid hb7
            clear hb7
            cases tt with
            | true =>
              have sc0 := (K1_7.out).cell 0
              have sf0 := (K1_7.out).frozen 0
              have sk0 : Blk (w7.setCell ⟨bx, 0, none⟩ (.int .i64 (s1))) (bx) 25 #[.int .i64 (s1), .int .i64 (q)] := by simpa using (K1_7.out).set_ 0 (.int .i64 (s1))
              have sc1 := (sk0).cell 1
              have sf1 := (sk0).frozen 1
              have sk1 : Blk ((w7.setCell ⟨bx, 0, none⟩ (.int .i64 (s1))).setCell ⟨bx, 1, none⟩ (.int .i64 (v1))) (bx) 25 #[.int .i64 (s1), .int .i64 (v1)] := by simpa using (sk0).set_ 1 (.int .i64 (v1))
              have sK := Lib.hid sk1
              have sd0 := sk1.cell 0
              have sd1 := sk1.cell 1
              clear sk0 sk1
              go_wp2
              go_roundw
              case rel => exact ⟨k + 1, by omega, by omega, by go_num, (HB37.out.setCell (p := ⟨bx, 0, none⟩) hbx _).setCell (p := ⟨bx, 1, none⟩) hbx _, s1, v1, by rw [HNY.out]; rfl, sK.out⟩
              case measure => simp [intOf]; omega
            | false =>
              go_wp2
              go_roundw
              case rel => exact ⟨k + 1, by omega, by omega, by go_num, HB37.out, p, q, by rw [HNY.out]; rfl, K1_7.out⟩
              case measure => simp [intOf]; omega
        have hkk : (k : Int) < (N2 : Int) := by omega
        have ek := IntWalk.i64_in ((k : Int) + 1) ⟨by omega, by omega⟩
        obtain ⟨xk, hxk⟩ : ∃ xk, (endsL l)[k]? = some (xk, 1) := by
          have hlen : k < (endsL l).length := by rw [endsL_len, HLN.out]; have := HN2.out; omega
          have hin := (endsL_in HL.out _ (List.getElem_mem hlen)).1
          exact ⟨(endsL l)[k].1, by rw [List.getElem?_eq_getElem hlen]; congr 1; exact Prod.ext rfl hin⟩
        have hxi := (endsL_in HL.out _ (List.mem_of_getElem? hxk)).2
        simp only at hxi
        have HXK := Lib.hid hxk
        clear hxk
        go_wp2
        go_loopw [3, 7] (fun o x wr => ∃ s m : Nat, s ≤ 2 ∧ m ≤ N2 + 2 * k + s ∧ (levP l k ++ sideL l xk s).length = m ∧ x = .int .i64 s ∧ Below w1.heap.size w1 wr ∧ wr.ownsRow w1.heap.size 25 2 o m (cells2 (levP l k ++ sideL l xk s))) (fun _ x _ => 2 - (intOf x).toNat)
        case atStart => exact ⟨0, m, by omega, by omega, by show (levP l k ++ []).length = m; rw [List.append_nil]; exact HLM.out, rfl, HB3.out, by show World.ownsRow _ _ _ _ _ _ (cells2 (levP l k ++ [])); rw [List.append_nil]; exact HO3.out⟩
        case round =>
          obtain ⟨z, m2, hz, hm2, hlm2, rfl, hb, ho⟩ := hrel
          obtain ⟨w4, hnm⟩ : ∃ z : World, z = wr := ⟨_, rfl⟩
          subst hnm
          have HB4 := Lib.hid hb
          have HO4 := Lib.hid ho
          have HLM2 := Lib.hid hlm2
          have hb4s := hb.size
          clear hb ho hlm2 HB3 HO3
          by_cases hlt3 : z < 2
          rotate_left
          · obtain rfl : z = 2 := by omega
            have HPS := Lib.hid (levP_succ HXK.out)
            go_wp2
            go_roundw
            case rel => exact ⟨k + 1, m2, by omega, by omega, by rw [HPS.out]; exact HLM2.out, by go_num, HB4.out, by rw [HPS.out]; exact HO4.out⟩
            case measure => simp [intOf]; omega
          have hzz : (z : Int) < 2 := by omega
          have ez := IntWalk.i64_in ((z : Int) + 1) ⟨by omega, by omega⟩
          obtain ⟨A4, c4, rfl, hr4⟩ := own_reads HO4.out
          have hkm : k < m2 := by
            have := HLM2.out
            rw [List.length_append] at this
            have h3 : (levP l k).length ≥ N2 := by unfold levP; rw [List.length_append, endsL_len, HLN.out]; have := HN2.out; omega
            omega
          obtain ⟨eb, eo, ⟨x1, y1⟩, hAe, heb, hget, c0, -⟩ := hr4.pair hkm
          rw [lev_at (by rw [HLN.out]; have := HN2.out; omega), HXK.out] at hget
          obtain ⟨rfl, rfl⟩ : xk = x1 ∧ 1 = y1 := by simpa using hget
          subst hAe
          simp only at c0
          have hkm2 : (k : Int) < (m2 : Int) := by omega
          obtain ⟨z1, hz1⟩ : ∃ x, 2 * xk = x := ⟨_, rfl⟩
          obtain ⟨z2, hz2⟩ : ∃ x, z1 + 1 = x := ⟨_, rfl⟩
          obtain ⟨z3, hz3⟩ : ∃ x, 2 * (z : Int) = x := ⟨_, rfl⟩
          obtain ⟨q, hq⟩ : ∃ x, z2 - z3 = x := ⟨_, rfl⟩
          have f1 : IntKind.i64.wrap (2 * xk) = z1 := by rw [hz1]; exact IntWalk.i64_in z1 ⟨by omega, by omega⟩
          have f2 : IntKind.i64.wrap (z1 + 1) = z2 := by rw [hz2]; exact IntWalk.i64_in z2 ⟨by omega, by omega⟩
          have f3 : IntKind.i64.wrap (2 * (z : Int)) = z3 := by rw [hz3]; exact IntWalk.i64_in z3 ⟨by omega, by omega⟩
          have f4 : IntKind.i64.wrap (z2 - z3) = q := by rw [hq]; exact IntWalk.i64_in q ⟨by omega, by omega⟩
          have hqb : -300000 ≤ q ∧ q ≤ 300000 := by omega
          have HQ := Lib.hid (show q = 2 * xk + 1 - 2 * (z : Int) by omega)
          clear hz1 hz2 hz3 hq hget hr4
          go_wp2
          go_loopw [8, 9, 10] (fun S C x wr => ∃ i : Nat, i ≤ n ∧ x = .int .i64 i ∧ S = .int .i64 (sumL (cutS q) (l.take i)) ∧ C = .int .i64 (sumL (cutC q) (l.take i)) ∧ w4 = wr) (fun _ _ x _ => n - (intOf x).toNat)
          case atStart => exact ⟨0, by omega, rfl, rfl, rfl, rfl⟩
          case round =>
            obtain ⟨i, hi, rfl, rfl, rfl, rfl⟩ := hrel
            have hpi := cut_in HL.out (by rw [HLN.out]; omega) (a := q) (k := i) (by rw [HLN.out]; omega)
            obtain ⟨S, hS⟩ : ∃ S, sumL (cutS q) (l.take i) = S := ⟨_, rfl⟩
            obtain ⟨C, hC⟩ : ∃ C, sumL (cutC q) (l.take i) = C := ⟨_, rfl⟩
            rw [hS, hC] at hpi
            rw [hS, hC]
            have HSS := Lib.hid hS
            have HCC := Lib.hid hC
            clear hS hC
            by_cases hlt4 : i < n
            rotate_left
            · obtain rfl : n = i := by omega
              have hs := HSS.out
              have hc := HCC.out
              have htk : l.take n = l := List.take_of_length_le (by rw [HLN.out]; omega)
              rw [htk] at hs hc
              have hlv := levS_get hs hc
              have hsd := side_succ l xk hlt3
              rw [← HQ.out, hlv] at hsd
              clear hs hc htk hlv c0
              by_cases hC0 : 0 < C
              rotate_left
              · rw [if_neg hC0, List.append_nil] at hsd
                have HSD := Lib.hid hsd
                clear hsd
                go_wp2
                go_roundw
                case rel => exact ⟨z + 1, m2, by omega, by omega, by rw [HSD.out]; exact HLM2.out, by go_num, HB4.out, by rw [HSD.out]; exact HO4.out⟩
                case measure => simp [intOf]; omega
              · rw [if_pos hC0] at hsd
                obtain ⟨u1, hu1⟩ : ∃ u, redN S C = u := ⟨_, rfl⟩
                obtain ⟨u2, hu2⟩ : ∃ u, redD S C = u := ⟨_, rfl⟩
                rw [hu1, hu2] at hsd
                have HSD := Lib.hid hsd
                have HU1 := Lib.hid hu1
                have HU2 := Lib.hid hu2
                clear hsd hu1 hu2
                go_wp2_with fail
                refine (lowest_red S C u1 u2 HU1.out HU2.out _ (by omega) (by omega) (by omega) (by omega)).mono ?_
                rintro e w5 ⟨rfl, hb5⟩
                have HB5 := Lib.hid (HB4.out.trans (hb5.mono hb4s))
                obtain ⟨v', W2, hrun, ho3, hb3⟩ := snocfrac6_run w1.heap.size _ m2 _ u1 u2 w5 (own_below HO4.out hb5 (Nat.le_refl _)) (Nat.le_trans hb4s hb5.size) (by omega)
                have HRUN := Lib.hid hrun
                have HO3 := Lib.hid (show W2.ownsRow w1.heap.size 25 2 v' (m2 + 1) (cells2 (levP l k ++ sideL l xk (z + 1))) by rw [HSD.out, ← List.append_assoc, cells2_append]; exact ho3)
                have HB3 := Lib.hid (HB5.out.trans hb3)
                clear hrun ho3 hb3 hb5
                go_wp2_with (first | (at_builtin; refine wpList_app _ W2 v' rfl _ _ _ rfl _ _ rfl rfl HRUN.out ?_))
                go_roundw
                case rel => exact ⟨z + 1, m2 + 1, by omega, by omega, by rw [HSD.out, ← List.append_assoc, List.length_append, HLM2.out]; rfl, by go_num, HB3.out, HO3.out⟩
                case measure => simp [intOf]; omega
            have hii : (i : Int) < (n : Int) := by omega
            have ei := IntWalk.i64_in ((i : Int) + 1) ⟨by omega, by omega⟩
            obtain ⟨xb, xo, ⟨r1, r2⟩, hAe, hxb, hri, d0, d1⟩ := ((HX.out.below HB1.out).below (HB4.out.mono HB1.out.size)).pair hlt4
            simp only at d0 d1
            subst hAe
            have hr := HL.out _ (List.mem_of_getElem? hri)
            simp only at hr
            obtain ⟨t1, ht1⟩ : ∃ x, 2 * r1 = x := ⟨_, rfl⟩
            obtain ⟨t2, ht2⟩ : ∃ x, 2 * r2 = x := ⟨_, rfl⟩
            have g1 : IntKind.i64.wrap (2 * r1) = t1 := by rw [ht1]; exact IntWalk.i64_in t1 ⟨by omega, by omega⟩
            have g2 : IntKind.i64.wrap (2 * r2) = t2 := by rw [ht2]; exact IntWalk.i64_in t2 ⟨by omega, by omega⟩
            have hst : sumL (cutS q) (l.take (i + 1)) = S + cutS q (r1, r2) := by rw [List.take_add_one, hri]; exact (sumL_snoc (cutS q) (r1, r2) _).trans (by rw [HSS.out])
            have hct : sumL (cutC q) (l.take (i + 1)) = C + cutC q (r1, r2) := by rw [List.take_add_one, hri]; exact (sumL_snoc (cutC q) (r1, r2) _).trans (by rw [HCC.out])
            have hcs : cutS q (r1, r2) = (if t2 < q then r2 else 0) + (if q < t1 then r1 else 0) := by unfold cutS; rw [ht1, ht2]
            have hcc : cutC q (r1, r2) = (if t2 < q then 1 else 0) + (if q < t1 then 1 else 0) := by unfold cutC; rw [ht1, ht2]
            rw [hcs] at hst
            rw [hcc] at hct
            have h12 : t1 ≤ t2 := by omega
            have p1 := IntWalk.i64_in (S + r2) ⟨by omega, by omega⟩
            have p2 := IntWalk.i64_in (S + r1) ⟨by omega, by omega⟩
            have p3 := IntWalk.i64_in (C + 1) ⟨by omega, by omega⟩
            clear hri hcs hcc ht1 ht2
            by_cases k1 : t2 < q
            · have k2 : ¬ q < t1 := by omega
              rw [if_pos k1, if_neg k2, Int.add_zero] at hst hct
              have HST := Lib.hid hst
              have HCT := Lib.hid hct
              clear hst hct h12
              go_wp2
              go_roundw
              case rel => exact ⟨i + 1, by omega, by go_num, by rw [HST.out], by rw [HCT.out], by first | rfl | trivial⟩
              case measure => simp [intOf]; omega
            · by_cases k2 : q < t1
              · rw [if_neg k1, if_pos k2, Int.zero_add] at hst hct
                have HST := Lib.hid hst
                have HCT := Lib.hid hct
                clear hst hct h12
                go_wp2
                go_roundw
                case rel => exact ⟨i + 1, by omega, by go_num, by rw [HST.out], by rw [HCT.out], by first | rfl | trivial⟩
                case measure => simp [intOf]; omega
              · rw [if_neg k1, if_neg k2, Int.add_zero] at hst hct
                have HST := Lib.hid (show sumL (cutS q) (l.take (i + 1)) = S by rw [hst]; omega)
                have HCT := Lib.hid (show sumL (cutC q) (l.take (i + 1)) = C by rw [hct]; omega)
                clear hst hct h12
                go_wp2
                go_roundw
                case rel => exact ⟨i + 1, by omega, by go_num, by rw [HST.out], by rw [HCT.out], by first | rfl | trivial⟩
                case measure => simp [intOf]; omega
    have hii : (i : Int) < (n : Int) := by omega
    have ei := IntWalk.i64_in ((i : Int) + 1) ⟨by omega, by omega⟩
    obtain ⟨xb, xo, ⟨r1, r2⟩, hAe, hxb, hri, c0, c1⟩ := ((HX.out.below HB1.out).below (HBJ.out.mono HB1.out.size)).pair hlt
    simp only at c0 c1
    subst hAe
    have HS := Lib.hid (show endsL (l.take (i + 1)) = endsL (l.take i) ++ [(r1, 1), (r2, 1)] by rw [List.take_add_one, hri]; exact endsL_snoc _ (r1, r2))
    obtain ⟨W0, hW0⟩ : ∃ W0, W0 = w2.drewN 1 := ⟨_, rfl⟩
    obtain ⟨W1, hW1⟩ : ∃ W1, W1 = W0.alloc (.cells #[.int .i64 r1, .int .i64 1, .int .i64 r2, .int .i64 1] 25) := ⟨_, rfl⟩
    have d1 : W0.cell? ⟨xb, xo + i * 2, none⟩ = some (.int .i64 r1) := by rw [hW0]; exact c0
    have d2 : W0.cell? ⟨xb, xo + i * 2 + 1, none⟩ = some (.int .i64 r2) := by rw [hW0]; exact c1
    obtain ⟨v', W2, hrun, ho5, hb5⟩ := snoc2fr_run w1.heap.size _ (2 * i) _ r1 1 r2 1 W0 (by rw [hW0]; exact own_drewN HO2.out 1) (by rw [hW0]; exact hb2s) (by omega)
    rw [← hW1] at hrun
    have HRUN := Lib.hid hrun
    have HO5 := Lib.hid (show W2.ownsRow w1.heap.size 25 2 v' (2 * (i + 1)) (cells2 (endsL (l.take (i + 1)))) by rw [HS.out, cells2_append]; exact ho5)
    have HB5 := Lib.hid ((show Below w1.heap.size w1 W0 by rw [hW0]; exact below_drewN HBJ.out 1).trans hb5)
    clear hrun ho5 hb5 hri c0 c1
    go_wp2_with fail
    refine Fx.region (fun f w' => (w' = if f 14 then W2 else if f 13 then W1 else W0) ∧ True) (by kernel_rfl) (by kernel_rfl) ?_ ?_
    · intro f hf0
      rw [hf0 14, hf0 13]; exact ⟨hW0.symm, trivial⟩
    repeat (first
      | (refine Fx.skip_ (by rfl) (fun f w h => h) ?_; simp only [Act.put, List.setIfInBounds_toArray, List.set_cons_zero, List.set_cons_succ])
      | (refine Fx.val_ ?_ (by rfl) ?_ (fun f w h => h) ?_
         rotate_left
         · intro f w' hD hk
           obtain ⟨jw, _⟩ := id hD
           clear hk hD jw
           go_simp
           try rfl
         simp only [Act.put, List.setIfInBounds_toArray, List.set_cons_zero, List.set_cons_succ]))
    refine Fx.val_ ?_ (by rfl) ?_ (fun f w h => h) ?_
    rotate_left
    · intro f w' hD hk
      obtain ⟨jw, _⟩ := id hD
      have hp6_ : f 6 = false := hk.2.1 6 (by kernel_rfl)
      have hb_ : f 13 = false := hk.un 13 6 (by kernel_rfl) hp6_
      have ha_ : f 14 = false := hk.un 14 13 (by kernel_rfl) hb_
      rw [hb_, ha_] at jw
      simp only [Bool.false_eq_true, if_false] at jw
      have y1 : w'.cell? ⟨xb, xo + i * 2, none⟩ = some (.int .i64 r1) := by rw [jw]; exact d1
      clear hk hD jw hb_ ha_ hp6_
      go_simp
      try rfl
    simp only [Act.put, List.setIfInBounds_toArray, List.set_cons_zero, List.set_cons_succ]
    repeat (first
      | (refine Fx.skip_ (by rfl) (fun f w h => h) ?_; simp only [Act.put, List.setIfInBounds_toArray, List.set_cons_zero, List.set_cons_succ])
      | (refine Fx.val_ ?_ (by rfl) ?_ (fun f w h => h) ?_
         rotate_left
         · intro f w' hD hk
           obtain ⟨jw, _⟩ := id hD
           clear hk hD jw
           go_simp
           try rfl
         simp only [Act.put, List.setIfInBounds_toArray, List.set_cons_zero, List.set_cons_succ]))
    refine Fx.val_ ?_ (by rfl) ?_ (fun f w h => h) ?_
    rotate_left
    · intro f w' hD hk
      obtain ⟨jw, _⟩ := id hD
      have hp12_ : f 12 = false := hk.2.1 12 (by kernel_rfl)
      have hb_ : f 13 = false := hk.un 13 12 (by kernel_rfl) hp12_
      have ha_ : f 14 = false := hk.un 14 13 (by kernel_rfl) hb_
      rw [hb_, ha_] at jw
      simp only [Bool.false_eq_true, if_false] at jw
      have y1 : w'.cell? ⟨xb, xo + i * 2 + 1, none⟩ = some (.int .i64 r2) := by rw [jw]; exact d2
      clear hk hD jw hb_ ha_ hp12_
      go_simp
      try rfl
    simp only [Act.put, List.setIfInBounds_toArray, List.set_cons_zero, List.set_cons_succ]
    repeat (first
      | (refine Fx.skip_ (by rfl) (fun f w h => h) ?_; simp only [Act.put, List.setIfInBounds_toArray, List.set_cons_zero, List.set_cons_succ])
      | (refine Fx.val_ ?_ (by rfl) ?_ (fun f w h => h) ?_
         rotate_left
         · intro f w' hD hk
           obtain ⟨jw, _⟩ := id hD
           clear hk hD jw
           go_simp
           try rfl
         simp only [Act.put, List.setIfInBounds_toArray, List.set_cons_zero, List.set_cons_succ]))
    refine Fx.eff_ (.slice (some ⟨W0.heap.size, 0, none⟩) 2 2) (fun w' => W1) (by rfl) ?_ ?_ ?_
    · intro f w' hD hk
      obtain ⟨jw, _⟩ := id hD
      have hb_ : f 13 = false := hk.1
      have ha_ : f 14 = false := hk.un 14 13 (by kernel_rfl) hb_
      rw [hb_, ha_] at jw
      simp only [Bool.false_eq_true, if_false] at jw
      subst jw
      clear hk hD
      rw [hW1]
      go_simp
    · intro f w' hD hk
      obtain ⟨jw, _⟩ := id hD
      have hb_ : f 13 = false := hk.1
      have ha_ : f 14 = false := hk.un 14 13 (by kernel_rfl) hb_
      rw [hb_, ha_] at jw
      simp only [Bool.false_eq_true, if_false] at jw
      subst jw
      exact ⟨by simp [Fx.add, ha_], trivial⟩
    simp only [Act.put, List.setIfInBounds_toArray, List.set_cons_zero, List.set_cons_succ]
    refine Fx.eff_ (v') (fun w' => W2) (by rfl) ?_ ?_ ?_
    · intro f w' hD hk
      obtain ⟨jw, _⟩ := id hD
      have hb_ : f 13 = true := hk.2.2.1 13 (by kernel_rfl)
      have ha_ : f 14 = false := hk.1
      rw [hb_, ha_] at jw
      simp only [Bool.false_eq_true, if_false, if_true] at jw
      subst jw
      exact exec_append (.tmp 26) (.tmp 39) _ rfl HRUN.out
    · intro f w' hD hk
      obtain ⟨jw, _⟩ := id hD
      have hb_ : f 13 = true := hk.2.2.1 13 (by kernel_rfl)
      have ha_ : f 14 = false := hk.1
      rw [hb_, ha_] at jw
      simp only [Bool.false_eq_true, if_false, if_true] at jw
      subst jw
      exact ⟨by simp [Fx.add], trivial⟩
    simp only [Act.put, List.setIfInBounds_toArray, List.set_cons_zero, List.set_cons_succ]
    repeat (first
      | (refine Fx.skip_ (by rfl) (fun f w h => h) ?_; simp only [Act.put, List.setIfInBounds_toArray, List.set_cons_zero, List.set_cons_succ])
      | (refine Fx.val_ ?_ (by rfl) ?_ (fun f w h => h) ?_
         rotate_left
         · intro f w' hD hk
           obtain ⟨jw, _⟩ := id hD
           clear hk hD jw
           go_simp
           try rfl
         simp only [Act.put, List.setIfInBounds_toArray, List.set_cons_zero, List.set_cons_succ]))
    refine Fx.nil_ ?_
    intro f w1 hall hD
    have hf14 := hall 14 (by simp)
    obtain ⟨jw, _⟩ := hD
    simp only [hf14, if_true] at *
    subst jw
    try clear hall
    clear d1 d2
    go_wp2
    go_roundw
    case rel => exact ⟨i + 1, by omega, by go_num, HB5.out, HO5.out⟩
    case measure => simp [intOf]; omega
end Go.Proofs.Ytmejiafmmmeloaa

end
