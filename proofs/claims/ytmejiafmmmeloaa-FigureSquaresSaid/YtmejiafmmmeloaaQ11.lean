import Derived.Test.YtmejiafmmmeloaaQ8
import Derived.Test.YtmejiafmmmeloaaQ9
import Derived.Test.YtmejiafmmmeloaaQ10

section
/- The contract of the lower hull of a map. -/
namespace Go.Proofs.Ytmejiafmmmeloaa
open Go Go.RowKit

theorem made_ints (n : Nat) : madeCells #[.int .i64 0] n = (nats (List.replicate n 0)).toArray := by
  apply Array.ext
  · rw [size_madeCells]; simp [nats]
  · intro i h1 h2
    rw [size_madeCells] at h1
    unfold madeCells nats
    simp [Nat.mod_one]
def lenV : Value → Nat
  | .slice _ n _ => n
  | _ => 0
theorem nats_rev (b : Nat) (r : List Nat) : nats (b :: r).reverse = nats r.reverse ++ [.int .i64 (b : Int)] := by unfold nats; simp
theorem rev_last (b : Nat) (r : List Nat) : (nats (b :: r).reverse)[r.length]? = some (.int .i64 (b : Int)) := by
  rw [nats_rev, List.getElem?_append_right (by simp [nats])]
  simp [nats]
theorem rev_prev (b a : Nat) (r : List Nat) : (nats (b :: a :: r).reverse)[r.length]? = some (.int .i64 (a : Int)) := by
  rw [nats_rev, List.getElem?_append_left (by simp [nats]), rev_last]
/-- The last element is cut off. -/
theorem own_cut {w : World} {base n c : Nat} {A : Option Addr} {e : TypeId} {xs : List Value} {x : Value} (h : w.ownsRow base e 1 (.slice A (n + 1) c) (n + 1) (xs ++ [x])) : w.ownsRow base e 1 (.slice A n c) n xs := by
  have hl : xs.length = n := by have := h.1; rw [List.length_append] at this; simpa using this
  refine ⟨by omega, .inr ?_⟩
  rcases h.2 with ⟨h1, h2⟩ | ⟨g, cap, cur, h1, h2, h3, h4, h5, h6, h7⟩
  · omega
  · injection h1 with h1 _ h1c
    subst h1 h1c
    refine ⟨g, c, cur, rfl, h2, h3, by omega, h5, h6, ?_⟩
    have e : cur.toList.take (n * 1) = (cur.toList.take ((n + 1) * 1)).take (n * 1) := by rw [List.take_take]; congr 1; omega
    rw [e, h7, Nat.mul_one, ← hl]
    simp
theorem own_some {w : World} {base n : Nat} {v : Value} {e : TypeId} {xs : List Value} (h : w.ownsRow base e 1 v n xs) (hn : 0 < n) : ∃ g c, v = .slice (some ⟨g, 0, none⟩) n c ∧ base ≤ g ∧ g < w.heap.size ∧ n ≤ c ∧ ∀ i u, xs[i]? = some u → w.cell? ⟨g, i, none⟩ = some u := by
  rcases h.2 with ⟨h1, h2⟩ | ⟨g, cap, cur, h1, h2, h3, h4, h5, h6, h7⟩
  · omega
  · refine ⟨g, cap, h1, h2, (Array.getElem?_eq_some_iff.1 h3).1, h4, fun i u hu => ?_⟩
    have hb : Blk w g e cur := h3
    rw [hb.cell, ← h7, List.getElem?_take] at *
    split at hu
    · rw [← Array.getElem?_toList]; exact hu
    · cases hu

theorem range_fill {n k : Nat} (hk : k < n) : (List.range k ++ List.replicate (n - k) 0)[k]? = some 0 ∧ (List.range k ++ List.replicate (n - k) 0).set k k = List.range (k + 1) ++ List.replicate (n - (k + 1)) 0 := by
  have e : n - k = (n - (k + 1)) + 1 := by omega
  constructor
  · rw [List.getElem?_append_right (by simp), e, List.replicate_succ]; simp
  · rw [List.set_append_right _ _ (by simp), e, List.replicate_succ, List.range_succ]; simp

theorem hull1_cmp (m : Rm) (mb g : Nat) (w : World) (hx : RmAt m w) (hk : Blk w mb 38 #[.slice (some ⟨m.b1, m.o1, none⟩) m.n m.c1, .slice (some ⟨m.b2, m.o2, none⟩) m.n m.c2, .slice (some ⟨m.b3, m.o3, none⟩) m.n m.c3]) (hg : mb < g) (h1 : m.b1 < g) (h2 : m.b2 < g) (h3 : m.b3 < g) (hs : g < w.heap.size) :
    CmpK 51 mb g (cmpZ m.h m.q) (List.range m.n) w where
  ent := enters_of Try.func51 (by kernel_rfl) rfl
  call := fun x y wr hxm hym hgr => by
    have hb : Below g w wr := (Below.refl g w).grown hgr (by omega) (fun k hk => by have := Option.some.inj hk; omega)
    have hx' : RmAt m wr := ⟨by have := hb.size; omega, by have := hb.size; omega, by have := hb.size; omega,
      fun i hi => (hb.cell (p := ⟨m.b1, m.o1 + i, none⟩) h1).trans (hx.r1 i hi), fun i hi => (hb.cell (p := ⟨m.b2, m.o2 + i, none⟩) h2).trans (hx.r2 i hi), fun i hi => (hb.cell (p := ⟨m.b3, m.o3 + i, none⟩) h3).trans (hx.r3 i hi)⟩
    exact hull1_is m mb x y (List.mem_range.1 hxm) (List.mem_range.1 hym) _ rfl wr hx' _ (hk.below hb hg)
def HullPost (h q : Nat → Int) (n : Nat) (w : World) (e : Ending) (w' : World) : Prop :=
  Below w.heap.size w w' ∧ ∃ A c, e = .returned (.slice A (hullF h q n).length c) ∧ w'.ownsRow w.heap.size 3 1 (.slice A (hullF h q n).length c) (hullF h q n).length (nats (hullF h q n))

set_option maxRecDepth 100000 in
set_option maxHeartbeats 4000000 in
theorem hull_any (m : Rm) (hm : m.Ok) (hn19 : m.n < 20) (w : World) (hx : RmAt m w) : Calls Try.prog 37 #[m.val] w (HullPost m.h m.q m.n w) := by
  obtain ⟨i0, hi0, hz0, hz1, hz2⟩ := info_parts info_int
  have hn1 := hm.n1
  have hmk : ∀ w, (Instr.makeSlice 36 (.int .i64 (m.n : Int)) (.int .i64 (m.n : Int))).run Try.prog w = .ok (.slice (some ⟨w.heap.size, 0, none⟩) m.n m.n) (w.alloc (.cells (nats (List.replicate m.n 0)).toArray 3)) := fun w => by
    have := run_make_rowN (P := Try.prog) 36 3 i0 (.int .i64 0) Try.underlying36 hi0 hz0 .i64 .i64 m.n m.n (Nat.le_refl _) (by rw [hz2]; omega) (by omega) w
    rw [this, hz1, ← made_ints, Nat.mul_one]
    rfl
  have hmf : ∀ (fn : Fn) (first cap : Array Value) (w : World), (Instr.makeFunc fn first cap).run Try.prog w = .ok (.func fn first cap) w := fun _ _ _ _ => rfl
  have HX := Lib.hid hx
  clear hi0 hz0 hz1 hz2 hx
  unfold Rm.val
  go_enter Try.func37, Try.ntmps37
  go_wp2
  generalize hw2 : World.alloc _ _ = w2
  have hb2 : Below w.heap.size w w2 := by rw [← hw2]; exact ((Below.refl _ _).alloc (Nat.le_refl _) _).alloc (by simp) _
  have k0 : Blk w2 w.heap.size 38 #[.slice (some ⟨m.b1, m.o1, none⟩) m.n m.c1, .slice (some ⟨m.b2, m.o2, none⟩) m.n m.c2, .slice (some ⟨m.b3, m.o3, none⟩) m.n m.c3] := by rw [← hw2]; exact (Blk.at_ _ rfl _ _).alloc _
  have k1 : Blk w2 (w.heap.size + 1) 3 (nats (List.replicate m.n 0)).toArray := by rw [← hw2]; exact Blk.at_ _ (by simp) _ _
  have hs2 : w2.heap.size = w.heap.size + 2 := by rw [← hw2]; simp
  have HB2 := Lib.hid hb2
  have HK0 := Lib.hid k0
  have HK1 := Lib.hid k1
  have HS2 := Lib.hid hs2
  have l1 := HX.out.l1
  have l2 := HX.out.l2
  have l3 := HX.out.l3
  have HMM := Lib.hid hm
  clear hw2 hb2 k0 k1 hs2 hmk hm
  go_loopw [14] (fun v wr => ∃ k : Nat, k ≤ m.n ∧ v = .int .i64 k ∧ w2.grownBy wr (some (w.heap.size + 1)) ∧ Blk wr (w.heap.size + 1) 3 (nats (List.range k ++ List.replicate (m.n - k) 0)).toArray) (fun v _ => m.n - (intOf v).toNat)
  case atStart => exact ⟨0, by omega, rfl, World.grownBy.refl _ _, by simpa using HK1.out⟩
  case round =>
    obtain ⟨k, hk, rfl, hg, hbk⟩ := hrel
    have HG := Lib.hid hg
    have HBK := Lib.hid hbk
    clear hg hbk
    by_cases hlt : k < m.n
    · have hkk : (k : Int) < (m.n : Int) := by omega
      obtain ⟨e1, e2⟩ := range_fill hlt
      have c0 : wr.cell? ⟨w.heap.size + 1, k, none⟩ = some (.int .i64 0) := by rw [HBK.out.cell]; simpa using nats_get e1
      have f0 := HBK.out.frozen k
      have E2 := Lib.hid e2
      clear e1 e2
      go_wp2
      go_roundw
      case rel => exact ⟨k + 1, by omega, by go_num, only_setCell HG.out (p := ⟨w.heap.size + 1, k, none⟩) (.inl rfl) _, by rw [← E2.out, nats_set]; simpa using HBK.out.set_ k (.int .i64 (k : Int))⟩
      case measure => simp [intOf]; omega
    · obtain rfl : k = m.n := by omega
      have hbk := HBK.out
      rw [Nat.sub_self, List.replicate_zero, List.append_nil] at hbk
      obtain ⟨w3, hnm⟩ : ∃ z : World, z = wr := ⟨_, rfl⟩
      subst hnm
      have hs3 := HG.out.size
      have hs2 := HS2.out
      have hb3 : Below w.heap.size w w3 := HB2.out.trans (grown_below HG.out (by omega) (by omega))
      have k03 := HK0.out.grown HG.out (fun e => by have := Option.some.inj e; omega)
      have hcmp := hull1_cmp m w.heap.size (w.heap.size + 1) w3 (HX.out.lay hb3) k03 (by omega) (by omega) (by omega) (by omega) (by omega)
      have HC := Lib.hid hcmp
      have HBK3 := Lib.hid hbk
      have HB3 := Lib.hid hb3
      have HK03 := Lib.hid k03
      clear hbk hb3 k03 hcmp HBK
      go_wp2_with fail
      refine (sortstable_any _ w.heap.size (w.heap.size + 1) m.n m.n _ (List.range m.n) (by simp) hn19 _ HC.out HBK3.out).mono ?_
      rintro e w4 ⟨rfl, hg4, hk4⟩
      have hb4 : Below w.heap.size w w4 := HB3.out.trans (grown_below hg4 (by omega) (by omega))
      have k04 := HK03.out.grown hg4 (fun e => by have := Option.some.inj e; omega)
      have hs4 := hg4.size
      have HB4 := Lib.hid hb4
      have HK04 := Lib.hid k04
      have HK4 := Lib.hid hk4
      clear hb4 k04 hk4 hg4 HC HBK3 HK03 HG hs3
      go_wp2
      clear hmf
      go_loopw [5, 27] (fun v i wr => ∃ (k : Nat) (st : List Nat), k ≤ m.n ∧ i = .int .i64 k ∧ st = hullR m.h m.q ((orderF m.h m.q m.n).take k) ∧ Below w4.heap.size w4 wr ∧ wr.ownsRow w4.heap.size 3 1 v st.length (nats st.reverse)) (fun _ i _ => m.n - (intOf i).toNat)
      case atStart => exact ⟨0, [], by omega, rfl, rfl, Below.refl _ _, World.ownsRow_nil _ _ _ _⟩
      case round =>
        obtain ⟨k, st, hk, rfl, hst, hb, ho⟩ := hrel
        obtain ⟨w5, hnm⟩ : ∃ z : World, z = wr := ⟨_, rfl⟩
        subst hnm
        by_cases hlt : k < m.n
        rotate_left
        · obtain rfl : k = m.n := by omega
          have e : st.reverse = hullF m.h m.q m.n := by rw [hst, List.take_of_length_le (by rw [orderF_len]; omega)]; rfl
          have el : st.length = (hullF m.h m.q m.n).length := by rw [← e]; simp
          rw [e, el] at ho
          obtain ⟨A6, c6, rfl, -⟩ := own_reads ho
          have HO := Lib.hid ho
          have HBR := Lib.hid (HB4.out.trans (hb.mono HB4.out.size))
          clear ho hb hst e el
          go_wp2
          go_ret
          exact ⟨HBR.out, A6, c6, rfl, own_mono HO.out HB4.out.size⟩
        have hkk : (k : Int) < (m.n : Int) := by omega
        obtain ⟨z, hz⟩ : ∃ z, (orderF m.h m.q m.n)[k]? = some z := ⟨_, List.getElem?_eq_getElem (by rw [orderF_len]; exact hlt)⟩
        have hzn : z < m.n := orderF_mem.1 (List.mem_of_getElem? hz)
        have hstm : ∀ x ∈ st, x < m.n := fun x hx => by rw [hst] at hx; exact orderF_mem.1 (List.mem_of_mem_take (hullR_mem _ _ _ x hx))
        have hstl : st.length ≤ m.n := by rw [hst]; refine Nat.le_trans (hullR_len _ _ _) ?_; rw [List.length_take]; omega
        have hnext : hullR m.h m.q ((orderF m.h m.q m.n).take (k + 1)) = pushR m.h m.q st z := by rw [List.take_add_one, hz]; show hullR m.h m.q (_ ++ [z]) = _; rw [hullR_snoc, hst]
        have g4 : w.heap.size + 1 < w4.heap.size := Blk.lt HK4.out
        have c0 : w5.cell? ⟨w.heap.size + 1, k, none⟩ = some (.int .i64 (z : Int)) := by rw [hb.cell (p := ⟨w.heap.size + 1, k, none⟩) g4, HK4.out.cell]; show (nats (orderF m.h m.q m.n)).toArray[k]? = _; simpa using nats_get hz
        have hb' := HB4.out.trans (hb.mono HB4.out.size)
        have hk05 := HK04.out.below hb (by omega)
        have hxa := HX.out.lay hb'
        have HBR := Lib.hid hb
        have HO := Lib.hid ho
        have HNEXT := Lib.hid hnext
        have HSTM := Lib.hid hstm
        have HZN := Lib.hid hzn
        have HXA := Lib.hid hxa
        have hs5 : w4.heap.size ≤ w5.heap.size := hb.size
        have l15 := hxa.l1
        have l25 := hxa.l2
        clear hz hst hnext hstm hb ho hxa
        have HB5 := Lib.hid hb'
        have K0_5 := Lib.hid (show Blk w5 (w.heap.size) 38 #[.slice (some ⟨m.b1, m.o1, none⟩) m.n m.c1, .slice (some ⟨m.b2, m.o2, none⟩) m.n m.c2, .slice (some ⟨m.b3, m.o3, none⟩) m.n m.c3] from hk05)
        clear hb' hk05
        have l0_5 : w.heap.size < w5.heap.size := K0_5.out.lt
        have z0_0_5 : w5.cell? ⟨w.heap.size, 0, none⟩ = some (.slice (some ⟨m.b1, m.o1, none⟩) m.n m.c1) := K0_5.out.cell 0
        have z0_1_5 : w5.cell? ⟨w.heap.size, 1, none⟩ = some (.slice (some ⟨m.b2, m.o2, none⟩) m.n m.c2) := K0_5.out.cell 1
        have z0_2_5 : w5.cell? ⟨w.heap.size, 2, none⟩ = some (.slice (some ⟨m.b3, m.o3, none⟩) m.n m.c3) := K0_5.out.cell 2
        cases st with
        | nil =>
          obtain ⟨A5, c5, rfl, -⟩ := own_reads HO.out
          have hd : decide ((0 : Int) < ((([] : List Nat).length : Nat) : Int)) = false := by decide
          go_wp2
          go_quiet (fail)
          go_wp2
          refine wp_loop_rounds 1 ?_
          rw [rounds_succ]
          have hd2 : decide ((1 : Int) < ((([] : List Nat).length : Nat) : Int)) = false := by decide
          go_wp2
          go_quiet (fail)
          generalize hwq : World.drewN (World.drewN w5 _) _ = w6
          have hb6 : Below w5.heap.size w5 w6 := by rw [← hwq]; exact below_drewN (below_drewN (Below.refl _ _) _) _
          have hbx := HBR.out.trans (hb6.mono hs5)
          obtain ⟨v', W2, hrun, ho2, hb2⟩ := snocint_run w4.heap.size _ 0 _ (z : Int) w6 (own_below HO.out hb6 (Nat.le_refl _)) hbx.size (by omega)
          have HRUN := Lib.hid hrun
          have HO2 := Lib.hid ho2
          have HBX := Lib.hid (hbx.trans hb2)
          clear hrun ho2 hb2 hwq hb6 hbx
          go_wp2_with (first | (at_builtin; refine wpList_app _ W2 v' rfl _ _ _ rfl _ _ rfl rfl HRUN.out ?_))
          go_roundw
          case rel => exact ⟨k + 1, [z], by omega, by go_num, by rw [HNEXT.out]; rfl, HBX.out, HO2.out⟩
          case measure => simp [intOf]; omega
        | cons b r =>
          obtain ⟨gq, cq, rfl, hq1, hq2, hq3, hqc⟩ := own_some HO.out (by simp)
          have hbn := HSTM.out b (by simp)
          have y0 : w5.cell? ⟨gq, r.length, none⟩ = some (.int .i64 (b : Int)) := hqc _ _ (rev_last b r)
          have y1 := HXA.out.r2 b hbn
          have y2 := HXA.out.r2 z HZN.out
          have hbn' : (b : Int) < (m.n : Int) := by omega
          have hzn' : (z : Int) < (m.n : Int) := by have := HZN.out; omega
          obtain ⟨L, hL⟩ : ∃ L, (b :: r).length = L := ⟨_, rfl⟩
          have hLr : L = r.length + 1 := by rw [← hL]; simp
          have hd : decide (0 < L) = true := by simp; omega
          have e1 := IntWalk.i64_in ((L : Int) - 1) ⟨by omega, by omega⟩
          have e2 : (L : Int) - 1 = (r.length : Int) := by omega
          have e3 := IntWalk.i64_in (r.length : Int) ⟨by omega, by omega⟩
          have e4 : (r.length : Int) < (L : Int) := by omega
          have HQ3 := Lib.hid hq3
          have HLR := Lib.hid hLr
          have HLL := Lib.hid hL
          rw [hL] at HO ⊢
          clear hqc hq3 hLr hL
          go_wp2
          refine Fx.regionW (fun W f w' => Below W.heap.size W w') (by kernel_rfl) (by kernel_rfl) ?_ ?_
          · intro f hf0
            exact below_drewN (Below.refl _ _) 1
          repeat (first
            | (refine Fx.skip_ (by rfl) (fun f w h => h) ?_; simp only [Act.put, List.setIfInBounds_toArray, List.set_cons_zero, List.set_cons_succ])
            | (refine Fx.val_ ?_ (by rfl) ?_ (fun f w h => h) ?_
               rotate_left
               · intro f w' hD hk
                 have hb := hD
                 have kb0 := step_blk hb (show Blk _ (w.heap.size) 38 #[.slice (some ⟨m.b1, m.o1, none⟩) m.n m.c1, .slice (some ⟨m.b2, m.o2, none⟩) m.n m.c2, .slice (some ⟨m.b3, m.o3, none⟩) m.n m.c3] by repeat' (first | exact K0_5.out | exact Blk.at_ _ (by first | rfl | (simp; done) | (simp; omega)) _ _ | refine Blk.drewN ?_ _ | refine Blk.drew ?_ | refine Blk.alloc ?_ _ | refine Blk.far ?_ (by first | omega | (simp; done) | (simp; omega)) _ | assumption))
                 have y0_0 : w'.cell? ⟨w.heap.size, 0, none⟩ = some (.slice (some ⟨m.b1, m.o1, none⟩) m.n m.c1) := kb0.cell 0
                 have y0_1 : w'.cell? ⟨w.heap.size, 1, none⟩ = some (.slice (some ⟨m.b2, m.o2, none⟩) m.n m.c2) := kb0.cell 1
                 have y0_2 : w'.cell? ⟨w.heap.size, 2, none⟩ = some (.slice (some ⟨m.b3, m.o3, none⟩) m.n m.c3) := kb0.cell 2
                 have y0 : w'.cell? ⟨gq, r.length, none⟩ = some (.int .i64 (b : Int)) := step_cell hb (by go_simp) (by simpa using hq2)
                 have y1 : w'.cell? ⟨m.b2, m.o2 + b, none⟩ = some (.int .i64 (m.q b)) := step_cell hb (by go_simp) (by simpa using l25)
                 have y2 : w'.cell? ⟨m.b2, m.o2 + z, none⟩ = some (.int .i64 (m.q z)) := step_cell hb (by go_simp) (by simpa using l25)
                 clear kb0
                 clear hk hD hb
                 go_simp
                 try rfl
               simp only [Act.put, List.setIfInBounds_toArray, List.set_cons_zero, List.set_cons_succ]))
          refine Fx.nil_ ?_
          intro f w6 hall hb
          try clear hall
          have HB56 := Lib.hid hb
          have HB6 := Lib.hid (show Below w.heap.size w w6 from step_below hb (by repeat' (first | exact Below.refl _ _ | exact HB5.out | refine below_drewN ?_ _ | refine Below.drew ?_ | refine Below.alloc ?_ (by first | omega | (simp; done) | (simp; omega) | (simp [World.setCell]; omega)) _ | refine Below.setCell ?_ (by first | omega | (simp; done) | (simp; omega)) _ | assumption)))
          have K0_6 := Lib.hid (step_blk hb (show Blk _ (w.heap.size) 38 #[.slice (some ⟨m.b1, m.o1, none⟩) m.n m.c1, .slice (some ⟨m.b2, m.o2, none⟩) m.n m.c2, .slice (some ⟨m.b3, m.o3, none⟩) m.n m.c3] by repeat' (first | exact K0_5.out | exact Blk.at_ _ (by first | rfl | (simp; done) | (simp; omega)) _ _ | refine Blk.drewN ?_ _ | refine Blk.drew ?_ | refine Blk.alloc ?_ _ | refine Blk.far ?_ (by first | omega | (simp; done) | (simp; omega)) _ | assumption)))
          have hz6 := hb.size
          try simp only [World.size_alloc, World.drewN, World.drew] at hz6
          clear hb K0_5 z0_0_5 z0_1_5 z0_2_5 l0_5
          have l0_6 : w.heap.size < w6.heap.size := K0_6.out.lt
          have z0_0_6 : w6.cell? ⟨w.heap.size, 0, none⟩ = some (.slice (some ⟨m.b1, m.o1, none⟩) m.n m.c1) := K0_6.out.cell 0
          have z0_1_6 : w6.cell? ⟨w.heap.size, 1, none⟩ = some (.slice (some ⟨m.b2, m.o2, none⟩) m.n m.c2) := K0_6.out.cell 1
          have z0_2_6 : w6.cell? ⟨w.heap.size, 2, none⟩ = some (.slice (some ⟨m.b3, m.o3, none⟩) m.n m.c3) := K0_6.out.cell 2
          have hb56 : Below w5.heap.size w5 w6 := HB56.out
          clear y0 y1 y2
          by_cases heq : m.q b = m.q z
          · have hd2 : (m.q b == m.q z) = true := by simpa using heq
            have hfin : pushR m.h m.q (b :: r) z = b :: r := by unfold pushR; simp only; rw [if_pos heq]
            have HF := Lib.hid hfin
            clear hfin heq
            go_wp2
            go_roundw
            case rel => exact ⟨k + 1, b :: r, by omega, by go_num, by rw [HNEXT.out, HF.out], HBR.out.trans (hb56.mono hs5), by rw [HLL.out]; exact own_below HO.out hb56 (Nat.le_refl _)⟩
            case measure => simp [intOf]; omega
          · have hd2 : (m.q b == m.q z) = false := by simpa using heq
            have hfin : pushR m.h m.q (b :: r) z = z :: popR m.h m.q (b :: r) z := by unfold pushR; simp only; rw [if_neg heq]
            have HF := Lib.hid hfin
            have HO6 := Lib.hid (own_below HO.out hb56 (Nat.le_refl _))
            have HBR6 := Lib.hid (HBR.out.trans (hb56.mono hs5))
            clear hfin heq hb56 HO HBR
            clear HLL
            go_wp2
            go_loopw [5] (fun v wr => ∃ st : List Nat, popR m.h m.q st z = popR m.h m.q (b :: r) z ∧ st ≠ [] ∧ st.length ≤ m.n ∧ (∀ x ∈ st, x < m.n) ∧ Below w4.heap.size w4 wr ∧ wr.ownsRow w4.heap.size 3 1 v st.length (nats st.reverse)) (fun v _ => lenV v)
            case atStart => exact ⟨b :: r, rfl, by simp, hstl, HSTM.out, HBR6.out, by rw [show (b :: r).length = L by rw [HLR.out]; simp]; exact HO6.out⟩
            case round =>
              obtain ⟨st, hpp, hne, hl, hm2, hb, ho⟩ := hrel
              obtain ⟨w7, hnm⟩ : ∃ z : World, z = wr := ⟨_, rfl⟩
              subst hnm
              have hb' := HB4.out.trans (hb.mono HB4.out.size)
              have hk07 := HK04.out.below hb (by omega)
              have hxa := HX.out.lay hb'
              have HBR := Lib.hid hb
              have HO := Lib.hid ho
              have HPP := Lib.hid hpp
              have HM2 := Lib.hid hm2
              have HXA7 := Lib.hid hxa
              have hs7 : w4.heap.size ≤ w7.heap.size := hb.size
              clear hpp hm2 hb ho hxa
              have HB7 := Lib.hid hb'
              have K0_7 := Lib.hid (show Blk w7 (w.heap.size) 38 #[.slice (some ⟨m.b1, m.o1, none⟩) m.n m.c1, .slice (some ⟨m.b2, m.o2, none⟩) m.n m.c2, .slice (some ⟨m.b3, m.o3, none⟩) m.n m.c3] from hk07)
              clear hb' hk07
              have l0_7 : w.heap.size < w7.heap.size := K0_7.out.lt
              have z0_0_7 : w7.cell? ⟨w.heap.size, 0, none⟩ = some (.slice (some ⟨m.b1, m.o1, none⟩) m.n m.c1) := K0_7.out.cell 0
              have z0_1_7 : w7.cell? ⟨w.heap.size, 1, none⟩ = some (.slice (some ⟨m.b2, m.o2, none⟩) m.n m.c2) := K0_7.out.cell 1
              have z0_2_7 : w7.cell? ⟨w.heap.size, 2, none⟩ = some (.slice (some ⟨m.b3, m.o3, none⟩) m.n m.c3) := K0_7.out.cell 2
              cases st with
              | nil => exact absurd rfl hne
              | cons b2 r2 =>
              cases r2 with
              | nil =>
                obtain ⟨A7, c7, rfl, -⟩ := own_reads HO.out
                have hd3 : decide (1 < ([b2] : List Nat).length) = false := by simp
                have hpop : popR m.h m.q (b :: r) z = [b2] := by rw [← HPP.out]; unfold popR; rfl
                have HPOP := Lib.hid hpop
                clear hpop
                go_wp2
                refine Fx.regionW (fun W f w' => Below W.heap.size W w') (by kernel_rfl) (by kernel_rfl) ?_ ?_
                · intro f hf0
                  exact below_drewN (Below.refl _ _) 1
                repeat (first
                  | (refine Fx.skip_ (by rfl) (fun f w h => h) ?_; simp only [Act.put, List.setIfInBounds_toArray, List.set_cons_zero, List.set_cons_succ])
                  | (refine Fx.val_ ?_ (by rfl) ?_ (fun f w h => h) ?_
                     rotate_left
                     · intro f w' hD hk
                       have hb := hD
                       have kb0 := step_blk hb (show Blk _ (w.heap.size) 38 #[.slice (some ⟨m.b1, m.o1, none⟩) m.n m.c1, .slice (some ⟨m.b2, m.o2, none⟩) m.n m.c2, .slice (some ⟨m.b3, m.o3, none⟩) m.n m.c3] by repeat' (first | exact K0_7.out | exact Blk.at_ _ (by first | rfl | (simp; done) | (simp; omega)) _ _ | refine Blk.drewN ?_ _ | refine Blk.drew ?_ | refine Blk.alloc ?_ _ | refine Blk.far ?_ (by first | omega | (simp; done) | (simp; omega)) _ | assumption))
                       have y0_0 : w'.cell? ⟨w.heap.size, 0, none⟩ = some (.slice (some ⟨m.b1, m.o1, none⟩) m.n m.c1) := kb0.cell 0
                       have y0_1 : w'.cell? ⟨w.heap.size, 1, none⟩ = some (.slice (some ⟨m.b2, m.o2, none⟩) m.n m.c2) := kb0.cell 1
                       have y0_2 : w'.cell? ⟨w.heap.size, 2, none⟩ = some (.slice (some ⟨m.b3, m.o3, none⟩) m.n m.c3) := kb0.cell 2
                       clear kb0
                       clear hk hD hb
                       go_simp
                       try rfl
                     simp only [Act.put, List.setIfInBounds_toArray, List.set_cons_zero, List.set_cons_succ]))
                refine Fx.nil_ ?_
                intro f w8 hall hb
                try clear hall
                have HB78 := Lib.hid hb
                have HB8 := Lib.hid (show Below w.heap.size w w8 from step_below hb (by repeat' (first | exact Below.refl _ _ | exact HB7.out | refine below_drewN ?_ _ | refine Below.drew ?_ | refine Below.alloc ?_ (by first | omega | (simp; done) | (simp; omega) | (simp [World.setCell]; omega)) _ | refine Below.setCell ?_ (by first | omega | (simp; done) | (simp; omega)) _ | assumption)))
                have K0_8 := Lib.hid (step_blk hb (show Blk _ (w.heap.size) 38 #[.slice (some ⟨m.b1, m.o1, none⟩) m.n m.c1, .slice (some ⟨m.b2, m.o2, none⟩) m.n m.c2, .slice (some ⟨m.b3, m.o3, none⟩) m.n m.c3] by repeat' (first | exact K0_7.out | exact Blk.at_ _ (by first | rfl | (simp; done) | (simp; omega)) _ _ | refine Blk.drewN ?_ _ | refine Blk.drew ?_ | refine Blk.alloc ?_ _ | refine Blk.far ?_ (by first | omega | (simp; done) | (simp; omega)) _ | assumption)))
                have hz8 := hb.size
                try simp only [World.size_alloc, World.drewN, World.drew] at hz8
                clear hb K0_7 z0_0_7 z0_1_7 z0_2_7 l0_7
                have l0_8 : w.heap.size < w8.heap.size := K0_8.out.lt
                have z0_0_8 : w8.cell? ⟨w.heap.size, 0, none⟩ = some (.slice (some ⟨m.b1, m.o1, none⟩) m.n m.c1) := K0_8.out.cell 0
                have z0_1_8 : w8.cell? ⟨w.heap.size, 1, none⟩ = some (.slice (some ⟨m.b2, m.o2, none⟩) m.n m.c2) := K0_8.out.cell 1
                have z0_2_8 : w8.cell? ⟨w.heap.size, 2, none⟩ = some (.slice (some ⟨m.b3, m.o3, none⟩) m.n m.c3) := K0_8.out.cell 2
                have hbx := HBR.out.trans ((show Below w7.heap.size w7 w8 from HB78.out).mono hs7)
                obtain ⟨v', W2, hrun, ho2, hb2⟩ := snocint_run w4.heap.size _ 1 _ (z : Int) w8 (own_below HO.out HB78.out (Nat.le_refl _)) hbx.size (by omega)
                have HRUN := Lib.hid hrun
                have HO2 := Lib.hid ho2
                have HBX := Lib.hid (hbx.trans hb2)
                clear hrun ho2 hb2 hbx
                go_wp2_with (first | (at_builtin; refine wpList_app _ W2 v' rfl _ _ _ rfl _ _ rfl rfl HRUN.out ?_))
                go_roundw
                case rel => exact ⟨k + 1, [z, b2], by omega, by go_num, by rw [HNEXT.out, HF.out, HPOP.out], HBX.out, HO2.out⟩
                case measure => simp [intOf]; omega
              | cons a2 r2 =>
                obtain ⟨gs, cs, rfl, hq1, hq2, hq3, hqc⟩ := own_some HO.out (by simp)
                have hb2n := HM2.out b2 (by simp)
                have ha2n := HM2.out a2 (by simp)
                have y0 : w7.cell? ⟨gs, r2.length, none⟩ = some (.int .i64 (a2 : Int)) := hqc _ _ (rev_prev b2 a2 r2)
                have y1' : w7.cell? ⟨gs, (a2 :: r2).length, none⟩ = some (.int .i64 (b2 : Int)) := hqc _ _ (rev_last b2 (a2 :: r2))
                obtain ⟨M, hM⟩ : ∃ M, (b2 :: a2 :: r2).length = M := ⟨_, rfl⟩
                obtain ⟨q, hq⟩ : ∃ q, (a2 :: r2).length = q := ⟨_, rfl⟩
                obtain ⟨p, hp⟩ : ∃ p, r2.length = p := ⟨_, rfl⟩
                have hMq : M = q + 1 ∧ q = p + 1 := by rw [← hM, ← hq, ← hp]; simp
                obtain ⟨hMq, hqp⟩ := hMq
                rw [hp] at y0
                rw [hq] at y1'
                rw [hM] at hl hq3
                have HO' : Hid (w7.ownsRow w4.heap.size 3 1 (.slice (some ⟨gs, 0, none⟩) (q + 1) cs) (q + 1) (nats (a2 :: r2).reverse ++ [.int .i64 (b2 : Int)])) := by
                  have h1 := HO.out
                  rw [hM, hMq, nats_rev] at h1
                  exact h1
                have HO2' : Hid (w7.ownsRow w4.heap.size 3 1 (.slice (some ⟨gs, 0, none⟩) M cs) M (nats (b2 :: a2 :: r2).reverse)) := by
                  have h1 := HO.out
                  rw [hM] at h1
                  exact h1
                have hd3 : decide ((1 : Int) < (M : Int)) = true := by simp; omega
                have e5 : (M : Int) - 2 = (p : Int) := by omega
                have e6 : (M : Int) - 1 = (q : Int) := by omega
                have e7 := IntWalk.i64_in (p : Int) ⟨by omega, by omega⟩
                have e8 := IntWalk.i64_in (q : Int) ⟨by omega, by omega⟩
                have e9 : (p : Int) < (M : Int) := by omega
                have e10 : (q : Int) < (M : Int) := by omega
                have e11 : (q : Int) ≤ (cs : Int) := by omega
                have HMQ := Lib.hid hMq
                have HQP := Lib.hid hqp
                have HLQ := Lib.hid hq
                have HLM := Lib.hid hM
                rw [hM]
                clear hqc hq hM hp hMq hqp HO
                go_wp2
                cases ht : underB m.h m.q a2 b2 z
                · have HT := Lib.hid ht
                  have hpop : popR m.h m.q (a2 :: r2) z = popR m.h m.q (b :: r) z := by rw [← HPP.out]; show _ = (if underB m.h m.q a2 b2 z = true then _ else _); rw [ht, if_neg (by simp)]
                  have HPOP := Lib.hid hpop
                  clear ht hpop
                  refine Fx.regionW (fun W f w' => Below W.heap.size W w') (by kernel_rfl) (by kernel_rfl) ?_ ?_
                  · intro f hf0
                    exact below_drewN (Below.refl _ _) 1
                  repeat (first
                    | (refine Fx.skip_ (by rfl) (fun f w h => h) ?_; simp only [Act.put, List.setIfInBounds_toArray, List.set_cons_zero, List.set_cons_succ])
                    | (refine Fx.val_ ?_ (by rfl) ?_ (fun f w h => h) ?_
                       rotate_left
                       · intro f w' hD hk
                         have hb := hD
                         have kb0 := step_blk hb (show Blk _ (w.heap.size) 38 #[.slice (some ⟨m.b1, m.o1, none⟩) m.n m.c1, .slice (some ⟨m.b2, m.o2, none⟩) m.n m.c2, .slice (some ⟨m.b3, m.o3, none⟩) m.n m.c3] by repeat' (first | exact K0_7.out | exact Blk.at_ _ (by first | rfl | (simp; done) | (simp; omega)) _ _ | refine Blk.drewN ?_ _ | refine Blk.drew ?_ | refine Blk.alloc ?_ _ | refine Blk.far ?_ (by first | omega | (simp; done) | (simp; omega)) _ | assumption))
                         have y0_0 : w'.cell? ⟨w.heap.size, 0, none⟩ = some (.slice (some ⟨m.b1, m.o1, none⟩) m.n m.c1) := kb0.cell 0
                         have y0_1 : w'.cell? ⟨w.heap.size, 1, none⟩ = some (.slice (some ⟨m.b2, m.o2, none⟩) m.n m.c2) := kb0.cell 1
                         have y0_2 : w'.cell? ⟨w.heap.size, 2, none⟩ = some (.slice (some ⟨m.b3, m.o3, none⟩) m.n m.c3) := kb0.cell 2
                         have y0 : w'.cell? ⟨gs, p, none⟩ = some (.int .i64 (a2 : Int)) := step_cell hb (by go_simp) (by simpa using hq2)
                         have y1 : w'.cell? ⟨gs, q, none⟩ = some (.int .i64 (b2 : Int)) := step_cell hb (by go_simp) (by simpa using hq2)
                         clear kb0
                         clear hk hD hb
                         go_simp
                         try rfl
                       simp only [Act.put, List.setIfInBounds_toArray, List.set_cons_zero, List.set_cons_succ]))
                  refine Fx.call_ (.bool false) ?_ ?_ (by rfl) ?_ ?_ ?_
                  rotate_left 2
                  · intro w'
                    go_simp
                    refine ⟨?_, ?_⟩ <;> rfl
                  · intro f w' hD hk
                    exact (under_is m HMM.out a2 b2 z ha2n hb2n HZN.out false HT.out w' (HXA7.out.lay hD)).mono fun e w'' ⟨he, hw⟩ => ⟨he, step_below hw hD⟩
                  simp only [Act.put, List.setIfInBounds_toArray, List.set_cons_zero, List.set_cons_succ]
                  repeat (first
                    | (refine Fx.skip_ (by rfl) (fun f w h => h) ?_; simp only [Act.put, List.setIfInBounds_toArray, List.set_cons_zero, List.set_cons_succ])
                    | (refine Fx.val_ ?_ (by rfl) ?_ (fun f w h => h) ?_
                       rotate_left
                       · intro f w' hD hk
                         have hb := hD
                         have kb0 := step_blk hb (show Blk _ (w.heap.size) 38 #[.slice (some ⟨m.b1, m.o1, none⟩) m.n m.c1, .slice (some ⟨m.b2, m.o2, none⟩) m.n m.c2, .slice (some ⟨m.b3, m.o3, none⟩) m.n m.c3] by repeat' (first | exact K0_7.out | exact Blk.at_ _ (by first | rfl | (simp; done) | (simp; omega)) _ _ | refine Blk.drewN ?_ _ | refine Blk.drew ?_ | refine Blk.alloc ?_ _ | refine Blk.far ?_ (by first | omega | (simp; done) | (simp; omega)) _ | assumption))
                         have y0_0 : w'.cell? ⟨w.heap.size, 0, none⟩ = some (.slice (some ⟨m.b1, m.o1, none⟩) m.n m.c1) := kb0.cell 0
                         have y0_1 : w'.cell? ⟨w.heap.size, 1, none⟩ = some (.slice (some ⟨m.b2, m.o2, none⟩) m.n m.c2) := kb0.cell 1
                         have y0_2 : w'.cell? ⟨w.heap.size, 2, none⟩ = some (.slice (some ⟨m.b3, m.o3, none⟩) m.n m.c3) := kb0.cell 2
                         have y0 : w'.cell? ⟨gs, p, none⟩ = some (.int .i64 (a2 : Int)) := step_cell hb (by go_simp) (by simpa using hq2)
                         have y1 : w'.cell? ⟨gs, q, none⟩ = some (.int .i64 (b2 : Int)) := step_cell hb (by go_simp) (by simpa using hq2)
                         clear kb0
                         clear hk hD hb
                         go_simp
                         try rfl
                       simp only [Act.put, List.setIfInBounds_toArray, List.set_cons_zero, List.set_cons_succ]))
                  refine Fx.nil_ ?_
                  intro f w8 hall hb
                  try clear hall
                  have HB78 := Lib.hid hb
                  have HB8 := Lib.hid (show Below w.heap.size w w8 from step_below hb (by repeat' (first | exact Below.refl _ _ | exact HB7.out | refine below_drewN ?_ _ | refine Below.drew ?_ | refine Below.alloc ?_ (by first | omega | (simp; done) | (simp; omega) | (simp [World.setCell]; omega)) _ | refine Below.setCell ?_ (by first | omega | (simp; done) | (simp; omega)) _ | assumption)))
                  have K0_8 := Lib.hid (step_blk hb (show Blk _ (w.heap.size) 38 #[.slice (some ⟨m.b1, m.o1, none⟩) m.n m.c1, .slice (some ⟨m.b2, m.o2, none⟩) m.n m.c2, .slice (some ⟨m.b3, m.o3, none⟩) m.n m.c3] by repeat' (first | exact K0_7.out | exact Blk.at_ _ (by first | rfl | (simp; done) | (simp; omega)) _ _ | refine Blk.drewN ?_ _ | refine Blk.drew ?_ | refine Blk.alloc ?_ _ | refine Blk.far ?_ (by first | omega | (simp; done) | (simp; omega)) _ | assumption)))
                  have hz8 := hb.size
                  try simp only [World.size_alloc, World.drewN, World.drew] at hz8
                  clear hb K0_7 z0_0_7 z0_1_7 z0_2_7 l0_7
                  have l0_8 : w.heap.size < w8.heap.size := K0_8.out.lt
                  have z0_0_8 : w8.cell? ⟨w.heap.size, 0, none⟩ = some (.slice (some ⟨m.b1, m.o1, none⟩) m.n m.c1) := K0_8.out.cell 0
                  have z0_1_8 : w8.cell? ⟨w.heap.size, 1, none⟩ = some (.slice (some ⟨m.b2, m.o2, none⟩) m.n m.c2) := K0_8.out.cell 1
                  have z0_2_8 : w8.cell? ⟨w.heap.size, 2, none⟩ = some (.slice (some ⟨m.b3, m.o3, none⟩) m.n m.c3) := K0_8.out.cell 2
                  go_wp2
                  go_roundw
                  case rel => exact ⟨a2 :: r2, HPOP.out, by simp, by rw [HLQ.out]; have := HMQ.out; omega, fun x hx => HM2.out x (List.mem_cons_of_mem _ hx), HBR.out.trans ((show Below w7.heap.size w7 w8 from HB78.out).mono hs7), by rw [HLQ.out]; exact own_cut (own_below HO'.out HB78.out (Nat.le_refl _))⟩
                  case measure => simp [lenV]; have := HMQ.out; omega
                · have HT := Lib.hid ht
                  have hpop : popR m.h m.q (b :: r) z = b2 :: a2 :: r2 := by rw [← HPP.out]; show (if underB m.h m.q a2 b2 z = true then _ else _) = _; rw [ht, if_pos rfl]
                  have HPOP := Lib.hid hpop
                  clear ht hpop
                  refine Fx.regionW (fun W f w' => Below W.heap.size W w') (by kernel_rfl) (by kernel_rfl) ?_ ?_
                  · intro f hf0
                    exact below_drewN (Below.refl _ _) 1
                  repeat (first
                    | (refine Fx.skip_ (by rfl) (fun f w h => h) ?_; simp only [Act.put, List.setIfInBounds_toArray, List.set_cons_zero, List.set_cons_succ])
                    | (refine Fx.val_ ?_ (by rfl) ?_ (fun f w h => h) ?_
                       rotate_left
                       · intro f w' hD hk
                         have hb := hD
                         have kb0 := step_blk hb (show Blk _ (w.heap.size) 38 #[.slice (some ⟨m.b1, m.o1, none⟩) m.n m.c1, .slice (some ⟨m.b2, m.o2, none⟩) m.n m.c2, .slice (some ⟨m.b3, m.o3, none⟩) m.n m.c3] by repeat' (first | exact K0_7.out | exact Blk.at_ _ (by first | rfl | (simp; done) | (simp; omega)) _ _ | refine Blk.drewN ?_ _ | refine Blk.drew ?_ | refine Blk.alloc ?_ _ | refine Blk.far ?_ (by first | omega | (simp; done) | (simp; omega)) _ | assumption))
                         have y0_0 : w'.cell? ⟨w.heap.size, 0, none⟩ = some (.slice (some ⟨m.b1, m.o1, none⟩) m.n m.c1) := kb0.cell 0
                         have y0_1 : w'.cell? ⟨w.heap.size, 1, none⟩ = some (.slice (some ⟨m.b2, m.o2, none⟩) m.n m.c2) := kb0.cell 1
                         have y0_2 : w'.cell? ⟨w.heap.size, 2, none⟩ = some (.slice (some ⟨m.b3, m.o3, none⟩) m.n m.c3) := kb0.cell 2
                         have y0 : w'.cell? ⟨gs, p, none⟩ = some (.int .i64 (a2 : Int)) := step_cell hb (by go_simp) (by simpa using hq2)
                         have y1 : w'.cell? ⟨gs, q, none⟩ = some (.int .i64 (b2 : Int)) := step_cell hb (by go_simp) (by simpa using hq2)
                         clear kb0
                         clear hk hD hb
                         go_simp
                         try rfl
                       simp only [Act.put, List.setIfInBounds_toArray, List.set_cons_zero, List.set_cons_succ]))
                  refine Fx.call_ (.bool true) ?_ ?_ (by rfl) ?_ ?_ ?_
                  rotate_left 2
                  · intro w'
                    go_simp
                    refine ⟨?_, ?_⟩ <;> rfl
                  · intro f w' hD hk
                    exact (under_is m HMM.out a2 b2 z ha2n hb2n HZN.out true HT.out w' (HXA7.out.lay hD)).mono fun e w'' ⟨he, hw⟩ => ⟨he, step_below hw hD⟩
                  simp only [Act.put, List.setIfInBounds_toArray, List.set_cons_zero, List.set_cons_succ]
                  repeat (first
                    | (refine Fx.skip_ (by rfl) (fun f w h => h) ?_; simp only [Act.put, List.setIfInBounds_toArray, List.set_cons_zero, List.set_cons_succ])
                    | (refine Fx.val_ ?_ (by rfl) ?_ (fun f w h => h) ?_
                       rotate_left
                       · intro f w' hD hk
                         have hb := hD
                         have kb0 := step_blk hb (show Blk _ (w.heap.size) 38 #[.slice (some ⟨m.b1, m.o1, none⟩) m.n m.c1, .slice (some ⟨m.b2, m.o2, none⟩) m.n m.c2, .slice (some ⟨m.b3, m.o3, none⟩) m.n m.c3] by repeat' (first | exact K0_7.out | exact Blk.at_ _ (by first | rfl | (simp; done) | (simp; omega)) _ _ | refine Blk.drewN ?_ _ | refine Blk.drew ?_ | refine Blk.alloc ?_ _ | refine Blk.far ?_ (by first | omega | (simp; done) | (simp; omega)) _ | assumption))
                         have y0_0 : w'.cell? ⟨w.heap.size, 0, none⟩ = some (.slice (some ⟨m.b1, m.o1, none⟩) m.n m.c1) := kb0.cell 0
                         have y0_1 : w'.cell? ⟨w.heap.size, 1, none⟩ = some (.slice (some ⟨m.b2, m.o2, none⟩) m.n m.c2) := kb0.cell 1
                         have y0_2 : w'.cell? ⟨w.heap.size, 2, none⟩ = some (.slice (some ⟨m.b3, m.o3, none⟩) m.n m.c3) := kb0.cell 2
                         have y0 : w'.cell? ⟨gs, p, none⟩ = some (.int .i64 (a2 : Int)) := step_cell hb (by go_simp) (by simpa using hq2)
                         have y1 : w'.cell? ⟨gs, q, none⟩ = some (.int .i64 (b2 : Int)) := step_cell hb (by go_simp) (by simpa using hq2)
                         clear kb0
                         clear hk hD hb
                         go_simp
                         try rfl
                       simp only [Act.put, List.setIfInBounds_toArray, List.set_cons_zero, List.set_cons_succ]))
                  refine Fx.nil_ ?_
                  intro f w8 hall hb
                  try clear hall
                  have HB78 := Lib.hid hb
                  have HB8 := Lib.hid (show Below w.heap.size w w8 from step_below hb (by repeat' (first | exact Below.refl _ _ | exact HB7.out | refine below_drewN ?_ _ | refine Below.drew ?_ | refine Below.alloc ?_ (by first | omega | (simp; done) | (simp; omega) | (simp [World.setCell]; omega)) _ | refine Below.setCell ?_ (by first | omega | (simp; done) | (simp; omega)) _ | assumption)))
                  have K0_8 := Lib.hid (step_blk hb (show Blk _ (w.heap.size) 38 #[.slice (some ⟨m.b1, m.o1, none⟩) m.n m.c1, .slice (some ⟨m.b2, m.o2, none⟩) m.n m.c2, .slice (some ⟨m.b3, m.o3, none⟩) m.n m.c3] by repeat' (first | exact K0_7.out | exact Blk.at_ _ (by first | rfl | (simp; done) | (simp; omega)) _ _ | refine Blk.drewN ?_ _ | refine Blk.drew ?_ | refine Blk.alloc ?_ _ | refine Blk.far ?_ (by first | omega | (simp; done) | (simp; omega)) _ | assumption)))
                  have hz8 := hb.size
                  try simp only [World.size_alloc, World.drewN, World.drew] at hz8
                  clear hb K0_7 z0_0_7 z0_1_7 z0_2_7 l0_7
                  have l0_8 : w.heap.size < w8.heap.size := K0_8.out.lt
                  have z0_0_8 : w8.cell? ⟨w.heap.size, 0, none⟩ = some (.slice (some ⟨m.b1, m.o1, none⟩) m.n m.c1) := K0_8.out.cell 0
                  have z0_1_8 : w8.cell? ⟨w.heap.size, 1, none⟩ = some (.slice (some ⟨m.b2, m.o2, none⟩) m.n m.c2) := K0_8.out.cell 1
                  have z0_2_8 : w8.cell? ⟨w.heap.size, 2, none⟩ = some (.slice (some ⟨m.b3, m.o3, none⟩) m.n m.c3) := K0_8.out.cell 2
                  have hbx := HBR.out.trans ((show Below w7.heap.size w7 w8 from HB78.out).mono hs7)
                  obtain ⟨v', W2, hrun, ho2, hb2⟩ := snocint_run w4.heap.size _ M _ (z : Int) w8 (own_below HO2'.out HB78.out (Nat.le_refl _)) hbx.size (by omega)
                  have HRUN := Lib.hid hrun
                  have HO2 := Lib.hid ho2
                  have HBX := Lib.hid (hbx.trans hb2)
                  clear hrun ho2 hb2 hbx
                  go_wp2_with (first | (at_builtin; refine wpList_app _ W2 v' rfl _ _ _ rfl _ _ rfl rfl HRUN.out ?_))
                  go_roundw
                  case rel => exact ⟨k + 1, z :: b2 :: a2 :: r2, by omega, by go_num, by rw [HNEXT.out, HF.out, HPOP.out], HBX.out, by rw [nats_rev, show (z :: b2 :: a2 :: r2).length = M + 1 by rw [← HLM.out]; rfl]; exact HO2.out⟩
                  case measure => simp [intOf]; omega
end Go.Proofs.Ytmejiafmmmeloaa

end
