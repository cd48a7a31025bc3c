import Derived.Test.YtnepjgnnppfibaaQ10
import Derived.Test.YtnepjgnnppfibaaQ6

section
/- The contract of the stable sort of numbers by a function value. -/
namespace Go.Proofs.Ytnepjgnnppfibaa
open Go Go.RowKit

def nats (l : List Nat) : List Value := l.map fun (x : Nat) => .int .i64 (x : Int)
theorem nats_get {l : List Nat} {i x : Nat} (h : l[i]? = some x) : (nats l)[i]? = some (.int .i64 (x : Int)) := by unfold nats; rw [List.getElem?_map, h]; rfl
theorem nats_set (l : List Nat) (i x : Nat) : nats (l.set i x) = (nats l).set i (.int .i64 (x : Int)) := by unfold nats; rw [List.map_set]
/-- A function value that compares the numbers of a list. -/
structure CmpK (kf pb g : Nat) (cz : Nat → Nat → Int) (L : List Nat) (w : World) : Prop where
  ent : ∀ (args : Array Value) (w : World), (callFunc kf args).run Try.prog w = .ok (.enter kf args) w
  call : ∀ (x y : Nat) (wr : World), x ∈ L → y ∈ L → w.grownBy wr (some g) → Calls Try.prog kf #[.int .i64 (x : Int), .int .i64 (y : Int), .pointer (some ⟨pb, 0, none⟩)] wr fun e w' => e = .returned (.int .i64 (cz x y)) ∧ Below wr.heap.size wr w'
theorem cmpk_is {kf pb g : Nat} {cz : Nat → Nat → Int} {L : List Nat} {w : World} (h : CmpK kf pb g cz L w) {x y : Nat} (hx : x ∈ L) (hy : y ∈ L) {t : Int} (ht : cz x y = t) (wr : World) (hg : w.grownBy wr (some g)) :
    Calls Try.prog kf #[.int .i64 (x : Int), .int .i64 (y : Int), .pointer (some ⟨pb, 0, none⟩)] wr fun e w' => e = .returned (.int .i64 t) ∧ Below wr.heap.size wr w' := by have hq := h.call x y wr hx hy hg; rw [ht] at hq; exact hq
def ltK (cz : Nat → Nat → Int) (x y : Nat) : Bool := decide (cz x y < 0)

set_option maxRecDepth 100000 in
set_option maxHeartbeats 4000000 in
theorem insort_any (kf pb g n c : Nat) (cz : Nat → Nat → Int) (L : List Nat) (hL : L.length = n) (hn : n ≤ 1000) (w : World) (hk : CmpK kf pb g cz L w) (hb : Blk w g 3 (nats L).toArray) :
    Calls Try.prog 148 #[.slice (some ⟨g, 0, none⟩) n c, .int .i64 0, .int .i64 (n : Int), .func (.func kf) #[] #[.pointer (some ⟨pb, 0, none⟩)]] w fun e w' => e = .returned (.tuple #[]) ∧ w.grownBy w' (some g) ∧ Blk w' g 3 (nats (sortF (ltK cz) L)).toArray := by
  have hent := hk.ent
  have HK := Lib.hid hk
  have HL := Lib.hid hL
  have HB := Lib.hid hb
  have hglt := hb.lt
  clear hk hL hb
  go_enter Try.func148, Try.ntmps148
  go_wp2
  go_loopw [8] (fun v wr => ∃ i : Nat, 1 ≤ i ∧ i ≤ n + 1 ∧ v = .int .i64 i ∧ w.grownBy wr (some g) ∧ Blk wr g 3 (nats (sortF (ltK cz) (L.take i) ++ L.drop i)).toArray) (fun v _ => n + 1 - (intOf v).toNat)
  case atStart =>
    refine ⟨1, by omega, by omega, rfl, World.grownBy.refl _ _, ?_⟩
    have e : sortF (ltK cz) (L.take 1) = L.take 1 := by
      cases L with
      | nil => rfl
      | cons x l => rfl
    rw [e, List.take_append_drop]
    exact HB.out
  case round =>
    obtain ⟨i, hi1, hi2, rfl, hgr, hbk⟩ := hrel
    have HG := Lib.hid hgr
    have HBK := Lib.hid hbk
    clear hgr hbk
    obtain ⟨w1, hnm⟩ : ∃ z : World, z = wr := ⟨_, rfl⟩
    subst hnm
    by_cases hlt : i < n
    rotate_left
    · have hnl : ¬ ((i : Int) < (n : Int)) := by omega
      have hfin : sortF (ltK cz) (L.take i) ++ L.drop i = sortF (ltK cz) L := by
        rw [List.take_of_length_le (by rw [HL.out]; omega), List.drop_eq_nil_of_le (by rw [HL.out]; omega), List.append_nil]
      have h2 := HBK.out
      rw [hfin] at h2
      have H2 := Lib.hid h2
      clear h2 hfin
      go_wp2
      go_end0
      exact ⟨rfl, HG.out, H2.out⟩
    have hii : (i : Int) < (n : Int) := by omega
    obtain ⟨p, hp⟩ : ∃ p, sortF (ltK cz) (L.take i) = p := ⟨_, rfl⟩
    have hpl : p.length = i := by rw [← hp, sortF_len, List.length_take, HL.out]; omega
    obtain ⟨x, hx⟩ : ∃ x, L[i]? = some x := ⟨_, List.getElem?_eq_getElem (by rw [HL.out]; exact hlt)⟩
    have hdr : L.drop i = x :: L.drop (i + 1) := by
      obtain ⟨h1, h2⟩ := List.getElem?_eq_some_iff.1 hx
      rw [List.drop_eq_getElem_cons h1, h2]
    have hnx : sortF (ltK cz) (L.take (i + 1)) = insF (ltK cz) p x i := by rw [List.take_add_one, hx]; show sortF (ltK cz) (L.take i ++ [x]) = _; rw [sortF_snoc, hp, hpl]
    have hst : Blk w1 g 3 (nats (insAt p x i ++ L.drop (i + 1))).toArray := by
      have e : insAt p x i ++ L.drop (i + 1) = sortF (ltK cz) (L.take i) ++ L.drop i := by rw [hdr, hp, ← hpl, insAt_all]; simp
      rw [e]
      exact HBK.out
    have hxL : x ∈ L := List.mem_of_getElem? hx
    have hpL : ∀ y ∈ p, y ∈ L := fun y hy => by
      rw [← hp, sortF_mem] at hy
      exact List.mem_of_mem_take hy
    have HP := Lib.hid hpl
    have HNX := Lib.hid hnx
    have HST := Lib.hid hst
    have HPL := Lib.hid hpL
    have HXL := Lib.hid hxL
    clear HBK hp hpl hx hdr hnx hst hpL hxL
    go_wp2
    go_loopw [9] (fun v wr => ∃ j : Nat, j ≤ i ∧ v = .int .i64 j ∧ w.grownBy wr (some g) ∧ Blk wr g 3 (nats (insAt p x j ++ L.drop (i + 1))).toArray ∧ insF (ltK cz) p x i = insF (ltK cz) p x j) (fun v _ => (intOf v).toNat)
    case atStart => exact ⟨i, Nat.le_refl _, rfl, HG.out, HST.out, rfl⟩
    case round =>
      obtain ⟨j, hj, rfl, hgr, hbk, hres⟩ := hrel
      have HG2 := Lib.hid hgr
      have HBK := Lib.hid hbk
      have HRES := Lib.hid hres
      clear hgr hbk hres
      obtain ⟨w2, hnm⟩ : ∃ z : World, z = wr := ⟨_, rfl⟩
      subst hnm
      have hs2 := HG2.out.size
      rcases Nat.eq_zero_or_pos j with h0 | h0
      · subst h0
        have hd : decide ((0 : Int) < ((0 : Nat) : Int)) = false := by decide
        have hfin : Blk w2 g 3 (nats (sortF (ltK cz) (L.take (i + 1)) ++ L.drop (i + 1))).toArray := by rw [HNX.out, HRES.out]; exact HBK.out
        have HF := Lib.hid hfin
        clear hfin
        go_wp2
        go_quiet (fail)
        go_wp2
        go_roundw
        case rel => exact ⟨i + 1, by omega, by omega, by go_num, only_drewN HG2.out _, Blk.drewN HF.out _⟩
        case measure => simp [intOf]; omega
      · obtain ⟨j', hjj⟩ : ∃ j', j' + 1 = j := ⟨j - 1, by omega⟩
        obtain ⟨y, hy⟩ : ∃ y, p.getD j' 0 = y := ⟨_, rfl⟩
        have hjp : j' < p.length := by rw [HP.out]; omega
        have hyp : y ∈ p := by
          have h1 : p[j']? = some y := by rw [List.getD_eq_getElem?_getD, List.getElem?_eq_getElem hjp] at hy; rw [List.getElem?_eq_getElem hjp]; exact congrArg some hy
          exact List.mem_of_getElem? h1
        have hyL := HPL.out y hyp
        obtain ⟨g0, g1⟩ := insAt_get (r := L.drop (i + 1)) (x := x) hjp
        rw [hy] at g1
        rw [hjj] at g0 g1
        have c0 : w2.cell? ⟨g, j, none⟩ = some (.int .i64 (x : Int)) := by rw [HBK.out.cell]; simpa using nats_get g0
        have c1 : w2.cell? ⟨g, j', none⟩ = some (.int .i64 (y : Int)) := by rw [HBK.out.cell]; simpa using nats_get g1
        have hd : decide ((0 : Int) < (j : Int)) = true := by first | (simp; done) | (simp; omega)
        have k1 : 0 ≤ (j : Int) := by omega
        have k2 : (j : Int) < (n : Int) := by omega
        have k3 := IntWalk.i64_in (j' : Int) ⟨by omega, by omega⟩
        have k5 : 0 ≤ (j' : Int) := by omega
        have k6 : (j' : Int) < (n : Int) := by omega
        have k7 : (j : Int) - 1 = (j' : Int) := by omega
        have hswap := insAt_swap (r := L.drop (i + 1)) (x := x) hjp
        rw [hy] at hswap
        have hgb := Blk.lt HBK.out
        obtain ⟨t, ht⟩ : ∃ t, cz x y = t := ⟨_, rfl⟩
        have hlk : ltK cz x y = decide (t < 0) := by unfold ltK; rw [ht]
        have hins : insF (ltK cz) p x (j' + 1) = if decide (t < 0) = true then insF (ltK cz) p x j' else insAt p x (j' + 1) := by
          show (if ltK cz x (p.getD j' 0) = true then _ else _) = _
          rw [hy, hlk]
        have HINS := Lib.hid hins
        have HY := Lib.hid hy
        have HCT := Lib.hid ht
        have HYL := Lib.hid hyL
        have HSW := Lib.hid hswap
        have HJJ := Lib.hid hjj
        clear hins ht hlk hy hyp hyL g0 g1 hswap hjj
        go_wp2
        refine Fx.regionW (fun W f w' => Below W.heap.size W w') (by kernel_rfl) (by kernel_rfl) ?_ ?_
        · intro f hf0
          exact below_drewN (Below.refl _ _) 1
        repeat (first
          | (refine Fx.skip_ (by rfl) (fun f w h => h) ?_; simp only [Act.put, List.setIfInBounds_toArray, List.set_cons_zero, List.set_cons_succ])
          | (refine Fx.val_ ?_ (by rfl) ?_ (fun f w h => h) ?_
             rotate_left
             · intro f w' hD hk
               have hb := hD
               have y0 : w'.cell? ⟨g, j, none⟩ = some (.int .i64 (x : Int)) := step_cell hb (by exact c0) hgb
               have y1 : w'.cell? ⟨g, j', none⟩ = some (.int .i64 (y : Int)) := step_cell hb (by exact c1) hgb
               clear hk hD hb
               go_simp
               try rfl
             simp only [Act.put, List.setIfInBounds_toArray, List.set_cons_zero, List.set_cons_succ]))
        refine Fx.call_ (.int .i64 (t)) ?_ ?_ (by rfl) ?_ ?_ ?_
        rotate_left 2
        · intro w'
          go_simp
          refine ⟨?_, ?_⟩ <;> rfl
        · intro f w' hD hk
          exact (cmpk_is HK.out HXL.out HYL.out HCT.out w' (Fx.grown_trans_ HG2.out (only_of_below hD _))).mono fun e w'' ⟨he, hw⟩ => ⟨he, step_below hw hD⟩
        simp only [Act.put, List.setIfInBounds_toArray, List.set_cons_zero, List.set_cons_succ]
        repeat (first
          | (refine Fx.skip_ (by rfl) (fun f w h => h) ?_; simp only [Act.put, List.setIfInBounds_toArray, List.set_cons_zero, List.set_cons_succ])
          | (refine Fx.val_ ?_ (by rfl) ?_ (fun f w h => h) ?_
             rotate_left
             · intro f w' hD hk
               have hb := hD
               have y0 : w'.cell? ⟨g, j, none⟩ = some (.int .i64 (x : Int)) := step_cell hb (by exact c0) hgb
               have y1 : w'.cell? ⟨g, j', none⟩ = some (.int .i64 (y : Int)) := step_cell hb (by exact c1) hgb
               clear hk hD hb
               go_simp
               try rfl
             simp only [Act.put, List.setIfInBounds_toArray, List.set_cons_zero, List.set_cons_succ]))
        refine Fx.nil_ ?_
        intro f w3 hall hb3
        clear hall c0 c1
        have hbk3 := Blk.below HBK.out hb3 hgb
        have hg3 := Fx.grown_trans_ HG2.out (only_of_below hb3 (some g))
        have HB3 := Lib.hid hbk3
        have HG3 := Lib.hid hg3
        obtain ⟨g0, g1⟩ := insAt_get (r := L.drop (i + 1)) (x := x) (show j' < p.length by rw [HP.out]; have := HJJ.out; omega)
        rw [HY.out] at g1
        rw [HJJ.out] at g0 g1
        have c0 : w3.cell? ⟨g, j, none⟩ = some (.int .i64 (x : Int)) := by rw [hbk3.cell]; simpa using nats_get g0
        have c1 : w3.cell? ⟨g, j', none⟩ = some (.int .i64 (y : Int)) := by rw [hbk3.cell]; simpa using nats_get g1
        have f0 : w3.frozen? ⟨g, j, none⟩ = false := hbk3.frozen _
        have f1 : w3.frozen? ⟨g, j', none⟩ = false := hbk3.frozen _
        have hjn : ¬ j = j' := by have := HJJ.out; omega
        have hjn' : ¬ j' = j := by have := HJJ.out; omega
        clear hbk3 hg3 g0 g1 hb3
        by_cases ht0 : t < 0
        · have hd2 : decide (t < 0) = true := by simpa using ht0
          have hnext : insF (ltK cz) p x i = insF (ltK cz) p x j' := by rw [HRES.out, ← HJJ.out, HINS.out, hd2, if_pos rfl]
          have HNEXT := Lib.hid hnext
          clear hnext
          go_wp2
          refine Fx.regionW (fun W f w' => (f 15 = false → f 17 = false → ∃ k, w' = W.drewN k) ∧ (f 15 = true → f 17 = false → ∃ k, w' = (W.drewN k).setCell ⟨g, j, none⟩ (.int .i64 (y : Int))) ∧ (f 17 = true → ∃ k, w' = ((W.drewN k).setCell ⟨g, j, none⟩ (.int .i64 (y : Int))).setCell ⟨g, j', none⟩ (.int .i64 (x : Int)))) (by kernel_rfl) (by kernel_rfl) ?_ ?_
          · intro f hf0
            exact ⟨fun _ _ => ⟨1, rfl⟩, fun h => by rw [hf0 15] at h; (cases h), fun h => by rw [hf0 17] at h; cases h⟩
          repeat (first
            | (refine Fx.skip_ (by rfl) (fun f w h => h) ?_; simp only [Act.put, List.setIfInBounds_toArray, List.set_cons_zero, List.set_cons_succ])
            | (refine Fx.val_ ?_ (by rfl) ?_ (fun f w h => h) ?_
               rotate_left
               · intro f w' hD hk
                 obtain ⟨h1, h2, h3⟩ := id hD
                 clear hk hD h1 h2 h3
                 go_simp
                 try rfl
               simp only [Act.put, List.setIfInBounds_toArray, List.set_cons_zero, List.set_cons_succ]))
          refine Fx.val_ ?_ (by rfl) ?_ (fun f w h => h) ?_
          rotate_left
          · intro f w' hD hk
            obtain ⟨h1, h2, h3⟩ := id hD
            obtain ⟨k, rfl⟩ := h1 (hk.2.1 15 (by kernel_rfl)) (hk.2.1 17 (by kernel_rfl))
            clear hk hD h1 h2 h3
            go_simp
            try rfl
          simp only [Act.put, List.setIfInBounds_toArray, List.set_cons_zero, List.set_cons_succ]
          repeat (first
            | (refine Fx.skip_ (by rfl) (fun f w h => h) ?_; simp only [Act.put, List.setIfInBounds_toArray, List.set_cons_zero, List.set_cons_succ])
            | (refine Fx.val_ ?_ (by rfl) ?_ (fun f w h => h) ?_
               rotate_left
               · intro f w' hD hk
                 obtain ⟨h1, h2, h3⟩ := id hD
                 clear hk hD h1 h2 h3
                 go_simp
                 try rfl
               simp only [Act.put, List.setIfInBounds_toArray, List.set_cons_zero, List.set_cons_succ]))
          refine Fx.val_ ?_ (by rfl) ?_ (fun f w h => h) ?_
          rotate_left
          · intro f w' hD hk
            obtain ⟨h1, h2, h3⟩ := id hD
            obtain ⟨k, rfl⟩ := h1 (hk.2.1 15 (by kernel_rfl)) (hk.2.1 17 (by kernel_rfl))
            clear hk hD h1 h2 h3
            go_simp
            try rfl
          simp only [Act.put, List.setIfInBounds_toArray, List.set_cons_zero, List.set_cons_succ]
          repeat (first
            | (refine Fx.skip_ (by rfl) (fun f w h => h) ?_; simp only [Act.put, List.setIfInBounds_toArray, List.set_cons_zero, List.set_cons_succ])
            | (refine Fx.val_ ?_ (by rfl) ?_ (fun f w h => h) ?_
               rotate_left
               · intro f w' hD hk
                 obtain ⟨h1, h2, h3⟩ := id hD
                 clear hk hD h1 h2 h3
                 go_simp
                 try rfl
               simp only [Act.put, List.setIfInBounds_toArray, List.set_cons_zero, List.set_cons_succ]))
          refine Fx.store_ (fun w' => w'.setCell ⟨g, j, none⟩ (.int .i64 (y : Int))) (by rfl) ?_ ?_ ?_
          · intro f w' hD hk
            obtain ⟨h1, h2, h3⟩ := id hD
            have e17 : f 17 = false := hk.2.1 17 (by kernel_rfl)
            obtain ⟨k, rfl⟩ := h1 hk.1 e17
            clear h1 h2 h3
            clear hk hD
            go_simp
          · intro f w' hD hk
            obtain ⟨h1, h2, h3⟩ := id hD
            have e17 : f 17 = false := hk.2.1 17 (by kernel_rfl)
            obtain ⟨k, rfl⟩ := h1 hk.1 e17
            clear h1 h2 h3
            exact ⟨fun h => by simp [Fx.add] at h, fun _ _ => ⟨k, rfl⟩, fun h => by simp [Fx.add, e17] at h⟩
          simp only [Act.put, List.setIfInBounds_toArray, List.set_cons_zero, List.set_cons_succ]
          repeat (first
            | (refine Fx.skip_ (by rfl) (fun f w h => h) ?_; simp only [Act.put, List.setIfInBounds_toArray, List.set_cons_zero, List.set_cons_succ])
            | (refine Fx.val_ ?_ (by rfl) ?_ (fun f w h => h) ?_
               rotate_left
               · intro f w' hD hk
                 obtain ⟨h1, h2, h3⟩ := id hD
                 clear hk hD h1 h2 h3
                 go_simp
                 try rfl
               simp only [Act.put, List.setIfInBounds_toArray, List.set_cons_zero, List.set_cons_succ]))
          refine Fx.store_ (fun w' => w'.setCell ⟨g, j', none⟩ (.int .i64 (x : Int))) (by rfl) ?_ ?_ ?_
          · intro f w' hD hk
            obtain ⟨h1, h2, h3⟩ := id hD
            obtain ⟨k, rfl⟩ := h2 (hk.2.2.1 15 (by kernel_rfl)) hk.1
            clear h1 h2 h3
            clear hk hD
            go_simp
          · intro f w' hD hk
            obtain ⟨h1, h2, h3⟩ := id hD
            obtain ⟨k, rfl⟩ := h2 (hk.2.2.1 15 (by kernel_rfl)) hk.1
            clear h1 h2 h3
            exact ⟨fun _ h => by simp [Fx.add] at h, fun _ h => by simp [Fx.add] at h, fun _ => ⟨k, rfl⟩⟩
          simp only [Act.put, List.setIfInBounds_toArray, List.set_cons_zero, List.set_cons_succ]
          refine Fx.nil_ ?_
          intro f w1 hall hD
          have hf17 := hall 17 (by simp)
          obtain ⟨_, _, h3⟩ := hD
          simp only [hf17, if_true] at *
          obtain ⟨kk, rfl⟩ := h3 (by first | rfl | trivial)
          clear h3
          have hfin : Blk (((w3.drewN kk).setCell ⟨g, j, none⟩ (.int .i64 (y : Int))).setCell ⟨g, j', none⟩ (.int .i64 (x : Int))) g 3 (nats (insAt p x j' ++ L.drop (i + 1))).toArray := by
            have h1 := ((Blk.drewN HB3.out kk).set_ j (.int .i64 (y : Int))).set_ j' (.int .i64 (x : Int))
            rw [← HSW.out, nats_set, nats_set, HJJ.out]
            simpa using h1
          have HF := Lib.hid hfin
          clear hfin
          go_wp2
          go_roundw
          case rel => exact ⟨j', by have := HJJ.out; omega, by go_num, only_setCell (only_setCell (only_drewN HG3.out kk) (p := ⟨g, j, none⟩) (.inl rfl) _) (p := ⟨g, j', none⟩) (.inl rfl) _, HF.out, HNEXT.out⟩
          case measure => simp [intOf]; have := HJJ.out; omega
        · have hd2 : decide (t < 0) = false := by simpa using ht0
          have hnext : insF (ltK cz) p x i = insAt p x j := by rw [HRES.out, ← HJJ.out, HINS.out, hd2, if_neg (by simp)]
          have hfin : Blk w3 g 3 (nats (sortF (ltK cz) (L.take (i + 1)) ++ L.drop (i + 1))).toArray := by rw [HNX.out, hnext]; exact HB3.out
          have HF := Lib.hid hfin
          clear hfin hnext
          go_wp2
          go_roundw
          case rel => exact ⟨i + 1, by omega, by omega, by go_num, HG3.out, HF.out⟩
          case measure => simp [intOf]; omega

def StablePost (L : List Nat) (cz : Nat → Nat → Int) (g : Nat) (w : World) (e : Ending) (w' : World) : Prop := e = .returned (.tuple #[]) ∧ w.grownBy w' (some g) ∧ Blk w' g 3 (nats (sortF (ltK cz) L)).toArray
set_option maxRecDepth 100000 in
theorem stable_any (kf pb g n c : Nat) (cz : Nat → Nat → Int) (L : List Nat) (hL : L.length = n) (hn : n < 20) (w : World) (hk : CmpK kf pb g cz L w) (hb : Blk w g 3 (nats L).toArray) :
    Calls Try.prog 136 #[.slice (some ⟨g, 0, none⟩) n c, .int .i64 (n : Int), .func (.func kf) #[] #[.pointer (some ⟨pb, 0, none⟩)]] w (StablePost L cz g w) := by
  have HK := Lib.hid hk
  have HL := Lib.hid hL
  have HB := Lib.hid hb
  have h20 : ¬ ((20 : Int) ≤ (n : Int)) := by omega
  have h20' : ¬ ((20 : Int) < (n : Int)) := by omega
  clear hk hL hb
  go_enter Try.func136, Try.ntmps136
  go_wp2
  refine wp_loop_rounds 1 ?_
  rw [rounds_succ]
  go_wp2_with fail
  refine (insort_any kf pb g n c cz L HL.out (by omega) _ HK.out HB.out).mono ?_
  rintro e w1 ⟨rfl, hg, hk1⟩
  have HP : Hid (StablePost L cz g w (.returned (.tuple #[])) w1) := ⟨rfl, hg, hk1⟩
  clear hg hk1
  go_wp2
  refine wp_loop_rounds 1 ?_
  rw [rounds_succ]
  go_wp2_with fail
  go_end0
  exact HP.out
theorem sortstable_any (kf pb g n c : Nat) (cz : Nat → Nat → Int) (L : List Nat) (hL : L.length = n) (hn : n < 20) (w : World) (hk : CmpK kf pb g cz L w) (hb : Blk w g 3 (nats L).toArray) :
    Calls Try.prog 129 #[.slice (some ⟨g, 0, none⟩) n c, .func (.func kf) #[] #[.pointer (some ⟨pb, 0, none⟩)]] w (StablePost L cz g w) := by
  have HK := Lib.hid hk
  have HL := Lib.hid hL
  have HB := Lib.hid hb
  clear hk hL hb
  go_enter Try.func129, Try.ntmps129
  go_wp2_with fail
  refine (stable_any kf pb g n c cz L HL.out hn _ HK.out HB.out).mono ?_
  rintro e w1 ⟨rfl, hg, hk1⟩
  have HP : Hid (StablePost L cz g w (.returned (.tuple #[])) w1) := ⟨rfl, hg, hk1⟩
  clear hg hk1
  go_wp2
  go_end0
  exact HP.out
end Go.Proofs.Ytnepjgnnppfibaa

end
