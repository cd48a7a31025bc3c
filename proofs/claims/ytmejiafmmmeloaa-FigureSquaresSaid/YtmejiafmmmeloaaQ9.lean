import Derived.Test.YtmejiafmmmeloaaQ1
import Derived.Test.YtmejiafmmmeloaaQ8
import Derived.Test.YtmejiafmmmeloaaQ6
import Derived.Test.YtmejiafmmmeloaaQ2

section
/- The contract of the stable sort of numbers by a function value. -/
namespace Go.Proofs.Ytmejiafmmmeloaa
open Go Go.RowKit

def nats (l : List Nat) : List Value := l.map fun (x : Nat) => .int .i64 (x : Int)
theorem nats_get {l : List Nat} {i x : Nat} (h : l[i]? = some x) : (nats l)[i]? = some (.int .i64 (x : Int)) := by unfold nats; rw [List.getElem?_map, h]; rfl
theorem nats_set (l : List Nat) (i x : Nat) : nats (l.set i x) = (nats l).set i (.int .i64 (x : Int)) := by unfold nats; rw [List.map_set]
/-- A function value that compares the numbers of a list. -/
structure CmpK (kf pb g : Nat) (cz : Nat → Nat → Int) (L : List Nat) (w : World) : Prop where
  ent : ∀ (args : Array Value) (w : World), (callFunc kf args).run Try.prog w = .ok (.enter kf args) w
  call : ∀ (x y : Nat) (wr : World), x ∈ L → y ∈ L → w.grownBy wr (some g) → Calls Try.prog kf #[.int .i64 (x : Int), .int .i64 (y : Int), .pointer (some ⟨pb, 0, none⟩)] wr fun e w' => e = .returned (.int .i64 (cz x y)) ∧ Below wr.heap.size wr w'
theorem cmpk_is {kf pb g : Nat} {cz : Nat → Nat → Int} {L : List Nat} {w : World} (h : CmpK kf pb g cz L w) {x y : Nat} (hx : x ∈ L) (hy : y ∈ L) {t : Int} (ht : cz x y = t) (wr : World) (hg : w.grownBy wr (some g)) :
    Calls Try.prog kf #[.int .i64 (x : Int), .int .i64 (y : Int), .pointer (some ⟨pb, 0, none⟩)] wr fun e w' => e = .returned (.int .i64 t) ∧ Below wr.heap.size wr w' := by have hq := h.call x y wr hx hy hg; rw [ht] at hq; exact hq
def ltK (cz : Nat → Nat → Int) (x y : Nat) : Bool := decide (cz x y < 0)

set_option maxRecDepth 100000 in
set_option maxHeartbeats 4000000 in
theorem insort_any (kf pb g n c : Nat) (cz : Nat → Nat → Int) (L : List Nat) (hL : L.length = n) (hn : n ≤ 1000) (w : World) (hk : CmpK kf pb g cz L w) (hb : Blk w g 3 (nats L).toArray) :
    Calls Try.prog 74 #[.slice (some ⟨g, 0, none⟩) n c, .int .i64 0, .int .i64 (n : Int), .func (.func kf) #[] #[.pointer (some ⟨pb, 0, none⟩)]] w fun e w' => e = .returned (.tuple #[]) ∧ w.grownBy w' (some g) ∧ Blk w' g 3 (nats (sortF (ltK cz) L)).toArray := by
  have hent := hk.ent
  have HK := Lib.hid hk
  have HL := Lib.hid hL
  have HB := Lib.hid hb
  have hglt := hb.lt
  clear hk hL hb
  go_enter Try.func74, Try.ntmps74
  go_wp2
  go_loopw [8] (fun v wr => ∃ i : Nat, 1 ≤ i ∧ i ≤ n + 1 ∧ v = .int .i64 i ∧ w.grownBy wr (some g) ∧ Blk wr g 3 (nats (sortF (ltK cz) (L.take i) ++ L.drop i)).toArray) (fun v _ => n + 1 - (intOf v).toNat)
  case atStart =>
    refine ⟨1, by omega, by omega, rfl, World.grownBy.refl _ _, ?_⟩
    have e : sortF (ltK cz) (L.take 1) = L.take 1 := by
      cases L with
      | nil => rfl
      | cons x l => rfl
    rw [e, List.take_append_drop]
    exact HB.out
  case round =>
    obtain ⟨i, hi1, hi2, rfl, hgr, hbk⟩ := hrel
    have HG := Lib.hid hgr
    have HBK := Lib.hid hbk
    clear hgr hbk
    obtain ⟨w1, hnm⟩ : ∃ z : World, z = wr := ⟨_, rfl⟩
    subst hnm
    by_cases hlt : i < n
    rotate_left
    · have hnl : ¬ ((i : Int) < (n : Int)) := by omega
      have hfin : sortF (ltK cz) (L.take i) ++ L.drop i = sortF (ltK cz) L := by
        rw [List.take_of_length_le (by rw [HL.out]; omega), List.drop_eq_nil_of_le (by rw [HL.out]; omega), List.append_nil]
      have h2 := HBK.out
      rw [hfin] at h2
      have H2 := Lib.hid h2
      clear h2 hfin
      go_wp2
      go_end0
      exact ⟨rfl, HG.out, H2.out⟩
    have hii : (i : Int) < (n : Int) := by omega
    obtain ⟨p, hp⟩ : ∃ p, sortF (ltK cz) (L.take i) = p := ⟨_, rfl⟩
    have hpl : p.length = i := by rw [← hp, sortF_len, List.length_take, HL.out]; omega
    obtain ⟨x, hx⟩ : ∃ x, L[i]? = some x := ⟨_, List.getElem?_eq_getElem (by rw [HL.out]; exact hlt)⟩
    have hdr : L.drop i = x :: L.drop (i + 1) := by
      obtain ⟨h1, h2⟩ := List.getElem?_eq_some_iff.1 hx
      rw [List.drop_eq_getElem_cons h1, h2]
    have hnx : sortF (ltK cz) (L.take (i + 1)) = insF (ltK cz) p x i := by rw [List.take_add_one, hx]; show sortF (ltK cz) (L.take i ++ [x]) = _; rw [sortF_snoc, hp, hpl]
    have hst : Blk w1 g 3 (nats (insAt p x i ++ L.drop (i + 1))).toArray := by
      have e : insAt p x i ++ L.drop (i + 1) = sortF (ltK cz) (L.take i) ++ L.drop i := by rw [hdr, hp, ← hpl, insAt_all]; simp
      rw [e]
      exact HBK.out
    have hxL : x ∈ L := List.mem_of_getElem? hx
    have hpL : ∀ y ∈ p, y ∈ L := fun y hy => by
      rw [← hp, sortF_mem] at hy
      exact List.mem_of_mem_take hy
    have HP := Lib.hid hpl
    have HNX := Lib.hid hnx
    have HST := Lib.hid hst
    have HPL := Lib.hid hpL
    have HXL := Lib.hid hxL
    clear HBK hp hpl hx hdr hnx hst hpL hxL
    go_wp2
    go_loopw [9] (fun v wr => ∃ j : Nat, j ≤ i ∧ v = .int .i64 j ∧ w.grownBy wr (some g) ∧ Blk wr g 3 (nats (insAt p x j ++ L.drop (i + 1))).toArray ∧ insF (ltK cz) p x i = insF (ltK cz) p x j) (fun v _ => (intOf v).toNat)
    case atStart => exact ⟨i, Nat.le_refl _, rfl, HG.out, HST.out, rfl⟩
    case round =>
      obtain ⟨j, hj, rfl, hgr, hbk, hres⟩ := hrel
      have HG2 := Lib.hid hgr
      have HBK := Lib.hid hbk
      have HRES := Lib.hid hres
      clear hgr hbk hres
      obtain ⟨w2, hnm⟩ : ∃ z : World, z = wr := ⟨_, rfl⟩
      subst hnm
      have hs2 := HG2.out.size
      rcases Nat.eq_zero_or_pos j with h0 | h0
      · subst h0
        have hd : decide ((0 : Int) < ((0 : Nat) : Int)) = false := by decide
        have hfin : Blk w2 g 3 (nats (sortF (ltK cz) (L.take (i + 1)) ++ L.drop (i + 1))).toArray := by rw [HNX.out, HRES.out]; exact HBK.out
        have HF := Lib.hid hfin
        clear hfin
        go_wp2
        go_quiet (fail)
        go_wp2
        go_roundw
        case rel => exact ⟨i + 1, by omega, by omega, by go_num, only_drewN HG2.out _, Blk.drewN HF.out _⟩
        case measure => simp [intOf]; omega
      · obtain ⟨j', hjj⟩ : ∃ j', j' + 1 = j := ⟨j - 1, by omega⟩
        obtain ⟨y, hy⟩ : ∃ y, p.getD j' 0 = y := ⟨_, rfl⟩
        have hjp : j' < p.length := by rw [HP.out]; omega
        have hyp : y ∈ p := by
          have h1 : p[j']? = some y := by rw [List.getD_eq_getElem?_getD, List.getElem?_eq_getElem hjp] at hy; rw [List.getElem?_eq_getElem hjp]; exact congrArg some hy
          exact List.mem_of_getElem? h1
        have hyL := HPL.out y hyp
        obtain ⟨g0, g1⟩ := insAt_get (r := L.drop (i + 1)) (x := x) hjp
        rw [hy] at g1
        rw [hjj] at g0 g1
        have c0 : w2.cell? ⟨g, j, none⟩ = some (.int .i64 (x : Int)) := by rw [HBK.out.cell]; simpa using nats_get g0
        have c1 : w2.cell? ⟨g, j', none⟩ = some (.int .i64 (y : Int)) := by rw [HBK.out.cell]; simpa using nats_get g1
        have hd : decide ((0 : Int) < (j : Int)) = true := by first | (simp; done) | (simp; omega)
        have k1 : 0 ≤ (j : Int) := by omega
        have k2 : (j : Int) < (n : Int) := by omega
        have k3 := IntWalk.i64_in (j' : Int) ⟨by omega, by omega⟩
        have k5 : 0 ≤ (j' : Int) := by omega
        have k6 : (j' : Int) < (n : Int) := by omega
        have k7 : (j : Int) - 1 = (j' : Int) := by omega
        have hswap := insAt_swap (r := L.drop (i + 1)) (x := x) hjp
        rw [hy] at hswap
        have hgb := Blk.lt HBK.out
        obtain ⟨t, ht⟩ : ∃ t, cz x y = t := ⟨_, rfl⟩
        have hlk : ltK cz x y = decide (t < 0) := by unfold ltK; rw [ht]
        have hins : insF (ltK cz) p x (j' + 1) = if decide (t < 0) = true then insF (ltK cz) p x j' else insAt p x (j' + 1) := by
          show (if ltK cz x (p.getD j' 0) = true then _ else _) = _
          rw [hy, hlk]
        have HINS := Lib.hid hins
        have HY := Lib.hid hy
        have HCT := Lib.hid ht
        have HYL := Lib.hid hyL
        have HSW := Lib.hid hswap
        have HJJ := Lib.hid hjj
        clear hins ht hlk hy hyp hyL g0 g1 hswap hjj
        go_wp2
        refine Fx.regionW (fun W f w' => Below W.heap.size W w') (by kernel_rfl) (by kernel_rfl) ?_ ?_
        · intro f hf0
          exact below_drewN (Below.refl _ _) 1
        repeat (first
          | (refine Fx.skip_ (by rfl) (fun f w h => h) ?_; simp only [Act.put, List.setIfInBounds_toArray, List.set_cons_zero, List.set_cons_succ])
          | (refine Fx.val_ ?_ (by rfl) ?_ (fun f w h => h) ?_
             rotate_left
             · intro f w' hD hk
               have hb := hD
               have y0 : w'.cell? ⟨g, j, none⟩ = some (.int .i64 (x : Int)) := step_cell hb (by exact c0) hgb
               have y1 : w'.cell? ⟨g, j', none⟩ = some (.int .i64 (y : Int)) := step_cell hb (by exact c1) hgb
               clear hk hD hb
               go_simp
               try rfl
             simp only [Act.put, List.setIfInBounds_toArray, List.set_cons_zero, List.set_cons_succ]))
        refine Fx.call_ (.int .i64 (t)) ?_ ?_ (by rfl) ?_ ?_ ?_
        rotate_left 2
        · intro w'
          go_simp
          refine ⟨?_, ?_⟩ <;> rfl
        · intro f w' hD hk
          exact (cmpk_is HK.out HXL.out HYL.out HCT.out w' (Fx.grown_trans_ HG2.out (only_of_below hD _))).mono fun e w'' ⟨he, hw⟩ => ⟨he, step_below hw hD⟩
        simp only [Act.put, List.setIfInBounds_toArray, List.set_cons_zero, List.set_cons_succ]
        repeat (first
          | (refine Fx.skip_ (by rfl) (fun f w h => h) ?_; simp only [Act.put, List.setIfInBounds_toArray, List.set_cons_zero, List.set_cons_succ])
          | (refine Fx.val_ ?_ (by rfl) ?_ (fun f w h => h) ?_
             rotate_left
             · intro f w' hD hk
               have hb := hD
               have y0 : w'.cell? ⟨g, j, none⟩ = some (.int .i64 (x : Int)) := step_cell hb (by exact c0) hgb
               have y1 : w'.cell? ⟨g, j', none⟩ = some (.int .i64 (y : Int)) := step_cell hb (by exact c1) hgb
               clear hk hD hb
               go_simp
               try rfl
             simp only [Act.put, List.setIfInBounds_toArray, List.set_cons_zero, List.set_cons_succ]))
        refine Fx.nil_ ?_
        intro f w3 hall hb3
        clear hall c0 c1
        have hbk3 := Blk.below HBK.out hb3 hgb
        have hg3 := Fx.grown_trans_ HG2.out (only_of_below hb3 (some g))
        have HB3 := Lib.hid hbk3
        have HG3 := Lib.hid hg3
        obtain ⟨g0, g1⟩ := insAt_get (r := L.drop (i + 1)) (x := x) (show j' < p.length by rw [HP.out]; have := HJJ.out; omega)
        rw [HY.out] at g1
        rw [HJJ.out] at g0 g1
        have c0 : w3.cell? ⟨g, j, none⟩ = some (.int .i64 (x : Int)) := by rw [hbk3.cell]; simpa using nats_get g0
        have c1 : w3.cell? ⟨g, j', none⟩ = some (.int .i64 (y : Int)) := by rw [hbk3.cell]; simpa using nats_get g1
        have f0 : w3.frozen? ⟨g, j, none⟩ = false := hbk3.frozen _
        have f1 : w3.frozen? ⟨g, j', none⟩ = false := hbk3.frozen _
        have hjn : ¬ j = j' := by have := HJJ.out; omega
        have hjn' : ¬ j' = j := by have := HJJ.out; omega
        clear hbk3 hg3 g0 g1 hb3
        by_cases ht0 : t < 0
        · have hd2 : decide (t < 0) = true := by simpa using ht0
          have hnext : insF (ltK cz) p x i = insF (ltK cz) p x j' := by rw [HRES.out, ← HJJ.out, HINS.out, hd2, if_pos rfl]
          have HNEXT := Lib.hid hnext
          clear hnext
          go_wp2
          refine Fx.regionW (fun W f w' => (f 15 = false → f 17 = false → ∃ k, w' = W.drewN k) ∧ (f 15 = true → f 17 = false → ∃ k, w' = (W.drewN k).setCell ⟨g, j, none⟩ (.int .i64 (y : Int))) ∧ (f 17 = true → ∃ k, w' = ((W.drewN k).setCell ⟨g, j, none⟩ (.int .i64 (y : Int))).setCell ⟨g, j', none⟩ (.int .i64 (x : Int)))) (by kernel_rfl) (by kernel_rfl) ?_ ?_
          · intro f hf0
            exact ⟨fun _ _ => ⟨1, rfl⟩, fun h => by rw [hf0 15] at h; (cases h), fun h => by rw [hf0 17] at h; cases h⟩
          repeat (first
            | (refine Fx.skip_ (by rfl) (fun f w h => h) ?_; simp only [Act.put, List.setIfInBounds_toArray, List.set_cons_zero, List.set_cons_succ])
            | (refine Fx.val_ ?_ (by rfl) ?_ (fun f w h => h) ?_
               rotate_left
               · intro f w' hD hk
                 obtain ⟨h1, h2, h3⟩ := id hD
                 clear hk hD h1 h2 h3
                 go_simp
                 try rfl
               simp only [Act.put, List.setIfInBounds_toArray, List.set_cons_zero, List.set_cons_succ]))
          refine Fx.val_ ?_ (by rfl) ?_ (fun f w h => h) ?_
          rotate_left
          · intro f w' hD hk
            obtain ⟨h1, h2, h3⟩ := id hD
            obtain ⟨k, rfl⟩ := h1 (hk.2.1 15 (by kernel_rfl)) (hk.2.1 17 (by kernel_rfl))
            clear hk hD h1 h2 h3
            go_simp
            try rfl
          simp only [Act.put, List.setIfInBounds_toArray, List.set_cons_zero, List.set_cons_succ]
          repeat (first
            | (refine Fx.skip_ (by rfl) (fun f w h => h) ?_; simp only [Act.put, List.setIfInBounds_toArray, List.set_cons_zero, List.set_cons_succ])
            | (refine Fx.val_ ?_ (by rfl) ?_ (fun f w h => h) ?_
               rotate_left
               · intro f w' hD hk
                 obtain ⟨h1, h2, h3⟩ := id hD
                 clear hk hD h1 h2 h3
                 go_simp
                 try rfl
               simp only [Act.put, List.setIfInBounds_toArray, List.set_cons_zero, List.set_cons_succ]))
          refine Fx.val_ ?_ (by rfl) ?_ (fun f w h => h) ?_
          rotate_left
          · intro f w' hD hk
            obtain ⟨h1, h2, h3⟩ := id hD
            obtain ⟨k, rfl⟩ := h1 (hk.2.1 15 (by kernel_rfl)) (hk.2.1 17 (by kernel_rfl))
            clear hk hD h1 h2 h3
            go_simp
            try rfl
          simp only [Act.put, List.setIfInBounds_toArray, List.set_cons_zero, List.set_cons_succ]
          repeat (first
            | (refine Fx.skip_ (by rfl) (fun f w h => h) ?_; simp only [Act.put, List.setIfInBounds_toArray, List.set_cons_zero, List.set_cons_succ])
            | (refine Fx.val_ ?_ (by rfl) ?_ (fun f w h => h) ?_
               rotate_left
               · intro f w' hD hk
                 obtain ⟨h1, h2, h3⟩ := id hD
                 clear hk hD h1 h2 h3
                 go_simp
                 try rfl
               simp only [Act.put, List.setIfInBounds_toArray, List.set_cons_zero, List.set_cons_succ]))
          refine Fx.store_ (fun w' => w'.setCell ⟨g, j, none⟩ (.int .i64 (y : Int))) (by rfl) ?_ ?_ ?_
          · intro f w' hD hk
            obtain ⟨h1, h2, h3⟩ := id hD
            have e17 : f 17 = false := hk.2.1 17 (by kernel_rfl)
            obtain ⟨k, rfl⟩ := h1 hk.1 e17
            clear h1 h2 h3
            clear hk hD
            go_simp
          · intro f w' hD hk
            obtain ⟨h1, h2, h3⟩ := id hD
            have e17 : f 17 = false := hk.2.1 17 (by kernel_rfl)
            obtain ⟨k, rfl⟩ := h1 hk.1 e17
            clear h1 h2 h3
            exact ⟨fun h => by simp [Fx.add] at h, fun _ _ => ⟨k, rfl⟩, fun h => by simp [Fx.add, e17] at h⟩
          simp only [Act.put, List.setIfInBounds_toArray, List.set_cons_zero, List.set_cons_succ]
          repeat (first
            | (refine Fx.skip_ (by rfl) (fun f w h => h) ?_; simp only [Act.put, List.setIfInBounds_toArray, List.set_cons_zero, List.set_cons_succ])
            | (refine Fx.val_ ?_ (by rfl) ?_ (fun f w h => h) ?_
               rotate_left
               · intro f w' hD hk
                 obtain ⟨h1, h2, h3⟩ := id hD
                 clear hk hD h1 h2 h3
                 go_simp
                 try rfl
               simp only [Act.put, List.setIfInBounds_toArray, List.set_cons_zero, List.set_cons_succ]))
          refine Fx.store_ (fun w' => w'.setCell ⟨g, j', none⟩ (.int .i64 (x : Int))) (by rfl) ?_ ?_ ?_
          · intro f w' hD hk
            obtain ⟨h1, h2, h3⟩ := id hD
            obtain ⟨k, rfl⟩ := h2 (hk.2.2.1 15 (by kernel_rfl)) hk.1
            clear h1 h2 h3
            clear hk hD
            go_simp
          · intro f w' hD hk
            obtain ⟨h1, h2, h3⟩ := id hD
            obtain ⟨k, rfl⟩ := h2 (hk.2.2.1 15 (by kernel_rfl)) hk.1
            clear h1 h2 h3
            exact ⟨fun _ h => by simp [Fx.add] at h, fun _ h => by simp [Fx.add] at h, fun _ => ⟨k, rfl⟩⟩
          simp only [Act.put, List.setIfInBounds_toArray, List.set_cons_zero, List.set_cons_succ]
          refine Fx.nil_ ?_
          intro f w1 hall hD
          have hf17 := hall 17 (by simp)
          obtain ⟨_, _, h3⟩ := hD
          simp only [hf17, if_true] at *
          obtain ⟨kk, rfl⟩ := h3 (by first | rfl | trivial)
          clear h3
          have hfin : Blk (((w3.drewN kk).setCell ⟨g, j, none⟩ (.int .i64 (y : Int))).setCell ⟨g, j', none⟩ (.int .i64 (x : Int))) g 3 (nats (insAt p x j' ++ L.drop (i + 1))).toArray := by
            have h1 := ((Blk.drewN HB3.out kk).set_ j (.int .i64 (y : Int))).set_ j' (.int .i64 (x : Int))
            rw [← HSW.out, nats_set, nats_set, HJJ.out]
            simpa using h1
          have HF := Lib.hid hfin
          clear hfin
          go_wp2
          go_roundw
          case rel => exact ⟨j', by have := HJJ.out; omega, by go_num, only_setCell (only_setCell (only_drewN HG3.out kk) (p := ⟨g, j, none⟩) (.inl rfl) _) (p := ⟨g, j', none⟩) (.inl rfl) _, HF.out, HNEXT.out⟩
          case measure => simp [intOf]; have := HJJ.out; omega
        · have hd2 : decide (t < 0) = false := by simpa using ht0
          have hnext : insF (ltK cz) p x i = insAt p x j := by rw [HRES.out, ← HJJ.out, HINS.out, hd2, if_neg (by simp)]
          have hfin : Blk w3 g 3 (nats (sortF (ltK cz) (L.take (i + 1)) ++ L.drop (i + 1))).toArray := by rw [HNX.out, hnext]; exact HB3.out
          have HF := Lib.hid hfin
          clear hfin hnext
          go_wp2
          go_roundw
          case rel => exact ⟨i + 1, by omega, by omega, by go_num, HG3.out, HF.out⟩
          case measure => simp [intOf]; omega

def StablePost (L : List Nat) (cz : Nat → Nat → Int) (g : Nat) (w : World) (e : Ending) (w' : World) : Prop := e = .returned (.tuple #[]) ∧ w.grownBy w' (some g) ∧ Blk w' g 3 (nats (sortF (ltK cz) L)).toArray
set_option maxRecDepth 100000 in
theorem stable_any (kf pb g n c : Nat) (cz : Nat → Nat → Int) (L : List Nat) (hL : L.length = n) (hn : n < 20) (w : World) (hk : CmpK kf pb g cz L w) (hb : Blk w g 3 (nats L).toArray) :
    Calls Try.prog 67 #[.slice (some ⟨g, 0, none⟩) n c, .int .i64 (n : Int), .func (.func kf) #[] #[.pointer (some ⟨pb, 0, none⟩)]] w (StablePost L cz g w) := by
  have HK := Lib.hid hk
  have HL := Lib.hid hL
  have HB := Lib.hid hb
  have h20 : ¬ ((20 : Int) ≤ (n : Int)) := by omega
  have h20' : ¬ ((20 : Int) < (n : Int)) := by omega
  clear hk hL hb
  go_enter Try.func67, Try.ntmps67
  go_wp2
  refine wp_loop_rounds 1 ?_
  rw [rounds_succ]
  go_wp2_with fail
  refine (insort_any kf pb g n c cz L HL.out (by omega) _ HK.out HB.out).mono ?_
  rintro e w1 ⟨rfl, hg, hk1⟩
  have HP : Hid (StablePost L cz g w (.returned (.tuple #[])) w1) := ⟨rfl, hg, hk1⟩
  clear hg hk1
  go_wp2
  refine wp_loop_rounds 1 ?_
  rw [rounds_succ]
  go_wp2_with fail
  go_end0
  exact HP.out
theorem sortstable_any (kf pb g n c : Nat) (cz : Nat → Nat → Int) (L : List Nat) (hL : L.length = n) (hn : n < 20) (w : World) (hk : CmpK kf pb g cz L w) (hb : Blk w g 3 (nats L).toArray) :
    Calls Try.prog 50 #[.slice (some ⟨g, 0, none⟩) n c, .func (.func kf) #[] #[.pointer (some ⟨pb, 0, none⟩)]] w (StablePost L cz g w) := by
  have HK := Lib.hid hk
  have HL := Lib.hid hL
  have HB := Lib.hid hb
  clear hk hL hb
  go_enter Try.func50, Try.ntmps50
  go_wp2_with fail
  refine (stable_any kf pb g n c cz L HL.out hn _ HK.out HB.out).mono ?_
  rintro e w1 ⟨rfl, hg, hk1⟩
  have HP : Hid (StablePost L cz g w (.returned (.tuple #[])) w1) := ⟨rfl, hg, hk1⟩
  clear hg hk1
  go_wp2
  go_end0
  exact HP.out
end Go.Proofs.Ytmejiafmmmeloaa

end

section
/- The class of worlds of a region whose order is left open, in which one list is appended to and the new list is stored into a cell: 's.f = append(s.f, x)'. -/
namespace Go.Proofs.Ytmejiafmmmeloaa
open Go Go.RowKit

def rowL (g : Option Pick) (xs us : List Value) : List Value := match g with | some _ => xs ++ us | none => xs

/-- The list is appended to by operation pa, whose element us lies in memory that operation sb makes; operation st stores it into cell ix of block fb. -/
structure As (B : Nat) (e : TypeId) (sz : Nat) (va : Value) (n : Nat) (xs us : List Value) (sb pa st : Nat) (fb : Nat) (ft : TypeId) (cs : Array Value) (ix : Nat) (W : World) (g : Nat → Option Pick) (f : Nat → Bool) (w' : World) : Prop where
  os : w'.os = W.os
  tape : w'.tape = W.tape
  output : w'.output = W.output
  size : W.heap.size ≤ w'.heap.size
  keep : ∀ i, i < W.heap.size → va.ownBlock ≠ some i → i ≠ fb → w'.heap[i]? = W.heap[i]?
  fld : f st = false → Blk w' fb ft cs
  fld' : f st = true → Blk w' fb ft (cs.setIfInBounds ix (rowV (g pa) va n))
  own : w'.ownsRow B e sz (rowV (g pa) va n) (rowN (g pa) n) (rowL (g pa) xs us)
  ownf : (rowV (g pa) va n).ownBlock ≠ some fb
  flt : fb < W.heap.size
  lit : ∀ x, g sb = some x → g pa = none → ∃ b, x.1 = some ⟨b, 0, none⟩ ∧ W.heap.size ≤ b ∧ Blk w' b e us.toArray ∧ va.ownBlock ≠ some b

section
variable {B : Nat} {e : TypeId} {sz : Nat} {va : Value} {n : Nat} {xs us : List Value} {sb pa st : Nat} {fb : Nat} {ft : TypeId} {cs : Array Value} {ix : Nat} {W w' w'' : World} {g : Nat → Option Pick} {f : Nat → Bool}

theorem As.start (ho : W.ownsRow B e sz va n xs) (hf : Blk W fb ft cs) (hne : va.ownBlock ≠ some fb) (h0 : f st = false) (k : Nat) : As B e sz va n xs us sb pa st fb ft cs ix W (fun _ => none) f (W.drewN k) :=
  ⟨rfl, rfl, rfl, Nat.le_refl _, fun _ _ _ _ => rfl, fun _ => hf, fun h => (by rw [h0] at h; cases h), ho, hne, hf.lt, fun x h => by cases h⟩
theorem As.same {k : Nat} (h : As B e sz va n xs us sb pa st fb ft cs ix W g f w') (hk : k ≠ st) : As B e sz va n xs us sb pa st fb ft cs ix W g (Fx.add f k) w' :=
  ⟨h.os, h.tape, h.output, h.size, h.keep, fun q => h.fld (by rwa [add_ne' hk] at q), fun q => h.fld' (by rwa [add_ne' hk] at q), h.own, h.ownf, h.flt, h.lit⟩
theorem As.call {k : Nat} (h : As B e sz va n xs us sb pa st fb ft cs ix W g f w') (hb : Below w'.heap.size w' w'') (hk : k ≠ st) : As B e sz va n xs us sb pa st fb ft cs ix W g (Fx.add f k) w'' := by
  have hbl : ∀ i, i < w'.heap.size → w''.heap[i]? = w'.heap[i]? := fun i hi => hb.block i hi
  refine ⟨hb.os.trans h.os, hb.tape.trans h.tape, hb.output.trans h.output, Nat.le_trans h.size hb.size, fun i hi k1 k2 => (hbl i (Nat.lt_of_lt_of_le hi h.size)).trans (h.keep i hi k1 k2), fun q => ?_, fun q => ?_, own_below h.own hb (Nat.le_refl _), h.ownf, h.flt, fun x hx hn => ?_⟩
  · rw [add_ne' hk] at q; exact step_blk' hb (h.fld q)
  · rw [add_ne' hk] at q; exact step_blk' hb (h.fld' q)
  · obtain ⟨b, h1, h2, h3, h4⟩ := h.lit x hx hn
    exact ⟨b, h1, h2, step_blk' hb h3, h4⟩
where
  step_blk' {q : Nat} {t : TypeId} {c : Array Value} {w1 w2 : World} (hb : Below w1.heap.size w1 w2) (h : Blk w1 q t c) : Blk w2 q t c := h.below hb h.lt
theorem As.store {y : Pick} (h : As B e sz va n xs us sb pa st fb ft cs ix W g f w') (hy : g pa = some y) (hst : f st = false) : As B e sz va n xs us sb pa st fb ft cs ix W g (Fx.add f st) (w'.setCell ⟨fb, ix, none⟩ (.slice y.1 (n + 1) y.2)) := by
  have hk := h.fld hst
  have ho := h.own
  have hof := h.ownf
  refine ⟨h.os, h.tape, h.output, by simpa [World.setCell] using h.size, fun i hi k1 k2 => (Below.heap_setCell w' _ _ i k2).trans (h.keep i hi k1 k2), fun q => (by rw [add_same] at q; cases q), fun _ => ?_, own_set ho hof _, hof, h.flt, fun x hx hn => (by rw [hy] at hn; cases hn)⟩
  rw [hy]
  exact hk.set_ ix _
theorem As.cell (h : As B e sz va n xs us sb pa st fb ft cs ix W g f w') (hst : f st = false) (j : Nat) : w'.cell? ⟨fb, j, none⟩ = cs[j]? ∧ w'.frozen? ⟨fb, j, none⟩ = false := ⟨(h.fld hst).cell j, (h.fld hst).frozen j⟩
theorem As.blk (h : As B e sz va n xs us sb pa st fb ft cs ix W g f w') {q : Nat} {t : TypeId} {c : Array Value} (hq : Blk W q t c) (h1 : va.ownBlock ≠ some q) (h2 : q ≠ fb) : Blk w' q t c := (h.keep q hq.lt h1 h2).trans hq
/-- All below a bound is as it was, if the list and the cell lie behind it. -/
theorem As.below {N : Nat} (h : As B e sz va n xs us sb pa st fb ft cs ix W g f w') (hA : ∀ q, va.ownBlock = some q → N ≤ q) (hf : N ≤ fb) (hle : N ≤ W.heap.size) : Below N W w' :=
  ⟨h.os, h.tape, h.output, h.size, fun i hi => h.keep i (by omega) (fun e => by have := hA i e; omega) (by omega)⟩
theorem As.ends {y : Pick} (h : As B e sz va n xs us sb pa st fb ft cs ix W g f w') (hy : g pa = some y) (hst : f st = true) :
    w'.ownsRow B e sz (.slice y.1 (n + 1) y.2) (n + 1) (xs ++ us) ∧ Blk w' fb ft (cs.setIfInBounds ix (.slice y.1 (n + 1) y.2)) := by
  have h1 := h.own
  have h2 := h.fld' hst
  simp only [hy, rowV, rowN, rowL] at h1 h2
  exact ⟨h1, h2⟩
end

end Go.Proofs.Ytmejiafmmmeloaa

end

section
/- The contract of the opening of a tour. -/
namespace Go.Proofs.Ytmejiafmmmeloaa
open Go Go.RowKit

/-- A stop of a tour: the target, and where its turns and positions lie. -/
structure Stp where
  t : Tgt
  A : Option Addr
  n : Nat
  c : Nat
  A' : Option Addr
  c' : Nat
def Stp.cells (s : Stp) : List Value := s.t.cells ++ [.slice s.A s.n s.c, .slice s.A' s.n s.c']
def stpCells (l : List Stp) : List Value := l.flatMap Stp.cells
def turnsV (m : Mnt) (day : Int) (t : Tgt) : List Int := (turnsF m t day).1
def posV (m : Mnt) (day : Int) (t : Tgt) : List Int := posL (appF m t day).1 (turnsV m day t)
/-- The turns and the positions of a stop, in memory of their own. -/
def StpOwn (w : World) (N : Nat) (m : Mnt) (day : Int) (s : Stp) : Prop :=
  w.ownsRow N 3 1 (.slice s.A s.n s.c) s.n ((turnsV m day s.t).map (.int .i64)) ∧ w.ownsRow N 3 1 (.slice s.A' s.n s.c') s.n ((posV m day s.t).map (.int .i64))
def StpOk (w : World) (m : Mnt) (day : Int) (s : Stp) : Prop :=
  Reads w w.heap.size 1 s.A s.n ((turnsV m day s.t).map (.int .i64)) ∧ Reads w w.heap.size 1 s.A' s.n ((posV m day s.t).map (.int .i64))
def stepErr (m : Mnt) (day : Int) (l : List Tgt) (i : Nat) (t : Tgt) : Int := if nextErr (l.take i) t ≠ 0 then nextErr (l.take i) t else (turnsF m t day).2
def firstStep {α : Type} (f : Nat → α → Int) : Nat → List α → Int × Int
  | _, [] => (0, 0)
  | i, t :: r => if f i t ≠ 0 then ((i : Int), f i t) else firstStep f (i + 1) r
/-- The number of the first target with an error, and the error. -/
def tourF (m : Mnt) (l : List Tgt) (day pos : Int) : Int × Int :=
  if mntErr m ≠ 0 then (0, mntErr m) else if dayErr day ≠ 0 then (0, dayErr day) else if withinB pos m.ls m.ms = false then (0, 2) else if 20 < l.length then (0, 8) else firstStep (stepErr m day l) 0 l

theorem StpOwn.below {w w' : World} {N : Nat} {m : Mnt} {day : Int} {s : Stp} (h : StpOwn w N m day s) (hb : Below w.heap.size w w') : StpOwn w' N m day s := ⟨own_below h.1 hb (Nat.le_refl _), own_below h.2 hb (Nat.le_refl _)⟩
theorem StpOwn.ok {w : World} {N : Nat} {m : Mnt} {day : Int} {s : Stp} (h : StpOwn w N m day s) : StpOk w m day s := ⟨own_reads2 h.1, own_reads2 h.2⟩

def OpenBad (i E : Int) (w : World) (e : Ending) (w' : World) : Prop := e = .returned (.tuple #[.pointer none, .int .i64 i, .int .i64 E]) ∧ Below w.heap.size w w'
end Go.Proofs.Ytmejiafmmmeloaa

end

section
/- The contract of the reference's check of a tour. -/
namespace Go.Proofs.Ytmejiafmmmeloaa
open Go Go.RowKit

end Go.Proofs.Ytmejiafmmmeloaa

end

section
/- A number out of a list of numbers in memory. -/
namespace Go.Proofs.Ytmejiafmmmeloaa
open Go Go.RowKit

theorem ints_at {l : List Int} {q : Nat} {u : Value} (hu : (l.map (Value.int .i64))[q]? = some u) : ∃ z, l[q]? = some z ∧ .int .i64 z = u := by
  rw [List.getElem?_map] at hu
  cases h : l[q]? with
  | none => rw [h] at hu; cases hu
  | some t => rw [h] at hu; exact ⟨t, rfl, Option.some.inj hu⟩
theorem Reads.int_ {w : World} {B n : Nat} {A : Option Addr} {l : List Int} (h : Reads w B 1 A n (l.map (.int .i64))) {i : Nat} (hi : i < n) : ∃ b o z, A = some ⟨b, o, none⟩ ∧ b < B ∧ l[i]? = some z ∧ w.cell? ⟨b, o + i, none⟩ = some (.int .i64 z) := by
  obtain ⟨b, o, u, hA, hb, hu, hc⟩ := h.at_ hi
  obtain ⟨z, hz, rfl⟩ := ints_at hu
  exact ⟨b, o, z, hA, hb, hz, hc⟩
theorem Reads.ilen {w : World} {B n : Nat} {A : Option Addr} {l : List Int} (h : Reads w B 1 A n (l.map (.int .i64))) : l.length = n := by have := h.1; simpa using this

end Go.Proofs.Ytmejiafmmmeloaa

end

section
/- Contracts of the path of a choice and of its cost. -/
namespace Go.Proofs.Ytmejiafmmmeloaa
open Go Go.RowKit

def IdxYes (l : List Int) (z : Int) (w : World) (e : Ending) (w' : World) : Prop := (∃ i : Nat, e = .returned (.int .i64 i) ∧ l[i]? = some z) ∧ w = w'
/-- The position of a target by a turn. -/
def posK (m : Mnt) (day : Int) (t : Tgt) (k : Int) : Int := (appF m t day).1 + k * 1296000
def turnOk (m : Mnt) (day : Int) (t : Tgt) (k : Int) : Bool := decide (k ∈ turnsV m day t)
def pathL (m : Mnt) (day : Int) : List Tgt → List Int → List Int := List.zipWith (posK m day)
def pathOk (m : Mnt) (day : Int) (l : List Tgt) (ks : List Int) : Bool := (List.zipWith (turnOk m day) l ks).all id
/-- The error of a choice. -/
def pathErr (m : Mnt) (day : Int) (l : List Tgt) (ks : List Int) : Int := if ks.length ≠ l.length then 10 else if pathOk m day l ks = false then 6 else 0
def PathOk (P : List Int) (n : Nat) (w : World) (e : Ending) (w' : World) : Prop :=
  ∃ A c, e = .returned (.tuple #[.slice A n c, .int .i64 0]) ∧ Below w.heap.size w w' ∧ Reads w' w'.heap.size 1 A n (P.map (.int .i64))
def PathFit (E : Int) (P : List Int) (n : Nat) (w : World) (e : Ending) (w' : World) : Prop :=
  (E ≠ 0 → e = .returned (.tuple #[.slice none 0 0, .int .i64 E]) ∧ Below w.heap.size w w') ∧ (E = 0 → PathOk P n w e w')

end Go.Proofs.Ytmejiafmmmeloaa

end

section
/- The contract of the check of a choice. -/
namespace Go.Proofs.Ytmejiafmmmeloaa
open Go Go.RowKit

def costL (a : Int) : List Int → Int
  | [] => 0
  | z :: r => costF a z + costL z r
def lastI (a : Int) : List Int → Int
  | [] => a
  | z :: r => lastI z r
/-- The cost of a choice, and the error. -/
def choiceF (m : Mnt) (l : List Tgt) (day pos : Int) (ks : List Int) : Int × Int :=
  if pathErr m day l ks ≠ 0 then (0, pathErr m day l ks) else (costL pos (pathL m day l ks), 0)
end Go.Proofs.Ytmejiafmmmeloaa

end

section
/- Contracts of what the statements on tours begin with: the guard, and the check of a tour. -/
namespace Go.Proofs.Ytmejiafmmmeloaa
open Go Go.RowKit

end Go.Proofs.Ytmejiafmmmeloaa

end

section
/- The comparison of lists of numbers. -/
namespace Go.Proofs.Ytmejiafmmmeloaa
open Go Go.RowKit

theorem ints_eqd (A B : Option Addr) (ca cb n m : Nat) (xs ys : List Int) (t : Bool) (ht : decide (xs = ys) = t) (w : World) (N M : Nat) (hx : Reads w N 1 A n (xs.map (.int .i64))) (hy : Reads w M 1 B m (ys.map (.int .i64))) (h1 : n ≤ 9223372036854775807) (h2 : m ≤ 9223372036854775807) :
    Calls Try.prog 14 #[.slice A n ca, .slice B m cb] w fun e w' => e = .returned (.bool t) ∧ ∃ q, w' = w.drewN q := by
  have hl := hx.ilen
  have hl' := hy.ilen
  by_cases hnm : n = m
  rotate_left
  · have hb : ((n : Int) != (m : Int)) = true := by simpa using (show (n : Int) ≠ m by omega)
    have ht' : t = false := by rw [← ht]; exact decide_eq_false (by rintro rfl; omega)
    subst ht'
    clear hx hy ht hl hl'
    go_enter Try.func14, Try.ntmps14
    go_wp2
    go_ret
    exact ⟨rfl, 0, rfl⟩
  subst hnm
  have hb : ((n : Int) != (n : Int)) = false := by simp
  have HX := Lib.hid hx
  have HY := Lib.hid hy
  have HL := Lib.hid (And.intro hl hl')
  have HT := Lib.hid ht
  clear hx hy hl hl' ht
  go_enter Try.func14, Try.ntmps14
  go_wp2
  go_loopw [5] (fun i wr => ∃ k : Nat, k ≤ n ∧ i = .int .i64 k ∧ (∃ q, wr = w.drewN q) ∧ xs.take k = ys.take k) (fun i _ => n - (intOf i).toNat)
  case atStart => exact ⟨0, by omega, rfl, ⟨0, rfl⟩, rfl⟩
  case round =>
    obtain ⟨k, hk, rfl, ⟨q, rfl⟩, hpre⟩ := hrel
    have HP := Lib.hid hpre
    clear hpre
    by_cases hlt : k < n
    · obtain ⟨xb, xo, p, rfl, _, hp, c0⟩ := HX.out.int_ hlt
      obtain ⟨yb, yo, r, rfl, _, hr, d0⟩ := HY.out.int_ hlt
      have HPX := Lib.hid hp
      have HPY := Lib.hid hr
      clear hp hr
      by_cases hpr : p = r
      · subst hpr
        have hq : (p != p) = false := by simp
        go_wp2
        go_quiet (fail)
        go_wp2
        go_roundw
        case rel => exact ⟨k + 1, by omega, by go_num, ⟨_, rfl⟩, by rw [List.take_add_one, List.take_add_one, HP.out, HPX.out, HPY.out]⟩
        case measure => simp [intOf]; omega
      · have hq : (p != r) = true := by simpa using hpr
        have ht' : t = false := by
          rw [← HT.out]
          refine decide_eq_false fun e => hpr ?_
          have h1 := HPX.out
          rw [e, HPY.out] at h1
          exact (Option.some.inj h1).symm
        subst ht'
        go_wp2
        go_quiet (fail)
        go_wp2
        go_ret
        exact ⟨rfl, _, World.drewN_drewN _ _ _⟩
    · have ht' : t = true := by
        rw [← HT.out]
        refine decide_eq_true ?_
        have := HP.out
        rwa [List.take_of_length_le (by have := HL.out; omega), List.take_of_length_le (by have := HL.out; omega)] at this
      subst ht'
      go_wp2
      go_ret
      exact ⟨rfl, _, rfl⟩
end Go.Proofs.Ytmejiafmmmeloaa

end

section
/- Contracts of the reference's functions on choices: whether a list has a number, positions, costs, the check of a choice. -/
namespace Go.Proofs.Ytmejiafmmmeloaa
open Go Go.RowKit



end Go.Proofs.Ytmejiafmmmeloaa

end

section
/- The plain law of the minutes of a choice. -/
namespace Go.Proofs.Ytmejiafmmmeloaa
open Go Go.RowKit

/-- When a target begins: from the minute and the position before it. -/
def ceilQ (n s : Int) : Int := -((-n) / s)
def begT (sp : Int) (s : Int × Int) (p : Tgt × Int) : Int := if s.1 + ceilQ (wayF s.2 p.2) sp < p.1.fr then p.1.fr else s.1 + ceilQ (wayF s.2 p.2) sp
def stepT (sp : Int) (s : Int × Int) (p : Tgt × Int) : Int × Int := (begT sp s p + p.1.dw, p.2)
def stT (sp : Int) (s0 : Int × Int) (Z : List (Tgt × Int)) (k : Nat) : Int × Int := (Z.take k).foldl (stepT sp) s0
def begL (sp : Int) (s0 : Int × Int) (Z : List (Tgt × Int)) (k : Nat) : List Int := (List.range k).map fun j => match Z[j]? with
  | some p => begT sp (stT sp s0 Z j) p
  | none => 0
def lateE (sp : Int) (s0 : Int × Int) (Z : List (Tgt × Int)) (j : Nat) (p : Tgt × Int) : Int := if p.1.to < (stepT sp (stT sp s0 Z j) p).1 then 18 else 0
/-- The minutes, the number of the first late target, the error. -/
def timesQ (sp : Int) (s0 : Int × Int) (Z : List (Tgt × Int)) : (List Int × Int) × Int :=
  if (firstStep (lateE sp s0 Z) 0 Z).2 ≠ 0 then (([], (firstStep (lateE sp s0 Z) 0 Z).1), (firstStep (lateE sp s0 Z) 0 Z).2) else ((begL sp s0 Z Z.length, 0), 0)
end Go.Proofs.Ytmejiafmmmeloaa

end

section
/- The contract of the minutes of a choice. -/
namespace Go.Proofs.Ytmejiafmmmeloaa
open Go Go.RowKit

/-- 'out = append(out, z)': the literal and the append. -/
theorem snocint_run (B : Nat) (v : Value) (k : Nat) (xs : List Value) (z : Int) (w : World) (ho : w.ownsRow B 3 1 v k xs) (hB : B ≤ w.heap.size) (hk : k ≤ 100000) :
    ∃ v' W2, (Builtin.append_ #[36, 36] 36 #[v, .slice (some ⟨w.heap.size, 0, none⟩) 1 1]).run Try.prog (w.alloc (.cells #[.int .i64 z] 3)) = .ok v' W2 ∧ W2.ownsRow B 3 1 v' (k + 1) (xs ++ [.int .i64 z]) ∧ Below B w W2 := by
  obtain ⟨i0, hi0, hz0, hz1, hz2⟩ := info_parts info_ints1
  have hbW : Below B w (w.alloc (.cells #[.int .i64 z] 3)) := (Below.refl _ _).alloc hB _
  obtain ⟨v', W2, hrun, o2', hg2, -⟩ := run_append_any (P := Try.prog) (w.alloc (.cells #[.int .i64 z] 3)) B 36 36 3 i0 _ 1 8 Try.underlying36 hi0 hz0 hz1 hz2 rfl (by omega) v k _ (ho.alloc _) (w.alloc (.cells #[.int .i64 z] 3)).heap.size (some ⟨w.heap.size, 0, none⟩) 1 1 [.int .i64 z] (Blk.reads (Blk.new _ _ _) rfl) (by simp [Value.oneCell']) (by unfold maxLen; omega) (by omega) (Nat.le_trans hB hbW.size)
  exact ⟨v', W2, hrun, o2', hbW.grown hg2 (Nat.le_trans hB hbW.size) (fun g hg => (own_lt ho hg).1)⟩

def TimesPost (L : List Int) (i E : Int) (q : Nat) (w : World) (e : Ending) (w' : World) : Prop :=
  ∃ A c, e = .returned (.tuple #[.slice A q c, .int .i64 i, .int .i64 E]) ∧ Below w.heap.size w w' ∧ Reads w' w'.heap.size 1 A q (L.map (.int .i64))
/-- The targets with the positions of a choice. -/
def tgtPos (m : Mnt) (day : Int) (l : List Tgt) (ks : List Int) : List (Tgt × Int) := l.zip (pathL m day l ks)
end Go.Proofs.Ytmejiafmmmeloaa

end
