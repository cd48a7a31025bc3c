import Derived.Test.YtfigbdhfmlhjdaaQ21
import Derived.Test.YtfigbdhfmlhjdaaQ18

section
/- The contract of Pivots. -/
namespace Go.Proofs.Ytfigbdhfmlhjdaa
open Go Go.RowKit Go.Maps

def PivotsPost (l : List Rk) (ps : List ByteArray) (xs : List (Int × Int)) (n : Nat) (w : World) (e : Ending) (w' : World) : Prop :=
  Below w.heap.size w w' ∧ ((atB xs = false ∧ e = .returned (.tuple #[.slice none 0 0, .int .i64 2])) ∨ (atB xs = true ∧ largeB l (atG0 ps xs) (atG1 ps xs) = true ∧ e = .returned (.tuple #[.slice none 0 0, .int .i64 8])) ∨
    (atB xs = true ∧ largeB l (atG0 ps xs) (atG1 ps xs) = false ∧ ∃ A' c', e = .returned (.tuple #[.slice A' n c', .int .i64 0]) ∧ w'.ownsRow w.heap.size 36 4 (.slice A' n c') n (pvCells l (atG0 ps xs) (atG1 ps xs) l)))

end Go.Proofs.Ytfigbdhfmlhjdaa

end

section
/- The contract of Pivots: the points' places, then each rocker's. -/
namespace Go.Proofs.Ytfigbdhfmlhjdaa
open Go Go.RowKit Go.Maps

theorem below_rk {l : List Rk} (h : openErr l = 0) {r : Rk} {i : Nat} (hr : l[i]? = some r) {ps : List ByteArray} (hp : ptsOf l = some ps) : ∀ x ∈ below_ l r.name, x ∈ ps := by
  obtain ⟨h0, h1, h2, hn, h4, h5⟩ := open_zero h
  have hc : climbs l (l.length + 1) r.name = false := by simpa using List.any_eq_false.1 h4 r (List.mem_of_getElem? hr)
  have e : below_ l (topName l) = ps := by
    have := below_pts h (topName l)
    unfold ptsOf at hp
    rw [hp] at this
    exact (Option.some.inj this).symm
  intro x hx
  rw [← e]
  exact below_top h _ i r hr hc x hx
/-- The first k points are known. -/
def ptK (ps : List ByteArray) : Nat → ByteArray → Bool
  | 0 => fun _ => false
  | k + 1 => fun u => u = ps.getD k ByteArray.empty || ptK ps k u
theorem ptK_mem {ps : List ByteArray} : ∀ {k : Nat}, k ≤ ps.length → ∀ x, x ∈ ps.take k → ptK ps k x = true
  | 0, _, x, h => by simp at h
  | k + 1, hk, x, h => by
    rw [List.take_add_one, List.getElem?_eq_getElem (by omega)] at h
    unfold ptK
    rcases List.mem_append.1 h with h | h
    · simp [ptK_mem (by omega) x h]
    · obtain rfl : x = ps[k] := by simpa using h
      simp [List.getD_eq_getElem?_getD, List.getElem?_eq_getElem (show k < ps.length by omega)]
theorem ptK_sub {ps : List ByteArray} : ∀ {k : Nat}, k ≤ ps.length → ∀ x, ptK ps k x = true → x ∈ ps
  | 0, _, x, h => by cases h
  | k + 1, hk, x, h => by
    unfold ptK at h
    rw [Bool.or_eq_true, decide_eq_true_eq] at h
    rcases h with h | h
    · rw [h, List.getD_eq_getElem?_getD, List.getElem?_eq_getElem (show k < ps.length by omega)]
      exact List.getElem_mem (by omega)
    · exact ptK_sub (by omega) x h
theorem pt_good {l : List Rk} {ps : List ByteArray} (hp : ptsOf l = some ps) (g0 g1 : ByteArray → Int) {k : Nat} (hk : k ≤ ps.length) : Good l g0 g1 (ptK ps k) false := by
  unfold Good
  constructor
  · intro h; cases h
  · rintro ⟨s, hs, hf⟩
    have hi := leaf_mem _ _ _ (by unfold ptsOf at hp; exact hp) s (ptK_sub hk s hs)
    unfold fl2 at hf
    rw [(plV_leaf g0 hi).2, (plV_leaf g1 hi).2] at hf
    cases hf
theorem at_no {xs : List (Int × Int)} {k : Nat} {p : Int × Int} (hp : xs[k]? = some p) (h : (withinB p.1 (-1000000) 1000000 && withinB p.2 (-1000000) 1000000) = false) : atB xs = false := by
  unfold atB
  rw [List.all_eq_false]
  exact ⟨p, List.mem_of_getElem? hp, by rw [h]; simp⟩
theorem at_yes {xs : List (Int × Int)} (h : ∀ (q : Nat) (p : Int × Int), q < xs.length → xs[q]? = some p → (withinB p.1 (-1000000) 1000000 && withinB p.2 (-1000000) 1000000) = true) : atB xs = true := by
  unfold atB
  rw [List.all_eq_true]
  intro p hp
  obtain ⟨q, hq⟩ := List.getElem?_of_mem hp
  exact h q p (List.getElem?_eq_some_iff.1 hq).1 hq
theorem two_own {a b base n size : Nat} {w w' : World} {e : TypeId} {v : Value} {xs : List Value} (h : Two a b w w') (ho : w.ownsRow base e size v n xs) (ha : a < base) (hb : b < base) : w'.ownsRow base e size v n xs :=
  own_same ho fun g hg => by
    obtain ⟨h1, h2⟩ := own_lt ho hg
    exact h.block g h2 (by omega) (by omega)
theorem two_then {a b base : Nat} {w w7 W2 : World} (h : Two a b w w7) (hb : Below base w7 W2) (hB : w.heap.size ≤ base) : Two a b w W2 :=
  ⟨hb.os.trans h.os, hb.tape.trans h.tape, hb.output.trans h.output, Nat.le_trans h.size hb.size, fun i hi ha hbn => (hb.block i (by omega)).trans (h.block i hi ha hbn)⟩
theorem valP_eq {l : List Rk} {g0 g1 : ByteArray → Int} {s : ByteArray} {a b c d : Int} (h0 : plV l g0 s = (a, b)) (h1 : plV l g1 s = (c, d)) : valP l g0 g1 s = .agg #[.int .i64 a, .int .i64 b, .int .i64 c, .int .i64 d] := by unfold valP; rw [h0, h1]

set_option maxRecDepth 100000 in
set_option maxHeartbeats 8000000 in
theorem pivots_ok (l : List Rk) (hfits : ∀ r ∈ l, r.Fits) (A : Option Addr) (n c : Nat) (B : Option Addr) (m cb : Nat) (xs : List (Int × Int)) (w : World) (hx : Reads w w.heap.size 5 A n (rkCells l)) (hy : Reads w w.heap.size 2 B m (cells2 xs)) (hn : n ≤ 1000) (h0 : openErr l = 0) (hbl : ∀ s, (below_ l s).length ≤ 1000000) (ps : List ByteArray) (hp : ptsOf l = some ps) (hps : ps.length ≤ 1000000) (hm : ps.length = m) :
    Calls Try.prog 7 #[.slice A n c, .slice B m cb] w (PivotsPost l ps xs n w) := by
  obtain ⟨z0, z40, -⟩ := open_zero h0
  have htop := Lib.hid (topOf_lt z0)
  have hnd := Lib.hid (points_nodup h0 hp)
  have hln := hx.len5
  have hxl : xs.length = m := hy.len2
  have hmm := @run_makeMap Try.prog
  have H0 := Lib.hid h0
  have HP := Lib.hid hp
  have HM := Lib.hid hm
  have HXL := Lib.hid hxl
  have HX := Lib.hid hx
  have HY := Lib.hid hy
  have HBL := Lib.hid hbl
  have hmM : m ≤ 1000000 := by omega
  clear h0 hp hm z0 hxl hx hy hbl
  go_enter Try.func7, Try.ntmps7
  go_wp2_with fail
  refine (forpoints_ok l hfits A n c m _ HX.out (by omega) H0.out ps HP.out hps HM.out).mono ?_
  rintro e w1 ⟨hb, tb, mb, rfl, hT⟩
  have HB1 := Lib.hid (show Below w.heap.size w w1 from step_below hb (by repeat' (first | exact Below.refl _ _ | exact HB0.out | refine below_drewN ?_ _ | refine Below.drew ?_ | refine Below.alloc ?_ (by first | omega | (simp; done) | (simp; omega) | (simp [World.setCell]; omega)) _ | refine Below.setCell ?_ (by first | omega | (simp; done) | (simp; omega)) _ | assumption)))
  have hz1 := hb.size
  try simp only [World.size_alloc, World.drewN, World.drew] at hz1
  clear hb
  have HT1 := Lib.hid hT
  clear hT
  go_wp2_with fail
  obtain ⟨gm, hgm⟩ : ∃ g, w1.heap.size = g := ⟨_, rfl⟩
  generalize hW : (w1.alloc (.map #[] 0)).alloc (.cells #[.pointer (some ⟨tb, 0, none⟩), .map (some w1.heap.size), .bool false] 72) = w2
  have hb12 : Below w1.heap.size w1 w2 := by rw [← hW]; exact ((Below.refl _ _).alloc (Nat.le_refl _) _).alloc (by simp) _
  have hP2 : PivAt l (atG0 ps xs) (atG1 ps xs) A n c tb mb (topOf l : Int) w1.heap.size w1.heap.size (w1.heap.size + 1) (ptK ps 0) 0 false w2 :=
    ⟨HT1.out.below hb12, Nat.le_refl _, Nat.lt_succ_self _, by rw [← hW]; exact Blk.at_ _ (by simp) _ _, by
      have e : knM l (atG0 ps xs) (atG1 ps xs) (ptK ps 0) = fun _ => none := by funext s; unfold knM ptK; simp
      rw [e, ← hW]
      exact (MapIs.made _ _ _).alloc _⟩
  have hT2 := (HT1.out.below hb12).more hb12.size
  have HB2 := Lib.hid (HB1.out.trans (hb12.mono HB1.out.size))
  have hs12 : gm + 1 < w2.heap.size := by have := hP2.gp_lt; omega
  have hw1 := HB1.out.size
  rw [hgm] at hP2 hw1
  have HGM := Lib.hid hgm
  have hgp : w1.heap.size + 1 = gm + 1 := by omega
  rw [hgp]
  clear hW hb12 hgm hgp hmm
  refine (points_any l hfits A n c tb mb w2 (by omega) hT2 htop.out ps HP.out hps).mono ?_
  rintro e w3 ⟨hb23, A3, c3, rfl, ho3⟩
  have HP3 := Lib.hid (hP2.below hb23 (by omega))
  have HO3 := Lib.hid ho3
  have HB3 := Lib.hid (HB2.out.trans (hb23.mono HB2.out.size))
  have hs23 := hb23.size
  rw [HM.out]
  clear hP2 hT2 hb23 ho3
  go_wp2
  go_loopw [31] (fun i wr => ∃ k : Nat, k ≤ m ∧ i = .int .i64 k ∧ (∀ (q : Nat) (p : Int × Int), q < k → xs[q]? = some p → (withinB p.1 (-1000000) 1000000 && withinB p.2 (-1000000) 1000000) = true) ∧ Two (gm + 1) gm w3 wr ∧ PivAt l (atG0 ps xs) (atG1 ps xs) A n c tb mb (topOf l : Int) gm gm (gm + 1) (ptK ps k) k false wr) (fun i _ => m - (intOf i).toNat)
  case atStart => exact ⟨0, by omega, rfl, fun q p hq => absurd hq (by omega), Two.refl _ _ _, HP3.out⟩
  case round =>
    obtain ⟨k, hk, rfl, hup, hT4, hP4⟩ := hrel
    obtain ⟨w4, hnm⟩ : ∃ z : World, z = wr := ⟨_, rfl⟩
    subst hnm
    have HUP := Lib.hid hup
    have HT4 := Lib.hid hT4
    have HP4 := Lib.hid hP4
    have hb34 : Below gm w3 w4 := hT4.below (by omega) (by omega) (by omega)
    have HB4 := Lib.hid (HB3.out.trans (hb34.mono hw1))
    have ho4 := two_own hT4 (HO3.out) (show gm + 1 < w2.heap.size by omega) (show gm < w2.heap.size by omega)
    have HO4 := Lib.hid ho4
    clear hup hT4 hP4 hb34 ho4
    by_cases hkt : k < m
    · have hkk : (k : Int) < (m : Int) := by omega
      have hrs := own_reads2 HO4.out
      rw [HM.out] at hrs
      obtain ⟨sb, so, s, hAe, hsb, hgs, cs⟩ := hrs.str (i := k) hkt
      obtain ⟨xb, xo, ⟨a, b⟩, hBe, hxb, hgx, c0, c1⟩ := (HY.out.below HB4.out).pair hkt
      simp only at c0 c1
      have HGX := Lib.hid hgx
      have HGS := Lib.hid hgs
      subst hAe hBe
      obtain ⟨ta, hta⟩ : ∃ t, withinB a (-1000000) 1000000 = t := ⟨_, rfl⟩
      obtain ⟨tb', htb⟩ : ∃ t, withinB b (-1000000) 1000000 = t := ⟨_, rfl⟩
      have HTA := Lib.hid hta
      have HTB := Lib.hid htb
      clear hrs hgs hgx hta htb
      cases ta with
      | false =>
        have HAT := Lib.hid (at_no HGX.out (show (withinB a _ _ && withinB b _ _) = false by rw [HTA.out]; rfl))
        go_wp2_with fail
        refine (withinsup_is _ _ _ false HTA.out _).mono ?_
        rintro e w' ⟨rfl, rfl⟩
        go_wp2
        go_ret2
        exact ⟨HB4.out, .inl ⟨HAT.out, rfl⟩⟩
      | true =>
        go_wp2_with fail
        refine (withinsup_is _ _ _ true HTA.out _).mono ?_
        rintro e w' ⟨rfl, rfl⟩
        cases tb' with
        | false =>
          have HAT := Lib.hid (at_no HGX.out (show (withinB a _ _ && withinB b _ _) = false by rw [HTA.out, HTB.out]; rfl))
          go_wp2_with fail
          refine (withinsup_is _ _ _ false HTB.out _).mono ?_
          rintro e w' ⟨rfl, rfl⟩
          go_wp2
          go_ret2
          exact ⟨HB4.out, .inl ⟨HAT.out, rfl⟩⟩
        | true =>
          go_wp2_with fail
          refine (withinsup_is _ _ _ true HTB.out _).mono ?_
          rintro e w' ⟨rfl, rfl⟩
          have hle : idxOf l s = none := leaf_mem _ _ _ (by have := HP.out; unfold ptsOf at this; exact this) s (List.mem_of_getElem? HGS.out)
          obtain ⟨v0, v1⟩ := at_val hnd.out HGS.out HGX.out
          have hval : valP l (atG0 ps xs) (atG1 ps xs) s = .agg #[.int .i64 a, .int .i64 1, .int .i64 b, .int .i64 1] := valP_eq (by rw [(plV_leaf _ hle).1, v0]) (by rw [(plV_leaf _ hle).1, v1])
          have hsz : s.size ≤ maxLen := by
            obtain ⟨r, hr, hnm⟩ := topName_get htop.out
            have := HP.out
            unfold ptsOf at this
            rw [hnm] at this
            exact pts_small hfits _ _ _ (hfits r (List.mem_of_getElem? hr)).name this s (List.mem_of_getElem? HGS.out)
          have hsd : ps.getD k ByteArray.empty = s := by rw [List.getD_eq_getElem?_getD, HGS.out]; rfl
          have HNK := Lib.hid (show ptK ps (k + 1) = fun u => u = s || ptK ps k u by show (fun u => decide (u = ps.getD k ByteArray.empty) || ptK ps k u) = _; rw [hsd])
          obtain ⟨W0, hW0⟩ : ∃ W0, W0 = w4.drewN 1 := ⟨_, rfl⟩
          have hP0 : PivAt l (atG0 ps xs) (atG1 ps xs) A n c tb mb (topOf l : Int) gm gm (gm + 1) (ptK ps k) k false W0 := by rw [hW0]; exact HP4.out.below (below_drewN (Below.refl _ _) 1) HP4.out.gp_lt
          obtain ⟨W2, hrun, hP2, hg2⟩ := hP0.put s hsz (by unfold maxLen; omega)
          rw [hval] at hrun
          rw [← HNK.out] at hP2
          have HRUN := Lib.hid hrun
          have HPP := Lib.hid hP2
          have HTT : Hid (Two (gm + 1) gm w3 W2) := by
            have h : Two (gm + 1) gm w4 W0 := by rw [hW0]; exact Two.of (below_drewN (Below.refl _ _) 1)
            exact Lib.hid ((HT4.out.trans h).trans (Two.of2 hg2))
          have d0 := hP0.blk.cell 1
          have hx0 : xb < w4.heap.size := Nat.lt_of_lt_of_le hxb HB4.out.size
          have d1 : W0.cell? ⟨xb, xo + k * 2, none⟩ = some (.int .i64 a) := by rw [hW0]; exact c0
          have d2 : W0.cell? ⟨xb, xo + k * 2 + 1, none⟩ = some (.int .i64 b) := by rw [hW0]; exact c1
          have HUP' := Lib.hid (show ∀ (q : Nat) (p : Int × Int), q < k + 1 → xs[q]? = some p → (withinB p.1 (-1000000) 1000000 && withinB p.2 (-1000000) 1000000) = true from fun q p hq hp => by
            rcases Nat.lt_succ_iff_lt_or_eq.1 hq with h | h
            · exact HUP.out q p h hp
            · subst h
              obtain rfl := Option.some.inj (HGX.out.symm.trans hp)
              show (withinB a _ _ && withinB b _ _) = true
              rw [HTA.out, HTB.out]; rfl)
          clear hrun hP2 hg2 hP0 hle v0 v1 hval hsz hsd
          go_wp2
          refine Fx.region (fun f w' => (f 18 = false → w' = W0) ∧ (f 18 = true → w' = W2)) (by kernel_rfl) (by kernel_rfl) ?_ ?_
          · intro f hf0
            exact ⟨fun _ => hW0.symm, fun h => by rw [hf0 18] at h; cases h⟩
          have HW0 := Lib.hid hW0
          clear hW0
          repeat (first
            | (refine Fx.skip_ (by rfl) (fun f w h => h) ?_; simp only [Act.put, List.setIfInBounds_toArray, List.set_cons_zero, List.set_cons_succ])
            | (refine Fx.val_ ?_ (by rfl) ?_ (fun f w h => h) ?_
               rotate_left
               · intro f w' hD hk
                 obtain ⟨jw, jr⟩ := id hD
                 clear hk hD jw jr
                 go_simp
                 try rfl
               simp only [Act.put, List.setIfInBounds_toArray, List.set_cons_zero, List.set_cons_succ]))
          refine Fx.val_ ?_ (by rfl) ?_ (fun f w h => h) ?_
          rotate_left
          · intro f w' hD hk
            obtain ⟨jw, jr⟩ := id hD
            have jw := jw (hk.2.1 18 (by kernel_rfl))
            have q0 : w'.cell? ⟨gm + 1, 1, none⟩ = some (.map (some gm)) := by rw [jw]; exact d0
            clear hk hD jw jr
            go_simp
            try rfl
          simp only [Act.put, List.setIfInBounds_toArray, List.set_cons_zero, List.set_cons_succ]
          repeat (first
            | (refine Fx.skip_ (by rfl) (fun f w h => h) ?_; simp only [Act.put, List.setIfInBounds_toArray, List.set_cons_zero, List.set_cons_succ])
            | (refine Fx.val_ ?_ (by rfl) ?_ (fun f w h => h) ?_
               rotate_left
               · intro f w' hD hk
                 obtain ⟨jw, jr⟩ := id hD
                 clear hk hD jw jr
                 go_simp
                 try rfl
               simp only [Act.put, List.setIfInBounds_toArray, List.set_cons_zero, List.set_cons_succ]))
          refine Fx.val_ ?_ (by rfl) ?_ (fun f w h => h) ?_
          rotate_left
          · intro f w' hD hk
            obtain ⟨jw, jr⟩ := id hD
            have jw := jw (hk.2.1 18 (by kernel_rfl))
            have q0 : w'.cell? ⟨xb, xo + k * 2, none⟩ = some (.int .i64 a) := by rw [jw]; exact d1
            clear hk hD jw jr
            go_simp
            try rfl
          simp only [Act.put, List.setIfInBounds_toArray, List.set_cons_zero, List.set_cons_succ]
          repeat (first
            | (refine Fx.skip_ (by rfl) (fun f w h => h) ?_; simp only [Act.put, List.setIfInBounds_toArray, List.set_cons_zero, List.set_cons_succ])
            | (refine Fx.val_ ?_ (by rfl) ?_ (fun f w h => h) ?_
               rotate_left
               · intro f w' hD hk
                 obtain ⟨jw, jr⟩ := id hD
                 clear hk hD jw jr
                 go_simp
                 try rfl
               simp only [Act.put, List.setIfInBounds_toArray, List.set_cons_zero, List.set_cons_succ]))
          refine Fx.val_ ?_ (by rfl) ?_ (fun f w h => h) ?_
          rotate_left
          · intro f w' hD hk
            obtain ⟨jw, jr⟩ := id hD
            have jw := jw (hk.2.1 18 (by kernel_rfl))
            have q0 : w'.cell? ⟨xb, xo + k * 2 + 1, none⟩ = some (.int .i64 b) := by rw [jw]; exact d2
            clear hk hD jw jr
            go_simp
            try rfl
          simp only [Act.put, List.setIfInBounds_toArray, List.set_cons_zero, List.set_cons_succ]
          repeat (first
            | (refine Fx.skip_ (by rfl) (fun f w h => h) ?_; simp only [Act.put, List.setIfInBounds_toArray, List.set_cons_zero, List.set_cons_succ])
            | (refine Fx.val_ ?_ (by rfl) ?_ (fun f w h => h) ?_
               rotate_left
               · intro f w' hD hk
                 obtain ⟨jw, jr⟩ := id hD
                 clear hk hD jw jr
                 go_simp
                 try rfl
               simp only [Act.put, List.setIfInBounds_toArray, List.set_cons_zero, List.set_cons_succ]))
          refine Fx.store_ (fun w' => W2) (by rfl) ?_ ?_ ?_
          · intro f w' hD hk
            obtain ⟨jw, jr⟩ := hD
            have jw := jw hk.1
            subst jw
            exact exec_put (.tmp 55) (.tmp 56) (.tmp 69) _ rfl HRUN.out
          · intro f w' hD hk
            exact ⟨fun h => by simp [Fx.add] at h, fun _ => rfl⟩
          simp only [Act.put, List.setIfInBounds_toArray, List.set_cons_zero, List.set_cons_succ]
          refine Fx.nil_ ?_
          intro f w1 hall hD
          have hf18 := hall 18 (by simp)
          obtain ⟨jw, jr⟩ := hD
          simp only [hf18, if_true] at *
          have jr := jr (by first | rfl | trivial)
          clear jw
          try clear hall
          subst jr
          clear d0 d1 d2 HRUN
          go_wp2
          go_roundw
          case rel => exact ⟨k + 1, by omega, by go_num, HUP'.out, HTT.out, HPP.out⟩
          case measure => simp [intOf]; omega
    obtain rfl : m = k := by omega
    have HAT := Lib.hid (at_yes (xs := xs) fun q p hq hp => HUP.out q p (by rw [HXL.out] at hq; exact hq) hp)
    have hKP := Lib.hid (show ∀ x ∈ ps, ptK ps m x = true from fun x hx => ptK_mem (by rw [HM.out]; exact Nat.le_refl _) x (by rw [List.take_of_length_le (by rw [HM.out]; exact Nat.le_refl _)]; exact hx))
    have hGD := Lib.hid (pt_good HP.out (atG0 ps xs) (atG1 ps xs) (k := m) (by rw [HM.out]; exact Nat.le_refl _))
    have hs4 := HP4.out.gp_lt
    have hs04 := HB4.out.size
    clear hkt HUP
    go_wp2
    go_loopw [11, 73] (fun o i wr => ∃ (k : Nat) (K : ByteArray → Bool) (cnt : Nat) (lg : Bool), k ≤ n ∧ i = .int .i64 k ∧ Two (gm + 1) gm w4 wr ∧ PivAt l (atG0 ps xs) (atG1 ps xs) A n c tb mb (topOf l : Int) gm gm (gm + 1) K cnt lg wr ∧ Good l (atG0 ps xs) (atG1 ps xs) K lg ∧ (∀ x ∈ ps, K x = true) ∧ (∀ (q : Nat) (r : Rk), q < k → l[q]? = some r → K r.name = true) ∧ cnt ≤ m + k * 1000000 ∧ wr.ownsRow w4.heap.size 36 4 o k (pvCells l (atG0 ps xs) (atG1 ps xs) (l.take k))) (fun _ i _ => n - (intOf i).toNat)
    case atStart => exact ⟨0, _, m, false, by omega, rfl, Two.refl _ _ _, HP4.out, hGD.out, hKP.out, fun q r hq => absurd hq (by omega), by omega, World.ownsRow_nil _ _ _ _⟩
    case round =>
      obtain ⟨k, K, cnt, lg, hk, rfl, hT5, hP5, hG5, hK5, hR5, hc5, ho5⟩ := hrel
      obtain ⟨w5, hnm⟩ : ∃ z : World, z = wr := ⟨_, rfl⟩
      subst hnm
      have HT5 := Lib.hid hT5
      have HP5 := Lib.hid hP5
      have HG5 := Lib.hid hG5
      have HK5 := Lib.hid hK5
      have HR5 := Lib.hid hR5
      have HO5 := Lib.hid ho5
      have hb45 : Below gm w4 w5 := hT5.below (by omega) (by omega) (by omega)
      have HB5 := Lib.hid (HB4.out.trans (hb45.mono hw1))
      have hs5 := hP5.gp_lt
      have hs45 := hT5.size
      clear hT5 hP5 hG5 hK5 hR5 ho5 hb45
      by_cases hkt : k < n
      rotate_left
      · obtain rfl : n = k := by omega
        have hlg : lg = largeB l (atG0 ps xs) (atG1 ps xs) := good_all HG5.out fun i r hr => HR5.out i r (by rw [← hln]; exact (List.getElem?_eq_some_iff.1 hr).1) hr
        have z2 := HP5.out.blk.cell 2
        have HLG := Lib.hid hlg
        have HOO := Lib.hid (own_base hs04 HO5.out)
        have HTK := Lib.hid (show l.take n = l from List.take_of_length_le (by rw [hln]; exact Nat.le_refl _))
        obtain ⟨A5, c5, rfl, -⟩ := own_reads HOO.out
        clear hlg
        cases lg with
        | true =>
          go_wp2
          go_ret2
          exact ⟨HB5.out, .inr (.inl ⟨HAT.out, HLG.out.symm, rfl⟩)⟩
        | false =>
          go_wp2
          go_ret2
          exact ⟨HB5.out, .inr (.inr ⟨HAT.out, HLG.out.symm, A5, c5, rfl, by have := HOO.out; rw [HTK.out] at this; exact this⟩)⟩
      have hkk : (k : Int) < (n : Int) := by omega
      obtain ⟨rb, ro, r, hAe, hrb, hgr, c0, c1, c2, c3, c4⟩ := (HX.out.below HB5.out).rk hkt
      have HGR := Lib.hid hgr
      have hfit := hfits r (List.mem_of_getElem? hgr)
      have hsz := hfit.name
      subst hAe
      clear hgr hfit
      go_wp2_with fail
      generalize hW : w5.alloc (.cells #[.string r.name, .string r.left, .string r.right, .int .i64 r.al, .int .i64 r.ar] 65) = w6
      have hb56 : Below w5.heap.size w5 w6 := by rw [← hW]; exact (Below.refl _ _).alloc (Nat.le_refl _) _
      have hP6 := HP5.out.below hb56 hs5
      refine (place_any l hfits H0.out _ _ (atG0_in HAT.out) (atG1_in HAT.out) (some ⟨rb, ro, none⟩) n c tb mb (topOf l : Int) gm gm (gm + 1) l.length r.name (below_ l r.name) (below_pts H0.out _) hsz K cnt lg w6 hP6 HG5.out (fun x hx => HK5.out x (below_rk H0.out HGR.out HP.out x hx)) (by have := HBL.out r.name; omega)).mono ?_
      rintro e w7 ⟨he, K', cnt', lg', hT67, hP7, hG7, hKK, hKs, hcc⟩
      obtain ⟨⟨a0, b0⟩, hq0⟩ : ∃ p, plV l (atG0 ps xs) r.name = p := ⟨_, rfl⟩
      obtain ⟨⟨a1, b1⟩, hq1⟩ : ∃ p, plV l (atG1 ps xs) r.name = p := ⟨_, rfl⟩
      rw [valP_eq hq0 hq1] at he
      subst he
      have hT57 : Two (gm + 1) gm w5 w7 := (Two.of hb56).trans hT67
      have ho7 := two_own hT57 HO5.out (by omega) (by omega)
      obtain ⟨v', W2, hrun, ho8, hbW⟩ := snocf_run w4.heap.size _ k _ a0 b0 a1 b1 w7 ho7 (Nat.le_trans hs45 hT57.size) (by omega)
      have HRUN := Lib.hid hrun
      have HO8 := Lib.hid (show W2.ownsRow w4.heap.size 36 4 v' (k + 1) (pvCells l (atG0 ps xs) (atG1 ps xs) (l.take (k + 1))) by rw [pvCells_snoc HGR.out, hq0, hq1]; exact ho8)
      have HT8 := Lib.hid (two_then (HT5.out.trans hT57) hbW (Nat.le_refl _))
      have HP8 := Lib.hid (hP7.below hbW (by omega))
      have HG8 := Lib.hid hG7
      have HK8 := Lib.hid (fun x hx => hKK x (HK5.out x hx))
      have HR8 := Lib.hid (show ∀ (q : Nat) (r : Rk), q < k + 1 → l[q]? = some r → K' r.name = true from fun q r' hq hr => by
        rcases Nat.lt_succ_iff_lt_or_eq.1 hq with h | h
        · exact hKK _ (HR5.out q r' h hr)
        · subst h
          obtain rfl := Option.some.inj (HGR.out.symm.trans hr)
          exact hKs)
      have hc8 : cnt' ≤ m + (k + 1) * 1000000 := by have := HBL.out r.name; omega
      clear hrun ho8 hbW hP6 hP7 hG7 hKK hKs hT67 hT57 hb56 ho7 hq0 hq1 hW c0 c1 c2 c3 c4 hcc
      go_wp2_with (first | (at_builtin; refine wpList_app _ W2 v' rfl _ _ _ rfl _ _ rfl rfl HRUN.out ?_))
      go_roundw
      case rel => exact ⟨k + 1, K', cnt', lg', by omega, by go_num, HT8.out, HP8.out, HG8.out, HK8.out, HR8.out, hc8, HO8.out⟩
      case measure => simp [intOf]; omega
end Go.Proofs.Ytfigbdhfmlhjdaa

end
