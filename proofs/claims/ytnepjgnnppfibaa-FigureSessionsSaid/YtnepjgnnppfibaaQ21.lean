import Derived.Test.YtnepjgnnppfibaaQ20

section
/- Sessions that do not dig: the program's check. -/
namespace Go.Proofs.Ytnepjgnnppfibaa
open Go Go.RowKit

theorem rfind_at {n k : Nat} {p : Nat → Bool} (hk : k < n) (h : ∀ j, j < k → p j = false) (hp : p k = true) : (List.range n).find? p = some k := by
  rw [List.find?_eq_some_iff_append]
  refine ⟨hp, List.range k, (List.range n).drop (k + 1), ?_, fun a ha => ?_⟩
  · have e : (List.range n).take k = List.range k := by rw [List.take_range]; congr 1; omega
    conv => lhs; rw [← List.take_append_drop k (List.range n), e]
    congr 1
    rw [List.drop_eq_getElem_cons (by simpa using hk)]
    simp
  · have := h a (List.mem_range.1 ha)
    simp [this]
theorem rfind_none {n : Nat} {p : Nat → Bool} (h : ∀ j, j < n → p j = false) : (List.range n).find? p = none := by
  rw [List.find?_eq_none]
  intro a ha
  rw [h a (List.mem_range.1 ha)]
  simp
/-- A session that is refused. -/
def sessBad (n : Nat) (h v : List Int) (ws : List (List Int)) (k : Nat) : Bool := decide (wearErr n (ws.getD k []) ≠ 0) || digB n (tabL n (leftF h ws (k + 1))) v
/-- The number and the error of sessions. -/
def sessF (h v : List Int) (ws : List (List Int)) : Int × Int :=
  if twoErr h v ≠ 0 then (0, twoErr h v) else if 100 < ws.length then (0, 8) else if digB h.length h v then (-1, 26) else
    match (List.range ws.length).find? (sessBad h.length h v ws) with
    | some k => ((k : Int), if wearErr h.length (ws.getD k []) ≠ 0 then wearErr h.length (ws.getD k []) else 26)
    | none => (0, 0)
section
variable {h v : List Int} {ws : List (List Int)} {n k : Nat}
theorem sess_two {E : Int} (hE : twoErr h v = E) (h0 : E ≠ 0) : sessF h v ws = (0, E) := by unfold sessF; rw [hE, if_pos h0]
theorem sess_many (hE : twoErr h v = 0) (hl : 100 < ws.length) : sessF h v ws = (0, 8) := by unfold sessF; rw [hE, if_neg (by simp), if_pos hl]
theorem sess_dug (hE : twoErr h v = 0) (hl : ¬ 100 < ws.length) (hn : h.length = n) (hd : digB n h v = true) : sessF h v ws = (-1, 26) := by unfold sessF; rw [hE, if_neg (by simp), if_neg hl, hn, if_pos hd]
theorem sess_at (hE : twoErr h v = 0) (hl : ¬ 100 < ws.length) (hn : h.length = n) (hd : digB n h v = false) (hk : k < ws.length) (hb : ∀ q, q < k → sessBad n h v ws q = false) (hs : sessBad n h v ws k = true) : sessF h v ws = ((k : Int), if wearErr n (ws.getD k []) ≠ 0 then wearErr n (ws.getD k []) else 26) := by
  unfold sessF
  rw [hE, if_neg (by simp), if_neg hl, hn, if_neg (by rw [hd]; simp), rfind_at hk hb hs]
theorem sess_none (hE : twoErr h v = 0) (hl : ¬ 100 < ws.length) (hn : h.length = n) (hd : digB n h v = false) (hb : ∀ q, q < ws.length → sessBad n h v ws q = false) : sessF h v ws = (0, 0) := by
  unfold sessF
  rw [hE, if_neg (by simp), if_neg hl, hn, if_neg (by rw [hd]; simp), rfind_none hb]
theorem bad_wear {q : Nat} (hb : sessBad n h v ws q = false) : wearErr n (ws.getD q []) = 0 := by
  unfold sessBad at hb
  rw [Bool.or_eq_false_iff] at hb
  simpa using hb.1
end

set_option maxRecDepth 100000 in
set_option maxHeartbeats 4000000 in
theorem checksessions_is (A : Option Addr) (n c : Nat) (V : Option Addr) (nv cv : Nat) (B : Option Addr) (m d : Nat) (h v : List Int) (t : List TRow) (R : Int × Int) (hR : sessF h v (t.map (·.xs)) = R) (w : World) (hx : Reads w w.heap.size 1 A n (h.map (.int .i64))) (hv : Reads w w.heap.size 1 V nv (v.map (.int .i64))) (hy : ReadsT w w.heap.size B m t) (hn : n ≤ 1000) (hnv : nv ≤ 1000) (hm : m ≤ 1000) :
    Calls Try.prog 65 #[.slice A n c, .slice V nv cv, .slice B m d] w fun e w' => e = .returned (.tuple #[.int .i64 R.1, .int .i64 R.2]) ∧ Below w.heap.size w w' := by
  have hl : h.length = n := by have := hx.1; simpa using this
  have hlv : v.length = nv := by have := hv.1; simpa using this
  have htl : t.length = m := hy.len
  have HX := Lib.hid hx
  have HV := Lib.hid hv
  have HY := Lib.hid hy
  have HL := Lib.hid hl
  have HTL := Lib.hid htl
  have HR := Lib.hid hR
  obtain ⟨E1, hE1⟩ : ∃ E, twoErr h v = E := ⟨_, rfl⟩
  have HE1 := Lib.hid hE1
  by_cases h0 : E1 = 0
  rotate_left
  · have HRR := Lib.hid (hR.symm.trans (sess_two hE1 h0))
    have e1 : (E1 != 0) = true := by simpa using h0
    clear h0 hE1 hl hlv htl hx hv hy hR
    go_enter Try.func65, Try.ntmps65
    go_wp2_with fail
    refine (both_is A n c V nv cv h v E1 HE1.out _ HX.out (by omega) HV.out (by omega)).mono ?_
    rintro e w1 ⟨rfl, hb⟩
    have HB1 := Lib.hid (show Below w.heap.size w w1 from step_below hb (by repeat' (first | exact Below.refl _ _ | exact HB0.out | refine below_drewN ?_ _ | refine Below.drew ?_ | refine Below.alloc ?_ (by first | omega | (simp; done) | (simp; omega) | (simp [World.setCell]; omega)) _ | refine Below.setCell ?_ (by first | omega | (simp; done) | (simp; omega)) _ | assumption)))
    have hz1 := hb.size
    try simp only [World.size_alloc, World.drewN, World.drew] at hz1
    clear hb
    go_wp2
    go_ret2
    exact ⟨by rw [HRR.out]; rfl, HB1.out⟩
  subst h0
  have hwl : (t.map (·.xs)).length = m := by rw [List.length_map, htl]
  by_cases h100 : 100 < m
  · have HRR := Lib.hid (hR.symm.trans (sess_many hE1 (by rw [hwl]; exact h100)))
    have e1 : decide ((100 : Int) < (m : Int)) = true := by simp; omega
    clear h100 hE1 hl hlv htl hx hv hy hR hwl
    go_enter Try.func65, Try.ntmps65
    go_wp2_with fail
    refine (both_is A n c V nv cv h v 0 HE1.out _ HX.out (by omega) HV.out (by omega)).mono ?_
    rintro e w1 ⟨rfl, hb⟩
    have HB1 := Lib.hid (show Below w.heap.size w w1 from step_below hb (by repeat' (first | exact Below.refl _ _ | exact HB0.out | refine below_drewN ?_ _ | refine Below.drew ?_ | refine Below.alloc ?_ (by first | omega | (simp; done) | (simp; omega) | (simp [World.setCell]; omega)) _ | refine Below.setCell ?_ (by first | omega | (simp; done) | (simp; omega)) _ | assumption)))
    have hz1 := hb.size
    try simp only [World.size_alloc, World.drewN, World.drew] at hz1
    clear hb
    go_wp2
    go_ret2
    exact ⟨by rw [HRR.out]; rfl, HB1.out⟩
  have e1 : decide ((100 : Int) < (m : Int)) = false := by simp; omega
  have HM := Lib.hid (show ¬ 100 < (t.map (·.xs)).length by rw [hwl]; exact h100)
  have HWL := Lib.hid hwl
  obtain ⟨hE0, hvh, -⟩ := two_ok hE1
  obtain ⟨n1, n2, hh⟩ := heights_ok hE0
  rw [hl] at n1 n2
  have hnn : nv = n := by omega
  subst hnn
  have HHH := Lib.hid hh
  obtain ⟨t0, ht0⟩ : ∃ t, digB nv h v = t := ⟨_, rfl⟩
  have HT0 := Lib.hid ht0
  cases t0
  rotate_left
  · have HRR := Lib.hid (hR.symm.trans (sess_dug hE1 HM.out hl ht0))
    clear h100 hE1 hl hlv htl hx hv hy hR hwl hE0 hvh hh ht0
    go_enter Try.func65, Try.ntmps65
    go_wp2_with fail
    refine (both_is A nv c V nv cv h v 0 HE1.out _ HX.out (by omega) HV.out (by omega)).mono ?_
    rintro e w1 ⟨rfl, hb⟩
    have HB1 := Lib.hid (show Below w.heap.size w w1 from step_below hb (by repeat' (first | exact Below.refl _ _ | exact HB0.out | refine below_drewN ?_ _ | refine Below.drew ?_ | refine Below.alloc ?_ (by first | omega | (simp; done) | (simp; omega) | (simp [World.setCell]; omega)) _ | refine Below.setCell ?_ (by first | omega | (simp; done) | (simp; omega)) _ | assumption)))
    have hz1 := hb.size
    try simp only [World.size_alloc, World.drewN, World.drew] at hz1
    clear hb
    go_wp2_with fail
    refine (digs_is A nv c V cv h v true HT0.out w.heap.size _ (HX.out.below HB1.out) (HV.out.below HB1.out) (by omega)).mono ?_
    rintro e w2 ⟨rfl, hb⟩
    have HB2 := Lib.hid (show Below w.heap.size w w2 from step_below hb (by repeat' (first | exact Below.refl _ _ | exact HB1.out | refine below_drewN ?_ _ | refine Below.drew ?_ | refine Below.alloc ?_ (by first | omega | (simp; done) | (simp; omega) | (simp [World.setCell]; omega)) _ | refine Below.setCell ?_ (by first | omega | (simp; done) | (simp; omega)) _ | assumption)))
    have hz2 := hb.size
    try simp only [World.size_alloc, World.drewN, World.drew] at hz2
    clear hb
    go_wp2
    go_ret2
    exact ⟨by rw [HRR.out]; rfl, HB2.out⟩
  clear hE1 hl hlv htl hx hv hy hR hwl hE0 hvh hh ht0
  go_enter Try.func65, Try.ntmps65
  go_wp2_with fail
  refine (both_is A nv c V nv cv h v 0 HE1.out _ HX.out (by omega) HV.out (by omega)).mono ?_
  rintro e w1 ⟨rfl, hb⟩
  have HB1 := Lib.hid (show Below w.heap.size w w1 from step_below hb (by repeat' (first | exact Below.refl _ _ | exact HB0.out | refine below_drewN ?_ _ | refine Below.drew ?_ | refine Below.alloc ?_ (by first | omega | (simp; done) | (simp; omega) | (simp [World.setCell]; omega)) _ | refine Below.setCell ?_ (by first | omega | (simp; done) | (simp; omega)) _ | assumption)))
  have hz1 := hb.size
  try simp only [World.size_alloc, World.drewN, World.drew] at hz1
  clear hb
  go_wp2_with fail
  refine (digs_is A nv c V cv h v false HT0.out w.heap.size _ (HX.out.below HB1.out) (HV.out.below HB1.out) (by omega)).mono ?_
  rintro e w2 ⟨rfl, hb⟩
  have HB2 := Lib.hid (show Below w.heap.size w w2 from step_below hb (by repeat' (first | exact Below.refl _ _ | exact HB1.out | refine below_drewN ?_ _ | refine Below.drew ?_ | refine Below.alloc ?_ (by first | omega | (simp; done) | (simp; omega) | (simp [World.setCell]; omega)) _ | refine Below.setCell ?_ (by first | omega | (simp; done) | (simp; omega)) _ | assumption)))
  have hz2 := hb.size
  try simp only [World.size_alloc, World.drewN, World.drew] at hz2
  clear hb
  go_wp2_with fail
  refine (clone6_any A nv c w2.heap.size h _ ((HX.out.below HB2.out).more HB2.out.size) (Nat.le_refl _) (by omega)).mono ?_
  rintro e w3 ⟨A1, c1, rfl, hb, hr, ho⟩
  have HB3 := Lib.hid (show Below w.heap.size w w3 from step_below hb (by repeat' (first | exact Below.refl _ _ | exact HB2.out | refine below_drewN ?_ _ | refine Below.drew ?_ | refine Below.alloc ?_ (by first | omega | (simp; done) | (simp; omega) | (simp [World.setCell]; omega)) _ | refine Below.setCell ?_ (by first | omega | (simp; done) | (simp; omega)) _ | assumption)))
  have hz3 := hb.size
  try simp only [World.size_alloc, World.drewN, World.drew] at hz3
  clear hb
  clear hr
  obtain ⟨g, ext, rfl, hg, hnc, hblk⟩ := own_block6 ho (by omega)
  have hwg : w.heap.size ≤ g := Nat.le_trans HB2.out.size hg
  have hgl : g < w3.heap.size := hblk.lt
  have HBL := Lib.hid (show BlkL w3 g nv (leftF h (t.map (·.xs)) 0) ext from by
    unfold BlkL
    rw [show tabL nv (leftF h (t.map (·.xs)) 0) = h from by
      rw [tabL_congr (g := fun i => h.getD i 0) (fun i _ => leftF_zero _ _ _)]; exact (tabL_of HL.out).symm]
    exact hblk)
  clear ho hblk
  go_wp2_with fail
  go_loopw [31] (fun x wr => ∃ k : Nat, k ≤ m ∧ x = .int .i64 k ∧ Below g w3 wr ∧ BlkL wr g nv (leftF h (t.map (·.xs)) k) ext ∧ ∀ q, q < k → sessBad nv h v (t.map (·.xs)) q = false) (fun x _ => m - (intOf x).toNat)
  case atStart => exact ⟨0, by omega, rfl, Below.refl _ _, HBL.out, fun q hq => absurd hq (by omega)⟩
  case round =>
    obtain ⟨k, hk, rfl, hb, hbl, hup⟩ := hrel
    obtain ⟨w4, hnm⟩ : ∃ z : World, z = wr := ⟨_, rfl⟩
    subst hnm
    have HBR := Lib.hid hb
    have HBLK := Lib.hid hbl
    have HUP := Lib.hid hup
    have hb4 := HB3.out.trans (hb.mono hwg)
    clear hb hbl hup
    have HB4 := Lib.hid hb4
    clear hb4
    by_cases hlt : k < m
    rotate_left
    · obtain rfl : m = k := by omega
      have HRR := Lib.hid (HR.out.symm.trans (sess_none HE1.out HM.out HL.out HT0.out (by rw [HWL.out]; exact HUP.out)))
      go_wp2
      go_ret2
      exact ⟨by rw [HRR.out]; rfl, HB4.out⟩
    have hkk : (k : Int) < (m : Int) := by omega
    obtain ⟨bt, ot, r, rfl, hbt, hrt, cr, ⟨hrc1, hrc2⟩, hrl, hrr⟩ := (HY.out.below HB4.out).at_ hlt
    have hwk : (t.map (·.xs)).getD k [] = r.xs := getD_of (by rw [List.getElem?_map, hrt]; rfl)
    have HWK := Lib.hid hwk
    have HRR0 := Lib.hid hrr
    obtain ⟨E2, hE2⟩ : ∃ E, wearErr nv r.xs = E := ⟨_, rfl⟩
    have HEW := Lib.hid hE2
    obtain ⟨RA, RN, RC, xs⟩ := r
    simp only at cr hrc1 hrc2 hrl hE2
    clear hwk hrt hrr hE2
    have HA4 := Lib.hid (show Below w4.heap.size w4 w4 from Below.refl _ _)
    go_wp2_with fail
    refine (wear_is RA RN RC xs nv E2 HEW.out _ (HRR0.out.more HB4.out.size) (by omega)).mono ?_
    rintro e w5 ⟨rfl, hb⟩
    have HB5 := Lib.hid (show Below w.heap.size w w5 from step_below hb (by repeat' (first | exact Below.refl _ _ | exact HB4.out | refine below_drewN ?_ _ | refine Below.drew ?_ | refine Below.alloc ?_ (by first | omega | (simp; done) | (simp; omega) | (simp [World.setCell]; omega)) _ | refine Below.setCell ?_ (by first | omega | (simp; done) | (simp; omega)) _ | assumption)))
    have HA5 := Lib.hid (step_below hb HA4.out)
    clear HA4
    have hz5 := hb.size
    try simp only [World.size_alloc, World.drewN, World.drew] at hz5
    clear hb
    have hb45 : Below w4.heap.size w4 w5 := HA5.out
    by_cases h0 : E2 = 0
    rotate_left
    · have HRR := Lib.hid (HR.out.symm.trans (sess_at (k := k) HE1.out HM.out HL.out HT0.out (by rw [HWL.out]; exact hlt) HUP.out (by unfold sessBad; rw [HWK.out]; show (decide (wearErr nv xs ≠ 0) || _) = true; rw [HEW.out]; simp [h0])))
      have HV2 := Lib.hid (show (if wearErr nv ((t.map (·.xs)).getD k []) ≠ 0 then wearErr nv ((t.map (·.xs)).getD k []) else 26) = E2 by
        rw [HWK.out]; show (if wearErr nv xs ≠ 0 then wearErr nv xs else 26) = E2; rw [HEW.out, if_pos h0])
      have e2 : (E2 != 0) = true := by simpa using h0
      clear h0
      go_wp2
      go_ret2
      exact ⟨by rw [HRR.out, HV2.out]; rfl, HB5.out⟩
    subst h0
    obtain ⟨hxl, hxs⟩ := wear_ok HEW.out
    obtain rfl : RN = nv := hrl.symm.trans hxl
    have HXS := Lib.hid hxs
    have hgl4 : g < w4.heap.size := Blk.lt HBLK.out
    have HBL5 := Lib.hid (show BlkL w5 g RN (leftF h (t.map (·.xs)) k) ext from Blk.below HBLK.out hb45 hgl4)
    have HBR5 := Lib.hid (HBR.out.trans (hb45.mono (by omega)))
    have hxr := (HRR0.out.below (Below.mono hb45 (show w.heap.size ≤ w4.heap.size by omega)))
    have HXR := Lib.hid hxr
    clear hb45 hxs hxr hxl hrl
    go_wp2_with fail
    go_loopw [46] (fun x wr => ∃ j : Nat, j ≤ RN ∧ x = .int .i64 j ∧ Below g w5 wr ∧ BlkL wr g RN (fun i => if i < j then leftF h (t.map (·.xs)) (k + 1) i else leftF h (t.map (·.xs)) k i) ext) (fun x _ => RN - (intOf x).toNat)
    case atStart => exact ⟨0, by omega, rfl, Below.refl _ _, HBL5.out.congr fun i hi => by rw [if_neg (by omega)]⟩
    case round =>
      obtain ⟨j, hj, rfl, hb, hbl⟩ := hrel
      obtain ⟨w6, hnm⟩ : ∃ z : World, z = wr := ⟨_, rfl⟩
      subst hnm
      have HBJ := Lib.hid hb
      have HBLJ := Lib.hid hbl
      by_cases hjt : j < RN
      · have hjj : (j : Int) < (RN : Int) := by omega
        obtain ⟨xb, xo, x, rfl, hxb, gx, cx⟩ := (HXR.out.below (hb.mono hwg)).int_ hjt
        have hc := hbl.cell hjt
        have hf := Blk.frozen hbl j
        simp only [Nat.lt_irrefl, if_false] at hc
        obtain ⟨y, hy⟩ : ∃ y, leftF h (t.map (·.xs)) k j = y := ⟨_, rfl⟩
        rw [hy] at hc
        have hyin := leftF_in (n := RN) (i := j) HHH.out (fun q hq => bad_wear (HUP.out q hq)) (show k ≤ 100 by omega)
        rw [hy] at hyin
        have hxin := HXS.out x (List.mem_of_getElem? gx)
        have e3 := IntWalk.i64_in (y - x) ⟨by omega, by omega⟩
        have hgl5 : g < w6.heap.size := Blk.lt hbl
        have HSET := Lib.hid ((hbl.set hjt (y - x)).congr (f' := fun i => if i < j + 1 then leftF h (t.map (·.xs)) (k + 1) i else leftF h (t.map (·.xs)) k i) fun i hi => by
          by_cases e : i = j
          · subst e
            rw [if_pos rfl, if_pos (by omega), leftF_succ, hy, HWK.out]
            show y - x = y - xs.getD i 0
            rw [getD_of gx]
          · rw [if_neg e]
            by_cases e2 : i < j
            · rw [if_pos e2, if_pos (by omega)]
            · rw [if_neg e2, if_neg (by omega)])
        clear hb hbl gx hy hyin hxin
        go_wp2
        go_roundw
        case rel => exact ⟨j + 1, by omega, by go_num, HBJ.out.setCell (p := ⟨g, j, none⟩) (Nat.le_refl _) _, HSET.out⟩
        case measure => simp [intOf]; omega
      · obtain rfl : RN = j := by omega
        have hb6 := HB5.out.trans (hb.mono hwg)
        have HBN := Lib.hid (hbl.congr (f' := leftF h (t.map (·.xs)) (k + 1)) fun i hi => by rw [if_pos hi])
        have hgl6 : g < w6.heap.size := Blk.lt hbl
        clear hb hbl
        have HB6 := Lib.hid hb6
        clear hb6
        obtain ⟨t2, ht2⟩ : ∃ t2, digB RN (tabL RN (leftF h (t.map (·.xs)) (k + 1))) v = t2 := ⟨_, rfl⟩
        have HT2 := Lib.hid ht2
        clear ht2
        have HA6 := Lib.hid (show Below w6.heap.size w6 w6 from Below.refl _ _)
        go_wp2_with fail
        refine (digs_is (some ⟨g, 0, none⟩) RN c1 V cv (tabL RN (leftF h (t.map (·.xs)) (k + 1))) v t2 HT2.out w6.heap.size _ HBN.out.reads ((HV.out.below HB6.out).more HB6.out.size) (by omega)).mono ?_
        rintro e w7 ⟨rfl, hb⟩
        have HB7 := Lib.hid (show Below w.heap.size w w7 from step_below hb (by repeat' (first | exact Below.refl _ _ | exact HB6.out | refine below_drewN ?_ _ | refine Below.drew ?_ | refine Below.alloc ?_ (by first | omega | (simp; done) | (simp; omega) | (simp [World.setCell]; omega)) _ | refine Below.setCell ?_ (by first | omega | (simp; done) | (simp; omega)) _ | assumption)))
        have HA7 := Lib.hid (step_below hb HA6.out)
        clear HA6
        have hz7 := hb.size
        try simp only [World.size_alloc, World.drewN, World.drew] at hz7
        clear hb
        have hb67 : Below w6.heap.size w6 w7 := HA7.out
        have HSB := Lib.hid (show sessBad RN h v (t.map (·.xs)) k = t2 by
          unfold sessBad; rw [HWK.out]; show (decide (wearErr RN xs ≠ 0) || _) = t2; rw [HEW.out, HT2.out]; simp)
        cases t2
        · have HBZ := Lib.hid ((HBR5.out.trans HBJ.out).trans (hb67.mono (by omega)))
          have HBM := Lib.hid (show BlkL w7 g RN (leftF h (t.map (·.xs)) (k + 1)) ext from Blk.below HBN.out hb67 hgl6)
          clear hb67
          go_wp2
          go_roundw
          case rel => exact ⟨k + 1, by omega, by go_num, HBZ.out, HBM.out, fun q hq => by
            by_cases e : q = k
            · rw [e]; exact HSB.out
            · exact HUP.out q (by omega)⟩
          case measure => simp [intOf]; omega
        · have HRR := Lib.hid (HR.out.symm.trans (sess_at (k := k) HE1.out HM.out HL.out HT0.out (by rw [HWL.out]; exact hlt) HUP.out HSB.out))
          have HV2 := Lib.hid (show (if wearErr RN ((t.map (·.xs)).getD k []) ≠ 0 then wearErr RN ((t.map (·.xs)).getD k []) else 26) = 26 by
            rw [HWK.out]; show (if wearErr RN xs ≠ 0 then wearErr RN xs else 26) = 26; rw [HEW.out, if_neg (by simp)])
          clear hb67
          go_wp2
          go_ret2
          exact ⟨by rw [HRR.out, HV2.out]; rfl, HB7.out⟩
end Go.Proofs.Ytnepjgnnppfibaa

end

section
/- Sessions: the reference's side. -/
namespace Go.Proofs.Ytnepjgnnppfibaa
open Go Go.RowKit

set_option maxRecDepth 100000 in
set_option maxHeartbeats 4000000 in
theorem rless_is (A : Option Addr) (n c : Nat) (B : Option Addr) (d : Nat) (f : Nat → Int) (l : List Int) (tm : Int) (ht : 0 ≤ tm ∧ tm ≤ 100) (hn1 : 1 ≤ n) (hn : n ≤ 1000) (hf : ∀ i, i < n → -100000000 ≤ f i ∧ f i ≤ 100000000) (hl : ∀ z ∈ l, 0 ≤ z ∧ z ≤ 100000) (w : World) (hx : Reads w w.heap.size 1 A n ((tabL n f).map (.int .i64))) (hy : Reads w w.heap.size 1 B n (l.map (.int .i64))) :
    Calls Try.prog 103 #[.slice A n c, .slice B n d, .int .i64 tm] w fun e w' => ∃ A' c', e = .returned (.slice A' n c') ∧ Below w.heap.size w w' ∧ Reads w' w'.heap.size 1 A' n ((tabL n fun i => f i - tm * l.getD i 0).map (.int .i64)) := by
  have HX := Lib.hid hx
  have HY := Lib.hid hy
  have HF := Lib.hid hf
  have HL := Lib.hid hl
  clear hx hy hf hl
  go_enter Try.func103, Try.ntmps103
  go_wp2_with fail
  refine (copyints_any A n c w.heap.size (tabL n f) _ HX.out (Nat.le_refl _) (by omega)).mono ?_
  rintro e w1 ⟨A1, c1, rfl, hb, hr, ho⟩
  have HB1 := Lib.hid (show Below w.heap.size w w1 from step_below hb (by repeat' (first | exact Below.refl _ _ | exact HB0.out | refine below_drewN ?_ _ | refine Below.drew ?_ | refine Below.alloc ?_ (by first | omega | (simp; done) | (simp; omega) | (simp [World.setCell]; omega)) _ | refine Below.setCell ?_ (by first | omega | (simp; done) | (simp; omega)) _ | assumption)))
  have hz1 := hb.size
  try simp only [World.size_alloc, World.drewN, World.drew] at hz1
  clear hb
  clear hr
  obtain ⟨g, ext, rfl, hg, hnc, hblk⟩ := own_block6 ho (by omega)
  have hgl : g < w1.heap.size := hblk.lt
  have HBL := Lib.hid (show BlkL w1 g n f ext from hblk)
  clear ho hblk
  go_wp2_with fail
  go_loopw [8] (fun v wr => ∃ j : Nat, j ≤ n ∧ v = .int .i64 j ∧ Below g w1 wr ∧ BlkL wr g n (fun i => if i < j then f i - tm * l.getD i 0 else f i) ext) (fun v _ => n - (intOf v).toNat)
  case atStart => exact ⟨0, by omega, rfl, Below.refl _ _, HBL.out.congr fun i hi => by rw [if_neg (by omega)]⟩
  case round =>
    obtain ⟨j, hj, rfl, hb, hbl⟩ := hrel
    obtain ⟨w2, hnm⟩ : ∃ z : World, z = wr := ⟨_, rfl⟩
    subst hnm
    have HBJ := Lib.hid hb
    have HBLJ := Lib.hid hbl
    by_cases hjt : j < n
    · have hjj : (j : Int) < (n : Int) := by omega
      obtain ⟨xb, xo, x, rfl, hxb, gx, cx⟩ := ((HY.out.below HB1.out).below (hb.mono hg)).int_ hjt
      have hc := hbl.cell hjt
      have hfz := Blk.frozen hbl j
      simp only [Nat.lt_irrefl, if_false] at hc
      have hyin := HF.out j hjt
      obtain ⟨y, hy⟩ : ∃ y, f j = y := ⟨_, rfl⟩
      rw [hy] at hc hyin
      have hxin := HL.out x (List.mem_of_getElem? gx)
      have p1 := Int.mul_nonneg ht.1 hxin.1
      have p2 := Int.mul_le_mul ht.2 hxin.2 hxin.1 (by omega)
      have e2 := IntWalk.i64_in (tm * x) ⟨by omega, by omega⟩
      have e3 := IntWalk.i64_in (y - tm * x) ⟨by omega, by omega⟩
      have hgl5 : g < w2.heap.size := Blk.lt hbl
      have HSET := Lib.hid fun (q : Nat) => ((show BlkL (w2.drewN q) g n _ ext from Blk.drewN hbl q).set hjt (y - tm * x)).congr (f' := fun i => if i < j + 1 then f i - tm * l.getD i 0 else f i) fun i hi => by
        by_cases e : i = j
        · subst e
          rw [if_pos rfl, if_pos (by omega), hy, getD_of gx]
        · rw [if_neg e]
          by_cases e2 : i < j
          · rw [if_pos e2, if_pos (by omega)]
          · rw [if_neg e2, if_neg (by omega)]
      clear hb hbl gx hy hyin hxin p1 p2
      go_wp2
      obtain ⟨W0, hW0⟩ : ∃ W0, W0 = w2.drewN 1 := ⟨_, rfl⟩
      have m0 : W0.cell? ⟨xb, xo + j, none⟩ = some (.int .i64 x) := by rw [hW0]; exact cx
      have mo : W0.cell? ⟨g, j, none⟩ = some (.int .i64 y) := by rw [hW0]; exact hc
      have mf : W0.frozen? ⟨g, j, none⟩ = false := by rw [hW0]; exact hfz
      refine Fx.region (fun f w' => (f 14 = false → w' = W0) ∧ (f 14 = true → w' = W0.setCell ⟨g, j, none⟩ (.int .i64 (y - tm * x)))) (by kernel_rfl) (by kernel_rfl) ?_ ?_
      · intro f hf0
        exact ⟨fun _ => hW0.symm, fun h => by rw [hf0 14] at h; cases h⟩
      have HW0 := Lib.hid hW0
      clear hW0
      repeat (first
        | (refine Fx.skip_ (by rfl) (fun f w h => h) ?_; simp only [Act.put, List.setIfInBounds_toArray, List.set_cons_zero, List.set_cons_succ])
        | (refine Fx.val_ ?_ (by rfl) ?_ (fun f w h => h) ?_
           rotate_left
           · intro f w' hD hk
             obtain ⟨jw, jr⟩ := id hD
             have jw := jw (hk.2.1 14 (by kernel_rfl))
             have q0 : w'.cell? ⟨xb, xo + j, none⟩ = some (.int .i64 x) := by rw [jw]; exact m0
             have qo : w'.cell? ⟨g, j, none⟩ = some (.int .i64 y) := by rw [jw]; exact mo
             clear hk hD jw jr
             go_simp
             try rfl
           simp only [Act.put, List.setIfInBounds_toArray, List.set_cons_zero, List.set_cons_succ]))
      refine Fx.store_ (fun w' => w'.setCell ⟨g, j, none⟩ (.int .i64 (y - tm * x))) (by rfl) ?_ ?_ ?_
      · intro f w' hD hk
        obtain ⟨jw, jr⟩ := id hD
        have jw := jw hk.1
        have q0 : w'.cell? ⟨g, j, none⟩ = some (.int .i64 y) := by rw [jw]; exact mo
        have q1 : w'.frozen? ⟨g, j, none⟩ = false := by rw [jw]; exact mf
        clear hk hD jw jr
        go_simp
      · intro f w' hD hk
        obtain ⟨jw, jr⟩ := id hD
        have jw := jw hk.1
        exact ⟨fun h => by simp [Fx.add] at h, fun _ => by rw [jw]⟩
      simp only [Act.put, List.setIfInBounds_toArray, List.set_cons_zero, List.set_cons_succ]
      refine Fx.nil_ ?_
      intro f w3 hall hD
      have hwn := hD.2 (hall 14 (by simp))
      rw [HW0.out] at hwn
      clear hall hD HW0 mo mf m0
      have HW := Lib.hid hwn
      clear hwn
      go_wp2
      go_roundw
      case rel => exact ⟨j + 1, by omega, by go_num, by rw [HW.out]; exact (below_drewN HBJ.out 1).setCell (p := ⟨g, j, none⟩) (Nat.le_refl _) _, by rw [HW.out]; exact HSET.out 1⟩
      case measure => simp [intOf]; omega
    · obtain rfl : n = j := by omega
      have HR := Lib.hid (hbl.congr (f' := fun i => f i - tm * l.getD i 0) fun i hi => by rw [if_pos hi]).reads
      have HBB := Lib.hid (HB1.out.trans (hb.mono hg))
      clear hb hbl
      go_wp2
      go_ret
      exact ⟨_, _, rfl, HBB.out, HR.out⟩

/-- One session more. -/
theorem less_left {h : List Int} {ws : List (List Int)} {n k : Nat} {l : List Int} (hk : ws.getD k [] = l) : tabL n (fun i => leftF h ws k i - 1 * l.getD i 0) = tabL n (leftF h ws (k + 1)) :=
  tabL_congr fun i _ => by rw [leftF_succ, hk]; omega

set_option maxRecDepth 100000 in
set_option maxHeartbeats 4000000 in
theorem rchecksessions_is (A : Option Addr) (n c : Nat) (V : Option Addr) (nv cv : Nat) (B : Option Addr) (m d : Nat) (h v : List Int) (t : List TRow) (R : Int × Int) (hR : sessF h v (t.map (·.xs)) = R) (w : World) (hx : Reads w w.heap.size 1 A n (h.map (.int .i64))) (hv : Reads w w.heap.size 1 V nv (v.map (.int .i64))) (hy : ReadsT w w.heap.size B m t) (hn : n ≤ 1000) (hnv : nv ≤ 1000) (hm : m ≤ 1000) :
    Calls Try.prog 66 #[.slice A n c, .slice V nv cv, .slice B m d] w fun e w' => e = .returned (.tuple #[.int .i64 R.1, .int .i64 R.2]) ∧ Below w.heap.size w w' := by
  have hl : h.length = n := by have := hx.1; simpa using this
  have hlv : v.length = nv := by have := hv.1; simpa using this
  have htl : t.length = m := hy.len
  have HX := Lib.hid hx
  have HV := Lib.hid hv
  have HY := Lib.hid hy
  have HL := Lib.hid hl
  have HTL := Lib.hid htl
  have HR := Lib.hid hR
  obtain ⟨E1, hE1⟩ : ∃ E, twoErr h v = E := ⟨_, rfl⟩
  have HE1 := Lib.hid hE1
  by_cases h0 : E1 = 0
  rotate_left
  · have HRR := Lib.hid (hR.symm.trans (sess_two hE1 h0))
    have e1 : (E1 != 0) = true := by simpa using h0
    clear h0 hE1 hl hlv htl hx hv hy hR
    go_enter Try.func66, Try.ntmps66
    go_wp2_with fail
    refine (rtwo_is A n c V nv cv h v E1 HE1.out _ HX.out (by omega) HV.out (by omega)).mono ?_
    rintro e w1 ⟨rfl, hb⟩
    have HB1 := Lib.hid (show Below w.heap.size w w1 from step_below hb (by repeat' (first | exact Below.refl _ _ | exact HB0.out | refine below_drewN ?_ _ | refine Below.drew ?_ | refine Below.alloc ?_ (by first | omega | (simp; done) | (simp; omega) | (simp [World.setCell]; omega)) _ | refine Below.setCell ?_ (by first | omega | (simp; done) | (simp; omega)) _ | assumption)))
    have hz1 := hb.size
    try simp only [World.size_alloc, World.drewN, World.drew] at hz1
    clear hb
    go_wp2
    go_ret2
    exact ⟨by rw [HRR.out]; rfl, HB1.out⟩
  subst h0
  have hwl : (t.map (·.xs)).length = m := by rw [List.length_map, htl]
  by_cases h100 : 100 < m
  · have HRR := Lib.hid (hR.symm.trans (sess_many hE1 (by rw [hwl]; exact h100)))
    have e1 : decide ((100 : Int) < (m : Int)) = true := by simp; omega
    clear h100 hE1 hl hlv htl hx hv hy hR hwl
    go_enter Try.func66, Try.ntmps66
    go_wp2_with fail
    refine (rtwo_is A n c V nv cv h v 0 HE1.out _ HX.out (by omega) HV.out (by omega)).mono ?_
    rintro e w1 ⟨rfl, hb⟩
    have HB1 := Lib.hid (show Below w.heap.size w w1 from step_below hb (by repeat' (first | exact Below.refl _ _ | exact HB0.out | refine below_drewN ?_ _ | refine Below.drew ?_ | refine Below.alloc ?_ (by first | omega | (simp; done) | (simp; omega) | (simp [World.setCell]; omega)) _ | refine Below.setCell ?_ (by first | omega | (simp; done) | (simp; omega)) _ | assumption)))
    have hz1 := hb.size
    try simp only [World.size_alloc, World.drewN, World.drew] at hz1
    clear hb
    go_wp2
    go_ret2
    exact ⟨by rw [HRR.out]; rfl, HB1.out⟩
  have e1 : decide ((100 : Int) < (m : Int)) = false := by simp; omega
  have HM := Lib.hid (show ¬ 100 < (t.map (·.xs)).length by rw [hwl]; exact h100)
  have HWL := Lib.hid hwl
  obtain ⟨hE0, hvh, -⟩ := two_ok hE1
  obtain ⟨n1, n2, hh⟩ := heights_ok hE0
  rw [hl] at n1 n2
  have hnn : nv = n := by omega
  subst hnn
  have HHH := Lib.hid hh
  obtain ⟨t0, ht0⟩ : ∃ t, digB nv h v = t := ⟨_, rfl⟩
  have HT0 := Lib.hid ht0
  cases t0
  rotate_left
  · have HRR := Lib.hid (hR.symm.trans (sess_dug hE1 HM.out hl ht0))
    clear h100 hE1 hl hlv htl hx hv hy hR hwl hE0 hvh hh ht0
    go_enter Try.func66, Try.ntmps66
    go_wp2_with fail
    refine (rtwo_is A nv c V nv cv h v 0 HE1.out _ HX.out (by omega) HV.out (by omega)).mono ?_
    rintro e w1 ⟨rfl, hb⟩
    have HB1 := Lib.hid (show Below w.heap.size w w1 from step_below hb (by repeat' (first | exact Below.refl _ _ | exact HB0.out | refine below_drewN ?_ _ | refine Below.drew ?_ | refine Below.alloc ?_ (by first | omega | (simp; done) | (simp; omega) | (simp [World.setCell]; omega)) _ | refine Below.setCell ?_ (by first | omega | (simp; done) | (simp; omega)) _ | assumption)))
    have hz1 := hb.size
    try simp only [World.size_alloc, World.drewN, World.drew] at hz1
    clear hb
    go_wp2_with fail
    refine (rbelow_is A nv c V cv h v true HT0.out w.heap.size _ (HX.out.below HB1.out) (HV.out.below HB1.out) (by omega)).mono ?_
    rintro e w2 ⟨rfl, hb⟩
    have HB2 := Lib.hid (show Below w.heap.size w w2 from step_below hb (by repeat' (first | exact Below.refl _ _ | exact HB1.out | refine below_drewN ?_ _ | refine Below.drew ?_ | refine Below.alloc ?_ (by first | omega | (simp; done) | (simp; omega) | (simp [World.setCell]; omega)) _ | refine Below.setCell ?_ (by first | omega | (simp; done) | (simp; omega)) _ | assumption)))
    have hz2 := hb.size
    try simp only [World.size_alloc, World.drewN, World.drew] at hz2
    clear hb
    go_wp2
    go_ret2
    exact ⟨by rw [HRR.out]; rfl, HB2.out⟩
  clear hE1 hl hlv htl hx hv hy hR hwl hE0 hvh hh ht0
  go_enter Try.func66, Try.ntmps66
  go_wp2_with fail
  refine (rtwo_is A nv c V nv cv h v 0 HE1.out _ HX.out (by omega) HV.out (by omega)).mono ?_
  rintro e w1 ⟨rfl, hb⟩
  have HB1 := Lib.hid (show Below w.heap.size w w1 from step_below hb (by repeat' (first | exact Below.refl _ _ | exact HB0.out | refine below_drewN ?_ _ | refine Below.drew ?_ | refine Below.alloc ?_ (by first | omega | (simp; done) | (simp; omega) | (simp [World.setCell]; omega)) _ | refine Below.setCell ?_ (by first | omega | (simp; done) | (simp; omega)) _ | assumption)))
  have hz1 := hb.size
  try simp only [World.size_alloc, World.drewN, World.drew] at hz1
  clear hb
  go_wp2_with fail
  refine (rbelow_is A nv c V cv h v false HT0.out w.heap.size _ (HX.out.below HB1.out) (HV.out.below HB1.out) (by omega)).mono ?_
  rintro e w2 ⟨rfl, hb⟩
  have HB2 := Lib.hid (show Below w.heap.size w w2 from step_below hb (by repeat' (first | exact Below.refl _ _ | exact HB1.out | refine below_drewN ?_ _ | refine Below.drew ?_ | refine Below.alloc ?_ (by first | omega | (simp; done) | (simp; omega) | (simp [World.setCell]; omega)) _ | refine Below.setCell ?_ (by first | omega | (simp; done) | (simp; omega)) _ | assumption)))
  have hz2 := hb.size
  try simp only [World.size_alloc, World.drewN, World.drew] at hz2
  clear hb
  go_wp2_with fail
  refine (copyints_any A nv c w2.heap.size h _ ((HX.out.below HB2.out).more HB2.out.size) (Nat.le_refl _) (by omega)).mono ?_
  rintro e w3 ⟨A1, c1, rfl, hb, hr, ho⟩
  have HB3 := Lib.hid (show Below w.heap.size w w3 from step_below hb (by repeat' (first | exact Below.refl _ _ | exact HB2.out | refine below_drewN ?_ _ | refine Below.drew ?_ | refine Below.alloc ?_ (by first | omega | (simp; done) | (simp; omega) | (simp [World.setCell]; omega)) _ | refine Below.setCell ?_ (by first | omega | (simp; done) | (simp; omega)) _ | assumption)))
  have hz3 := hb.size
  try simp only [World.size_alloc, World.drewN, World.drew] at hz3
  clear hb
  have HR0 := Lib.hid (show Reads w3 w3.heap.size 1 A1 nv ((tabL nv (leftF h (t.map (·.xs)) 0)).map (.int .i64)) by
    rw [show tabL nv (leftF h (t.map (·.xs)) 0) = h from by
      rw [tabL_congr (g := fun i => h.getD i 0) (fun i _ => leftF_zero _ _ _)]; exact (tabL_of HL.out).symm]
    exact hr)
  clear hr ho
  have hs3 := HB3.out.size
  go_wp2_with fail
  go_loopw [9, 10] (fun o x wr => ∃ (k : Nat) (A' : Option Addr) (c' : Nat), k ≤ m ∧ o = .slice A' nv c' ∧ x = .int .i64 k ∧ Below w3.heap.size w3 wr ∧ Reads wr wr.heap.size 1 A' nv ((tabL nv (leftF h (t.map (·.xs)) k)).map (.int .i64)) ∧ ∀ q, q < k → sessBad nv h v (t.map (·.xs)) q = false) (fun _ x _ => m - (intOf x).toNat)
  case atStart => exact ⟨0, A1, c1, by omega, rfl, rfl, Below.refl _ _, HR0.out, fun q hq => absurd hq (by omega)⟩
  case round =>
    obtain ⟨k, A2, c2, hk, rfl, rfl, hb, hr, hup⟩ := hrel
    obtain ⟨w4, hnm⟩ : ∃ z : World, z = wr := ⟨_, rfl⟩
    subst hnm
    have HBR := Lib.hid hb
    have HRK := Lib.hid hr
    have HUP := Lib.hid hup
    have hb4 := HB3.out.trans (hb.mono hs3)
    clear hb hr hup
    have HB4 := Lib.hid hb4
    clear hb4
    by_cases hlt : k < m
    rotate_left
    · obtain rfl : m = k := by omega
      have HRR := Lib.hid (HR.out.symm.trans (sess_none HE1.out HM.out HL.out HT0.out (by rw [HWL.out]; exact HUP.out)))
      go_wp2
      go_ret2
      exact ⟨by rw [HRR.out]; rfl, HB4.out⟩
    have hkk : (k : Int) < (m : Int) := by omega
    obtain ⟨bt, ot, r, rfl, hbt, hrt, cr, ⟨hrc1, hrc2⟩, hrl, hrr⟩ := (HY.out.below HB4.out).at_ hlt
    have hwk : (t.map (·.xs)).getD k [] = r.xs := getD_of (by rw [List.getElem?_map, hrt]; rfl)
    have HWK := Lib.hid hwk
    have HRR0 := Lib.hid hrr
    obtain ⟨E2, hE2⟩ : ∃ E, wearErr nv r.xs = E := ⟨_, rfl⟩
    have HEW := Lib.hid hE2
    obtain ⟨RA, RN, RC, xs⟩ := r
    simp only at cr hrc1 hrc2 hrl hE2
    clear hwk hrt hrr hE2
    go_wp2_with fail
    refine (rwear_is nv RA RN RC xs E2 HEW.out _ (HRR0.out.more HB4.out.size) (by omega)).mono ?_
    rintro e w' ⟨rfl, rfl⟩
    by_cases h0 : E2 = 0
    rotate_left
    · have HRR := Lib.hid (HR.out.symm.trans (sess_at (k := k) HE1.out HM.out HL.out HT0.out (by rw [HWL.out]; exact hlt) HUP.out (by unfold sessBad; rw [HWK.out]; show (decide (wearErr nv xs ≠ 0) || _) = true; rw [HEW.out]; simp [h0])))
      have HV2 := Lib.hid (show (if wearErr nv ((t.map (·.xs)).getD k []) ≠ 0 then wearErr nv ((t.map (·.xs)).getD k []) else 26) = E2 by
        rw [HWK.out]; show (if wearErr nv xs ≠ 0 then wearErr nv xs else 26) = E2; rw [HEW.out, if_pos h0])
      have e2 : (E2 != 0) = true := by simpa using h0
      clear h0
      go_wp2
      go_ret2
      exact ⟨by rw [HRR.out, HV2.out]; rfl, HB4.out⟩
    subst h0
    obtain ⟨hxl, hxs⟩ := wear_ok HEW.out
    obtain rfl : RN = nv := hrl.symm.trans hxl
    have HXS := Lib.hid hxs
    clear hxs hxl hrl
    have HA4 := Lib.hid (show Below w4.heap.size w4 w4 from Below.refl _ _)
    go_wp2_with fail
    refine (rless_is A2 RN c2 RA RC (leftF h (t.map (·.xs)) k) xs 1 (by omega) (by omega) (by omega) (fun i _ => by have := leftF_in (n := RN) (i := i) HHH.out (fun q hq => bad_wear (HUP.out q hq)) (show k ≤ 100 by omega); omega) HXS.out _ HRK.out (HRR0.out.more HB4.out.size)).mono ?_
    rintro e w5 ⟨A4, c4, rfl, hb, hr⟩
    have HB5 := Lib.hid (show Below w.heap.size w w5 from step_below hb (by repeat' (first | exact Below.refl _ _ | exact HB4.out | refine below_drewN ?_ _ | refine Below.drew ?_ | refine Below.alloc ?_ (by first | omega | (simp; done) | (simp; omega) | (simp [World.setCell]; omega)) _ | refine Below.setCell ?_ (by first | omega | (simp; done) | (simp; omega)) _ | assumption)))
    have HA5 := Lib.hid (step_below hb HA4.out)
    clear HA4
    have hz5 := hb.size
    try simp only [World.size_alloc, World.drewN, World.drew] at hz5
    clear hb
    rw [less_left HWK.out] at hr
    have HR5 := Lib.hid hr
    have hr5 := hr
    clear hr
    obtain ⟨t2, ht2⟩ : ∃ t2, digB RN (tabL RN (leftF h (t.map (·.xs)) (k + 1))) v = t2 := ⟨_, rfl⟩
    have HT2 := Lib.hid ht2
    clear ht2
    have R0_5 := Lib.hid hr5
    clear hr5
    go_wp2_with fail
    refine (rbelow_is A4 RN c4 V cv (tabL RN (leftF h (t.map (·.xs)) (k + 1))) v t2 HT2.out w5.heap.size _ HR5.out ((HV.out.below HB5.out).more HB5.out.size) (by omega)).mono ?_
    rintro e w6 ⟨rfl, hb⟩
    have HB6 := Lib.hid (show Below w.heap.size w w6 from step_below hb (by repeat' (first | exact Below.refl _ _ | exact HB5.out | refine below_drewN ?_ _ | refine Below.drew ?_ | refine Below.alloc ?_ (by first | omega | (simp; done) | (simp; omega) | (simp [World.setCell]; omega)) _ | refine Below.setCell ?_ (by first | omega | (simp; done) | (simp; omega)) _ | assumption)))
    have hL6 := Lib.hid (show Below w5.heap.size w5 _ from reads_mid hb (by repeat' (first | exact Below.refl _ _ | refine below_drewN ?_ _ | refine Below.drew ?_ | refine Below.alloc ?_ (by first | omega | (simp; done) | (simp; omega) | (simp [World.setCell]; omega)) _ | refine Below.setCell ?_ (by first | omega | (simp; done) | (simp; omega)) _)))
    have R0_6 := Lib.hid (reads_lay hb hL6.out R0_5.out)
    clear hL6 R0_5
    have HA6 := Lib.hid (step_below hb HA5.out)
    clear HA5
    have hz6 := hb.size
    try simp only [World.size_alloc, World.drewN, World.drew] at hz6
    clear hb
    have HBZ := Lib.hid (HBR.out.trans (HA6.out.mono HBR.out.size))
    have HR6 := R0_6
    have HSB := Lib.hid (show sessBad RN h v (t.map (·.xs)) k = t2 by
      unfold sessBad; rw [HWK.out]; show (decide (wearErr RN xs ≠ 0) || _) = t2; rw [HEW.out, HT2.out]; simp)
    cases t2
    · go_wp2
      go_roundw
      case rel => exact ⟨k + 1, A4, c4, by omega, rfl, by go_num, HBZ.out, HR6.out, fun q hq => by
        by_cases e : q = k
        · rw [e]; exact HSB.out
        · exact HUP.out q (by omega)⟩
      case measure => simp [intOf]; omega
    · have HRR := Lib.hid (HR.out.symm.trans (sess_at (k := k) HE1.out HM.out HL.out HT0.out (by rw [HWL.out]; exact hlt) HUP.out HSB.out))
      have HV2 := Lib.hid (show (if wearErr RN ((t.map (·.xs)).getD k []) ≠ 0 then wearErr RN ((t.map (·.xs)).getD k []) else 26) = 26 by
        rw [HWK.out]; show (if wearErr RN xs ≠ 0 then wearErr RN xs else 26) = 26; rw [HEW.out, if_neg (by simp)])
      go_wp2
      go_ret2
      exact ⟨by rw [HRR.out, HV2.out]; rfl, HB6.out⟩
end Go.Proofs.Ytnepjgnnppfibaa

end
