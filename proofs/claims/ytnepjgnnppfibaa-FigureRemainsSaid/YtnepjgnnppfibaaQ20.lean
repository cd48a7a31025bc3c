import Derived.Test.YtnepjgnnppfibaaQ19
import Derived.Test.YtnepjgnnppfibaaQ13

section
/- Sessions: plain models; what remains, and whether sessions dig. -/
namespace Go.Proofs.Ytnepjgnnppfibaa
open Go Go.RowKit

/-- A list by its values. -/
def tabL (n : Nat) (f : Nat → Int) : List Int := (List.range n).map f
theorem tabL_len (n : Nat) (f : Nat → Int) : (tabL n f).length = n := by unfold tabL; simp
theorem tabL_get {n i : Nat} (f : Nat → Int) (h : i < n) : (tabL n f)[i]? = some (f i) := by unfold tabL; rw [List.getElem?_map, List.getElem?_range h]; rfl
theorem tabL_congr {n : Nat} {f g : Nat → Int} (h : ∀ i, i < n → f i = g i) : tabL n f = tabL n g := by
  unfold tabL
  exact List.map_congr_left fun i hi => h i (List.mem_range.1 hi)
theorem tabL_of {n : Nat} {l : List Int} (h : l.length = n) : l = tabL n fun i => l.getD i 0 := by
  apply List.ext_getElem?
  intro i
  by_cases hi : i < n
  · rw [tabL_get _ hi, List.getElem?_eq_getElem (by omega), getD_of (List.getElem?_eq_getElem (by omega))]
  · rw [List.getElem?_eq_none (by omega), List.getElem?_eq_none (by rw [tabL_len]; omega)]
theorem tabL_set {n j : Nat} (f : Nat → Int) (z : Int) : (tabL n f).set j z = tabL n fun i => if i = j then z else f i := by
  apply List.ext_getElem?
  intro i
  by_cases hi : i < n
  · rw [tabL_get _ hi, List.getElem?_set]
    by_cases e : j = i
    · subst e; rw [if_pos rfl, if_pos (by rw [tabL_len]; exact hi), if_pos rfl]
    · rw [if_neg e, if_neg (fun h => e h.symm), tabL_get _ hi]
  · rw [List.getElem?_eq_none (by rw [List.length_set, tabL_len]; omega), List.getElem?_eq_none (by rw [tabL_len]; omega)]
section
variable {w : World} {g n : Nat} {f : Nat → Int} {ext : List Value}
/-- A block that holds a list. -/
def BlkL (w : World) (g n : Nat) (f : Nat → Int) (ext : List Value) : Prop := Blk w g 3 ((tabL n f).map (Value.int .i64) ++ ext).toArray
theorem BlkL.cell (h : BlkL w g n f ext) {j : Nat} (hj : j < n) : w.cell? ⟨g, j, none⟩ = some (.int .i64 (f j)) := by
  rw [Blk.cell h j]
  have : ((tabL n f).map (Value.int .i64))[j]? = some (.int .i64 (f j)) := by rw [List.getElem?_map, tabL_get f hj]; rfl
  simp [List.getElem?_append_left (List.getElem?_eq_some_iff.1 this).1, this]
theorem BlkL.set (h : BlkL w g n f ext) {j : Nat} (hj : j < n) (z : Int) : BlkL (w.setCell ⟨g, j, none⟩ (.int .i64 z)) g n (fun i => if i = j then z else f i) ext := by
  have h1 := Blk.set_ h j (.int .i64 z)
  unfold BlkL
  rw [List.setIfInBounds_toArray, List.set_append_left _ _ (by rw [List.length_map, tabL_len]; exact hj), ← List.map_set, tabL_set] at h1
  exact h1
theorem BlkL.congr {f' : Nat → Int} (h : BlkL w g n f ext) (e : ∀ i, i < n → f i = f' i) : BlkL w g n f' ext := by unfold BlkL at h ⊢; rw [← tabL_congr e]; exact h
theorem BlkL.reads (h : BlkL w g n f ext) : Reads w w.heap.size 1 (some ⟨g, 0, none⟩) n ((tabL n f).map (.int .i64)) :=
  ⟨by rw [List.length_map, tabL_len, Nat.mul_one], fun _ => ⟨g, 0, rfl, Blk.lt h, fun j u hu => by
    rw [Nat.zero_add, Blk.cell h j]
    have := (List.getElem?_eq_some_iff.1 hu).1
    simp [List.getElem?_append_left this, hu]⟩⟩
end

theorem getD_in {l : List Int} {i : Nat} {lo hi : Int} (h0 : lo ≤ 0 ∧ 0 ≤ hi) (h : ∀ z ∈ l, lo ≤ z ∧ z ≤ hi) : lo ≤ l.getD i 0 ∧ l.getD i 0 ≤ hi := by
  rw [List.getD_eq_getElem?_getD]
  cases hg : l[i]? with
  | none => exact h0
  | some z => exact h z (List.mem_of_getElem? hg)
/-- What is left of a zone behind so many sessions. -/
def leftF (h : List Int) (ws : List (List Int)) (k i : Nat) : Int := h.getD i 0 - sumN (fun q => (ws.getD q []).getD i 0) k
theorem leftF_zero (h : List Int) (ws : List (List Int)) (i : Nat) : leftF h ws 0 i = h.getD i 0 := by unfold leftF sumN; omega
theorem leftF_succ (h : List Int) (ws : List (List Int)) (k i : Nat) : leftF h ws (k + 1) i = leftF h ws k i - (ws.getD k []).getD i 0 := by
  unfold leftF
  show _ - (sumN _ k + (ws.getD k []).getD i 0) = _
  omega
theorem leftF_in {h : List Int} {ws : List (List Int)} {n k i : Nat} (hh : ∀ z ∈ h, -100000 ≤ z ∧ z ≤ 100000) (hw : ∀ q, q < k → wearErr n (ws.getD q []) = 0) (hk : k ≤ 100) : -20000000 ≤ leftF h ws k i ∧ leftF h ws k i ≤ 100000 := by
  have h1 := sumN_in k (f := fun q => (ws.getD q []).getD i 0) (lo := 0) (hi := 100000) (fun q hq => by
    have h2 := (wear_ok (hw q hq)).2
    exact getD_in (by omega) h2) k (Nat.le_refl _)
  have h3 : -100000 ≤ h.getD i 0 ∧ h.getD i 0 ≤ 100000 := getD_in (by omega) hh
  unfold leftF
  omega
/-- The errors of sessions. -/
def leftErr (h : List Int) (ws : List (List Int)) : Int := if heightsErr h ≠ 0 then heightsErr h else if 100 < ws.length then 8 else firstErr (wearErr h.length) ws
/-- What remains, or an error. -/
def RemPost (h : List Int) (ws : List (List Int)) (n : Nat) (E : Int) (w : World) (e : Ending) (w' : World) : Prop :=
  Below w.heap.size w w' ∧ ((E ≠ 0 ∧ e = .returned (.tuple #[.slice none 0 0, .int .i64 E])) ∨ (E = 0 ∧ ∃ A c, e = .returned (.tuple #[.slice A n c, .int .i64 0]) ∧ Reads w' w'.heap.size 1 A n ((tabL n (leftF h ws ws.length)).map (.int .i64))))
theorem RemPost.bad {h : List Int} {ws : List (List Int)} {n : Nat} {E : Int} {w w' : World} {e : Ending} (h0 : E ≠ 0) (he : e = .returned (.tuple #[.slice none 0 0, .int .i64 E])) (hb : Below w.heap.size w w') : RemPost h ws n E w e w' := ⟨hb, .inl ⟨h0, he⟩⟩
theorem RemPost.ok {h : List Int} {ws : List (List Int)} {n : Nat} {E : Int} {w w' : World} {e : Ending} {A : Option Addr} {c : Nat} (h0 : 0 = E) (he : e = .returned (.tuple #[.slice A n c, .int .i64 0])) (hb : Below w.heap.size w w') (hr : Reads w' w'.heap.size 1 A n ((tabL n (leftF h ws ws.length)).map (.int .i64))) : RemPost h ws n E w e w' := ⟨hb, .inr ⟨h0.symm, A, c, he, hr⟩⟩

set_option maxRecDepth 100000 in
set_option maxHeartbeats 4000000 in
theorem remaining_is (A : Option Addr) (n c : Nat) (B : Option Addr) (m d : Nat) (h : List Int) (t : List TRow) (E : Int) (hE : leftErr h (t.map (·.xs)) = E) (w : World) (hx : Reads w w.heap.size 1 A n (h.map (.int .i64))) (hy : ReadsT w w.heap.size B m t) (hn : n ≤ 1000) (hm : m ≤ 1000) :
    Calls Try.prog 62 #[.slice A n c, .slice B m d] w (RemPost h (t.map (·.xs)) n E w) := by
  have hl : h.length = n := by have := hx.1; simpa using this
  have htl : t.length = m := hy.len
  have HX := Lib.hid hx
  have HY := Lib.hid hy
  have HL := Lib.hid hl
  have HTL := Lib.hid htl
  have HE := Lib.hid hE
  obtain ⟨E1, hE1⟩ : ∃ E, heightsErr h = E := ⟨_, rfl⟩
  have HE1 := Lib.hid hE1
  by_cases h0 : E1 = 0
  rotate_left
  · have HEE := Lib.hid (show E1 = E by rw [← hE]; unfold leftErr; rw [hE1, if_pos h0])
    have H0 := Lib.hid (show E ≠ 0 by rw [← HEE.out]; exact h0)
    have e1 : (E1 != 0) = true := by simpa using h0
    clear h0 hE1 hl htl hx hy hE
    go_enter Try.func62, Try.ntmps62
    go_wp2_with fail
    refine (heights_is A n c h E1 HE1.out _ HX.out (by omega)).mono ?_
    rintro e w1 ⟨rfl, hb⟩
    have HB1 := Lib.hid (show Below w.heap.size w w1 from step_below hb (by repeat' (first | exact Below.refl _ _ | exact HB0.out | refine below_drewN ?_ _ | refine Below.drew ?_ | refine Below.alloc ?_ (by first | omega | (simp; done) | (simp; omega) | (simp [World.setCell]; omega)) _ | refine Below.setCell ?_ (by first | omega | (simp; done) | (simp; omega)) _ | assumption)))
    have hz1 := hb.size
    try simp only [World.size_alloc, World.drewN, World.drew] at hz1
    clear hb
    go_wp2
    go_ret2
    exact RemPost.bad H0.out (by rw [← HEE.out]; rfl) HB1.out
  subst h0
  by_cases h100 : 100 < m
  · have HEE := Lib.hid (show (8 : Int) = E by rw [← hE]; unfold leftErr; rw [hE1, if_neg (by simp), List.length_map, htl, if_pos h100])
    have H0 := Lib.hid (show E ≠ 0 by rw [← HEE.out]; decide)
    have e1 : decide ((100 : Int) < (m : Int)) = true := by simp; omega
    clear h100 hE1 hl htl hx hy hE
    go_enter Try.func62, Try.ntmps62
    go_wp2_with fail
    refine (heights_is A n c h 0 HE1.out _ HX.out (by omega)).mono ?_
    rintro e w1 ⟨rfl, hb⟩
    have HB1 := Lib.hid (show Below w.heap.size w w1 from step_below hb (by repeat' (first | exact Below.refl _ _ | exact HB0.out | refine below_drewN ?_ _ | refine Below.drew ?_ | refine Below.alloc ?_ (by first | omega | (simp; done) | (simp; omega) | (simp [World.setCell]; omega)) _ | refine Below.setCell ?_ (by first | omega | (simp; done) | (simp; omega)) _ | assumption)))
    have hz1 := hb.size
    try simp only [World.size_alloc, World.drewN, World.drew] at hz1
    clear hb
    go_wp2
    go_ret2
    exact RemPost.bad H0.out (by rw [← HEE.out]; rfl) HB1.out
  have e1 : decide ((100 : Int) < (m : Int)) = false := by simp; omega
  obtain ⟨n1, n2, hh⟩ := heights_ok hE1
  rw [hl] at n1 n2
  have HHH := Lib.hid hh
  have HE2 := Lib.hid (show firstErr (wearErr n) (t.map (·.xs)) = E by rw [← hE]; unfold leftErr; rw [hE1, if_neg (by simp), List.length_map, htl, if_neg h100, hl])
  clear hE1 hl htl hx hy hE hh
  go_enter Try.func62, Try.ntmps62
  go_wp2_with fail
  refine (heights_is A n c h 0 HE1.out _ HX.out (by omega)).mono ?_
  rintro e w1 ⟨rfl, hb⟩
  have HB1 := Lib.hid (show Below w.heap.size w w1 from step_below hb (by repeat' (first | exact Below.refl _ _ | exact HB0.out | refine below_drewN ?_ _ | refine Below.drew ?_ | refine Below.alloc ?_ (by first | omega | (simp; done) | (simp; omega) | (simp [World.setCell]; omega)) _ | refine Below.setCell ?_ (by first | omega | (simp; done) | (simp; omega)) _ | assumption)))
  have hz1 := hb.size
  try simp only [World.size_alloc, World.drewN, World.drew] at hz1
  clear hb
  go_wp2_with fail
  refine (clone6_any A n c w1.heap.size h _ ((HX.out.below HB1.out).more HB1.out.size) (Nat.le_refl _) (by omega)).mono ?_
  rintro e w2 ⟨A1, c1, rfl, hb, hr, ho⟩
  have HB2 := Lib.hid (show Below w.heap.size w w2 from step_below hb (by repeat' (first | exact Below.refl _ _ | exact HB1.out | refine below_drewN ?_ _ | refine Below.drew ?_ | refine Below.alloc ?_ (by first | omega | (simp; done) | (simp; omega) | (simp [World.setCell]; omega)) _ | refine Below.setCell ?_ (by first | omega | (simp; done) | (simp; omega)) _ | assumption)))
  have hz2 := hb.size
  try simp only [World.size_alloc, World.drewN, World.drew] at hz2
  clear hb
  clear hr
  obtain ⟨g, ext, rfl, hg, hnc, hblk⟩ := own_block6 ho (by omega)
  have hwg : w.heap.size ≤ g := Nat.le_trans HB1.out.size hg
  have hgl : g < w2.heap.size := hblk.lt
  have HBL := Lib.hid (show BlkL w2 g n (leftF h (t.map (·.xs)) 0) ext from by
    unfold BlkL
    rw [show tabL n (leftF h (t.map (·.xs)) 0) = h from by
      rw [tabL_congr (g := fun i => h.getD i 0) (fun i _ => leftF_zero _ _ _)]; exact (tabL_of HL.out).symm]
    exact hblk)
  clear ho hblk
  go_wp2_with fail
  go_loopw [25] (fun v wr => ∃ k : Nat, k ≤ m ∧ v = .int .i64 k ∧ Below g w2 wr ∧ BlkL wr g n (leftF h (t.map (·.xs)) k) ext ∧ ∀ q, q < k → wearErr n ((t.map (·.xs)).getD q []) = 0) (fun v _ => m - (intOf v).toNat)
  case atStart => exact ⟨0, by omega, rfl, Below.refl _ _, HBL.out, fun q hq => absurd hq (by omega)⟩
  case round =>
    obtain ⟨k, hk, rfl, hb, hbl, hup⟩ := hrel
    obtain ⟨w3, hnm⟩ : ∃ z : World, z = wr := ⟨_, rfl⟩
    subst hnm
    have HBR := Lib.hid hb
    have HBLK := Lib.hid hbl
    have HUP := Lib.hid hup
    have hb3 := HB2.out.trans (hb.mono hwg)
    clear hb hbl hup
    have HB3 := Lib.hid hb3
    clear hb3
    by_cases hlt : k < m
    rotate_left
    · obtain rfl : m = k := by omega
      have HEE := Lib.hid (show (0 : Int) = E by
        rw [← HE2.out]
        refine (firstErr_ok fun l hl => ?_).symm
        obtain ⟨q, hq⟩ := List.getElem?_of_mem hl
        have hq2 := (List.getElem?_eq_some_iff.1 hq).1
        rw [List.length_map, HTL.out] at hq2
        have := HUP.out q hq2
        rwa [getD_of hq] at this)
      have hr := HBLK.out.reads
      have HR := Lib.hid (show Reads w3 w3.heap.size 1 (some ⟨g, 0, none⟩) n ((tabL n (leftF h (t.map (·.xs)) (t.map (·.xs)).length)).map (.int .i64)) by rw [List.length_map, HTL.out]; exact hr)
      clear hr
      go_wp2
      go_ret2
      exact RemPost.ok HEE.out rfl HB3.out HR.out
    have hkk : (k : Int) < (m : Int) := by omega
    obtain ⟨bt, ot, r, rfl, hbt, hrt, cr, ⟨hrc1, hrc2⟩, hrl, hrr⟩ := (HY.out.below HB3.out).at_ hlt
    have hwk : (t.map (·.xs)).getD k [] = r.xs := getD_of (by rw [List.getElem?_map, hrt]; rfl)
    have HWK := Lib.hid hwk
    have HRT := Lib.hid hrt
    have HRR := Lib.hid hrr
    obtain ⟨E2, hE2⟩ : ∃ E, wearErr n r.xs = E := ⟨_, rfl⟩
    have HEW := Lib.hid hE2
    obtain ⟨RA, RN, RC, xs⟩ := r
    simp only at cr hrc1 hrc2 hrl hE2
    clear hwk hrt hrr hE2
    have HA3 := Lib.hid (show Below w3.heap.size w3 w3 from Below.refl _ _)
    go_wp2_with fail
    refine (wear_is RA RN RC xs n E2 HEW.out _ (HRR.out.more HB3.out.size) (by omega)).mono ?_
    rintro e w4 ⟨rfl, hb⟩
    have HB4 := Lib.hid (show Below w.heap.size w w4 from step_below hb (by repeat' (first | exact Below.refl _ _ | exact HB3.out | refine below_drewN ?_ _ | refine Below.drew ?_ | refine Below.alloc ?_ (by first | omega | (simp; done) | (simp; omega) | (simp [World.setCell]; omega)) _ | refine Below.setCell ?_ (by first | omega | (simp; done) | (simp; omega)) _ | assumption)))
    have HA4 := Lib.hid (step_below hb HA3.out)
    clear HA3
    have hz4 := hb.size
    try simp only [World.size_alloc, World.drewN, World.drew] at hz4
    clear hb
    have hb34 : Below w3.heap.size w3 w4 := HA4.out
    by_cases h0 : E2 = 0
    rotate_left
    · have HEE := Lib.hid (show E2 = E by
        rw [← HE2.out, firstErr_at (k := k) (p := xs) (by rw [List.getElem?_map, HRT.out]; rfl) (fun l hl => ?_) (by rw [HEW.out]; exact h0)]
        · exact HEW.out.symm
        · obtain ⟨q, hq⟩ := List.getElem?_of_mem hl
          have hq2 := (List.getElem?_eq_some_iff.1 hq).1
          rw [List.length_take] at hq2
          rw [List.getElem?_take_of_lt (by omega)] at hq
          have := HUP.out q (by omega)
          rwa [getD_of hq] at this)
      have H0 := Lib.hid (show E ≠ 0 by rw [← HEE.out]; exact h0)
      have e2 : (E2 != 0) = true := by simpa using h0
      clear h0
      go_wp2
      go_ret2
      exact RemPost.bad H0.out (by rw [← HEE.out]; rfl) HB4.out
    subst h0
    obtain ⟨hxl, hxs⟩ := wear_ok HEW.out
    obtain rfl : RN = n := hrl.symm.trans hxl
    have HXS := Lib.hid hxs
    have hgl3 : g < w3.heap.size := Blk.lt HBLK.out
    have HBL4 := Lib.hid (show BlkL w4 g RN (leftF h (t.map (·.xs)) k) ext from Blk.below HBLK.out hb34 hgl3)
    have HBR4 := Lib.hid (HBR.out.trans (hb34.mono (by omega)))
    have hxr := (HRR.out.below (Below.mono hb34 (show w.heap.size ≤ w3.heap.size by omega)))
    have HXR := Lib.hid hxr
    clear hb34 hxs hxr hxl hrl
    go_wp2_with fail
    go_loopw [38] (fun v wr => ∃ j : Nat, j ≤ RN ∧ v = .int .i64 j ∧ Below g w4 wr ∧ BlkL wr g RN (fun i => if i < j then leftF h (t.map (·.xs)) (k + 1) i else leftF h (t.map (·.xs)) k i) ext) (fun v _ => RN - (intOf v).toNat)
    case atStart => exact ⟨0, by omega, rfl, Below.refl _ _, HBL4.out.congr fun i hi => by rw [if_neg (by omega)]⟩
    case round =>
      obtain ⟨j, hj, rfl, hb, hbl⟩ := hrel
      obtain ⟨w5, hnm⟩ : ∃ z : World, z = wr := ⟨_, rfl⟩
      subst hnm
      have HBJ := Lib.hid hb
      have HBLJ := Lib.hid hbl
      by_cases hjt : j < RN
      · have hjj : (j : Int) < (RN : Int) := by omega
        obtain ⟨xb, xo, x, rfl, hxb, gx, cx⟩ := (HXR.out.below (hb.mono hwg)).int_ hjt
        have hc := hbl.cell hjt
        have hf := Blk.frozen hbl j
        simp only [Nat.lt_irrefl, if_false] at hc
        obtain ⟨y, hy⟩ : ∃ y, leftF h (t.map (·.xs)) k j = y := ⟨_, rfl⟩
        rw [hy] at hc
        have hyin := leftF_in (i := j) HHH.out HUP.out (by omega)
        rw [hy] at hyin
        have hxin := HXS.out x (List.mem_of_getElem? gx)
        have e3 := IntWalk.i64_in (y - x) ⟨by omega, by omega⟩
        have hgl5 : g < w5.heap.size := Blk.lt hbl
        have HSET := Lib.hid ((hbl.set hjt (y - x)).congr (f' := fun i => if i < j + 1 then leftF h (t.map (·.xs)) (k + 1) i else leftF h (t.map (·.xs)) k i) fun i hi => by
          by_cases e : i = j
          · subst e
            rw [if_pos rfl, if_pos (by omega), leftF_succ, hy, HWK.out]
            show y - x = y - xs.getD i 0
            rw [getD_of gx]
          · rw [if_neg e]
            by_cases e2 : i < j
            · rw [if_pos e2, if_pos (by omega)]
            · rw [if_neg e2, if_neg (by omega)])
        clear hb hbl gx hy hyin hxin
        go_wp2
        go_roundw
        case rel => exact ⟨j + 1, by omega, by go_num, HBJ.out.setCell (p := ⟨g, j, none⟩) (Nat.le_refl _) _, HSET.out⟩
        case measure => simp [intOf]; omega
      · obtain rfl : RN = j := by omega
        clear hb hbl
        go_wp2
        go_roundw
        case rel => exact ⟨k + 1, by omega, by go_num, HBR4.out.trans HBJ.out, HBLJ.out.congr fun i hi => by rw [if_pos hi], fun q hq => by
          by_cases e : q = k
          · rw [e, HWK.out]; exact HEW.out
          · exact HUP.out q (by omega)⟩
        case measure => simp [intOf]; omega
end Go.Proofs.Ytnepjgnnppfibaa

end

section
/- Sessions that do not dig: the program's check. -/
namespace Go.Proofs.Ytnepjgnnppfibaa
open Go Go.RowKit

/-- A session that is refused. -/
def sessBad (n : Nat) (h v : List Int) (ws : List (List Int)) (k : Nat) : Bool := decide (wearErr n (ws.getD k []) ≠ 0) || digB n (tabL n (leftF h ws (k + 1))) v
/-- The number and the error of sessions. -/
def sessF (h v : List Int) (ws : List (List Int)) : Int × Int :=
  if twoErr h v ≠ 0 then (0, twoErr h v) else if 100 < ws.length then (0, 8) else if digB h.length h v then (-1, 26) else
    match (List.range ws.length).find? (sessBad h.length h v ws) with
    | some k => ((k : Int), if wearErr h.length (ws.getD k []) ≠ 0 then wearErr h.length (ws.getD k []) else 26)
    | none => (0, 0)
section
variable {h v : List Int} {ws : List (List Int)} {n k : Nat}
end

end Go.Proofs.Ytnepjgnnppfibaa

end

section
/- Sessions: the reference's side. -/
namespace Go.Proofs.Ytnepjgnnppfibaa
open Go Go.RowKit

set_option maxRecDepth 100000 in
set_option maxHeartbeats 4000000 in
theorem rless_is (A : Option Addr) (n c : Nat) (B : Option Addr) (d : Nat) (f : Nat → Int) (l : List Int) (tm : Int) (ht : 0 ≤ tm ∧ tm ≤ 100) (hn1 : 1 ≤ n) (hn : n ≤ 1000) (hf : ∀ i, i < n → -100000000 ≤ f i ∧ f i ≤ 100000000) (hl : ∀ z ∈ l, 0 ≤ z ∧ z ≤ 100000) (w : World) (hx : Reads w w.heap.size 1 A n ((tabL n f).map (.int .i64))) (hy : Reads w w.heap.size 1 B n (l.map (.int .i64))) :
    Calls Try.prog 103 #[.slice A n c, .slice B n d, .int .i64 tm] w fun e w' => ∃ A' c', e = .returned (.slice A' n c') ∧ Below w.heap.size w w' ∧ Reads w' w'.heap.size 1 A' n ((tabL n fun i => f i - tm * l.getD i 0).map (.int .i64)) := by
  have HX := Lib.hid hx
  have HY := Lib.hid hy
  have HF := Lib.hid hf
  have HL := Lib.hid hl
  clear hx hy hf hl
  go_enter Try.func103, Try.ntmps103
  go_wp2_with fail
  refine (copyints_any A n c w.heap.size (tabL n f) _ HX.out (Nat.le_refl _) (by omega)).mono ?_
  rintro e w1 ⟨A1, c1, rfl, hb, hr, ho⟩
  have HB1 := Lib.hid (show Below w.heap.size w w1 from step_below hb (by repeat' (first | exact Below.refl _ _ | exact HB0.out | refine below_drewN ?_ _ | refine Below.drew ?_ | refine Below.alloc ?_ (by first | omega | (simp; done) | (simp; omega) | (simp [World.setCell]; omega)) _ | refine Below.setCell ?_ (by first | omega | (simp; done) | (simp; omega)) _ | assumption)))
  have hz1 := hb.size
  try simp only [World.size_alloc, World.drewN, World.drew] at hz1
  clear hb
  clear hr
  obtain ⟨g, ext, rfl, hg, hnc, hblk⟩ := own_block6 ho (by omega)
  have hgl : g < w1.heap.size := hblk.lt
  have HBL := Lib.hid (show BlkL w1 g n f ext from hblk)
  clear ho hblk
  go_wp2_with fail
  go_loopw [8] (fun v wr => ∃ j : Nat, j ≤ n ∧ v = .int .i64 j ∧ Below g w1 wr ∧ BlkL wr g n (fun i => if i < j then f i - tm * l.getD i 0 else f i) ext) (fun v _ => n - (intOf v).toNat)
  case atStart => exact ⟨0, by omega, rfl, Below.refl _ _, HBL.out.congr fun i hi => by rw [if_neg (by omega)]⟩
  case round =>
    obtain ⟨j, hj, rfl, hb, hbl⟩ := hrel
    obtain ⟨w2, hnm⟩ : ∃ z : World, z = wr := ⟨_, rfl⟩
    subst hnm
    have HBJ := Lib.hid hb
    have HBLJ := Lib.hid hbl
    by_cases hjt : j < n
    · have hjj : (j : Int) < (n : Int) := by omega
      obtain ⟨xb, xo, x, rfl, hxb, gx, cx⟩ := ((HY.out.below HB1.out).below (hb.mono hg)).int_ hjt
      have hc := hbl.cell hjt
      have hfz := Blk.frozen hbl j
      simp only [Nat.lt_irrefl, if_false] at hc
      have hyin := HF.out j hjt
      obtain ⟨y, hy⟩ : ∃ y, f j = y := ⟨_, rfl⟩
      rw [hy] at hc hyin
      have hxin := HL.out x (List.mem_of_getElem? gx)
      have p1 := Int.mul_nonneg ht.1 hxin.1
      have p2 := Int.mul_le_mul ht.2 hxin.2 hxin.1 (by omega)
      have e2 := IntWalk.i64_in (tm * x) ⟨by omega, by omega⟩
      have e3 := IntWalk.i64_in (y - tm * x) ⟨by omega, by omega⟩
      have hgl5 : g < w2.heap.size := Blk.lt hbl
      have HSET := Lib.hid fun (q : Nat) => ((show BlkL (w2.drewN q) g n _ ext from Blk.drewN hbl q).set hjt (y - tm * x)).congr (f' := fun i => if i < j + 1 then f i - tm * l.getD i 0 else f i) fun i hi => by
        by_cases e : i = j
        · subst e
          rw [if_pos rfl, if_pos (by omega), hy, getD_of gx]
        · rw [if_neg e]
          by_cases e2 : i < j
          · rw [if_pos e2, if_pos (by omega)]
          · rw [if_neg e2, if_neg (by omega)]
      clear hb hbl gx hy hyin hxin p1 p2
      go_wp2
      obtain ⟨W0, hW0⟩ : ∃ W0, W0 = w2.drewN 1 := ⟨_, rfl⟩
      have m0 : W0.cell? ⟨xb, xo + j, none⟩ = some (.int .i64 x) := by rw [hW0]; exact cx
      have mo : W0.cell? ⟨g, j, none⟩ = some (.int .i64 y) := by rw [hW0]; exact hc
      have mf : W0.frozen? ⟨g, j, none⟩ = false := by rw [hW0]; exact hfz
      refine Fx.region (fun f w' => (f 14 = false → w' = W0) ∧ (f 14 = true → w' = W0.setCell ⟨g, j, none⟩ (.int .i64 (y - tm * x)))) (by kernel_rfl) (by kernel_rfl) ?_ ?_
      · intro f hf0
        exact ⟨fun _ => hW0.symm, fun h => by rw [hf0 14] at h; cases h⟩
      have HW0 := Lib.hid hW0
      clear hW0
      repeat (first
        | (refine Fx.skip_ (by rfl) (fun f w h => h) ?_; simp only [Act.put, List.setIfInBounds_toArray, List.set_cons_zero, List.set_cons_succ])
        | (refine Fx.val_ ?_ (by rfl) ?_ (fun f w h => h) ?_
           rotate_left
           · intro f w' hD hk
             obtain ⟨jw, jr⟩ := id hD
             have jw := jw (hk.2.1 14 (by kernel_rfl))
             have q0 : w'.cell? ⟨xb, xo + j, none⟩ = some (.int .i64 x) := by rw [jw]; exact m0
             have qo : w'.cell? ⟨g, j, none⟩ = some (.int .i64 y) := by rw [jw]; exact mo
             clear hk hD jw jr
             go_simp
             try rfl
           simp only [Act.put, List.setIfInBounds_toArray, List.set_cons_zero, List.set_cons_succ]))
      refine Fx.store_ (fun w' => w'.setCell ⟨g, j, none⟩ (.int .i64 (y - tm * x))) (by rfl) ?_ ?_ ?_
      · intro f w' hD hk
        obtain ⟨jw, jr⟩ := id hD
        have jw := jw hk.1
        have q0 : w'.cell? ⟨g, j, none⟩ = some (.int .i64 y) := by rw [jw]; exact mo
        have q1 : w'.frozen? ⟨g, j, none⟩ = false := by rw [jw]; exact mf
        clear hk hD jw jr
        go_simp
      · intro f w' hD hk
        obtain ⟨jw, jr⟩ := id hD
        have jw := jw hk.1
        exact ⟨fun h => by simp [Fx.add] at h, fun _ => by rw [jw]⟩
      simp only [Act.put, List.setIfInBounds_toArray, List.set_cons_zero, List.set_cons_succ]
      refine Fx.nil_ ?_
      intro f w3 hall hD
      have hwn := hD.2 (hall 14 (by simp))
      rw [HW0.out] at hwn
      clear hall hD HW0 mo mf m0
      have HW := Lib.hid hwn
      clear hwn
      go_wp2
      go_roundw
      case rel => exact ⟨j + 1, by omega, by go_num, by rw [HW.out]; exact (below_drewN HBJ.out 1).setCell (p := ⟨g, j, none⟩) (Nat.le_refl _) _, by rw [HW.out]; exact HSET.out 1⟩
      case measure => simp [intOf]; omega
    · obtain rfl : n = j := by omega
      have HR := Lib.hid (hbl.congr (f' := fun i => f i - tm * l.getD i 0) fun i hi => by rw [if_pos hi]).reads
      have HBB := Lib.hid (HB1.out.trans (hb.mono hg))
      clear hb hbl
      go_wp2
      go_ret
      exact ⟨_, _, rfl, HBB.out, HR.out⟩

/-- One session more. -/
theorem less_left {h : List Int} {ws : List (List Int)} {n k : Nat} {l : List Int} (hk : ws.getD k [] = l) : tabL n (fun i => leftF h ws k i - 1 * l.getD i 0) = tabL n (leftF h ws (k + 1)) :=
  tabL_congr fun i _ => by rw [leftF_succ, hk]; omega

set_option maxRecDepth 100000 in
set_option maxHeartbeats 4000000 in
theorem rremaining_is (A : Option Addr) (n c : Nat) (B : Option Addr) (m d : Nat) (h : List Int) (t : List TRow) (E : Int) (hE : leftErr h (t.map (·.xs)) = E) (w : World) (hx : Reads w w.heap.size 1 A n (h.map (.int .i64))) (hy : ReadsT w w.heap.size B m t) (hn : n ≤ 1000) (hm : m ≤ 1000) :
    Calls Try.prog 64 #[.slice A n c, .slice B m d] w (RemPost h (t.map (·.xs)) n E w) := by
  have hl : h.length = n := by have := hx.1; simpa using this
  have htl : t.length = m := hy.len
  have HX := Lib.hid hx
  have HY := Lib.hid hy
  have HL := Lib.hid hl
  have HTL := Lib.hid htl
  have HE := Lib.hid hE
  obtain ⟨E1, hE1⟩ : ∃ E, heightsErr h = E := ⟨_, rfl⟩
  have HE1 := Lib.hid hE1
  by_cases h0 : E1 = 0
  rotate_left
  · have HEE := Lib.hid (show E1 = E by rw [← hE]; unfold leftErr; rw [hE1, if_pos h0])
    have H0 := Lib.hid (show E ≠ 0 by rw [← HEE.out]; exact h0)
    have e1 : (E1 != 0) = true := by simpa using h0
    clear h0 hE1 hl htl hx hy hE
    go_enter Try.func64, Try.ntmps64
    go_wp2_with fail
    refine (rheights_is A n c h E1 HE1.out _ HX.out).mono ?_
    rintro e w1 ⟨rfl, hb⟩
    have HB1 := Lib.hid (show Below w.heap.size w w1 from step_below hb (by repeat' (first | exact Below.refl _ _ | exact HB0.out | refine below_drewN ?_ _ | refine Below.drew ?_ | refine Below.alloc ?_ (by first | omega | (simp; done) | (simp; omega) | (simp [World.setCell]; omega)) _ | refine Below.setCell ?_ (by first | omega | (simp; done) | (simp; omega)) _ | assumption)))
    have hz1 := hb.size
    try simp only [World.size_alloc, World.drewN, World.drew] at hz1
    clear hb
    go_wp2
    go_ret2
    exact RemPost.bad H0.out (by rw [← HEE.out]; rfl) HB1.out
  subst h0
  by_cases h100 : 100 < m
  · have HEE := Lib.hid (show (8 : Int) = E by rw [← hE]; unfold leftErr; rw [hE1, if_neg (by simp), List.length_map, htl, if_pos h100])
    have H0 := Lib.hid (show E ≠ 0 by rw [← HEE.out]; decide)
    have e1 : decide ((100 : Int) < (m : Int)) = true := by simp; omega
    clear h100 hE1 hl htl hx hy hE
    go_enter Try.func64, Try.ntmps64
    go_wp2_with fail
    refine (rheights_is A n c h 0 HE1.out _ HX.out).mono ?_
    rintro e w1 ⟨rfl, hb⟩
    have HB1 := Lib.hid (show Below w.heap.size w w1 from step_below hb (by repeat' (first | exact Below.refl _ _ | exact HB0.out | refine below_drewN ?_ _ | refine Below.drew ?_ | refine Below.alloc ?_ (by first | omega | (simp; done) | (simp; omega) | (simp [World.setCell]; omega)) _ | refine Below.setCell ?_ (by first | omega | (simp; done) | (simp; omega)) _ | assumption)))
    have hz1 := hb.size
    try simp only [World.size_alloc, World.drewN, World.drew] at hz1
    clear hb
    go_wp2
    go_ret2
    exact RemPost.bad H0.out (by rw [← HEE.out]; rfl) HB1.out
  have e1 : decide ((100 : Int) < (m : Int)) = false := by simp; omega
  obtain ⟨n1, n2, hh⟩ := heights_ok hE1
  rw [hl] at n1 n2
  have HHH := Lib.hid hh
  have HE2 := Lib.hid (show firstErr (wearErr n) (t.map (·.xs)) = E by rw [← hE]; unfold leftErr; rw [hE1, if_neg (by simp), List.length_map, htl, if_neg h100, hl])
  clear hE1 hl htl hx hy hE hh
  go_enter Try.func64, Try.ntmps64
  go_wp2_with fail
  refine (rheights_is A n c h 0 HE1.out _ HX.out).mono ?_
  rintro e w1 ⟨rfl, hb⟩
  have HB1 := Lib.hid (show Below w.heap.size w w1 from step_below hb (by repeat' (first | exact Below.refl _ _ | exact HB0.out | refine below_drewN ?_ _ | refine Below.drew ?_ | refine Below.alloc ?_ (by first | omega | (simp; done) | (simp; omega) | (simp [World.setCell]; omega)) _ | refine Below.setCell ?_ (by first | omega | (simp; done) | (simp; omega)) _ | assumption)))
  have hz1 := hb.size
  try simp only [World.size_alloc, World.drewN, World.drew] at hz1
  clear hb
  go_wp2_with fail
  refine (copyints_any A n c w1.heap.size h _ ((HX.out.below HB1.out).more HB1.out.size) (Nat.le_refl _) (by omega)).mono ?_
  rintro e w2 ⟨A1, c1, rfl, hb, hr, ho⟩
  have HB2 := Lib.hid (show Below w.heap.size w w2 from step_below hb (by repeat' (first | exact Below.refl _ _ | exact HB1.out | refine below_drewN ?_ _ | refine Below.drew ?_ | refine Below.alloc ?_ (by first | omega | (simp; done) | (simp; omega) | (simp [World.setCell]; omega)) _ | refine Below.setCell ?_ (by first | omega | (simp; done) | (simp; omega)) _ | assumption)))
  have hz2 := hb.size
  try simp only [World.size_alloc, World.drewN, World.drew] at hz2
  clear hb
  have HR0 := Lib.hid (show Reads w2 w2.heap.size 1 A1 n ((tabL n (leftF h (t.map (·.xs)) 0)).map (.int .i64)) by
    rw [show tabL n (leftF h (t.map (·.xs)) 0) = h from by
      rw [tabL_congr (g := fun i => h.getD i 0) (fun i _ => leftF_zero _ _ _)]; exact (tabL_of HL.out).symm]
    exact hr)
  clear hr ho
  have hs2 := HB2.out.size
  go_wp2_with fail
  go_loopw [7, 8] (fun o v wr => ∃ (k : Nat) (A' : Option Addr) (c' : Nat), k ≤ m ∧ o = .slice A' n c' ∧ v = .int .i64 k ∧ Below w2.heap.size w2 wr ∧ Reads wr wr.heap.size 1 A' n ((tabL n (leftF h (t.map (·.xs)) k)).map (.int .i64)) ∧ ∀ q, q < k → wearErr n ((t.map (·.xs)).getD q []) = 0) (fun _ v _ => m - (intOf v).toNat)
  case atStart => exact ⟨0, A1, c1, by omega, rfl, rfl, Below.refl _ _, HR0.out, fun q hq => absurd hq (by omega)⟩
  case round =>
    obtain ⟨k, A2, c2, hk, rfl, rfl, hb, hr, hup⟩ := hrel
    obtain ⟨w3, hnm⟩ : ∃ z : World, z = wr := ⟨_, rfl⟩
    subst hnm
    have HBR := Lib.hid hb
    have HRK := Lib.hid hr
    have HUP := Lib.hid hup
    have hb3 := HB2.out.trans (hb.mono hs2)
    clear hb hr hup
    have HB3 := Lib.hid hb3
    clear hb3
    by_cases hlt : k < m
    rotate_left
    · obtain rfl : m = k := by omega
      have HEE := Lib.hid (show (0 : Int) = E by
        rw [← HE2.out]
        refine (firstErr_ok fun l hl => ?_).symm
        obtain ⟨q, hq⟩ := List.getElem?_of_mem hl
        have hq2 := (List.getElem?_eq_some_iff.1 hq).1
        rw [List.length_map, HTL.out] at hq2
        have := HUP.out q hq2
        rwa [getD_of hq] at this)
      have HR := Lib.hid (show Reads w3 w3.heap.size 1 A2 n ((tabL n (leftF h (t.map (·.xs)) (t.map (·.xs)).length)).map (.int .i64)) by rw [List.length_map, HTL.out]; exact HRK.out)
      go_wp2
      go_ret2
      exact RemPost.ok HEE.out rfl HB3.out HR.out
    have hkk : (k : Int) < (m : Int) := by omega
    obtain ⟨bt, ot, r, rfl, hbt, hrt, cr, ⟨hrc1, hrc2⟩, hrl, hrr⟩ := (HY.out.below HB3.out).at_ hlt
    have hwk : (t.map (·.xs)).getD k [] = r.xs := getD_of (by rw [List.getElem?_map, hrt]; rfl)
    have HWK := Lib.hid hwk
    have HRT := Lib.hid hrt
    have HRR := Lib.hid hrr
    obtain ⟨E2, hE2⟩ : ∃ E, wearErr n r.xs = E := ⟨_, rfl⟩
    have HEW := Lib.hid hE2
    obtain ⟨RA, RN, RC, xs⟩ := r
    simp only at cr hrc1 hrc2 hrl hE2
    clear hwk hrt hrr hE2
    go_wp2_with fail
    refine (rwear_is n RA RN RC xs E2 HEW.out _ (HRR.out.more HB3.out.size) (by omega)).mono ?_
    rintro e w' ⟨rfl, rfl⟩
    by_cases h0 : E2 = 0
    rotate_left
    · have HEE := Lib.hid (show E2 = E by
        rw [← HE2.out, firstErr_at (k := k) (p := xs) (by rw [List.getElem?_map, HRT.out]; rfl) (fun l hl => ?_) (by rw [HEW.out]; exact h0)]
        · exact HEW.out.symm
        · obtain ⟨q, hq⟩ := List.getElem?_of_mem hl
          have hq2 := (List.getElem?_eq_some_iff.1 hq).1
          rw [List.length_take] at hq2
          rw [List.getElem?_take_of_lt (by omega)] at hq
          have := HUP.out q (by omega)
          rwa [getD_of hq] at this)
      have H0 := Lib.hid (show E ≠ 0 by rw [← HEE.out]; exact h0)
      have e2 : (E2 != 0) = true := by simpa using h0
      clear h0
      go_wp2
      go_ret2
      exact RemPost.bad H0.out (by rw [← HEE.out]; rfl) HB3.out
    subst h0
    obtain ⟨hxl, hxs⟩ := wear_ok HEW.out
    obtain rfl : RN = n := hrl.symm.trans hxl
    have HXS := Lib.hid hxs
    clear hxs hxl hrl
    have HA3 := Lib.hid (show Below w3.heap.size w3 w3 from Below.refl _ _)
    go_wp2_with fail
    refine (rless_is A2 RN c2 RA RC (leftF h (t.map (·.xs)) k) xs 1 (by omega) (by omega) (by omega) (fun i _ => by have := leftF_in (n := RN) (i := i) HHH.out HUP.out (show k ≤ 100 by omega); omega) HXS.out _ HRK.out (HRR.out.more HB3.out.size)).mono ?_
    rintro e w4 ⟨A4, c4, rfl, hb, hr⟩
    have HB4 := Lib.hid (show Below w.heap.size w w4 from step_below hb (by repeat' (first | exact Below.refl _ _ | exact HB3.out | refine below_drewN ?_ _ | refine Below.drew ?_ | refine Below.alloc ?_ (by first | omega | (simp; done) | (simp; omega) | (simp [World.setCell]; omega)) _ | refine Below.setCell ?_ (by first | omega | (simp; done) | (simp; omega)) _ | assumption)))
    have HA4 := Lib.hid (step_below hb HA3.out)
    clear HA3
    have hz4 := hb.size
    try simp only [World.size_alloc, World.drewN, World.drew] at hz4
    clear hb
    rw [less_left HWK.out] at hr
    have HR4 := Lib.hid hr
    have HBZ := Lib.hid (HBR.out.trans (HA4.out.mono HBR.out.size))
    clear hr
    go_wp2
    go_roundw
    case rel => exact ⟨k + 1, A4, c4, by omega, rfl, by go_num, HBZ.out, HR4.out, fun q hq => by
      by_cases e : q = k
      · rw [e, HWK.out]; exact HEW.out
      · exact HUP.out q (by omega)⟩
    case measure => simp [intOf]; omega

end Go.Proofs.Ytnepjgnnppfibaa

end
