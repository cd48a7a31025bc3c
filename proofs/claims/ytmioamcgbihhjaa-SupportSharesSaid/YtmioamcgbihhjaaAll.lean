/- The contracts of all shares of a tree, and of Shares. -/
import Derived.Test.YtmioamcgbihhjaaShares
import Derived.Test.YtmioamcgbihhjaaOwn
namespace Go.Proofs.Ytmioamcgbihhjaa
open Go.RowKit

/-- The name of the top. -/
def topName (l : List Rk) : ByteArray := ((l[topOf l]?).map (·.name)).getD ByteArray.empty
def sharesOf (l : List Rk) : Option (List (Int × Int)) := sh l l.length (topName l) 1 1

def AllPost (l : List Rk) (base : Nat) (w : World) (e : Ending) (w' : World) : Prop :=
  Below w.heap.size w w' ∧ ∃ v', e = .returned (.tuple #[v', .bool (sharesOf l).isSome]) ∧ ∀ ys, sharesOf l = some ys → w'.ownsRow base 23 2 v' ys.length (cells2 ys)

theorem below_iff_block {B : Nat} {w w' : World} (h : Below B w w') {B' : Nat} (hB : B' ≤ B) : Below B' w w' := h.mono hB

set_option maxRecDepth 100000 in
set_option maxHeartbeats 1000000 in
theorem all_any (l : List Rk) (hfits : ∀ r ∈ l, r.Fits) (harms : ArmsOK l) (A : Option Addr) (n c N tb mb : Nat) (w : World) (hn : n ≤ 100000) (hx : Reads w N 5 A n (rkCells l)) (hN : N ≤ w.heap.size)
    (ht : Blk w tb 138 #[.slice A n c, .map (some mb), .int .i64 (topOf l : Int)]) (hm : MapIs Try.prog 9 w mb n (idxM l)) (htop : topOf l < l.length) (ps : List ByteArray) (hp : pts l l.length (topName l) = some ps) (hps : ps.length ≤ 1000000) :
    Calls Try.prog 103 #[.pointer (some ⟨tb, 0, none⟩)] w (AllPost l (w.heap.size + 1) w) := by
  have hln := hx.len5
  have hti : topOf l < n := by omega
  obtain ⟨xb, xo, r, rfl, hxb, hr, c0, c1, c2, c3, c4⟩ := hx.rk hti
  have hfit := hfits r (List.mem_of_getElem? hr)
  have hnm := hfit.name
  have htn : topName l = r.name := by unfold topName; rw [hr]; rfl
  have hsh : sharesOf l = sh l l.length r.name 1 1 := by unfold sharesOf; rw [htn]
  rw [htn] at hp
  obtain ⟨T, hT⟩ : ∃ T, topOf l = T := ⟨_, rfl⟩
  rw [hT] at ht hti hr c0
  have HP := Lib.hid hp
  have HSH := Lib.hid hsh
  have htb := ht.lt
  have hmb := hm.lt
  clear hp hsh htn c1 c2 c3 c4 htop
  have HX := Lib.hid hx
  clear hx hln hr hfit hT
  go_enter Try.func103, Try.ntmps103
  go_wp2
  refine Fx.regionW (fun W f w' => Blk w' tb 138 #[.slice (some ⟨xb, xo, none⟩) n c, .map (some mb), .int .i64 (T : Int)] ∧ w'.cell? ⟨xb, xo + T * 5, none⟩ = some (.string r.name) ∧ (f 13 = false → w' = W.drewN 1) ∧ (f 13 = true → Below w.heap.size w w' ∧ ∃ v', Blk w' w.heap.size 25 #[v'] ∧ ∀ ys, sh l l.length r.name 1 1 = some ys → w'.ownsRow (w.heap.size + 1) 23 2 v' ys.length (cells2 ys))) (by kernel_rfl) (by kernel_rfl) ?_ ?_
  · intro f hf0
    refine ⟨(ht.alloc _).drewN 1, ?_, fun _ => rfl, fun h => by rw [hf0 13] at h; cases h⟩
    exact (World.cell?_alloc_lt w _ ⟨xb, xo + T * 5, none⟩ (by simp; omega)).trans c0
  repeat (first
    | (refine Fx.skip_ (by rfl) (fun f w h => h) ?_; simp only [Act.put, List.setIfInBounds_toArray, List.set_cons_zero, List.set_cons_succ])
    | (refine Fx.val_ ?_ (by rfl) ?_ (fun f w h => h) ?_
       rotate_left
       · intro f w' hD hk
         obtain ⟨h1, h2, h3, h4⟩ := id hD
         have t0 : w'.cell? ⟨tb, 0, none⟩ = some (.slice (some ⟨xb, xo, none⟩) n c) := h1.cell 0
         have t2 : w'.cell? ⟨tb, 2, none⟩ = some (.int .i64 (T : Int)) := h1.cell 2
         clear hk hD h1 h3 h4
         go_simp
         try rfl
       simp only [Act.put, List.setIfInBounds_toArray, List.set_cons_zero, List.set_cons_succ]))
  have hW : ∀ W', W' = (w.alloc (.cells #[.slice none 0 0] 25)).drewN 1 → ShPre l (some ⟨xb, xo, none⟩) n c N tb mb w.heap.size (T : Int) (.slice none 0 0) [] W' := by
    rintro _ rfl
    exact ⟨((HX.out.alloc hN _).drewN 1), by omega, by omega, by omega, (ht.alloc _).drewN 1, (hm.alloc _).drewN 1, (Blk.at_ _ rfl _ _).drewN 1, World.ownsRow_nil _ _ _ _⟩
  have HW := Lib.hid hW
  clear hW
  have hAfter : ∀ W1 w2 v', W1 = (w.alloc (.cells #[.slice none 0 0] 25)).drewN 1 → Fr w.heap.size (.slice none 0 0) v' W1 w2 → Blk w2 w.heap.size 25 #[v'] → (∀ ys, sh l l.length r.name 1 1 = some ys → ShPre l (some ⟨xb, xo, none⟩) n c N tb mb w.heap.size (T : Int) v' ([] ++ ys) w2) →
      Blk w2 tb 138 #[.slice (some ⟨xb, xo, none⟩) n c, .map (some mb), .int .i64 (T : Int)] ∧ w2.cell? ⟨xb, xo + T * 5, none⟩ = some (.string r.name) ∧ Below w.heap.size w w2 ∧ (∃ v', Blk w2 w.heap.size 25 #[v'] ∧ ∀ ys, sh l l.length r.name 1 1 = some ys → w2.ownsRow (w.heap.size + 1) 23 2 v' ys.length (cells2 ys)) := by
    rintro W1 w2 v' hW1 hfr hcell hpre
    have hb0 : Below w.heap.size w W1 := by rw [hW1]; exact below_drewN ((Below.refl _ _).alloc (Nat.le_refl _) _) 1
    have hb : Below w.heap.size W1 w2 := hfr.below (Nat.le_refl _) (by rw [hW1]; simp) (fun g hg => by cases hg)
    have hb2 := hb0.trans hb
    refine ⟨ht.below hb2 htb, (hb2.cell (p := ⟨xb, xo + T * 5, none⟩) (by show xb < _; omega)).trans c0, hb2, v', hcell, fun ys hys => ?_⟩
    have := (hpre ys hys).own
    rwa [List.nil_append] at this
  have HAFTER := Lib.hid hAfter
  clear hAfter
  refine Fx.call_ (.bool (sh l l.length r.name 1 1).isSome) ?_ ?_ (by rfl) ?_ ?_ ?_
  rotate_left 2
  · intro w'
    go_simp
    refine ⟨?_, ?_⟩ <;> rfl
  · intro f w' hD hk
    exact (shares_any l hfits harms (some ⟨xb, xo, none⟩) n c N tb mb w.heap.size (T : Int) (by omega) l.length r.name ps 1 1 (.slice none 0 0) [] w' HP.out hnm ⟨by omega, by omega⟩ ⟨by omega, by omega⟩ (HW.out w' (hD.2.2.1 hk.1)) (by simp; omega)).mono fun e w'' ⟨v', hfr, he, hcell, hpre⟩ => ⟨he, (HAFTER.out w' w'' v' (hD.2.2.1 hk.1) hfr hcell hpre).1, (HAFTER.out w' w'' v' (hD.2.2.1 hk.1) hfr hcell hpre).2.1, fun h => by simp [Fx.add] at h, fun _ => (HAFTER.out w' w'' v' (hD.2.2.1 hk.1) hfr hcell hpre).2.2⟩
  simp only [Act.put, List.setIfInBounds_toArray, List.set_cons_zero, List.set_cons_succ]
  clear HAFTER HW
  repeat (first
    | (refine Fx.skip_ (by rfl) (fun f w h => h) ?_; simp only [Act.put, List.setIfInBounds_toArray, List.set_cons_zero, List.set_cons_succ])
    | (refine Fx.val_ ?_ (by rfl) ?_ (fun f w h => h) ?_
       rotate_left
       · intro f w' hD hk
         obtain ⟨h1, h2, h3, h4⟩ := id hD
         have t0 : w'.cell? ⟨tb, 0, none⟩ = some (.slice (some ⟨xb, xo, none⟩) n c) := h1.cell 0
         have t2 : w'.cell? ⟨tb, 2, none⟩ = some (.int .i64 (T : Int)) := h1.cell 2
         clear hk hD h1 h3 h4
         go_simp
         try rfl
       simp only [Act.put, List.setIfInBounds_toArray, List.set_cons_zero, List.set_cons_succ]))
  refine Fx.nil_ ?_
  intro f w1 hall hD
  have hf13 := hall 13 (by simp)
  obtain ⟨h1, h2, h3, h4⟩ := hD
  simp only [hf13, if_true] at *
  try clear hall
  obtain ⟨hbl, v', hcl, hown⟩ := h4 (by first | rfl | trivial)
  have cc : w1.cell? ⟨w.heap.size, 0, none⟩ = some v' := hcl.cell 0
  have HOWN := Lib.hid hown
  have HB := Lib.hid hbl
  clear h1 h2 h3 h4 hown hbl
  go_wp2_with fail
  go_ret2
  refine ⟨HB.out, v', ?_, fun ys hys => HOWN.out ys (HSH.out.symm.trans hys)⟩
  rw [HSH.out]
  rfl

theorem rk_zero_arms {ex : Bool} {r : Rk} (h : rkErr ex r = 0) : 1 ≤ r.al ∧ r.al ≤ 10000 ∧ 1 ≤ r.ar ∧ r.ar ≤ 10000 := by
  unfold rkErr at h
  split at h
  · exact absurd h (by decide)
  · split at h
    · exact absurd h (by decide)
    · split at h
      · exact absurd h (by decide)
      · split at h
        · exact absurd h (by decide)
        · rename_i hw
          have h1 : withinB r.al 1 10000 = true := by cases hx : withinB r.al 1 10000 <;> simp_all
          have h2 : withinB r.ar 1 10000 = true := by cases hx : withinB r.ar 1 10000 <;> simp_all
          rw [withinB_iff] at h1 h2
          exact ⟨h1.1, h1.2, h2.1, h2.2⟩

theorem err1_mem : ∀ (l seen : List Rk), err1 seen l = 0 → ∀ r ∈ l, ∃ ex, rkErr ex r = 0
  | [], _, _, r, hr => by cases hr
  | x :: l, seen, h, r, hr => by
    unfold err1 at h
    split at h
    · rename_i h0
      rcases List.mem_cons.1 hr with e | e
      · exact ⟨_, e ▸ h0⟩
      · exact err1_mem l _ h r e
    · rename_i h0
      exact absurd h h0

theorem open_zero {l : List Rk} (h : openErr l = 0) : l.length ≠ 0 ∧ l.length ≤ 40 ∧ err1 [] l = 0 ∧ (borneAll l).Nodup ∧ l.any (fun r => climbs l (l.length + 1) r.name) = false ∧ (topsOf l).length ≤ 1 := by
  unfold openErr at h
  by_cases h0 : l.length = 0
  · rw [if_pos h0] at h; exact absurd h (by decide)
  rw [if_neg h0] at h
  by_cases h1 : 40 < l.length
  · rw [if_pos h1] at h; exact absurd h (by decide)
  rw [if_neg h1] at h
  by_cases h2 : err1 [] l ≠ 0
  · rw [if_pos h2] at h; exact absurd h h2
  rw [if_neg h2] at h
  by_cases h3 : ¬ (borneAll l).Nodup
  · rw [if_pos h3] at h; exact absurd h (by decide)
  rw [if_neg h3] at h
  by_cases h4 : l.any (fun r => climbs l (l.length + 1) r.name) = true
  · rw [if_pos h4] at h; exact absurd h (by decide)
  rw [if_neg h4] at h
  by_cases h5 : 1 < (topsOf l).length
  · rw [if_pos h5] at h; exact absurd h (by decide)
  exact ⟨h0, by omega, Decidable.not_not.1 h2, Decidable.not_not.1 h3, by simpa using h4, by omega⟩

theorem arms_of {l : List Rk} (h : openErr l = 0) : ArmsOK l := by
  intro r hr
  obtain ⟨ex, he⟩ := err1_mem l [] (open_zero h).2.2.1 r hr
  exact rk_zero_arms he

theorem topOf_lt {l : List Rk} (h : l.length ≠ 0) : topOf l < l.length := by
  unfold topOf
  cases hx : (topsOf l).getLast? with
  | none => simpa using by omega
  | some k =>
    have hm := List.mem_of_getLast? hx
    unfold topsOf topsTo at hm
    have := (List.mem_filter.1 hm).1
    simpa using this

/-- What lies below the top, as the tree of a list has it. -/
def ptsOf (l : List Rk) : Option (List ByteArray) := pts l l.length (topName l)

def SharesPost (l : List Rk) (base : Nat) (w : World) (e : Ending) (w' : World) : Prop :=
  Below w.heap.size w w' ∧ (openErr l ≠ 0 → e = .returned (.tuple #[.slice none 0 0, .int .i64 (openErr l)])) ∧
  (openErr l = 0 → sharesOf l = none → e = .returned (.tuple #[.slice none 0 0, .int .i64 8])) ∧
  (openErr l = 0 → ∀ ys, sharesOf l = some ys → ∃ v, e = .returned (.tuple #[v, .int .i64 0]) ∧ w'.ownsRow base 23 2 v ys.length (cells2 ys))

theorem open_bad (l : List Rk) (hf : ∀ r ∈ l, r.Fits) (A : Option Addr) (n c N : Nat) (w : World) (hx : Reads w N 5 A n (rkCells l)) (hN : N ≤ w.heap.size) (hn : n ≤ 9223372036854775807) (h : openErr l ≠ 0) :
    Calls Try.prog 90 #[.slice A n c] w fun e w' => e = .returned (.tuple #[.pointer none, .int .i64 (openErr l)]) ∧ Below w.heap.size w w' :=
  (open_any l hf A n c N w hx hN hn).mono fun _ _ ⟨hb, h1, _⟩ => ⟨h1 h, hb⟩

theorem open_ok (l : List Rk) (hf : ∀ r ∈ l, r.Fits) (A : Option Addr) (n c N : Nat) (w : World) (hx : Reads w N 5 A n (rkCells l)) (hN : N ≤ w.heap.size) (hn : n ≤ 9223372036854775807) (h : openErr l = 0) :
    Calls Try.prog 90 #[.slice A n c] w fun e w' => e = .returned (.tuple #[.pointer (some ⟨w.heap.size + 1, 0, none⟩), .int .i64 0]) ∧ Below w.heap.size w w' ∧
      Blk w' (w.heap.size + 1) 138 #[.slice A n c, .map (some w.heap.size), .int .i64 (topOf l : Int)] ∧ MapIs Try.prog 9 w' w.heap.size n (idxM l) :=
  (open_any l hf A n c N w hx hN hn).mono fun _ _ ⟨hb, _, h1⟩ => ⟨(h1 h).1, hb, (h1 h).2⟩

theorem all_none (l : List Rk) (hfits : ∀ r ∈ l, r.Fits) (harms : ArmsOK l) (A : Option Addr) (n c N tb mb : Nat) (w : World) (hn : n ≤ 100000) (hx : Reads w N 5 A n (rkCells l)) (hN : N ≤ w.heap.size)
    (ht : Blk w tb 138 #[.slice A n c, .map (some mb), .int .i64 (topOf l : Int)]) (hm : MapIs Try.prog 9 w mb n (idxM l)) (htop : topOf l < l.length) (ps : List ByteArray) (hp : pts l l.length (topName l) = some ps) (hps : ps.length ≤ 1000000) (hs : sharesOf l = none) :
    Calls Try.prog 103 #[.pointer (some ⟨tb, 0, none⟩)] w fun e w' => Below w.heap.size w w' ∧ ∃ v', e = .returned (.tuple #[v', .bool false]) :=
  (all_any l hfits harms A n c N tb mb w hn hx hN ht hm htop ps hp hps).mono fun e w' ⟨hb, v', he, _⟩ => ⟨hb, v', by rw [he, hs]; rfl⟩

theorem all_some (l : List Rk) (hfits : ∀ r ∈ l, r.Fits) (harms : ArmsOK l) (A : Option Addr) (n c N tb mb : Nat) (w : World) (hn : n ≤ 100000) (hx : Reads w N 5 A n (rkCells l)) (hN : N ≤ w.heap.size)
    (ht : Blk w tb 138 #[.slice A n c, .map (some mb), .int .i64 (topOf l : Int)]) (hm : MapIs Try.prog 9 w mb n (idxM l)) (htop : topOf l < l.length) (ps : List ByteArray) (hp : pts l l.length (topName l) = some ps) (hps : ps.length ≤ 1000000) (ys : List (Int × Int)) (hs : sharesOf l = some ys) :
    Calls Try.prog 103 #[.pointer (some ⟨tb, 0, none⟩)] w fun e w' => Below w.heap.size w w' ∧ ∃ v', e = .returned (.tuple #[v', .bool true]) ∧ w'.ownsRow (w.heap.size + 1) 23 2 v' ys.length (cells2 ys) :=
  (all_any l hfits harms A n c N tb mb w hn hx hN ht hm htop ps hp hps).mono fun e w' ⟨hb, v', he, ho⟩ => ⟨hb, v', by rw [he, hs]; rfl, ho ys hs⟩

set_option maxHeartbeats 1000000 in
theorem Shares_any (l : List Rk) (hfits : ∀ r ∈ l, r.Fits) (A : Option Addr) (n c N : Nat) (w : World) (hn : n ≤ 100000) (hx : Reads w N 5 A n (rkCells l)) (hN : N ≤ w.heap.size)
    (hp : openErr l = 0 → ∃ ps, ptsOf l = some ps ∧ ps.length ≤ 1000000) :
    Calls Try.prog 60 #[.slice A n c] w (SharesPost l w.heap.size w) := by
  have HP := Lib.hid hp
  have HX := Lib.hid hx
  clear hp hx
  by_cases h0 : openErr l = 0
  · obtain ⟨ps, hps, hpl⟩ := HP.out h0
    obtain ⟨z0, -⟩ := open_zero h0
    have harms := arms_of h0
    have htop := topOf_lt z0
    have H0 := Lib.hid h0
    have HPS := Lib.hid hps
    have htop' := Lib.hid htop
    clear h0 hps z0 htop
    cases hs : sharesOf l with
    | none =>
      have HS := Lib.hid hs
      clear hs
      go_enter Try.func60, Try.ntmps60
      go_wp2_with (first | (go_at_call 90; refine (open_ok l hfits A n c N _ HX.out hN (by omega) H0.out).mono ?_; rintro e w1 ⟨rfl, hb, ht, hm⟩))
      have HB := Lib.hid hb
      have HT := Lib.hid ht
      have HM := Lib.hid hm
      have hsz := hb.size
      clear hb ht hm
      go_wp2_with (first | (go_at_call 103; refine (all_none l hfits harms A n c N _ _ w1 hn (HX.out.belowLe HB.out hN) (by omega) HT.out HM.out htop'.out ps HPS.out hpl HS.out).mono ?_; rintro e w2 ⟨hb2, v', rfl⟩))
      go_ret2
      exact ⟨HB.out.trans (hb2.mono (by omega)), fun h => absurd H0.out h, fun _ _ => rfl, fun _ ys h => by rw [HS.out] at h; cases h⟩
    | some ys =>
      have HS := Lib.hid hs
      clear hs
      go_enter Try.func60, Try.ntmps60
      go_wp2_with (first | (go_at_call 90; refine (open_ok l hfits A n c N _ HX.out hN (by omega) H0.out).mono ?_; rintro e w1 ⟨rfl, hb, ht, hm⟩))
      have HB := Lib.hid hb
      have HT := Lib.hid ht
      have HM := Lib.hid hm
      have hsz := hb.size
      clear hb ht hm
      go_wp2_with (first | (go_at_call 103; refine (all_some l hfits harms A n c N _ _ w1 hn (HX.out.belowLe HB.out hN) (by omega) HT.out HM.out htop'.out ps HPS.out hpl ys HS.out).mono ?_; rintro e w2 ⟨hb2, v', rfl, hown⟩))
      go_ret2
      refine ⟨HB.out.trans (hb2.mono (by omega)), fun h => absurd H0.out h, ?_, ?_⟩
      · intro _ h
        rw [HS.out] at h
        cases h
      intro _ zs h
      refine ⟨v', rfl, ?_⟩
      obtain rfl : ys = zs := Option.some.inj (HS.out.symm.trans h)
      exact own_base (by omega) hown
  · have H0 := Lib.hid h0
    have hne : (openErr l != 0) = true := by simpa using h0
    clear h0
    go_enter Try.func60, Try.ntmps60
    go_wp2_with (first | (go_at_call 90; refine (open_bad l hfits A n c N _ HX.out hN (by omega) H0.out).mono ?_; rintro e w1 ⟨rfl, hb⟩))
    go_ret2
    exact ⟨hb, fun _ => rfl, fun h => absurd h H0.out, fun h => absurd h H0.out⟩

end Go.Proofs.Ytmioamcgbihhjaa
