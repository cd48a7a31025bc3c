import Derived.Test.YtoiconebcmneiabQ5
import Derived.Test.YtoiconebcmneiabQ7
import Derived.Test.YtoiconebcmneiabQ6

section
/- The contracts of all shares of a tree, and of Shares. -/
namespace Go.Proofs.Ytoiconebcmneiab
open Go.RowKit

/-- The name of the top. -/
def topName (l : List Rk) : ByteArray := ((l[topOf l]?).map (·.name)).getD ByteArray.empty
def sharesOf (l : List Rk) : Option (List (Int × Int)) := sh l l.length (topName l) 1 1

def AllPost (l : List Rk) (base : Nat) (w : World) (e : Ending) (w' : World) : Prop :=
  Below w.heap.size w w' ∧ ∃ v', e = .returned (.tuple #[v', .bool (sharesOf l).isSome]) ∧ ∀ ys, sharesOf l = some ys → w'.ownsRow base 53 2 v' ys.length (cells2 ys)

theorem below_iff_block {B : Nat} {w w' : World} (h : Below B w w') {B' : Nat} (hB : B' ≤ B) : Below B' w w' := h.mono hB

set_option maxRecDepth 100000 in
set_option maxHeartbeats 1000000 in
theorem all_any (l : List Rk) (hfits : ∀ r ∈ l, r.Fits) (harms : ArmsOK l) (A : Option Addr) (n c N tb mb : Nat) (w : World) (hn : n ≤ 100000) (hx : Reads w N 5 A n (rkCells l)) (hN : N ≤ w.heap.size)
    (ht : Blk w tb 131 #[.slice A n c, .map (some mb), .int .i64 (topOf l : Int)]) (hm : MapIs Try.prog 9 w mb n (idxM l)) (htop : topOf l < l.length) (ps : List ByteArray) (hp : pts l l.length (topName l) = some ps) (hps : ps.length ≤ 1000000) :
    Calls Try.prog 47 #[.pointer (some ⟨tb, 0, none⟩)] w (AllPost l (w.heap.size + 1) w) := by
  have hln := hx.len5
  have hti : topOf l < n := by omega
  obtain ⟨xb, xo, r, rfl, hxb, hr, c0, c1, c2, c3, c4⟩ := hx.rk hti
  have hfit := hfits r (List.mem_of_getElem? hr)
  have hnm := hfit.name
  have htn : topName l = r.name := by unfold topName; rw [hr]; rfl
  have hsh : sharesOf l = sh l l.length r.name 1 1 := by unfold sharesOf; rw [htn]
  rw [htn] at hp
  obtain ⟨T, hT⟩ : ∃ T, topOf l = T := ⟨_, rfl⟩
  rw [hT] at ht hti hr c0
  have HP := Lib.hid hp
  have HSH := Lib.hid hsh
  have htb := ht.lt
  have hmb := hm.lt
  clear hp hsh htn c1 c2 c3 c4 htop
  have HX := Lib.hid hx
  clear hx hln hr hfit hT
  go_enter Try.func47, Try.ntmps47
  go_wp2
  refine Fx.regionW (fun W f w' => Blk w' tb 131 #[.slice (some ⟨xb, xo, none⟩) n c, .map (some mb), .int .i64 (T : Int)] ∧ w'.cell? ⟨xb, xo + T * 5, none⟩ = some (.string r.name) ∧ (f 13 = false → w' = W.drewN 1) ∧ (f 13 = true → Below w.heap.size w w' ∧ ∃ v', Blk w' w.heap.size 49 #[v'] ∧ ∀ ys, sh l l.length r.name 1 1 = some ys → w'.ownsRow (w.heap.size + 1) 53 2 v' ys.length (cells2 ys))) (by kernel_rfl) (by kernel_rfl) ?_ ?_
  · intro f hf0
    refine ⟨(ht.alloc _).drewN 1, ?_, fun _ => rfl, fun h => by rw [hf0 13] at h; cases h⟩
    exact (World.cell?_alloc_lt w _ ⟨xb, xo + T * 5, none⟩ (by simp; omega)).trans c0
  repeat (first
    | (refine Fx.skip_ (by rfl) (fun f w h => h) ?_; simp only [Act.put, List.setIfInBounds_toArray, List.set_cons_zero, List.set_cons_succ])
    | (refine Fx.val_ ?_ (by rfl) ?_ (fun f w h => h) ?_
       rotate_left
       · intro f w' hD hk
         obtain ⟨h1, h2, h3, h4⟩ := id hD
         have t0 : w'.cell? ⟨tb, 0, none⟩ = some (.slice (some ⟨xb, xo, none⟩) n c) := h1.cell 0
         have t2 : w'.cell? ⟨tb, 2, none⟩ = some (.int .i64 (T : Int)) := h1.cell 2
         clear hk hD h1 h3 h4
         go_simp
         try rfl
       simp only [Act.put, List.setIfInBounds_toArray, List.set_cons_zero, List.set_cons_succ]))
  have hW : ∀ W', W' = (w.alloc (.cells #[.slice none 0 0] 49)).drewN 1 → ShPre l (some ⟨xb, xo, none⟩) n c N tb mb w.heap.size (T : Int) (.slice none 0 0) [] W' := by
    rintro _ rfl
    exact ⟨((HX.out.alloc hN _).drewN 1), by omega, by omega, by omega, (ht.alloc _).drewN 1, (hm.alloc _).drewN 1, (Blk.at_ _ rfl _ _).drewN 1, World.ownsRow_nil _ _ _ _⟩
  have HW := Lib.hid hW
  clear hW
  have hAfter : ∀ W1 w2 v', W1 = (w.alloc (.cells #[.slice none 0 0] 49)).drewN 1 → Fr w.heap.size (.slice none 0 0) v' W1 w2 → Blk w2 w.heap.size 49 #[v'] → (∀ ys, sh l l.length r.name 1 1 = some ys → ShPre l (some ⟨xb, xo, none⟩) n c N tb mb w.heap.size (T : Int) v' ([] ++ ys) w2) →
      Blk w2 tb 131 #[.slice (some ⟨xb, xo, none⟩) n c, .map (some mb), .int .i64 (T : Int)] ∧ w2.cell? ⟨xb, xo + T * 5, none⟩ = some (.string r.name) ∧ Below w.heap.size w w2 ∧ (∃ v', Blk w2 w.heap.size 49 #[v'] ∧ ∀ ys, sh l l.length r.name 1 1 = some ys → w2.ownsRow (w.heap.size + 1) 53 2 v' ys.length (cells2 ys)) := by
    rintro W1 w2 v' hW1 hfr hcell hpre
    have hb0 : Below w.heap.size w W1 := by rw [hW1]; exact below_drewN ((Below.refl _ _).alloc (Nat.le_refl _) _) 1
    have hb : Below w.heap.size W1 w2 := hfr.below (Nat.le_refl _) (by rw [hW1]; simp) (fun g hg => by cases hg)
    have hb2 := hb0.trans hb
    refine ⟨ht.below hb2 htb, (hb2.cell (p := ⟨xb, xo + T * 5, none⟩) (by show xb < _; omega)).trans c0, hb2, v', hcell, fun ys hys => ?_⟩
    have := (hpre ys hys).own
    rwa [List.nil_append] at this
  have HAFTER := Lib.hid hAfter
  clear hAfter
  refine Fx.call_ (.bool (sh l l.length r.name 1 1).isSome) ?_ ?_ (by rfl) ?_ ?_ ?_
  rotate_left 2
  · intro w'
    go_simp
    refine ⟨?_, ?_⟩ <;> rfl
  · intro f w' hD hk
    exact (shares_any l hfits harms (some ⟨xb, xo, none⟩) n c N tb mb w.heap.size (T : Int) (by omega) l.length r.name ps 1 1 (.slice none 0 0) [] w' HP.out hnm ⟨by omega, by omega⟩ ⟨by omega, by omega⟩ (HW.out w' (hD.2.2.1 hk.1)) (by simp; omega)).mono fun e w'' ⟨v', hfr, he, hcell, hpre⟩ => ⟨he, (HAFTER.out w' w'' v' (hD.2.2.1 hk.1) hfr hcell hpre).1, (HAFTER.out w' w'' v' (hD.2.2.1 hk.1) hfr hcell hpre).2.1, fun h => by simp [Fx.add] at h, fun _ => (HAFTER.out w' w'' v' (hD.2.2.1 hk.1) hfr hcell hpre).2.2⟩
  simp only [Act.put, List.setIfInBounds_toArray, List.set_cons_zero, List.set_cons_succ]
  clear HAFTER HW
  repeat (first
    | (refine Fx.skip_ (by rfl) (fun f w h => h) ?_; simp only [Act.put, List.setIfInBounds_toArray, List.set_cons_zero, List.set_cons_succ])
    | (refine Fx.val_ ?_ (by rfl) ?_ (fun f w h => h) ?_
       rotate_left
       · intro f w' hD hk
         obtain ⟨h1, h2, h3, h4⟩ := id hD
         have t0 : w'.cell? ⟨tb, 0, none⟩ = some (.slice (some ⟨xb, xo, none⟩) n c) := h1.cell 0
         have t2 : w'.cell? ⟨tb, 2, none⟩ = some (.int .i64 (T : Int)) := h1.cell 2
         clear hk hD h1 h3 h4
         go_simp
         try rfl
       simp only [Act.put, List.setIfInBounds_toArray, List.set_cons_zero, List.set_cons_succ]))
  refine Fx.nil_ ?_
  intro f w1 hall hD
  have hf13 := hall 13 (by simp)
  obtain ⟨h1, h2, h3, h4⟩ := hD
  simp only [hf13, if_true] at *
  try clear hall
  obtain ⟨hbl, v', hcl, hown⟩ := h4 (by first | rfl | trivial)
  have cc : w1.cell? ⟨w.heap.size, 0, none⟩ = some v' := hcl.cell 0
  have HOWN := Lib.hid hown
  have HB := Lib.hid hbl
  clear h1 h2 h3 h4 hown hbl
  go_wp2_with fail
  go_ret2
  refine ⟨HB.out, v', ?_, fun ys hys => HOWN.out ys (HSH.out.symm.trans hys)⟩
  rw [HSH.out]
  rfl

theorem rk_zero_arms {ex : Bool} {r : Rk} (h : rkErr ex r = 0) : 1 ≤ r.al ∧ r.al ≤ 10000 ∧ 1 ≤ r.ar ∧ r.ar ≤ 10000 := by
  unfold rkErr at h
  split at h
  · exact absurd h (by decide)
  · split at h
    · exact absurd h (by decide)
    · split at h
      · exact absurd h (by decide)
      · split at h
        · exact absurd h (by decide)
        · rename_i hw
          have h1 : withinB r.al 1 10000 = true := by cases hx : withinB r.al 1 10000 <;> simp_all
          have h2 : withinB r.ar 1 10000 = true := by cases hx : withinB r.ar 1 10000 <;> simp_all
          rw [withinB_iff] at h1 h2
          exact ⟨h1.1, h1.2, h2.1, h2.2⟩

theorem err1_mem : ∀ (l seen : List Rk), err1 seen l = 0 → ∀ r ∈ l, ∃ ex, rkErr ex r = 0
  | [], _, _, r, hr => by cases hr
  | x :: l, seen, h, r, hr => by
    unfold err1 at h
    split at h
    · rename_i h0
      rcases List.mem_cons.1 hr with e | e
      · exact ⟨_, e ▸ h0⟩
      · exact err1_mem l _ h r e
    · rename_i h0
      exact absurd h h0

theorem open_zero {l : List Rk} (h : openErr l = 0) : l.length ≠ 0 ∧ l.length ≤ 40 ∧ err1 [] l = 0 ∧ (borneAll l).Nodup ∧ l.any (fun r => climbs l (l.length + 1) r.name) = false ∧ (topsOf l).length ≤ 1 := by
  unfold openErr at h
  by_cases h0 : l.length = 0
  · rw [if_pos h0] at h; exact absurd h (by decide)
  rw [if_neg h0] at h
  by_cases h1 : 40 < l.length
  · rw [if_pos h1] at h; exact absurd h (by decide)
  rw [if_neg h1] at h
  by_cases h2 : err1 [] l ≠ 0
  · rw [if_pos h2] at h; exact absurd h h2
  rw [if_neg h2] at h
  by_cases h3 : ¬ (borneAll l).Nodup
  · rw [if_pos h3] at h; exact absurd h (by decide)
  rw [if_neg h3] at h
  by_cases h4 : l.any (fun r => climbs l (l.length + 1) r.name) = true
  · rw [if_pos h4] at h; exact absurd h (by decide)
  rw [if_neg h4] at h
  by_cases h5 : 1 < (topsOf l).length
  · rw [if_pos h5] at h; exact absurd h (by decide)
  exact ⟨h0, by omega, Decidable.not_not.1 h2, Decidable.not_not.1 h3, by simpa using h4, by omega⟩

theorem arms_of {l : List Rk} (h : openErr l = 0) : ArmsOK l := by
  intro r hr
  obtain ⟨ex, he⟩ := err1_mem l [] (open_zero h).2.2.1 r hr
  exact rk_zero_arms he

theorem topOf_lt {l : List Rk} (h : l.length ≠ 0) : topOf l < l.length := by
  unfold topOf
  cases hx : (topsOf l).getLast? with
  | none => simpa using by omega
  | some k =>
    have hm := List.mem_of_getLast? hx
    unfold topsOf topsTo at hm
    have := (List.mem_filter.1 hm).1
    simpa using this

/-- What lies below the top, as the tree of a list has it. -/
def ptsOf (l : List Rk) : Option (List ByteArray) := pts l l.length (topName l)

def SharesPost (l : List Rk) (base : Nat) (w : World) (e : Ending) (w' : World) : Prop :=
  Below w.heap.size w w' ∧ (openErr l ≠ 0 → e = .returned (.tuple #[.slice none 0 0, .int .i64 (openErr l)])) ∧
  (openErr l = 0 → sharesOf l = none → e = .returned (.tuple #[.slice none 0 0, .int .i64 8])) ∧
  (openErr l = 0 → ∀ ys, sharesOf l = some ys → ∃ v, e = .returned (.tuple #[v, .int .i64 0]) ∧ w'.ownsRow base 53 2 v ys.length (cells2 ys))

theorem open_bad (l : List Rk) (hf : ∀ r ∈ l, r.Fits) (A : Option Addr) (n c N : Nat) (w : World) (hx : Reads w N 5 A n (rkCells l)) (hN : N ≤ w.heap.size) (hn : n ≤ 9223372036854775807) (h : openErr l ≠ 0) :
    Calls Try.prog 66 #[.slice A n c] w fun e w' => e = .returned (.tuple #[.pointer none, .int .i64 (openErr l)]) ∧ Below w.heap.size w w' :=
  (open_any l hf A n c N w hx hN hn).mono fun _ _ ⟨hb, h1, _⟩ => ⟨h1 h, hb⟩

theorem open_ok (l : List Rk) (hf : ∀ r ∈ l, r.Fits) (A : Option Addr) (n c N : Nat) (w : World) (hx : Reads w N 5 A n (rkCells l)) (hN : N ≤ w.heap.size) (hn : n ≤ 9223372036854775807) (h : openErr l = 0) :
    Calls Try.prog 66 #[.slice A n c] w fun e w' => e = .returned (.tuple #[.pointer (some ⟨w.heap.size + 1, 0, none⟩), .int .i64 0]) ∧ Below w.heap.size w w' ∧
      Blk w' (w.heap.size + 1) 131 #[.slice A n c, .map (some w.heap.size), .int .i64 (topOf l : Int)] ∧ MapIs Try.prog 9 w' w.heap.size n (idxM l) :=
  (open_any l hf A n c N w hx hN hn).mono fun _ _ ⟨hb, _, h1⟩ => ⟨(h1 h).1, hb, (h1 h).2⟩

theorem all_none (l : List Rk) (hfits : ∀ r ∈ l, r.Fits) (harms : ArmsOK l) (A : Option Addr) (n c N tb mb : Nat) (w : World) (hn : n ≤ 100000) (hx : Reads w N 5 A n (rkCells l)) (hN : N ≤ w.heap.size)
    (ht : Blk w tb 131 #[.slice A n c, .map (some mb), .int .i64 (topOf l : Int)]) (hm : MapIs Try.prog 9 w mb n (idxM l)) (htop : topOf l < l.length) (ps : List ByteArray) (hp : pts l l.length (topName l) = some ps) (hps : ps.length ≤ 1000000) (hs : sharesOf l = none) :
    Calls Try.prog 47 #[.pointer (some ⟨tb, 0, none⟩)] w fun e w' => Below w.heap.size w w' ∧ ∃ v', e = .returned (.tuple #[v', .bool false]) :=
  (all_any l hfits harms A n c N tb mb w hn hx hN ht hm htop ps hp hps).mono fun e w' ⟨hb, v', he, _⟩ => ⟨hb, v', by rw [he, hs]; rfl⟩

theorem all_some (l : List Rk) (hfits : ∀ r ∈ l, r.Fits) (harms : ArmsOK l) (A : Option Addr) (n c N tb mb : Nat) (w : World) (hn : n ≤ 100000) (hx : Reads w N 5 A n (rkCells l)) (hN : N ≤ w.heap.size)
    (ht : Blk w tb 131 #[.slice A n c, .map (some mb), .int .i64 (topOf l : Int)]) (hm : MapIs Try.prog 9 w mb n (idxM l)) (htop : topOf l < l.length) (ps : List ByteArray) (hp : pts l l.length (topName l) = some ps) (hps : ps.length ≤ 1000000) (ys : List (Int × Int)) (hs : sharesOf l = some ys) :
    Calls Try.prog 47 #[.pointer (some ⟨tb, 0, none⟩)] w fun e w' => Below w.heap.size w w' ∧ ∃ v', e = .returned (.tuple #[v', .bool true]) ∧ w'.ownsRow (w.heap.size + 1) 53 2 v' ys.length (cells2 ys) :=
  (all_any l hfits harms A n c N tb mb w hn hx hN ht hm htop ps hp hps).mono fun e w' ⟨hb, v', he, ho⟩ => ⟨hb, v', by rw [he, hs]; rfl, ho ys hs⟩

set_option maxHeartbeats 1000000 in
theorem Shares_any (l : List Rk) (hfits : ∀ r ∈ l, r.Fits) (A : Option Addr) (n c N : Nat) (w : World) (hn : n ≤ 100000) (hx : Reads w N 5 A n (rkCells l)) (hN : N ≤ w.heap.size)
    (hp : openErr l = 0 → ∃ ps, ptsOf l = some ps ∧ ps.length ≤ 1000000) :
    Calls Try.prog 24 #[.slice A n c] w (SharesPost l w.heap.size w) := by
  have HP := Lib.hid hp
  have HX := Lib.hid hx
  clear hp hx
  by_cases h0 : openErr l = 0
  · obtain ⟨ps, hps, hpl⟩ := HP.out h0
    obtain ⟨z0, -⟩ := open_zero h0
    have harms := arms_of h0
    have htop := topOf_lt z0
    have H0 := Lib.hid h0
    have HPS := Lib.hid hps
    have htop' := Lib.hid htop
    clear h0 hps z0 htop
    cases hs : sharesOf l with
    | none =>
      have HS := Lib.hid hs
      clear hs
      go_enter Try.func24, Try.ntmps24
      go_wp2_with (first | (go_at_call 66; refine (open_ok l hfits A n c N _ HX.out hN (by omega) H0.out).mono ?_; rintro e w1 ⟨rfl, hb, ht, hm⟩))
      have HB := Lib.hid hb
      have HT := Lib.hid ht
      have HM := Lib.hid hm
      have hsz := hb.size
      clear hb ht hm
      go_wp2_with (first | (go_at_call 47; refine (all_none l hfits harms A n c N _ _ w1 hn (HX.out.belowLe HB.out hN) (by omega) HT.out HM.out htop'.out ps HPS.out hpl HS.out).mono ?_; rintro e w2 ⟨hb2, v', rfl⟩))
      go_ret2
      exact ⟨HB.out.trans (hb2.mono (by omega)), fun h => absurd H0.out h, fun _ _ => rfl, fun _ ys h => by rw [HS.out] at h; cases h⟩
    | some ys =>
      have HS := Lib.hid hs
      clear hs
      go_enter Try.func24, Try.ntmps24
      go_wp2_with (first | (go_at_call 66; refine (open_ok l hfits A n c N _ HX.out hN (by omega) H0.out).mono ?_; rintro e w1 ⟨rfl, hb, ht, hm⟩))
      have HB := Lib.hid hb
      have HT := Lib.hid ht
      have HM := Lib.hid hm
      have hsz := hb.size
      clear hb ht hm
      go_wp2_with (first | (go_at_call 47; refine (all_some l hfits harms A n c N _ _ w1 hn (HX.out.belowLe HB.out hN) (by omega) HT.out HM.out htop'.out ps HPS.out hpl ys HS.out).mono ?_; rintro e w2 ⟨hb2, v', rfl, hown⟩))
      go_ret2
      refine ⟨HB.out.trans (hb2.mono (by omega)), fun h => absurd H0.out h, ?_, ?_⟩
      · intro _ h
        rw [HS.out] at h
        cases h
      intro _ zs h
      refine ⟨v', rfl, ?_⟩
      obtain rfl : ys = zs := Option.some.inj (HS.out.symm.trans h)
      exact own_base (by omega) hown
  · have H0 := Lib.hid h0
    have hne : (openErr l != 0) = true := by simpa using h0
    clear h0
    go_enter Try.func24, Try.ntmps24
    go_wp2_with (first | (go_at_call 66; refine (open_bad l hfits A n c N _ HX.out hN (by omega) H0.out).mono ?_; rintro e w1 ⟨rfl, hb⟩))
    go_ret2
    exact ⟨hb, fun _ => rfl, fun h => absurd h H0.out, fun h => absurd h H0.out⟩

end Go.Proofs.Ytoiconebcmneiab

end

section
/- The numbers of the examples with which each statement begins. -/
namespace Go.Proofs.Ytoiconebcmneiab
open Go.RowKit

def treeL : List Rk := [⟨⟨#[116, 111, 112]⟩, ⟨#[97]⟩, ⟨#[98]⟩, 1, 2⟩, ⟨⟨#[97]⟩, ⟨#[112]⟩, ⟨#[113]⟩, 1, 1⟩, ⟨⟨#[98]⟩, ⟨#[114]⟩, ⟨#[115]⟩, 3, 1⟩]

theorem treeL_open : openErr treeL = 0 := by kernel_rfl
theorem treeL_pts : ptsOf treeL = some [⟨#[112]⟩, ⟨#[113]⟩, ⟨#[114]⟩, ⟨#[115]⟩] := by kernel_rfl
theorem treeL_shares : sharesOf treeL = some [(1, 3), (1, 3), (1, 12), (1, 4)] := by kernel_rfl
theorem awake_returns : returnsF [(10, 40), (20, 30)] = (12, 0) := by kernel_rfl
theorem aw_row0 : rowF 355 113 1 100 (1 + ((0 : Nat) : Int)) (1, 1) = (1, 1) := by kernel_rfl
theorem aw_row1 : rowF 355 113 1 100 (1 + ((1 : Nat) : Int)) (1, 1) = (2, 1) := by kernel_rfl
theorem aw_row2 : rowF 355 113 1 100 (1 + ((2 : Nat) : Int)) (2, 1) = (3, 1) := by kernel_rfl
theorem aw_row3 : rowF 355 113 1 100 (1 + ((3 : Nat) : Int)) (3, 1) = (3, 1) := by kernel_rfl
theorem aw_row4 : rowF 355 113 1 100 (1 + ((4 : Nat) : Int)) (3, 1) = (3, 1) := by kernel_rfl
theorem aw_row5 : rowF 355 113 1 100 (1 + ((5 : Nat) : Int)) (3, 1) = (3, 1) := by kernel_rfl
theorem aw_row6 : rowF 355 113 1 100 (1 + ((6 : Nat) : Int)) (3, 1) = (3, 1) := by kernel_rfl
theorem aw_row7 : rowF 355 113 1 100 (1 + ((7 : Nat) : Int)) (3, 1) = (3, 1) := by kernel_rfl
theorem aw_row8 : rowF 355 113 1 100 (1 + ((8 : Nat) : Int)) (3, 1) = (3, 1) := by kernel_rfl
theorem aw_row9 : rowF 355 113 1 100 (1 + ((9 : Nat) : Int)) (3, 1) = (3, 1) := by kernel_rfl
theorem aw_row10 : rowF 355 113 1 100 (1 + ((10 : Nat) : Int)) (3, 1) = (3, 1) := by kernel_rfl
theorem aw_row11 : rowF 355 113 1 100 (1 + ((11 : Nat) : Int)) (3, 1) = (3, 1) := by kernel_rfl
theorem aw_row12 : rowF 355 113 1 100 (1 + ((12 : Nat) : Int)) (3, 1) = (13, 4) := by kernel_rfl
theorem aw_row13 : rowF 355 113 1 100 (1 + ((13 : Nat) : Int)) (13, 4) = (13, 4) := by kernel_rfl
theorem aw_row14 : rowF 355 113 1 100 (1 + ((14 : Nat) : Int)) (13, 4) = (13, 4) := by kernel_rfl
theorem aw_row15 : rowF 355 113 1 100 (1 + ((15 : Nat) : Int)) (13, 4) = (16, 5) := by kernel_rfl
theorem aw_row16 : rowF 355 113 1 100 (1 + ((16 : Nat) : Int)) (16, 5) = (16, 5) := by kernel_rfl
theorem aw_row17 : rowF 355 113 1 100 (1 + ((17 : Nat) : Int)) (16, 5) = (16, 5) := by kernel_rfl
theorem aw_row18 : rowF 355 113 1 100 (1 + ((18 : Nat) : Int)) (16, 5) = (19, 6) := by kernel_rfl
theorem aw_row19 : rowF 355 113 1 100 (1 + ((19 : Nat) : Int)) (19, 6) = (19, 6) := by kernel_rfl
theorem aw_row20 : rowF 355 113 1 100 (1 + ((20 : Nat) : Int)) (19, 6) = (19, 6) := by kernel_rfl
theorem aw_row21 : rowF 355 113 1 100 (1 + ((21 : Nat) : Int)) (19, 6) = (22, 7) := by kernel_rfl
theorem aw_row22 : rowF 355 113 1 100 (1 + ((22 : Nat) : Int)) (22, 7) = (22, 7) := by kernel_rfl
theorem aw_row23 : rowF 355 113 1 100 (1 + ((23 : Nat) : Int)) (22, 7) = (22, 7) := by kernel_rfl
theorem aw_row24 : rowF 355 113 1 100 (1 + ((24 : Nat) : Int)) (22, 7) = (22, 7) := by kernel_rfl
theorem aw_row25 : rowF 355 113 1 100 (1 + ((25 : Nat) : Int)) (22, 7) = (22, 7) := by kernel_rfl
theorem aw_row26 : rowF 355 113 1 100 (1 + ((26 : Nat) : Int)) (22, 7) = (22, 7) := by kernel_rfl
theorem aw_row27 : rowF 355 113 1 100 (1 + ((27 : Nat) : Int)) (22, 7) = (22, 7) := by kernel_rfl
theorem aw_row28 : rowF 355 113 1 100 (1 + ((28 : Nat) : Int)) (22, 7) = (22, 7) := by kernel_rfl
theorem aw_row29 : rowF 355 113 1 100 (1 + ((29 : Nat) : Int)) (22, 7) = (22, 7) := by kernel_rfl
theorem aw_row30 : rowF 355 113 1 100 (1 + ((30 : Nat) : Int)) (22, 7) = (22, 7) := by kernel_rfl
theorem aw_row31 : rowF 355 113 1 100 (1 + ((31 : Nat) : Int)) (22, 7) = (22, 7) := by kernel_rfl
theorem aw_row32 : rowF 355 113 1 100 (1 + ((32 : Nat) : Int)) (22, 7) = (22, 7) := by kernel_rfl
theorem aw_row33 : rowF 355 113 1 100 (1 + ((33 : Nat) : Int)) (22, 7) = (22, 7) := by kernel_rfl
theorem aw_row34 : rowF 355 113 1 100 (1 + ((34 : Nat) : Int)) (22, 7) = (22, 7) := by kernel_rfl
theorem aw_row35 : rowF 355 113 1 100 (1 + ((35 : Nat) : Int)) (22, 7) = (22, 7) := by kernel_rfl
theorem aw_row36 : rowF 355 113 1 100 (1 + ((36 : Nat) : Int)) (22, 7) = (22, 7) := by kernel_rfl
theorem aw_row37 : rowF 355 113 1 100 (1 + ((37 : Nat) : Int)) (22, 7) = (22, 7) := by kernel_rfl
theorem aw_row38 : rowF 355 113 1 100 (1 + ((38 : Nat) : Int)) (22, 7) = (22, 7) := by kernel_rfl
theorem aw_row39 : rowF 355 113 1 100 (1 + ((39 : Nat) : Int)) (22, 7) = (22, 7) := by kernel_rfl
theorem aw_row40 : rowF 355 113 1 100 (1 + ((40 : Nat) : Int)) (22, 7) = (22, 7) := by kernel_rfl
theorem aw_row41 : rowF 355 113 1 100 (1 + ((41 : Nat) : Int)) (22, 7) = (22, 7) := by kernel_rfl
theorem aw_row42 : rowF 355 113 1 100 (1 + ((42 : Nat) : Int)) (22, 7) = (22, 7) := by kernel_rfl
theorem aw_row43 : rowF 355 113 1 100 (1 + ((43 : Nat) : Int)) (22, 7) = (22, 7) := by kernel_rfl
theorem aw_row44 : rowF 355 113 1 100 (1 + ((44 : Nat) : Int)) (22, 7) = (22, 7) := by kernel_rfl
theorem aw_row45 : rowF 355 113 1 100 (1 + ((45 : Nat) : Int)) (22, 7) = (22, 7) := by kernel_rfl
theorem aw_row46 : rowF 355 113 1 100 (1 + ((46 : Nat) : Int)) (22, 7) = (22, 7) := by kernel_rfl
theorem aw_row47 : rowF 355 113 1 100 (1 + ((47 : Nat) : Int)) (22, 7) = (22, 7) := by kernel_rfl
theorem aw_row48 : rowF 355 113 1 100 (1 + ((48 : Nat) : Int)) (22, 7) = (22, 7) := by kernel_rfl
theorem aw_row49 : rowF 355 113 1 100 (1 + ((49 : Nat) : Int)) (22, 7) = (22, 7) := by kernel_rfl
theorem aw_row50 : rowF 355 113 1 100 (1 + ((50 : Nat) : Int)) (22, 7) = (22, 7) := by kernel_rfl
theorem aw_row51 : rowF 355 113 1 100 (1 + ((51 : Nat) : Int)) (22, 7) = (22, 7) := by kernel_rfl
theorem aw_row52 : rowF 355 113 1 100 (1 + ((52 : Nat) : Int)) (22, 7) = (22, 7) := by kernel_rfl
theorem aw_row53 : rowF 355 113 1 100 (1 + ((53 : Nat) : Int)) (22, 7) = (22, 7) := by kernel_rfl
theorem aw_row54 : rowF 355 113 1 100 (1 + ((54 : Nat) : Int)) (22, 7) = (22, 7) := by kernel_rfl
theorem aw_row55 : rowF 355 113 1 100 (1 + ((55 : Nat) : Int)) (22, 7) = (22, 7) := by kernel_rfl
theorem aw_row56 : rowF 355 113 1 100 (1 + ((56 : Nat) : Int)) (22, 7) = (22, 7) := by kernel_rfl
theorem aw_row57 : rowF 355 113 1 100 (1 + ((57 : Nat) : Int)) (22, 7) = (22, 7) := by kernel_rfl
theorem aw_row58 : rowF 355 113 1 100 (1 + ((58 : Nat) : Int)) (22, 7) = (22, 7) := by kernel_rfl
theorem aw_row59 : rowF 355 113 1 100 (1 + ((59 : Nat) : Int)) (22, 7) = (22, 7) := by kernel_rfl
theorem aw_row60 : rowF 355 113 1 100 (1 + ((60 : Nat) : Int)) (22, 7) = (22, 7) := by kernel_rfl
theorem aw_row61 : rowF 355 113 1 100 (1 + ((61 : Nat) : Int)) (22, 7) = (22, 7) := by kernel_rfl
theorem aw_row62 : rowF 355 113 1 100 (1 + ((62 : Nat) : Int)) (22, 7) = (22, 7) := by kernel_rfl
theorem aw_row63 : rowF 355 113 1 100 (1 + ((63 : Nat) : Int)) (22, 7) = (22, 7) := by kernel_rfl
theorem aw_row64 : rowF 355 113 1 100 (1 + ((64 : Nat) : Int)) (22, 7) = (22, 7) := by kernel_rfl
theorem aw_row65 : rowF 355 113 1 100 (1 + ((65 : Nat) : Int)) (22, 7) = (22, 7) := by kernel_rfl
theorem aw_row66 : rowF 355 113 1 100 (1 + ((66 : Nat) : Int)) (22, 7) = (22, 7) := by kernel_rfl
theorem aw_row67 : rowF 355 113 1 100 (1 + ((67 : Nat) : Int)) (22, 7) = (22, 7) := by kernel_rfl
theorem aw_row68 : rowF 355 113 1 100 (1 + ((68 : Nat) : Int)) (22, 7) = (22, 7) := by kernel_rfl
theorem aw_row69 : rowF 355 113 1 100 (1 + ((69 : Nat) : Int)) (22, 7) = (22, 7) := by kernel_rfl
theorem aw_row70 : rowF 355 113 1 100 (1 + ((70 : Nat) : Int)) (22, 7) = (22, 7) := by kernel_rfl
theorem aw_row71 : rowF 355 113 1 100 (1 + ((71 : Nat) : Int)) (22, 7) = (22, 7) := by kernel_rfl
theorem aw_row72 : rowF 355 113 1 100 (1 + ((72 : Nat) : Int)) (22, 7) = (22, 7) := by kernel_rfl
theorem aw_row73 : rowF 355 113 1 100 (1 + ((73 : Nat) : Int)) (22, 7) = (22, 7) := by kernel_rfl
theorem aw_row74 : rowF 355 113 1 100 (1 + ((74 : Nat) : Int)) (22, 7) = (22, 7) := by kernel_rfl
theorem aw_row75 : rowF 355 113 1 100 (1 + ((75 : Nat) : Int)) (22, 7) = (22, 7) := by kernel_rfl
theorem aw_row76 : rowF 355 113 1 100 (1 + ((76 : Nat) : Int)) (22, 7) = (22, 7) := by kernel_rfl
theorem aw_row77 : rowF 355 113 1 100 (1 + ((77 : Nat) : Int)) (22, 7) = (22, 7) := by kernel_rfl
theorem aw_row78 : rowF 355 113 1 100 (1 + ((78 : Nat) : Int)) (22, 7) = (22, 7) := by kernel_rfl
theorem aw_row79 : rowF 355 113 1 100 (1 + ((79 : Nat) : Int)) (22, 7) = (22, 7) := by kernel_rfl
theorem aw_row80 : rowF 355 113 1 100 (1 + ((80 : Nat) : Int)) (22, 7) = (22, 7) := by kernel_rfl
theorem aw_row81 : rowF 355 113 1 100 (1 + ((81 : Nat) : Int)) (22, 7) = (22, 7) := by kernel_rfl
theorem aw_row82 : rowF 355 113 1 100 (1 + ((82 : Nat) : Int)) (22, 7) = (22, 7) := by kernel_rfl
theorem aw_row83 : rowF 355 113 1 100 (1 + ((83 : Nat) : Int)) (22, 7) = (22, 7) := by kernel_rfl
theorem aw_row84 : rowF 355 113 1 100 (1 + ((84 : Nat) : Int)) (22, 7) = (22, 7) := by kernel_rfl
theorem aw_row85 : rowF 355 113 1 100 (1 + ((85 : Nat) : Int)) (22, 7) = (22, 7) := by kernel_rfl
theorem aw_row86 : rowF 355 113 1 100 (1 + ((86 : Nat) : Int)) (22, 7) = (22, 7) := by kernel_rfl
theorem aw_row87 : rowF 355 113 1 100 (1 + ((87 : Nat) : Int)) (22, 7) = (22, 7) := by kernel_rfl
theorem aw_row88 : rowF 355 113 1 100 (1 + ((88 : Nat) : Int)) (22, 7) = (22, 7) := by kernel_rfl
theorem aw_row89 : rowF 355 113 1 100 (1 + ((89 : Nat) : Int)) (22, 7) = (22, 7) := by kernel_rfl
theorem aw_row90 : rowF 355 113 1 100 (1 + ((90 : Nat) : Int)) (22, 7) = (22, 7) := by kernel_rfl
theorem aw_row91 : rowF 355 113 1 100 (1 + ((91 : Nat) : Int)) (22, 7) = (22, 7) := by kernel_rfl
theorem aw_row92 : rowF 355 113 1 100 (1 + ((92 : Nat) : Int)) (22, 7) = (22, 7) := by kernel_rfl
theorem aw_row93 : rowF 355 113 1 100 (1 + ((93 : Nat) : Int)) (22, 7) = (22, 7) := by kernel_rfl
theorem aw_row94 : rowF 355 113 1 100 (1 + ((94 : Nat) : Int)) (22, 7) = (22, 7) := by kernel_rfl
theorem aw_row95 : rowF 355 113 1 100 (1 + ((95 : Nat) : Int)) (22, 7) = (22, 7) := by kernel_rfl
theorem aw_row96 : rowF 355 113 1 100 (1 + ((96 : Nat) : Int)) (22, 7) = (22, 7) := by kernel_rfl
theorem aw_row97 : rowF 355 113 1 100 (1 + ((97 : Nat) : Int)) (22, 7) = (22, 7) := by kernel_rfl
theorem aw_row98 : rowF 355 113 1 100 (1 + ((98 : Nat) : Int)) (22, 7) = (22, 7) := by kernel_rfl
theorem aw_row99 : rowF 355 113 1 100 (1 + ((99 : Nat) : Int)) (22, 7) = (22, 7) := by kernel_rfl
theorem aw_at0 : bestF 355 113 1 100 0 = (1, 1) := by kernel_rfl
theorem aw_at1 : bestF 355 113 1 100 1 = (1, 1) := by rw [bestF_succ, aw_at0]; exact aw_row0
theorem aw_at2 : bestF 355 113 1 100 2 = (2, 1) := by rw [bestF_succ, aw_at1]; exact aw_row1
theorem aw_at3 : bestF 355 113 1 100 3 = (3, 1) := by rw [bestF_succ, aw_at2]; exact aw_row2
theorem aw_at4 : bestF 355 113 1 100 4 = (3, 1) := by rw [bestF_succ, aw_at3]; exact aw_row3
theorem aw_at5 : bestF 355 113 1 100 5 = (3, 1) := by rw [bestF_succ, aw_at4]; exact aw_row4
theorem aw_at6 : bestF 355 113 1 100 6 = (3, 1) := by rw [bestF_succ, aw_at5]; exact aw_row5
theorem aw_at7 : bestF 355 113 1 100 7 = (3, 1) := by rw [bestF_succ, aw_at6]; exact aw_row6
theorem aw_at8 : bestF 355 113 1 100 8 = (3, 1) := by rw [bestF_succ, aw_at7]; exact aw_row7
theorem aw_at9 : bestF 355 113 1 100 9 = (3, 1) := by rw [bestF_succ, aw_at8]; exact aw_row8
theorem aw_at10 : bestF 355 113 1 100 10 = (3, 1) := by rw [bestF_succ, aw_at9]; exact aw_row9
theorem aw_at11 : bestF 355 113 1 100 11 = (3, 1) := by rw [bestF_succ, aw_at10]; exact aw_row10
theorem aw_at12 : bestF 355 113 1 100 12 = (3, 1) := by rw [bestF_succ, aw_at11]; exact aw_row11
theorem aw_at13 : bestF 355 113 1 100 13 = (13, 4) := by rw [bestF_succ, aw_at12]; exact aw_row12
theorem aw_at14 : bestF 355 113 1 100 14 = (13, 4) := by rw [bestF_succ, aw_at13]; exact aw_row13
theorem aw_at15 : bestF 355 113 1 100 15 = (13, 4) := by rw [bestF_succ, aw_at14]; exact aw_row14
theorem aw_at16 : bestF 355 113 1 100 16 = (16, 5) := by rw [bestF_succ, aw_at15]; exact aw_row15
theorem aw_at17 : bestF 355 113 1 100 17 = (16, 5) := by rw [bestF_succ, aw_at16]; exact aw_row16
theorem aw_at18 : bestF 355 113 1 100 18 = (16, 5) := by rw [bestF_succ, aw_at17]; exact aw_row17
theorem aw_at19 : bestF 355 113 1 100 19 = (19, 6) := by rw [bestF_succ, aw_at18]; exact aw_row18
theorem aw_at20 : bestF 355 113 1 100 20 = (19, 6) := by rw [bestF_succ, aw_at19]; exact aw_row19
theorem aw_at21 : bestF 355 113 1 100 21 = (19, 6) := by rw [bestF_succ, aw_at20]; exact aw_row20
theorem aw_at22 : bestF 355 113 1 100 22 = (22, 7) := by rw [bestF_succ, aw_at21]; exact aw_row21
theorem aw_at23 : bestF 355 113 1 100 23 = (22, 7) := by rw [bestF_succ, aw_at22]; exact aw_row22
theorem aw_at24 : bestF 355 113 1 100 24 = (22, 7) := by rw [bestF_succ, aw_at23]; exact aw_row23
theorem aw_at25 : bestF 355 113 1 100 25 = (22, 7) := by rw [bestF_succ, aw_at24]; exact aw_row24
theorem aw_at26 : bestF 355 113 1 100 26 = (22, 7) := by rw [bestF_succ, aw_at25]; exact aw_row25
theorem aw_at27 : bestF 355 113 1 100 27 = (22, 7) := by rw [bestF_succ, aw_at26]; exact aw_row26
theorem aw_at28 : bestF 355 113 1 100 28 = (22, 7) := by rw [bestF_succ, aw_at27]; exact aw_row27
theorem aw_at29 : bestF 355 113 1 100 29 = (22, 7) := by rw [bestF_succ, aw_at28]; exact aw_row28
theorem aw_at30 : bestF 355 113 1 100 30 = (22, 7) := by rw [bestF_succ, aw_at29]; exact aw_row29
theorem aw_at31 : bestF 355 113 1 100 31 = (22, 7) := by rw [bestF_succ, aw_at30]; exact aw_row30
theorem aw_at32 : bestF 355 113 1 100 32 = (22, 7) := by rw [bestF_succ, aw_at31]; exact aw_row31
theorem aw_at33 : bestF 355 113 1 100 33 = (22, 7) := by rw [bestF_succ, aw_at32]; exact aw_row32
theorem aw_at34 : bestF 355 113 1 100 34 = (22, 7) := by rw [bestF_succ, aw_at33]; exact aw_row33
theorem aw_at35 : bestF 355 113 1 100 35 = (22, 7) := by rw [bestF_succ, aw_at34]; exact aw_row34
theorem aw_at36 : bestF 355 113 1 100 36 = (22, 7) := by rw [bestF_succ, aw_at35]; exact aw_row35
theorem aw_at37 : bestF 355 113 1 100 37 = (22, 7) := by rw [bestF_succ, aw_at36]; exact aw_row36
theorem aw_at38 : bestF 355 113 1 100 38 = (22, 7) := by rw [bestF_succ, aw_at37]; exact aw_row37
theorem aw_at39 : bestF 355 113 1 100 39 = (22, 7) := by rw [bestF_succ, aw_at38]; exact aw_row38
theorem aw_at40 : bestF 355 113 1 100 40 = (22, 7) := by rw [bestF_succ, aw_at39]; exact aw_row39
theorem aw_at41 : bestF 355 113 1 100 41 = (22, 7) := by rw [bestF_succ, aw_at40]; exact aw_row40
theorem aw_at42 : bestF 355 113 1 100 42 = (22, 7) := by rw [bestF_succ, aw_at41]; exact aw_row41
theorem aw_at43 : bestF 355 113 1 100 43 = (22, 7) := by rw [bestF_succ, aw_at42]; exact aw_row42
theorem aw_at44 : bestF 355 113 1 100 44 = (22, 7) := by rw [bestF_succ, aw_at43]; exact aw_row43
theorem aw_at45 : bestF 355 113 1 100 45 = (22, 7) := by rw [bestF_succ, aw_at44]; exact aw_row44
theorem aw_at46 : bestF 355 113 1 100 46 = (22, 7) := by rw [bestF_succ, aw_at45]; exact aw_row45
theorem aw_at47 : bestF 355 113 1 100 47 = (22, 7) := by rw [bestF_succ, aw_at46]; exact aw_row46
theorem aw_at48 : bestF 355 113 1 100 48 = (22, 7) := by rw [bestF_succ, aw_at47]; exact aw_row47
theorem aw_at49 : bestF 355 113 1 100 49 = (22, 7) := by rw [bestF_succ, aw_at48]; exact aw_row48
theorem aw_at50 : bestF 355 113 1 100 50 = (22, 7) := by rw [bestF_succ, aw_at49]; exact aw_row49
theorem aw_at51 : bestF 355 113 1 100 51 = (22, 7) := by rw [bestF_succ, aw_at50]; exact aw_row50
theorem aw_at52 : bestF 355 113 1 100 52 = (22, 7) := by rw [bestF_succ, aw_at51]; exact aw_row51
theorem aw_at53 : bestF 355 113 1 100 53 = (22, 7) := by rw [bestF_succ, aw_at52]; exact aw_row52
theorem aw_at54 : bestF 355 113 1 100 54 = (22, 7) := by rw [bestF_succ, aw_at53]; exact aw_row53
theorem aw_at55 : bestF 355 113 1 100 55 = (22, 7) := by rw [bestF_succ, aw_at54]; exact aw_row54
theorem aw_at56 : bestF 355 113 1 100 56 = (22, 7) := by rw [bestF_succ, aw_at55]; exact aw_row55
theorem aw_at57 : bestF 355 113 1 100 57 = (22, 7) := by rw [bestF_succ, aw_at56]; exact aw_row56
theorem aw_at58 : bestF 355 113 1 100 58 = (22, 7) := by rw [bestF_succ, aw_at57]; exact aw_row57
theorem aw_at59 : bestF 355 113 1 100 59 = (22, 7) := by rw [bestF_succ, aw_at58]; exact aw_row58
theorem aw_at60 : bestF 355 113 1 100 60 = (22, 7) := by rw [bestF_succ, aw_at59]; exact aw_row59
theorem aw_at61 : bestF 355 113 1 100 61 = (22, 7) := by rw [bestF_succ, aw_at60]; exact aw_row60
theorem aw_at62 : bestF 355 113 1 100 62 = (22, 7) := by rw [bestF_succ, aw_at61]; exact aw_row61
theorem aw_at63 : bestF 355 113 1 100 63 = (22, 7) := by rw [bestF_succ, aw_at62]; exact aw_row62
theorem aw_at64 : bestF 355 113 1 100 64 = (22, 7) := by rw [bestF_succ, aw_at63]; exact aw_row63
theorem aw_at65 : bestF 355 113 1 100 65 = (22, 7) := by rw [bestF_succ, aw_at64]; exact aw_row64
theorem aw_at66 : bestF 355 113 1 100 66 = (22, 7) := by rw [bestF_succ, aw_at65]; exact aw_row65
theorem aw_at67 : bestF 355 113 1 100 67 = (22, 7) := by rw [bestF_succ, aw_at66]; exact aw_row66
theorem aw_at68 : bestF 355 113 1 100 68 = (22, 7) := by rw [bestF_succ, aw_at67]; exact aw_row67
theorem aw_at69 : bestF 355 113 1 100 69 = (22, 7) := by rw [bestF_succ, aw_at68]; exact aw_row68
theorem aw_at70 : bestF 355 113 1 100 70 = (22, 7) := by rw [bestF_succ, aw_at69]; exact aw_row69
theorem aw_at71 : bestF 355 113 1 100 71 = (22, 7) := by rw [bestF_succ, aw_at70]; exact aw_row70
theorem aw_at72 : bestF 355 113 1 100 72 = (22, 7) := by rw [bestF_succ, aw_at71]; exact aw_row71
theorem aw_at73 : bestF 355 113 1 100 73 = (22, 7) := by rw [bestF_succ, aw_at72]; exact aw_row72
theorem aw_at74 : bestF 355 113 1 100 74 = (22, 7) := by rw [bestF_succ, aw_at73]; exact aw_row73
theorem aw_at75 : bestF 355 113 1 100 75 = (22, 7) := by rw [bestF_succ, aw_at74]; exact aw_row74
theorem aw_at76 : bestF 355 113 1 100 76 = (22, 7) := by rw [bestF_succ, aw_at75]; exact aw_row75
theorem aw_at77 : bestF 355 113 1 100 77 = (22, 7) := by rw [bestF_succ, aw_at76]; exact aw_row76
theorem aw_at78 : bestF 355 113 1 100 78 = (22, 7) := by rw [bestF_succ, aw_at77]; exact aw_row77
theorem aw_at79 : bestF 355 113 1 100 79 = (22, 7) := by rw [bestF_succ, aw_at78]; exact aw_row78
theorem aw_at80 : bestF 355 113 1 100 80 = (22, 7) := by rw [bestF_succ, aw_at79]; exact aw_row79
theorem aw_at81 : bestF 355 113 1 100 81 = (22, 7) := by rw [bestF_succ, aw_at80]; exact aw_row80
theorem aw_at82 : bestF 355 113 1 100 82 = (22, 7) := by rw [bestF_succ, aw_at81]; exact aw_row81
theorem aw_at83 : bestF 355 113 1 100 83 = (22, 7) := by rw [bestF_succ, aw_at82]; exact aw_row82
theorem aw_at84 : bestF 355 113 1 100 84 = (22, 7) := by rw [bestF_succ, aw_at83]; exact aw_row83
theorem aw_at85 : bestF 355 113 1 100 85 = (22, 7) := by rw [bestF_succ, aw_at84]; exact aw_row84
theorem aw_at86 : bestF 355 113 1 100 86 = (22, 7) := by rw [bestF_succ, aw_at85]; exact aw_row85
theorem aw_at87 : bestF 355 113 1 100 87 = (22, 7) := by rw [bestF_succ, aw_at86]; exact aw_row86
theorem aw_at88 : bestF 355 113 1 100 88 = (22, 7) := by rw [bestF_succ, aw_at87]; exact aw_row87
theorem aw_at89 : bestF 355 113 1 100 89 = (22, 7) := by rw [bestF_succ, aw_at88]; exact aw_row88
theorem aw_at90 : bestF 355 113 1 100 90 = (22, 7) := by rw [bestF_succ, aw_at89]; exact aw_row89
theorem aw_at91 : bestF 355 113 1 100 91 = (22, 7) := by rw [bestF_succ, aw_at90]; exact aw_row90
theorem aw_at92 : bestF 355 113 1 100 92 = (22, 7) := by rw [bestF_succ, aw_at91]; exact aw_row91
theorem aw_at93 : bestF 355 113 1 100 93 = (22, 7) := by rw [bestF_succ, aw_at92]; exact aw_row92
theorem aw_at94 : bestF 355 113 1 100 94 = (22, 7) := by rw [bestF_succ, aw_at93]; exact aw_row93
theorem aw_at95 : bestF 355 113 1 100 95 = (22, 7) := by rw [bestF_succ, aw_at94]; exact aw_row94
theorem aw_at96 : bestF 355 113 1 100 96 = (22, 7) := by rw [bestF_succ, aw_at95]; exact aw_row95
theorem aw_at97 : bestF 355 113 1 100 97 = (22, 7) := by rw [bestF_succ, aw_at96]; exact aw_row96
theorem aw_at98 : bestF 355 113 1 100 98 = (22, 7) := by rw [bestF_succ, aw_at97]; exact aw_row97
theorem aw_at99 : bestF 355 113 1 100 99 = (22, 7) := by rw [bestF_succ, aw_at98]; exact aw_row98
theorem aw_at100 : bestF 355 113 1 100 100 = (22, 7) := by rw [bestF_succ, aw_at99]; exact aw_row99
theorem awake_best : bestP 355 113 1 100 = (22, 7) := aw_at100

end Go.Proofs.Ytoiconebcmneiab

end
