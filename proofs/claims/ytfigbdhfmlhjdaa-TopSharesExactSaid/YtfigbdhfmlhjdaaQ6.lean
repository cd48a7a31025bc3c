import Derived.Test.YtfigbdhfmlhjdaaQ5
import Derived.Test.YtfigbdhfmlhjdaaQ3

section
/- The contracts of all shares of a tree, and of Shares. -/
namespace Go.Proofs.Ytfigbdhfmlhjdaa
open Go.RowKit

/-- The name of the top. -/
def topName (l : List Rk) : ByteArray := ((l[topOf l]?).map (·.name)).getD ByteArray.empty
def sharesOf (l : List Rk) : Option (List (Int × Int)) := sh l l.length (topName l) 1 1

def AllPost (l : List Rk) (base : Nat) (w : World) (e : Ending) (w' : World) : Prop :=
  Below w.heap.size w w' ∧ ∃ v', e = .returned (.tuple #[v', .bool (sharesOf l).isSome]) ∧ ∀ ys, sharesOf l = some ys → w'.ownsRow base 35 2 v' ys.length (cells2 ys)

set_option maxRecDepth 100000 in
set_option maxHeartbeats 1000000 in
theorem all_any (l : List Rk) (hfits : ∀ r ∈ l, r.Fits) (harms : ArmsOK l) (A : Option Addr) (n c N tb mb : Nat) (w : World) (hn : n ≤ 100000) (hx : Reads w N 5 A n (rkCells l)) (hN : N ≤ w.heap.size)
    (ht : Blk w tb 100 #[.slice A n c, .map (some mb), .int .i64 (topOf l : Int)]) (hm : MapIs Try.prog 9 w mb n (idxM l)) (htop : topOf l < l.length) (ps : List ByteArray) (hp : pts l l.length (topName l) = some ps) (hps : ps.length ≤ 1000000) :
    Calls Try.prog 37 #[.pointer (some ⟨tb, 0, none⟩)] w (AllPost l (w.heap.size + 1) w) := by
  have hln := hx.len5
  have hti : topOf l < n := by omega
  obtain ⟨xb, xo, r, rfl, hxb, hr, c0, c1, c2, c3, c4⟩ := hx.rk hti
  have hfit := hfits r (List.mem_of_getElem? hr)
  have hnm := hfit.name
  have htn : topName l = r.name := by unfold topName; rw [hr]; rfl
  have hsh : sharesOf l = sh l l.length r.name 1 1 := by unfold sharesOf; rw [htn]
  rw [htn] at hp
  obtain ⟨T, hT⟩ : ∃ T, topOf l = T := ⟨_, rfl⟩
  rw [hT] at ht hti hr c0
  have HP := Lib.hid hp
  have HSH := Lib.hid hsh
  have htb := ht.lt
  have hmb := hm.lt
  clear hp hsh htn c1 c2 c3 c4 htop
  have HX := Lib.hid hx
  clear hx hln hr hfit hT
  go_enter Try.func37, Try.ntmps37
  go_wp2
  refine Fx.regionW (fun W f w' => Blk w' tb 100 #[.slice (some ⟨xb, xo, none⟩) n c, .map (some mb), .int .i64 (T : Int)] ∧ w'.cell? ⟨xb, xo + T * 5, none⟩ = some (.string r.name) ∧ (f 13 = false → w' = W.drewN 1) ∧ (f 13 = true → Below w.heap.size w w' ∧ ∃ v', Blk w' w.heap.size 40 #[v'] ∧ ∀ ys, sh l l.length r.name 1 1 = some ys → w'.ownsRow (w.heap.size + 1) 35 2 v' ys.length (cells2 ys))) (by kernel_rfl) (by kernel_rfl) ?_ ?_
  · intro f hf0
    refine ⟨(ht.alloc _).drewN 1, ?_, fun _ => rfl, fun h => by rw [hf0 13] at h; cases h⟩
    exact (World.cell?_alloc_lt w _ ⟨xb, xo + T * 5, none⟩ (by simp; omega)).trans c0
  repeat (first
    | (refine Fx.skip_ (by rfl) (fun f w h => h) ?_; simp only [Act.put, List.setIfInBounds_toArray, List.set_cons_zero, List.set_cons_succ])
    | (refine Fx.val_ ?_ (by rfl) ?_ (fun f w h => h) ?_
       rotate_left
       · intro f w' hD hk
         obtain ⟨h1, h2, h3, h4⟩ := id hD
         have t0 : w'.cell? ⟨tb, 0, none⟩ = some (.slice (some ⟨xb, xo, none⟩) n c) := h1.cell 0
         have t2 : w'.cell? ⟨tb, 2, none⟩ = some (.int .i64 (T : Int)) := h1.cell 2
         clear hk hD h1 h3 h4
         go_simp
         try rfl
       simp only [Act.put, List.setIfInBounds_toArray, List.set_cons_zero, List.set_cons_succ]))
  have hW : ∀ W', W' = (w.alloc (.cells #[.slice none 0 0] 40)).drewN 1 → ShPre l (some ⟨xb, xo, none⟩) n c N tb mb w.heap.size (T : Int) (.slice none 0 0) [] W' := by
    rintro _ rfl
    exact ⟨((HX.out.alloc hN _).drewN 1), by omega, by omega, by omega, (ht.alloc _).drewN 1, (hm.alloc _).drewN 1, (Blk.at_ _ rfl _ _).drewN 1, World.ownsRow_nil _ _ _ _⟩
  have HW := Lib.hid hW
  clear hW
  have hAfter : ∀ W1 w2 v', W1 = (w.alloc (.cells #[.slice none 0 0] 40)).drewN 1 → Fr w.heap.size (.slice none 0 0) v' W1 w2 → Blk w2 w.heap.size 40 #[v'] → (∀ ys, sh l l.length r.name 1 1 = some ys → ShPre l (some ⟨xb, xo, none⟩) n c N tb mb w.heap.size (T : Int) v' ([] ++ ys) w2) →
      Blk w2 tb 100 #[.slice (some ⟨xb, xo, none⟩) n c, .map (some mb), .int .i64 (T : Int)] ∧ w2.cell? ⟨xb, xo + T * 5, none⟩ = some (.string r.name) ∧ Below w.heap.size w w2 ∧ (∃ v', Blk w2 w.heap.size 40 #[v'] ∧ ∀ ys, sh l l.length r.name 1 1 = some ys → w2.ownsRow (w.heap.size + 1) 35 2 v' ys.length (cells2 ys)) := by
    rintro W1 w2 v' hW1 hfr hcell hpre
    have hb0 : Below w.heap.size w W1 := by rw [hW1]; exact below_drewN ((Below.refl _ _).alloc (Nat.le_refl _) _) 1
    have hb : Below w.heap.size W1 w2 := hfr.below (Nat.le_refl _) (by rw [hW1]; simp) (fun g hg => by cases hg)
    have hb2 := hb0.trans hb
    refine ⟨ht.below hb2 htb, (hb2.cell (p := ⟨xb, xo + T * 5, none⟩) (by show xb < _; omega)).trans c0, hb2, v', hcell, fun ys hys => ?_⟩
    have := (hpre ys hys).own
    rwa [List.nil_append] at this
  have HAFTER := Lib.hid hAfter
  clear hAfter
  refine Fx.call_ (.bool (sh l l.length r.name 1 1).isSome) ?_ ?_ (by rfl) ?_ ?_ ?_
  rotate_left 2
  · intro w'
    go_simp
    refine ⟨?_, ?_⟩ <;> rfl
  · intro f w' hD hk
    exact (shares_any l hfits harms (some ⟨xb, xo, none⟩) n c N tb mb w.heap.size (T : Int) (by omega) l.length r.name ps 1 1 (.slice none 0 0) [] w' HP.out hnm ⟨by omega, by omega⟩ ⟨by omega, by omega⟩ (HW.out w' (hD.2.2.1 hk.1)) (by simp; omega)).mono fun e w'' ⟨v', hfr, he, hcell, hpre⟩ => ⟨he, (HAFTER.out w' w'' v' (hD.2.2.1 hk.1) hfr hcell hpre).1, (HAFTER.out w' w'' v' (hD.2.2.1 hk.1) hfr hcell hpre).2.1, fun h => by simp [Fx.add] at h, fun _ => (HAFTER.out w' w'' v' (hD.2.2.1 hk.1) hfr hcell hpre).2.2⟩
  simp only [Act.put, List.setIfInBounds_toArray, List.set_cons_zero, List.set_cons_succ]
  clear HAFTER HW
  repeat (first
    | (refine Fx.skip_ (by rfl) (fun f w h => h) ?_; simp only [Act.put, List.setIfInBounds_toArray, List.set_cons_zero, List.set_cons_succ])
    | (refine Fx.val_ ?_ (by rfl) ?_ (fun f w h => h) ?_
       rotate_left
       · intro f w' hD hk
         obtain ⟨h1, h2, h3, h4⟩ := id hD
         have t0 : w'.cell? ⟨tb, 0, none⟩ = some (.slice (some ⟨xb, xo, none⟩) n c) := h1.cell 0
         have t2 : w'.cell? ⟨tb, 2, none⟩ = some (.int .i64 (T : Int)) := h1.cell 2
         clear hk hD h1 h3 h4
         go_simp
         try rfl
       simp only [Act.put, List.setIfInBounds_toArray, List.set_cons_zero, List.set_cons_succ]))
  refine Fx.nil_ ?_
  intro f w1 hall hD
  have hf13 := hall 13 (by simp)
  obtain ⟨h1, h2, h3, h4⟩ := hD
  simp only [hf13, if_true] at *
  try clear hall
  obtain ⟨hbl, v', hcl, hown⟩ := h4 (by first | rfl | trivial)
  have cc : w1.cell? ⟨w.heap.size, 0, none⟩ = some v' := hcl.cell 0
  have HOWN := Lib.hid hown
  have HB := Lib.hid hbl
  clear h1 h2 h3 h4 hown hbl
  go_wp2_with fail
  go_ret2
  refine ⟨HB.out, v', ?_, fun ys hys => HOWN.out ys (HSH.out.symm.trans hys)⟩
  rw [HSH.out]
  rfl

theorem rk_zero_arms {ex : Bool} {r : Rk} (h : rkErr ex r = 0) : 1 ≤ r.al ∧ r.al ≤ 10000 ∧ 1 ≤ r.ar ∧ r.ar ≤ 10000 := by
  unfold rkErr at h
  split at h
  · exact absurd h (by decide)
  · split at h
    · exact absurd h (by decide)
    · split at h
      · exact absurd h (by decide)
      · split at h
        · exact absurd h (by decide)
        · rename_i hw
          have h1 : withinB r.al 1 10000 = true := by cases hx : withinB r.al 1 10000 <;> simp_all
          have h2 : withinB r.ar 1 10000 = true := by cases hx : withinB r.ar 1 10000 <;> simp_all
          rw [withinB_iff] at h1 h2
          exact ⟨h1.1, h1.2, h2.1, h2.2⟩

theorem err1_mem : ∀ (l seen : List Rk), err1 seen l = 0 → ∀ r ∈ l, ∃ ex, rkErr ex r = 0
  | [], _, _, r, hr => by cases hr
  | x :: l, seen, h, r, hr => by
    unfold err1 at h
    split at h
    · rename_i h0
      rcases List.mem_cons.1 hr with e | e
      · exact ⟨_, e ▸ h0⟩
      · exact err1_mem l _ h r e
    · rename_i h0
      exact absurd h h0

theorem open_zero {l : List Rk} (h : openErr l = 0) : l.length ≠ 0 ∧ l.length ≤ 40 ∧ err1 [] l = 0 ∧ (borneAll l).Nodup ∧ l.any (fun r => climbs l (l.length + 1) r.name) = false ∧ (topsOf l).length ≤ 1 := by
  unfold openErr at h
  by_cases h0 : l.length = 0
  · rw [if_pos h0] at h; exact absurd h (by decide)
  rw [if_neg h0] at h
  by_cases h1 : 40 < l.length
  · rw [if_pos h1] at h; exact absurd h (by decide)
  rw [if_neg h1] at h
  by_cases h2 : err1 [] l ≠ 0
  · rw [if_pos h2] at h; exact absurd h h2
  rw [if_neg h2] at h
  by_cases h3 : ¬ (borneAll l).Nodup
  · rw [if_pos h3] at h; exact absurd h (by decide)
  rw [if_neg h3] at h
  by_cases h4 : l.any (fun r => climbs l (l.length + 1) r.name) = true
  · rw [if_pos h4] at h; exact absurd h (by decide)
  rw [if_neg h4] at h
  by_cases h5 : 1 < (topsOf l).length
  · rw [if_pos h5] at h; exact absurd h (by decide)
  exact ⟨h0, by omega, Decidable.not_not.1 h2, Decidable.not_not.1 h3, by simpa using h4, by omega⟩

theorem arms_of {l : List Rk} (h : openErr l = 0) : ArmsOK l := by
  intro r hr
  obtain ⟨ex, he⟩ := err1_mem l [] (open_zero h).2.2.1 r hr
  exact rk_zero_arms he

theorem topOf_lt {l : List Rk} (h : l.length ≠ 0) : topOf l < l.length := by
  unfold topOf
  cases hx : (topsOf l).getLast? with
  | none => simpa using by omega
  | some k =>
    have hm := List.mem_of_getLast? hx
    unfold topsOf topsTo at hm
    have := (List.mem_filter.1 hm).1
    simpa using this

/-- What lies below the top, as the tree of a list has it. -/
def ptsOf (l : List Rk) : Option (List ByteArray) := pts l l.length (topName l)

def SharesPost (l : List Rk) (base : Nat) (w : World) (e : Ending) (w' : World) : Prop :=
  Below w.heap.size w w' ∧ (openErr l ≠ 0 → e = .returned (.tuple #[.slice none 0 0, .int .i64 (openErr l)])) ∧
  (openErr l = 0 → sharesOf l = none → e = .returned (.tuple #[.slice none 0 0, .int .i64 8])) ∧
  (openErr l = 0 → ∀ ys, sharesOf l = some ys → ∃ v, e = .returned (.tuple #[v, .int .i64 0]) ∧ w'.ownsRow base 35 2 v ys.length (cells2 ys))

theorem open_bad (l : List Rk) (hf : ∀ r ∈ l, r.Fits) (A : Option Addr) (n c N : Nat) (w : World) (hx : Reads w N 5 A n (rkCells l)) (hN : N ≤ w.heap.size) (hn : n ≤ 9223372036854775807) (h : openErr l ≠ 0) :
    Calls Try.prog 36 #[.slice A n c] w fun e w' => e = .returned (.tuple #[.pointer none, .int .i64 (openErr l)]) ∧ Below w.heap.size w w' :=
  (open_any l hf A n c N w hx hN hn).mono fun _ _ ⟨hb, h1, _⟩ => ⟨h1 h, hb⟩

theorem open_ok (l : List Rk) (hf : ∀ r ∈ l, r.Fits) (A : Option Addr) (n c N : Nat) (w : World) (hx : Reads w N 5 A n (rkCells l)) (hN : N ≤ w.heap.size) (hn : n ≤ 9223372036854775807) (h : openErr l = 0) :
    Calls Try.prog 36 #[.slice A n c] w fun e w' => e = .returned (.tuple #[.pointer (some ⟨w.heap.size + 1, 0, none⟩), .int .i64 0]) ∧ Below w.heap.size w w' ∧
      Blk w' (w.heap.size + 1) 100 #[.slice A n c, .map (some w.heap.size), .int .i64 (topOf l : Int)] ∧ MapIs Try.prog 9 w' w.heap.size n (idxM l) :=
  (open_any l hf A n c N w hx hN hn).mono fun _ _ ⟨hb, _, h1⟩ => ⟨(h1 h).1, hb, (h1 h).2⟩

theorem all_none (l : List Rk) (hfits : ∀ r ∈ l, r.Fits) (harms : ArmsOK l) (A : Option Addr) (n c N tb mb : Nat) (w : World) (hn : n ≤ 100000) (hx : Reads w N 5 A n (rkCells l)) (hN : N ≤ w.heap.size)
    (ht : Blk w tb 100 #[.slice A n c, .map (some mb), .int .i64 (topOf l : Int)]) (hm : MapIs Try.prog 9 w mb n (idxM l)) (htop : topOf l < l.length) (ps : List ByteArray) (hp : pts l l.length (topName l) = some ps) (hps : ps.length ≤ 1000000) (hs : sharesOf l = none) :
    Calls Try.prog 37 #[.pointer (some ⟨tb, 0, none⟩)] w fun e w' => Below w.heap.size w w' ∧ ∃ v', e = .returned (.tuple #[v', .bool false]) :=
  (all_any l hfits harms A n c N tb mb w hn hx hN ht hm htop ps hp hps).mono fun e w' ⟨hb, v', he, _⟩ => ⟨hb, v', by rw [he, hs]; rfl⟩

theorem all_some (l : List Rk) (hfits : ∀ r ∈ l, r.Fits) (harms : ArmsOK l) (A : Option Addr) (n c N tb mb : Nat) (w : World) (hn : n ≤ 100000) (hx : Reads w N 5 A n (rkCells l)) (hN : N ≤ w.heap.size)
    (ht : Blk w tb 100 #[.slice A n c, .map (some mb), .int .i64 (topOf l : Int)]) (hm : MapIs Try.prog 9 w mb n (idxM l)) (htop : topOf l < l.length) (ps : List ByteArray) (hp : pts l l.length (topName l) = some ps) (hps : ps.length ≤ 1000000) (ys : List (Int × Int)) (hs : sharesOf l = some ys) :
    Calls Try.prog 37 #[.pointer (some ⟨tb, 0, none⟩)] w fun e w' => Below w.heap.size w w' ∧ ∃ v', e = .returned (.tuple #[v', .bool true]) ∧ w'.ownsRow (w.heap.size + 1) 35 2 v' ys.length (cells2 ys) :=
  (all_any l hfits harms A n c N tb mb w hn hx hN ht hm htop ps hp hps).mono fun e w' ⟨hb, v', he, ho⟩ => ⟨hb, v', by rw [he, hs]; rfl, ho ys hs⟩

set_option maxHeartbeats 1000000 in
theorem Shares_any (l : List Rk) (hfits : ∀ r ∈ l, r.Fits) (A : Option Addr) (n c N : Nat) (w : World) (hn : n ≤ 100000) (hx : Reads w N 5 A n (rkCells l)) (hN : N ≤ w.heap.size)
    (hp : openErr l = 0 → ∃ ps, ptsOf l = some ps ∧ ps.length ≤ 1000000) :
    Calls Try.prog 13 #[.slice A n c] w (SharesPost l w.heap.size w) := by
  have HP := Lib.hid hp
  have HX := Lib.hid hx
  clear hp hx
  by_cases h0 : openErr l = 0
  · obtain ⟨ps, hps, hpl⟩ := HP.out h0
    obtain ⟨z0, -⟩ := open_zero h0
    have harms := arms_of h0
    have htop := topOf_lt z0
    have H0 := Lib.hid h0
    have HPS := Lib.hid hps
    have htop' := Lib.hid htop
    clear h0 hps z0 htop
    cases hs : sharesOf l with
    | none =>
      have HS := Lib.hid hs
      clear hs
      go_enter Try.func13, Try.ntmps13
      go_wp2_with (first | (go_at_call 36; refine (open_ok l hfits A n c N _ HX.out hN (by omega) H0.out).mono ?_; rintro e w1 ⟨rfl, hb, ht, hm⟩))
      have HB := Lib.hid hb
      have HT := Lib.hid ht
      have HM := Lib.hid hm
      have hsz := hb.size
      clear hb ht hm
      go_wp2_with (first | (go_at_call 37; refine (all_none l hfits harms A n c N _ _ w1 hn (HX.out.belowLe HB.out hN) (by omega) HT.out HM.out htop'.out ps HPS.out hpl HS.out).mono ?_; rintro e w2 ⟨hb2, v', rfl⟩))
      go_ret2
      exact ⟨HB.out.trans (hb2.mono (by omega)), fun h => absurd H0.out h, fun _ _ => rfl, fun _ ys h => by rw [HS.out] at h; cases h⟩
    | some ys =>
      have HS := Lib.hid hs
      clear hs
      go_enter Try.func13, Try.ntmps13
      go_wp2_with (first | (go_at_call 36; refine (open_ok l hfits A n c N _ HX.out hN (by omega) H0.out).mono ?_; rintro e w1 ⟨rfl, hb, ht, hm⟩))
      have HB := Lib.hid hb
      have HT := Lib.hid ht
      have HM := Lib.hid hm
      have hsz := hb.size
      clear hb ht hm
      go_wp2_with (first | (go_at_call 37; refine (all_some l hfits harms A n c N _ _ w1 hn (HX.out.belowLe HB.out hN) (by omega) HT.out HM.out htop'.out ps HPS.out hpl ys HS.out).mono ?_; rintro e w2 ⟨hb2, v', rfl, hown⟩))
      go_ret2
      refine ⟨HB.out.trans (hb2.mono (by omega)), fun h => absurd H0.out h, ?_, ?_⟩
      · intro _ h
        rw [HS.out] at h
        cases h
      intro _ zs h
      refine ⟨v', rfl, ?_⟩
      obtain rfl : ys = zs := Option.some.inj (HS.out.symm.trans h)
      exact own_base (by omega) hown
  · have H0 := Lib.hid h0
    have hne : (openErr l != 0) = true := by simpa using h0
    clear h0
    go_enter Try.func13, Try.ntmps13
    go_wp2_with (first | (go_at_call 36; refine (open_bad l hfits A n c N _ HX.out hN (by omega) H0.out).mono ?_; rintro e w1 ⟨rfl, hb⟩))
    go_ret2
    exact ⟨hb, fun _ => rfl, fun h => absurd h H0.out, fun h => absurd h H0.out⟩

end Go.Proofs.Ytfigbdhfmlhjdaa

end

section
/- A tree without a cycle has no deep branch: what lies below its top is found. -/
namespace Go.Proofs.Ytfigbdhfmlhjdaa
open Go.RowKit

theorem nodup_le {α : Type} [DecidableEq α] : ∀ {p q : List α}, p.Nodup → (∀ x ∈ p, x ∈ q) → p.length ≤ q.length
  | [], _, _, _ => by simp
  | a :: t, q, hn, hs => by
    have ha := hs a (by simp)
    have hn' := List.nodup_cons.1 hn
    have h1 : t.length ≤ (q.erase a).length := nodup_le hn'.2 fun x hx => by
      have hne : x ≠ a := fun e => hn'.1 (e ▸ hx)
      exact (List.mem_erase_of_ne hne).2 (hs x (by simp [hx]))
    rw [List.length_erase_of_mem ha] at h1
    have : 0 < q.length := List.length_pos_of_mem ha
    simp only [List.length_cons]
    omega

/-- The rocker that bears a thing, by its name. -/
def upOf (l : List Rk) (s : ByteArray) : Option ByteArray := (bearerOf l s).bind fun i => (l[i]?).map (·.name)

theorem bearer_get {l : List Rk} {s : ByteArray} {i : Nat} (h : bearerOf l s = some i) : ∃ r, l[i]? = some r ∧ (r.left = s ∨ r.right = s) := by
  unfold bearerOf at h
  obtain ⟨hi, hp, -⟩ := List.findIdx?_eq_some_iff_getElem.1 h
  exact ⟨l[i], List.getElem?_eq_getElem hi, by simpa using hp⟩

theorem climbs_up {l : List Rk} {s t : ByteArray} (h : upOf l s = some t) (f : Nat) : climbs l (f + 1) s = climbs l f t ∧ climbs l 0 s = true := by
  unfold upOf at h
  cases hb : bearerOf l s with
  | none => rw [hb] at h; cases h
  | some i =>
    rw [hb] at h
    simp only [Option.bind_some] at h
    simp only [climbs, hb, h]
    exact ⟨rfl, rfl⟩

/-- From a circle one climbs as long as one likes. -/
theorem climbs_circle {l : List Rk} (S : ByteArray → Prop) (h : ∀ s, S s → ∃ t, upOf l s = some t ∧ S t) : ∀ (f : Nat) (s : ByteArray), S s → climbs l f s = true
  | 0, s, hs => by obtain ⟨t, ht, -⟩ := h s hs; exact (climbs_up ht 0).2
  | f + 1, s, hs => by
    obtain ⟨t, ht, hS⟩ := h s hs
    rw [(climbs_up ht f).1]
    exact climbs_circle S h f t hS

theorem bear_one {s : ByteArray} : ∀ {l : List Rk} {i j : Nat} {r r' : Rk}, (borneAll l).Nodup → l[i]? = some r → l[j]? = some r' → (r.left = s ∨ r.right = s) → (r'.left = s ∨ r'.right = s) → i = j
  | x :: l, i, j, r, r', hn, hi, hj, h1, h2 => by
    have e : borneAll (x :: l) = [x.left, x.right] ++ borneAll l := rfl
    rw [e, List.nodup_append] at hn
    have mem : ∀ {k : Nat} {q : Rk}, l[k]? = some q → (q.left = s ∨ q.right = s) → s ∈ borneAll l := fun hk hq => by
      unfold borneAll
      rw [List.mem_flatMap]
      refine ⟨_, List.mem_of_getElem? hk, ?_⟩
      rcases hq with rfl | rfl <;> simp
    cases i with
    | zero =>
      cases j with
      | zero => rfl
      | succ j =>
        simp at hi
        subst hi
        exact absurd rfl (hn.2.2 s (by rcases h1 with rfl | rfl <;> simp) s (mem (by simpa using hj) h2))
    | succ i =>
      cases j with
      | zero =>
        simp at hj
        subst hj
        exact absurd rfl (hn.2.2 s (by rcases h2 with rfl | rfl <;> simp) s (mem (by simpa using hi) h1))
      | succ j =>
        have hi' : l[i]? = some r := by simpa using hi
        have hj' : l[j]? = some r' := by simpa using hj
        have := bear_one hn.2.1 hi' hj' h1 h2
        omega
  | [], i, j, r, r', _, hi, _, _, _ => by simp at hi

theorem up_of_child {l : List Rk} (hn : (borneAll l).Nodup) {i : Nat} {r : Rk} {s : ByteArray} (hi : l[i]? = some r) (hs : r.left = s ∨ r.right = s) : upOf l s = some r.name := by
  cases hb : bearerOf l s with
  | none =>
    unfold bearerOf at hb
    have := List.findIdx?_eq_none_iff.1 hb r (List.mem_of_getElem? hi)
    simp at this
    rcases hs with h | h
    · exact absurd h this.1
    · exact absurd h this.2
  | some j =>
    obtain ⟨r', hj, hs'⟩ := bearer_get hb
    have e := bear_one hn hi hj hs hs'
    subst e
    unfold upOf
    rw [hb]
    simp [hi]

theorem idx_get {l : List Rk} {s : ByteArray} {i : Nat} (h : idxOf l s = some i) : ∃ r, l[i]? = some r ∧ r.name = s := by
  unfold idxOf at h
  obtain ⟨hi, hp, -⟩ := List.findIdx?_eq_some_iff_getElem.1 h
  exact ⟨l[i], List.getElem?_eq_getElem hi, by simpa using hp⟩

/-- A way down that is too long, from its end up. -/
structure WayUp (l : List Rk) (p : List ByteArray) (s : ByteArray) : Prop where
  last : p.getLast? = some s
  up : ∀ k a b, p[k]? = some a → p[k + 1]? = some b → upOf l a = some b
  rk : ∀ x ∈ p, ∃ r ∈ l, r.name = x

theorem WayUp.snoc {l : List Rk} {p : List ByteArray} {s t : ByteArray} (h : WayUp l p s) (hu : upOf l s = some t) (ht : ∃ r ∈ l, r.name = t) : WayUp l (p ++ [t]) t := by
  refine ⟨by simp, fun k a b ha hb => ?_, fun x hx => ?_⟩
  · rcases Nat.lt_trichotomy (k + 1) p.length with hk | hk | hk
    · rw [List.getElem?_append_left (by omega)] at ha
      rw [List.getElem?_append_left hk] at hb
      exact h.up k a b ha hb
    · rw [List.getElem?_append_left (by omega)] at ha
      rw [List.getElem?_append_right (by omega)] at hb
      have e1 : b = t := by rw [hk, Nat.sub_self] at hb; simpa using hb.symm
      have e2 : a = s := by
        have := h.last
        rw [List.getLast?_eq_getElem?, show p.length - 1 = k by omega, ha] at this
        exact Option.some.inj this
      rw [e1, e2]
      exact hu
    · rw [List.getElem?_eq_none (by simp; omega)] at hb
      cases hb
  · rcases List.mem_append.1 hx with hx | hx
    · exact h.rk x hx
    · simp at hx; exact hx ▸ ht

theorem pts_none {l : List Rk} (hn : (borneAll l).Nodup) : ∀ (f : Nat) (s : ByteArray), pts l f s = none → ∃ p, p.length = f + 1 ∧ WayUp l p s
  | 0, s, h => by
    unfold pts at h
    cases hi : idxOf l s with
    | none => rw [hi] at h; cases h
    | some i =>
      obtain ⟨r, hr, hs⟩ := idx_get hi
      refine ⟨[s], rfl, by simp, fun k a b ha hb => ?_, fun x hx => ?_⟩
      · simp at hb
      · simp at hx; exact ⟨r, List.mem_of_getElem? hr, hs.trans hx.symm⟩
  | f + 1, s, h => by
    unfold pts at h
    cases hi : idxOf l s with
    | none => rw [hi] at h; cases h
    | some i =>
      obtain ⟨r, hr, hs⟩ := idx_get hi
      rw [hi] at h
      simp only [hr] at h
      have hmem : ∃ r ∈ l, r.name = s := ⟨r, List.mem_of_getElem? hr, hs⟩
      cases h1 : pts l f r.left with
      | none =>
        obtain ⟨p, hp, hw⟩ := pts_none hn f r.left h1
        exact ⟨p ++ [s], by simp [hp], hw.snoc (hs ▸ up_of_child hn hr (.inl rfl)) hmem⟩
      | some a =>
        cases h2 : pts l f r.right with
        | none =>
          obtain ⟨p, hp, hw⟩ := pts_none hn f r.right h2
          exact ⟨p ++ [s], by simp [hp], hw.snoc (hs ▸ up_of_child hn hr (.inr rfl)) hmem⟩
        | some b => rw [h1, h2] at h; cases h

theorem pts_ok {l : List Rk} (h : openErr l = 0) (s : ByteArray) : pts l l.length s ≠ none := by
  intro hp
  obtain ⟨h0, h1, h2, hn, h4, h5⟩ := open_zero h
  obtain ⟨p, hlen, hw⟩ := pts_none hn _ _ hp
  have hdup : ¬ p.Nodup := fun hd => by
    have := nodup_le (q := l.map (·.name)) hd fun x hx => by
      obtain ⟨r, hr, e⟩ := hw.rk x hx
      exact List.mem_map.2 ⟨r, hr, e⟩
    rw [hlen, List.length_map] at this
    omega
  have hex : ∃ i j : Nat, ∃ x, i < j ∧ p[i]? = some x ∧ p[j]? = some x := by
    refine Classical.byContradiction fun hno => hdup ?_
    refine List.pairwise_iff_getElem.2 fun i j hi hj hij e => hno ⟨i, j, p[i], hij, List.getElem?_eq_getElem hi, ?_⟩
    rw [List.getElem?_eq_getElem hj, e]
  obtain ⟨i, j, x, hij, hi, hj⟩ := hex
  have hc := climbs_circle (l := l) (fun s => ∃ k, i ≤ k ∧ k < j ∧ p[k]? = some s) (fun s ⟨k, k1, k2, k3⟩ => by
    have hjl : j < p.length := (List.getElem?_eq_some_iff.1 hj).1
    have hk1 : p[k + 1]? = some (p[k + 1]'(by omega)) := List.getElem?_eq_getElem (by omega)
    refine ⟨_, hw.up k _ _ k3 hk1, ?_⟩
    by_cases e : k + 1 = j
    · refine ⟨i, Nat.le_refl _, hij, ?_⟩
      rw [hi, ← hj, ← hk1, e]
    · exact ⟨k + 1, by omega, by omega, hk1⟩) (l.length + 1) x ⟨i, Nat.le_refl _, hij, hi⟩
  obtain ⟨r, hr, e⟩ := hw.rk x (List.mem_of_getElem? hi)
  have := List.any_eq_false.1 h4 r hr
  rw [e] at this
  exact this hc

end Go.Proofs.Ytfigbdhfmlhjdaa

end

section
/- Contracts of the reference's searches of names: what a name is, the number of a rocker, whether a text is in a list. -/
namespace Go.Proofs.Ytfigbdhfmlhjdaa
open Go.RowKit

def digitB (c : Nat) : Bool := decide (48 ≤ c ∧ c ≤ 57)
theorem restB_eq (c : Nat) : restB c = (letterB c || digitB c || decide (c = 45)) := by
  have e : decide (c = 45 ∨ 48 ≤ c ∧ c ≤ 57) = (decide (48 ≤ c ∧ c ≤ 57) || decide (c = 45)) := by
    rw [Bool.eq_iff_iff]; simp only [Bool.or_eq_true, decide_eq_true_iff]; omega
  unfold restB digitB
  rw [e, Bool.or_assoc]

theorem isletter_is (c : Nat) (t : Bool) (h : letterB c = t) (w : World) :
    Calls Try.prog 56 #[.int .u8 (c : Int)] w fun e w' => e = .returned (.bool t) ∧ w = w' := by
  have hcs : ((c : Int) < 65 ∧ t = false) ∨ ((65 : Int) ≤ (c : Int) ∧ (c : Int) ≤ 90 ∧ t = true) ∨ ((90 : Int) < (c : Int) ∧ (c : Int) < 97 ∧ t = false) ∨ ((97 : Int) ≤ (c : Int) ∧ (c : Int) ≤ 122 ∧ t = true) ∨ ((122 : Int) < (c : Int) ∧ t = false) := by
    subst h
    unfold letterB
    simp only [decide_eq_true_iff, decide_eq_false_iff_not]
    omega
  clear h
  rcases hcs with ⟨h1, rfl⟩ | ⟨h1, h2, rfl⟩ | ⟨h1, h2, rfl⟩ | ⟨h1, h2, rfl⟩ | ⟨h1, rfl⟩
  all_goals
    go_enter Try.func56, Try.ntmps56
    go_wp2
    go_ret
    first | exact ⟨rfl, rfl⟩ | exact ⟨ret_bool (by simp; omega), rfl⟩

theorem isdigit_is (c : Nat) (t : Bool) (h : digitB c = t) (w : World) :
    Calls Try.prog 57 #[.int .u8 (c : Int)] w fun e w' => e = .returned (.bool t) ∧ w = w' := by
  have hcs : ((c : Int) < 48 ∧ t = false) ∨ ((48 : Int) ≤ (c : Int) ∧ (c : Int) ≤ 57 ∧ t = true) ∨ ((57 : Int) < (c : Int) ∧ t = false) := by
    subst h
    unfold digitB
    simp only [decide_eq_true_iff, decide_eq_false_iff_not]
    omega
  clear h
  rcases hcs with ⟨h1, rfl⟩ | ⟨h1, h2, rfl⟩ | ⟨h1, rfl⟩
  all_goals
    go_enter Try.func57, Try.ntmps57
    go_wp2
    go_ret
    first | exact ⟨rfl, rfl⟩ | exact ⟨ret_bool (by simp; omega), rfl⟩

theorem okAt_zero {s : ByteArray} : okAt s 0 = letterB (byteAt s 0) := rfl
theorem okAt_of {s : ByteArray} {k : Nat} (h0 : letterB (byteAt s 0) = true) (h : restB (byteAt s k) = true) : okAt s k = true := by
  unfold okAt
  split
  · rename_i e; rw [e]; exact h0
  · exact h
theorem okAt_no {s : ByteArray} {k : Nat} (h : restB (byteAt s k) = false) : okAt s k = false := by
  unfold okAt
  split
  · rw [restB_eq] at h; cases hl : letterB (byteAt s k) <;> simp_all
  · exact h
theorem nameB_nil {s : ByteArray} (h : s.size = 0) : nameB s = false := by unfold nameB; simp [h]
theorem nameB_long {s : ByteArray} (h : 12 < s.size) : nameB s = false := by
  unfold nameB
  rw [decide_eq_false (show ¬ s.size ≤ 12 by omega), Bool.and_false]
theorem nameB_all {s : ByteArray} (h0 : s.size ≠ 0) (h1 : s.size ≤ 12) (h : (List.range s.size).all (okAt s) = true) : nameB s = true := by
  unfold nameB
  rw [h]
  simp [h0, h1]
theorem nameB_size {s : ByteArray} (h : nameB s = true) : 1 ≤ s.size ∧ s.size ≤ 12 := by
  unfold nameB at h
  simp only [Bool.and_eq_true, decide_eq_true_iff] at h
  omega

set_option maxHeartbeats 1000000 in
theorem isnameref_any (s : ByteArray) (w : World) (hs : s.size ≤ maxLen) :
    Calls Try.prog 30 #[.string s] w fun e w' => e = .returned (.bool (nameB s)) ∧ w = w' := by
  unfold maxLen at hs
  by_cases h0 : s.size = 0
  · have HX := Lib.hid (nameB_nil h0)
    have hb : ((s.size : Int) == 0) = true := beq_iff_eq.2 (by omega)
    have HH := Lib.hid h0
    clear h0
    go_enter Try.func30, Try.ntmps30
    go_wp2
    go_ret
    exact ⟨ret_bool HX.out.symm, rfl⟩
  have hb : ((s.size : Int) == 0) = false := beq_eq_false_iff_ne.2 (by omega)
  have HH := Lib.hid h0
  clear h0
  by_cases h12 : (12 : Int) < (s.size : Int)
  · have HX := Lib.hid (nameB_long (s := s) (by omega))
    go_enter Try.func30, Try.ntmps30
    go_wp2
    go_ret
    exact ⟨ret_bool HX.out.symm, rfl⟩
  have hpos : 0 < s.size := by have := HH.out; omega
  have HB0 := Lib.hid (byteAt_get s 0 hpos)
  cases hl : letterB (byteAt s 0)
  · have HX := Lib.hid (name_bad hpos (okAt_zero.trans hl))
    have HL := Lib.hid (show letterB (s[0]).toNat = false by rw [← HB0.out]; exact hl)
    clear hl
    go_enter Try.func30, Try.ntmps30
    go_wp2_with (go_at_call 56; refine (isletter_is _ _ HL.out _).mono ?_; rintro e w' ⟨rfl, rfl⟩)
    go_ret
    exact ⟨ret_bool HX.out.symm, rfl⟩
  have HL0 := Lib.hid hl
  have HL := Lib.hid (show letterB (s[0]).toNat = true by rw [← HB0.out]; exact hl)
  clear hl
  go_enter Try.func30, Try.ntmps30
  go_wp2_with (go_at_call 56; refine (isletter_is _ _ HL.out _).mono ?_; rintro e w' ⟨rfl, rfl⟩)
  go_loop [3] (fun i => ∃ k : Nat, k ≤ s.size ∧ i = .int .i64 k ∧ (List.range k).all (okAt s) = true) (fun i => s.size - (intOf i).toNat)
  case atStart => exact ⟨0, Nat.zero_le _, rfl, rfl⟩
  case round =>
    obtain ⟨k, hk, rfl, ha⟩ := hrel
    have HA := Lib.hid ha
    clear ha
    by_cases hlt : k < s.size
    · have HB := Lib.hid (byteAt_get s k hlt)
      have HR := Lib.hid (restB_eq (byteAt s k))
      cases hl : letterB (byteAt s k)
      · have HLk := Lib.hid (show letterB (s[k]).toNat = false by rw [← HB.out]; exact hl)
        have HL1 := Lib.hid hl
        clear hl
        cases hd : digitB (byteAt s k)
        · have HDk := Lib.hid (show digitB (s[k]).toNat = false by rw [← HB.out]; exact hd)
          have HD1 := Lib.hid hd
          clear hd
          by_cases h45 : ((s[k]).toNat : Int) = 45
          · have hb45 : (((s[k]).toNat : Int) != 45) = false := by simp [h45]
            have HX := Lib.hid (okAt_of HL0.out (show restB (byteAt s k) = true by rw [HR.out, HL1.out, HD1.out, HB.out]; simp; omega))
            have HH45 := Lib.hid h45
            clear h45
            go_wp2_with (first | (go_at_call 56; refine (isletter_is _ _ HLk.out _).mono ?_; rintro e w' ⟨rfl, rfl⟩) | (go_at_call 57; refine (isdigit_is _ _ HDk.out _).mono ?_; rintro e w' ⟨rfl, rfl⟩))
            go_round
            case rel => exact ⟨k + 1, by omega, by go_num, name_step HA.out HX.out⟩
            case measure => simp [intOf]; omega
          · have hb45 : (((s[k]).toNat : Int) != 45) = true := by simpa using h45
            have HX := Lib.hid (name_bad hlt (okAt_no (show restB (byteAt s k) = false by rw [HR.out, HL1.out, HD1.out, HB.out]; simp; omega)))
            have HH45 := Lib.hid h45
            clear h45
            go_wp2_with (first | (go_at_call 56; refine (isletter_is _ _ HLk.out _).mono ?_; rintro e w' ⟨rfl, rfl⟩) | (go_at_call 57; refine (isdigit_is _ _ HDk.out _).mono ?_; rintro e w' ⟨rfl, rfl⟩))
            go_ret
            exact ⟨ret_bool HX.out.symm, rfl⟩
        · have HDk := Lib.hid (show digitB (s[k]).toNat = true by rw [← HB.out]; exact hd)
          have HX := Lib.hid (okAt_of HL0.out (show restB (byteAt s k) = true by rw [HR.out, HL1.out, hd]; rfl))
          clear hd
          go_wp2_with (first | (go_at_call 56; refine (isletter_is _ _ HLk.out _).mono ?_; rintro e w' ⟨rfl, rfl⟩) | (go_at_call 57; refine (isdigit_is _ _ HDk.out _).mono ?_; rintro e w' ⟨rfl, rfl⟩))
          go_round
          case rel => exact ⟨k + 1, by omega, by go_num, name_step HA.out HX.out⟩
          case measure => simp [intOf]; omega
      · have HLk := Lib.hid (show letterB (s[k]).toNat = true by rw [← HB.out]; exact hl)
        have HX := Lib.hid (okAt_of HL0.out (show restB (byteAt s k) = true by rw [HR.out, hl]; rfl))
        clear hl
        go_wp2_with (first | (go_at_call 56; refine (isletter_is _ _ HLk.out _).mono ?_; rintro e w' ⟨rfl, rfl⟩) | (go_at_call 57; fail))
        go_round
        case rel => exact ⟨k + 1, by omega, by go_num, name_step HA.out HX.out⟩
        case measure => simp [intOf]; omega
    · have hkn : k = s.size := by omega
      have HX := Lib.hid (nameB_all HH.out (by omega) (hkn ▸ HA.out))
      clear hkn
      go_wp2
      go_ret
      exact ⟨ret_bool HX.out.symm, rfl⟩

/-- The number of a rocker, or -1. -/
def findI (l : List Rk) (s : ByteArray) : Int := match idxOf l s with | some i => (i : Int) | none => -1
theorem toList_inj {a b : ByteArray} (h : a.toList = b.toList) : a = b := by
  rw [ByteArray.toList_eq, ByteArray.toList_eq] at h
  cases a; cases b
  congr
  exact Array.toList_inj.1 h
theorem str_ne {a b : ByteArray} (h : a ≠ b) : (a.toList == b.toList) = false := by
  rw [beq_eq_false_iff_ne]; exact fun e => h (toList_inj e)
theorem str_eq {a b : ByteArray} (h : a = b) : (a.toList == b.toList) = true := by rw [h]; simp
theorem idx_hit {l : List Rk} {s : ByteArray} {k : Nat} {r : Rk} (h : idxOf (l.take k) s = none) (hr : l[k]? = some r) (hs : r.name = s) : idxOf l s = some k := by
  obtain ⟨hk, rfl⟩ := List.getElem?_eq_some_iff.1 hr
  have e : l = l.take k ++ l.drop k := (List.take_append_drop _ _).symm
  rw [e, idxOf_append, h, List.drop_eq_getElem_cons hk]
  have : idxOf (l[k] :: l.drop (k + 1)) s = some 0 := by unfold idxOf; rw [List.findIdx?_cons]; simp [hs]
  rw [this]
  simp; omega
theorem idx_miss {l : List Rk} {s : ByteArray} {k : Nat} {r : Rk} (h : idxOf (l.take k) s = none) (hr : l[k]? = some r) (hs : r.name ≠ s) : idxOf (l.take (k + 1)) s = none := by
  rw [List.take_add_one, hr, idxOf_append, h]
  have : idxOf [r] s = none := by simp [idxOf, hs]
  simp [this]

set_option maxHeartbeats 1000000 in
theorem find_any (l : List Rk) (A : Option Addr) (n c N : Nat) (s : ByteArray) (w : World) (hx : Reads w N 5 A n (rkCells l)) (hn : n ≤ 1000000) :
    Calls Try.prog 15 #[.slice A n c, .string s] w fun e w' => e = .returned (.int .i64 (findI l s)) ∧ w = w' := by
  have hxl := Lib.hid hx.len5
  have HX := Lib.hid hx
  clear hx
  go_enter Try.func15, Try.ntmps15
  go_wp2
  go_loop [5] (fun i => ∃ k : Nat, k ≤ n ∧ i = .int .i64 k ∧ idxOf (l.take k) s = none) (fun i => n - (intOf i).toNat)
  case atStart => exact ⟨0, by omega, rfl, rfl⟩
  case round =>
    obtain ⟨k, hk, rfl, hno⟩ := hrel
    have HN := Lib.hid hno
    clear hno
    by_cases hlt : k < n
    · obtain ⟨xb, xo, r, rfl, hxb, hr, c0, -, -, -, -⟩ := HX.out.rk hlt
      have HR := Lib.hid hr
      clear hr
      by_cases he : r.name = s
      · have HF : Hid (findI l s = (k : Int)) := by show _ = _; unfold findI; rw [idx_hit HN.out HR.out he]
        have hq := str_eq he
        have HE := Lib.hid he
        clear he
        go_wp2
        go_ret
        exact ⟨ret_int HF.out.symm, rfl⟩
      · have HF := Lib.hid (idx_miss HN.out HR.out he)
        have hq := str_ne he
        have HE := Lib.hid he
        clear he
        go_wp2
        go_round
        case rel => exact ⟨k + 1, by omega, by go_num, HF.out⟩
        case measure => simp [intOf]; omega
    · have hkn : k = n := by omega
      have HF : Hid (findI l s = -1) := by
        show _ = _
        have := HN.out
        rw [List.take_of_length_le (by rw [hxl.out]; omega)] at this
        unfold findI; rw [this]
      clear hkn
      go_wp2
      go_ret
      exact ⟨ret_int HF.out.symm, rfl⟩

theorem find_is (l : List Rk) (A : Option Addr) (n c N : Nat) (s : ByteArray) (i : Int) (hi : findI l s = i) (w : World) (hx : Reads w N 5 A n (rkCells l)) (hn : n ≤ 1000000) :
    Calls Try.prog 15 #[.slice A n c, .string s] w fun e w' => e = .returned (.int .i64 i) ∧ w = w' := hi ▸ find_any l A n c N s w hx hn

/-- Texts as cells. -/
def strs (ps : List ByteArray) : List Value := ps.map .string
theorem Reads.len1 {w : World} {B n : Nat} {A : Option Addr} {l : List ByteArray} (h : Reads w B 1 A n (strs l)) : l.length = n := by
  have := h.1; unfold strs at this; rw [List.length_map] at this; omega
theorem Reads.str {w : World} {B n : Nat} {A : Option Addr} {l : List ByteArray} (h : Reads w B 1 A n (strs l)) {i : Nat} (hi : i < n) :
    ∃ b o s, A = some ⟨b, o, none⟩ ∧ b < B ∧ l[i]? = some s ∧ w.cell? ⟨b, o + i, none⟩ = some (.string s) := by
  obtain ⟨b, o, u, e, hb, hu, hc⟩ := h.at_ hi
  unfold strs at hu
  rw [List.getElem?_map] at hu
  cases hs : l[i]? with
  | none => rw [hs] at hu; cases hu
  | some s => rw [hs] at hu; obtain rfl := Option.some.inj hu; exact ⟨b, o, s, e, hb, rfl, hc⟩

/-- Whether a text is in a list. -/
def hasB (xs : List ByteArray) (s : ByteArray) : Bool := xs.any fun x => decide (x = s)
theorem hasB_true {xs : List ByteArray} {s : ByteArray} : hasB xs s = true ↔ s ∈ xs := by
  unfold hasB
  rw [List.any_eq_true]
  constructor
  · rintro ⟨x, hx, h⟩; rw [of_decide_eq_true h] at hx; exact hx
  · intro h; exact ⟨s, h, decide_eq_true rfl⟩
theorem hasB_false {xs : List ByteArray} {s : ByteArray} : hasB xs s = false ↔ s ∉ xs := by
  rw [← hasB_true]; simp

theorem mem_take_succ {α : Type} {xs : List α} {k : Nat} {x s : α} (h : xs[k]? = some x) : s ∈ xs.take (k + 1) ↔ s ∈ xs.take k ∨ s = x := by
  rw [List.take_add_one, h]; simp

set_option maxHeartbeats 1000000 in
theorem hastext_any (xs : List ByteArray) (A : Option Addr) (n c N : Nat) (s : ByteArray) (w : World) (hx : Reads w N 1 A n (strs xs)) (hn : n ≤ 1000000) :
    Calls Try.prog 33 #[.slice A n c, .string s] w fun e w' => e = .returned (.bool (hasB xs s)) ∧ w = w' := by
  have hxl := Lib.hid hx.len1
  have HX := Lib.hid hx
  clear hx
  go_enter Try.func33, Try.ntmps33
  go_wp2
  go_loop [5] (fun i => ∃ k : Nat, k ≤ n ∧ i = .int .i64 k ∧ s ∉ xs.take k) (fun i => n - (intOf i).toNat)
  case atStart => exact ⟨0, by omega, rfl, by simp⟩
  case round =>
    obtain ⟨k, hk, rfl, hno⟩ := hrel
    have HN := Lib.hid hno
    clear hno
    by_cases hlt : k < n
    · obtain ⟨xb, xo, x, rfl, hxb, hr, c0⟩ := HX.out.str hlt
      have HR := Lib.hid hr
      clear hr
      by_cases he : x = s
      · have HF : Hid (hasB xs s = true) := by show _ = _; rw [hasB_true, ← he]; exact List.mem_of_getElem? HR.out
        have hq := str_eq he
        have HE := Lib.hid he
        clear he
        go_wp2
        go_ret
        exact ⟨ret_bool HF.out.symm, rfl⟩
      · have HF := Lib.hid (show s ∉ xs.take (k + 1) by rw [mem_take_succ HR.out]; rintro (h | h); exact HN.out h; exact he h.symm)
        have hq := str_ne he
        have HE := Lib.hid he
        clear he
        go_wp2
        go_round
        case rel => exact ⟨k + 1, by omega, by go_num, HF.out⟩
        case measure => simp [intOf]; omega
    · have hkn : k = n := by omega
      have HF : Hid (hasB xs s = false) := by
        show _ = _
        have := HN.out
        rw [List.take_of_length_le (by rw [hxl.out]; omega)] at this
        rw [hasB_false]; exact this
      clear hkn
      go_wp2
      go_ret
      exact ⟨ret_bool HF.out.symm, rfl⟩

theorem hastext_is (xs : List ByteArray) (A : Option Addr) (n c N : Nat) (s : ByteArray) (t : Bool) (ht : hasB xs s = t) (w : World) (hx : Reads w N 1 A n (strs xs)) (hn : n ≤ 1000000) :
    Calls Try.prog 33 #[.slice A n c, .string s] w fun e w' => e = .returned (.bool t) ∧ w = w' := ht ▸ hastext_any xs A n c N s w hx hn

end Go.Proofs.Ytfigbdhfmlhjdaa

end
