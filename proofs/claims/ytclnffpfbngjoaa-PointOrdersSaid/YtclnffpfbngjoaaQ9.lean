import Derived.Test.YtclnffpfbngjoaaQ8

section
/- Contracts of the checks of targets and days, and of the reference's checks of mountings and targets. -/
namespace Go.Proofs.Ytclnffpfbngjoaa
open Go Go.RowKit

theorem isnamept_is (s : ByteArray) (t : Bool) (h : nameB s = t) (w : World) (hs : s.size ≤ maxLen) :
    Calls Try.prog 83 #[.string s] w fun e w' => e = .returned (.bool t) ∧ w = w' := h ▸ isnamept_any s w hs

/-- A target. -/
structure Tgt where
  name : ByteArray
  az : Int
  ht : Int
  fr : Int
  to : Int
  dw : Int
def Tgt.val (t : Tgt) : Value := .agg #[.string t.name, .int .i64 t.az, .int .i64 t.ht, .int .i64 t.fr, .int .i64 t.to, .int .i64 t.dw]
def Tgt.rng (t : Tgt) : Bool := withinB t.az 0 1295999 && withinB t.ht 0 324000 && withinB t.fr 0 10000000 && withinB t.to 0 10000000 && withinB t.dw 1 10000
/-- The error of a target. -/
def tgtErr (t : Tgt) : Int := if nameB t.name = false then 4 else if t.rng = false then 2 else if t.to ≤ t.fr then 9 else 0

set_option maxRecDepth 100000 in
set_option maxHeartbeats 2000000 in
theorem ptarget_is (t : Tgt) (E : Int) (hE : tgtErr t = E) (w : World) (hs : t.name.size ≤ maxLen) :
    Calls Try.prog 68 #[t.val] w fun e w' => e = .returned (.int .i64 E) ∧ Below w.heap.size w w' := by
  obtain ⟨nm, az, ht, fr, to, dw⟩ := t
  simp only at hs
  unfold Tgt.val
  dsimp only
  unfold tgtErr at hE
  simp only at hE
  cases hnm : nameB nm with
  | false =>
    rw [if_pos hnm] at hE
    subst hE
    go_enter Try.func68, Try.ntmps68
    go_wp2_with fail
    refine (isnamept_is _ _ (by assumption) _ hs).mono ?_
    rintro e w' ⟨rfl, rfl⟩
    go_wp2
    go_ret
    exact ⟨rfl, (Below.refl _ _).alloc (Nat.le_refl _) _⟩
  | true =>
  rw [if_neg (by rw [hnm]; simp)] at hE
  cases hr : Tgt.rng ⟨nm, az, ht, fr, to, dw⟩ with
  | false =>
    rw [if_pos hr] at hE
    subst hE
    unfold Tgt.rng at hr
    simp only at hr
    rcases chain5 hr with h1 | ⟨h1, h2⟩ | ⟨h1, h2, h3⟩ | ⟨h1, h2, h3, h4⟩ | ⟨h1, h2, h3, h4, h5⟩
    all_goals
      clear hr
      go_enter Try.func68, Try.ntmps68
      go_wp2_with fail
      refine (isnamept_is _ _ (by assumption) _ hs).mono ?_
      rintro e w' ⟨rfl, rfl⟩
      go_wp2_with (first | (go_at_call 43; refine (withinpt_is _ _ _ _ (by assumption) _).mono ?_; rintro e w' ⟨rfl, rfl⟩))
      go_ret
      exact ⟨rfl, (Below.refl _ _).alloc (Nat.le_refl _) _⟩
  | true =>
    rw [if_neg (by rw [hr]; simp)] at hE
    unfold Tgt.rng at hr
    simp only at hr
    obtain ⟨h1, h2, h3, h4, h5⟩ := chain5t hr
    clear hr
    by_cases ho : to ≤ fr
    all_goals
      first | rw [if_pos ho] at hE | rw [if_neg ho] at hE
      subst hE
      go_enter Try.func68, Try.ntmps68
      go_wp2_with fail
      refine (isnamept_is _ _ (by assumption) _ hs).mono ?_
      rintro e w' ⟨rfl, rfl⟩
      go_wp2_with (first | (go_at_call 43; refine (withinpt_is _ _ _ _ (by assumption) _).mono ?_; rintro e w' ⟨rfl, rfl⟩))
      go_ret
      exact ⟨rfl, (Below.refl _ _).alloc (Nat.le_refl _) _⟩

theorem isheight_is (n : Int) (t : Bool) (h : withinB n 0 324000 = t) (w : World) : Calls Try.prog 52 #[.int .i64 n] w fun e w' => e = .returned (.bool t) ∧ w = w' := by
  have H := Lib.hid h
  clear h
  go_enter Try.func52, Try.ntmps52
  go_wp2_with fail
  refine (withinref_is _ _ _ t H.out _).mono ?_
  rintro e w' ⟨rfl, rfl⟩
  go_wp2
  go_ret
  exact ⟨rfl, rfl⟩
theorem isminute_is (n : Int) (t : Bool) (h : withinB n 0 10000000 = t) (w : World) : Calls Try.prog 55 #[.int .i64 n] w fun e w' => e = .returned (.bool t) ∧ w = w' := by
  have H := Lib.hid h
  clear h
  go_enter Try.func55, Try.ntmps55
  go_wp2_with fail
  refine (withinref_is _ _ _ t H.out _).mono ?_
  rintro e w' ⟨rfl, rfl⟩
  go_wp2
  go_ret
  exact ⟨rfl, rfl⟩
theorem isday_is (n : Int) (t : Bool) (h : withinB n 0 100000 = t) (w : World) : Calls Try.prog 25 #[.int .i64 n] w fun e w' => e = .returned (.bool t) ∧ w = w' := by
  have H := Lib.hid h
  clear h
  go_enter Try.func25, Try.ntmps25
  go_wp2_with fail
  refine (withinref_is _ _ _ t H.out _).mono ?_
  rintro e w' ⟨rfl, rfl⟩
  go_wp2
  go_ret
  exact ⟨rfl, rfl⟩
def dayErr (n : Int) : Int := if withinB n 0 100000 then 0 else 2
theorem checkday_is (n : Int) (E : Int) (h : dayErr n = E) (w : World) : Calls Try.prog 42 #[.int .i64 n] w fun e w' => e = .returned (.int .i64 E) ∧ w = w' := by
  unfold dayErr at h
  cases hw : withinB n 0 100000 with
  | false =>
    rw [hw, if_neg (by simp)] at h
    subst h
    have H := Lib.hid hw
    clear hw
    go_enter Try.func42, Try.ntmps42
    go_wp2_with fail
    refine (withinpt_is _ _ _ _ H.out _).mono ?_
    rintro e w' ⟨rfl, rfl⟩
    go_wp2
    go_ret
    exact ⟨rfl, rfl⟩
  | true =>
    rw [hw, if_pos rfl] at h
    subst h
    have H := Lib.hid hw
    clear hw
    go_enter Try.func42, Try.ntmps42
    go_wp2_with fail
    refine (withinpt_is _ _ _ _ H.out _).mono ?_
    rintro e w' ⟨rfl, rfl⟩
    go_wp2
    go_ret
    exact ⟨rfl, rfl⟩

set_option maxRecDepth 100000 in
set_option maxHeartbeats 2000000 in
theorem rtarget_is (t : Tgt) (E : Int) (hE : tgtErr t = E) (w : World) (hs : t.name.size ≤ maxLen) :
    Calls Try.prog 27 #[t.val] w fun e w' => e = .returned (.int .i64 E) ∧ Below w.heap.size w w' := by
  obtain ⟨nm, az, ht, fr, to, dw⟩ := t
  simp only at hs
  unfold Tgt.val
  dsimp only
  unfold tgtErr at hE
  simp only at hE
  cases hnm : nameB nm with
  | false =>
    rw [if_pos hnm] at hE
    subst hE
    go_enter Try.func27, Try.ntmps27
    go_wp2_with fail
    refine (isnameref_is _ _ (by assumption) _ hs).mono ?_
    rintro e w' ⟨rfl, rfl⟩
    go_wp2
    go_ret
    exact ⟨rfl, (Below.refl _ _).alloc (Nat.le_refl _) _⟩
  | true =>
  rw [if_neg (by rw [hnm]; simp)] at hE
  cases hr : Tgt.rng ⟨nm, az, ht, fr, to, dw⟩ with
  | false =>
    rw [if_pos hr] at hE
    subst hE
    unfold Tgt.rng at hr
    simp only at hr
    rcases chain5 hr with h1 | ⟨h1, h2⟩ | ⟨h1, h2, h3⟩ | ⟨h1, h2, h3, h4⟩ | ⟨h1, h2, h3, h4, h5⟩
    all_goals
      clear hr
      go_enter Try.func27, Try.ntmps27
      go_wp2_with fail
      refine (isnameref_is _ _ (by assumption) _ hs).mono ?_
      rintro e w' ⟨rfl, rfl⟩
      go_wp2_with (first | (go_at_call 26; refine (withinref_is _ _ _ _ (by assumption) _).mono ?_; rintro e w' ⟨rfl, rfl⟩) | (go_at_call 52; refine (isheight_is _ _ (by assumption) _).mono ?_; rintro e w' ⟨rfl, rfl⟩) | (go_at_call 55; refine (isminute_is _ _ (by assumption) _).mono ?_; rintro e w' ⟨rfl, rfl⟩))
      go_ret
      exact ⟨rfl, (Below.refl _ _).alloc (Nat.le_refl _) _⟩
  | true =>
    rw [if_neg (by rw [hr]; simp)] at hE
    unfold Tgt.rng at hr
    simp only at hr
    obtain ⟨h1, h2, h3, h4, h5⟩ := chain5t hr
    clear hr
    by_cases ho : to ≤ fr
    all_goals
      first | rw [if_pos ho] at hE | rw [if_neg ho] at hE
      subst hE
      go_enter Try.func27, Try.ntmps27
      go_wp2_with fail
      refine (isnameref_is _ _ (by assumption) _ hs).mono ?_
      rintro e w' ⟨rfl, rfl⟩
      go_wp2_with (first | (go_at_call 26; refine (withinref_is _ _ _ _ (by assumption) _).mono ?_; rintro e w' ⟨rfl, rfl⟩) | (go_at_call 52; refine (isheight_is _ _ (by assumption) _).mono ?_; rintro e w' ⟨rfl, rfl⟩) | (go_at_call 55; refine (isminute_is _ _ (by assumption) _).mono ?_; rintro e w' ⟨rfl, rfl⟩))
      go_ret
      exact ⟨rfl, (Below.refl _ _).alloc (Nat.le_refl _) _⟩

theorem small_two (a b : Int) : smallL 25920000 [a, b] = (withinB a (-25920000) 25920000 && withinB b (-25920000) 25920000) := by unfold smallL; simp

set_option maxRecDepth 100000 in
set_option maxHeartbeats 2000000 in
theorem rmount_is (m : Mnt) (E : Int) (hE : mntErr m = E) (w : World) (hx : MntAt m w) :
    Calls Try.prog 24 #[m.val] w fun e w' => e = .returned (.int .i64 E) ∧ Below w.heap.size w w' := by
  obtain ⟨ls, ms, lo, hi, sp, A1, n1, c1, l1, A2, n2, c2, l2⟩ := m
  obtain ⟨hx1, hx2, hb1, hb2⟩ := hx
  simp only at hx1 hx2 hb1 hb2
  unfold Mnt.val
  dsimp only
  unfold mntErr at hE
  cases hr : Mnt.rng ⟨ls, ms, lo, hi, sp, A1, n1, c1, l1, A2, n2, c2, l2⟩ with
  | false =>
    rw [if_pos hr] at hE
    subst hE
    unfold Mnt.rng at hr
    simp only [small_two] at hr
    rcases chain5 hr with h1 | ⟨h1, h2⟩ | ⟨h1, h2, h3⟩ | ⟨h1, h2, h3, h4⟩ | ⟨h1, h2, h3, h4, h5⟩
    all_goals
      clear hr hx1 hx2
      go_enter Try.func24, Try.ntmps24
      go_wp2_with (first | (go_at_call 26; refine (withinref_is _ _ _ _ (by assumption) _).mono ?_; rintro e w' ⟨rfl, rfl⟩) | (go_at_call 52; refine (isheight_is _ _ (by assumption) _).mono ?_; rintro e w' ⟨rfl, rfl⟩))
      go_ret
      exact ⟨rfl, (Below.refl _ _).alloc (Nat.le_refl _) _⟩
  | true =>
    rw [if_neg (by rw [hr]; simp)] at hE
    unfold Mnt.rng at hr
    simp only [small_two] at hr hE
    obtain ⟨h1, h2, h3, h4, h5⟩ := chain5t hr
    by_cases ho : ms < ls ∨ hi < lo
    · rw [if_pos ho] at hE
      subst hE
      rcases Decidable.em (ms < ls) with o1 | o1
      all_goals
        have o2 : ms < ls ∨ (¬ ms < ls ∧ hi < lo) := by omega
        first | (have o3 : hi < lo := by omega) | skip
        clear hr ho o2 hx1 hx2
        go_enter Try.func24, Try.ntmps24
        go_wp2_with (first | (go_at_call 26; refine (withinref_is _ _ _ _ (by assumption) _).mono ?_; rintro e w' ⟨rfl, rfl⟩) | (go_at_call 52; refine (isheight_is _ _ (by assumption) _).mono ?_; rintro e w' ⟨rfl, rfl⟩))
        go_ret
        exact ⟨rfl, (Below.refl _ _).alloc (Nat.le_refl _) _⟩
    · rw [if_neg ho] at hE
      obtain ⟨o1, o2⟩ : ¬ ms < ls ∧ ¬ hi < lo := by omega
      obtain ⟨t1, ht1⟩ : ∃ t, tabErr l1 = t := ⟨_, rfl⟩
      obtain ⟨t2, ht2⟩ : ∃ t, tabErr l2 = t := ⟨_, rfl⟩
      rw [ht1, ht2] at hE
      have HT1 := Lib.hid ht1
      have HT2 := Lib.hid ht2
      clear hr ho ht1 ht2
      by_cases hz : t1 = 0
      · have e1 : (t1 != 0) = false := by simp [hz]
        have hv : t2 = E := by rw [← hE]; unfold orE; rw [if_neg (by simp [hz])]; unfold orE; by_cases h2 : t2 = 0 <;> simp [h2, orE]
        have HV := Lib.hid hv
        have HX1 := Lib.hid hx1
        have HX2 := Lib.hid hx2
        clear hE hv hz hx1 hx2
        go_enter Try.func24, Try.ntmps24
        go_wp2_with (first | (go_at_call 26; refine (withinref_is _ _ _ _ (by assumption) _).mono ?_; rintro e w' ⟨rfl, rfl⟩) | (go_at_call 52; refine (isheight_is _ _ (by assumption) _).mono ?_; rintro e w' ⟨rfl, rfl⟩))
        refine (rchecktab9_is A1 n1 c1 _ l1 t1 HT1.out _ (HX1.out.alloc (Nat.le_refl _) _) hb1).mono ?_
        rintro e w' ⟨rfl, q, rfl⟩
        go_wp2_with fail
        refine (rchecktab9_is A2 n2 c2 _ l2 t2 HT2.out _ ((HX2.out.alloc (Nat.le_refl _) _).drewN _) hb2).mono ?_
        rintro e w' ⟨rfl, q', rfl⟩
        go_wp2
        go_ret
        exact ⟨ret_int HV.out, by first | exact below_drewN ((Below.refl _ _).alloc (Nat.le_refl _) _) _ | exact below_drewN (below_drewN ((Below.refl _ _).alloc (Nat.le_refl _) _) _) _⟩
      · have e1 : (t1 != 0) = true := by simp [hz]
        have hv : t1 = E := by rw [← hE]; unfold orE; rw [if_pos hz]
        have HV := Lib.hid hv
        have HX1 := Lib.hid hx1
        clear hE hv hz hx1 hx2
        go_enter Try.func24, Try.ntmps24
        go_wp2_with (first | (go_at_call 26; refine (withinref_is _ _ _ _ (by assumption) _).mono ?_; rintro e w' ⟨rfl, rfl⟩) | (go_at_call 52; refine (isheight_is _ _ (by assumption) _).mono ?_; rintro e w' ⟨rfl, rfl⟩))
        refine (rchecktab9_is A1 n1 c1 _ l1 t1 HT1.out _ (HX1.out.alloc (Nat.le_refl _) _) hb1).mono ?_
        rintro e w' ⟨rfl, q, rfl⟩
        go_wp2
        go_ret
        exact ⟨ret_int HV.out, below_drewN ((Below.refl _ _).alloc (Nat.le_refl _) _) _⟩

end Go.Proofs.Ytclnffpfbngjoaa

end
