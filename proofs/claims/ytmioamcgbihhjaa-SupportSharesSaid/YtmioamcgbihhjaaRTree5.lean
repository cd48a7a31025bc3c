/- Contracts of all points of a tree as the reference has them, of the comparison of texts, of the guard on short names, of a copy of rockers. -/
import Derived.Test.YtmioamcgbihhjaaRTree4
import Derived.Test.YtmioamcgbihhjaaPoints
namespace Go.Proofs.Ytmioamcgbihhjaa
open Go.RowKit

theorem own_reads2 {w : World} {base n size c : Nat} {A : Option Addr} {e : TypeId} {xs : List Value} (h : w.ownsRow base e size (.slice A n c) n xs) : Reads w w.heap.size size A n xs := by
  obtain ⟨A2, c2, e2, hr⟩ := own_reads h
  injection e2 with e2a e2b e2c
  subst e2a e2c
  exact hr

def TextsPost (ps : List ByteArray) (w : World) (e : Ending) (w' : World) : Prop :=
  Below w.heap.size w w' ∧ ∃ A' c', e = .returned (.slice A' ps.length c') ∧ w'.ownsRow w.heap.size 9 1 (.slice A' ps.length c') ps.length (strs ps)

set_option maxHeartbeats 1000000 in
theorem rpoints_any (l : List Rk) (hfits : ∀ r ∈ l, r.Fits) (A : Option Addr) (n c N : Nat) (w : World) (hx : Reads w N 5 A n (rkCells l)) (hN : N ≤ w.heap.size) (hn : n ≤ 100000) (h0 : openErr l = 0) (ps : List ByteArray) (hp : ptsOf l = some ps) (hps : ps.length ≤ 1000000) :
    Calls Try.prog 55 #[.slice A n c] w (TextsPost ps w) := by
  unfold ptsOf at hp
  have HX := Lib.hid hx
  have HP := Lib.hid hp
  have H0 := Lib.hid h0
  clear hx hp h0
  go_enter Try.func55, Try.ntmps55
  go_wp2_with fail
  refine (rtop_any l hfits A n c N _ HX.out hN hn H0.out).mono ?_
  rintro e w1 ⟨rfl, hb⟩
  have HB1 := Lib.hid (show Below w.heap.size w w1 from step_below hb (by repeat' (first | exact Below.refl _ _ | exact HB0.out | refine below_drewN ?_ _ | refine Below.drew ?_ | refine Below.alloc ?_ (by first | omega | (simp; done) | (simp; omega) | (simp [World.setCell]; omega)) _ | refine Below.setCell ?_ (by first | omega | (simp; done) | (simp; omega)) _ | assumption)))
  have hz1 := hb.size
  try simp only [World.size_alloc, World.drewN, World.drew] at hz1
  clear hb
  have hbs := HB1.out.size
  go_wp2_with fail
  refine (rbelow_any l hfits A n c N hn l.length (topName l) ps _ HP.out (HX.out.belowLe HB1.out hN) (by omega) hps).mono ?_
  rintro e w2 ⟨hb2, A', c', rfl, ho⟩
  have HB2 := Lib.hid hb2
  have HO := Lib.hid ho
  clear hb2 ho
  go_wp2
  go_ret
  exact ⟨HB1.out.trans (HB2.out.mono hbs), A', c', rfl, own_base hbs HO.out⟩

set_option maxHeartbeats 1000000 in
theorem texts_same (A B : Option Addr) (ca cb n : Nat) (xs : List ByteArray) (w : World) (N : Nat) (hx : Reads w N 1 A n (strs xs)) (hy : Reads w N 1 B n (strs xs)) (h1 : n ≤ 9223372036854775807) :
    Calls Try.prog 54 #[.slice A n ca, .slice B n cb] w fun e w' => e = .returned (.bool true) ∧ ∃ q, w' = w.drewN q := by
  have hb : ((n : Int) != (n : Int)) = false := by simp
  have HX := Lib.hid hx
  have HY := Lib.hid hy
  clear hx hy
  go_enter Try.func54, Try.ntmps54
  go_wp2
  go_loopw [5] (fun i wr => ∃ k : Nat, k ≤ n ∧ i = .int .i64 k ∧ ∃ q, wr = w.drewN q) (fun i _ => n - (intOf i).toNat)
  case atStart => exact ⟨0, by omega, rfl, 0, rfl⟩
  case round =>
    obtain ⟨k, hk, rfl, q, rfl⟩ := hrel
    by_cases hlt : k < n
    · obtain ⟨xb, xo, p, rfl, _, hp, c0⟩ := HX.out.str hlt
      obtain ⟨yb, yo, r, rfl, _, hr, d0⟩ := HY.out.str hlt
      obtain rfl := Option.some.inj (hp.symm.trans hr)
      have hq := str_eq (rfl : p = p)
      have HP := Lib.hid hp
      clear hp hr
      go_wp2
      go_quiet (fail)
      go_wp2
      go_roundw
      case rel => exact ⟨k + 1, by omega, by go_num, _, rfl⟩
      case measure => simp [intOf]; omega
    · go_wp2
      go_ret
      exact ⟨rfl, _, rfl⟩

/-- The guard on trees: at most 8 rockers, or too many, with short names. -/
def fewB (l : List Rk) : Bool := decide ((l.length ≤ 8 ∨ 40 < l.length) ∧ l.length ≤ 43) && l.all fun r => decide (r.name.size ≤ 20 ∧ r.left.size ≤ 20 ∧ r.right.size ≤ 20)
theorem fewB_len {l : List Rk} (h : fewB l = true) : (l.length ≤ 8 ∨ 40 < l.length) ∧ l.length ≤ 43 := by
  unfold fewB at h
  rw [Bool.and_eq_true, decide_eq_true_iff] at h
  exact h.1
theorem few_pts {l : List Rk} (h : fewB l = true) (h0 : openErr l = 0) : ∃ ps, ptsOf l = some ps ∧ ps.length ≤ 1000000 := by
  have h1 := (open_zero h0).2.1
  have h2 := (fewB_len h).1
  have hl : l.length ≤ 8 := by omega
  cases hp : ptsOf l with
  | none => exact absurd hp (pts_ok h0 _)
  | some ps =>
    refine ⟨ps, rfl, ?_⟩
    have := (pts_len _ _ _ hp).2
    have h3 : 2 ^ l.length ≤ 2 ^ 8 := Nat.pow_le_pow_right (by omega) hl
    omega

set_option maxHeartbeats 1000000 in
theorem few_any (l : List Rk) (hfits : ∀ r ∈ l, r.Fits) (A : Option Addr) (n c N : Nat) (w : World) (hx : Reads w N 5 A n (rkCells l)) (hn : n ≤ 9223372036854775807) :
    Calls Try.prog 47 #[.slice A n c] w fun e w' => e = .returned (.bool (fewB l)) ∧ w = w' := by
  have hxl := Lib.hid hx.len5
  have HX := Lib.hid hx
  clear hx
  by_cases h1 : (8 : Int) < n ∧ (n : Int) ≤ 40
  · have HF : Hid (fewB l = false) := by show _ = _; unfold fewB; rw [hxl.out, decide_eq_false (by omega)]; rfl
    obtain ⟨h1, h2⟩ := h1
    go_enter Try.func47, Try.ntmps47
    go_wp2
    go_ret
    exact ⟨ret_bool HF.out.symm, rfl⟩
  by_cases h2 : (43 : Int) < n
  · have HF : Hid (fewB l = false) := by show _ = _; unfold fewB; rw [hxl.out, decide_eq_false (by omega)]; rfl
    have h8 : (8 : Int) < n := by omega
    have h40 : ¬ (n : Int) ≤ 40 := by omega
    clear h1
    go_enter Try.func47, Try.ntmps47
    go_wp2
    go_ret
    exact ⟨ret_bool HF.out.symm, rfl⟩
  have HL : Hid ((l.length ≤ 8 ∨ 40 < l.length) ∧ l.length ≤ 43) := by show _ ∧ _; rw [hxl.out]; omega
  have hcs : (n : Int) ≤ 8 ∨ ((8 : Int) < n ∧ ¬ (n : Int) ≤ 40) := by omega
  clear h1
  rcases hcs with h8 | ⟨h8, h40⟩
  all_goals
    go_enter Try.func47, Try.ntmps47
    go_wp2
    go_loop [3] (fun i => ∃ k : Nat, k ≤ n ∧ i = .int .i64 k ∧ (l.take k).all (fun r => decide (r.name.size ≤ 20 ∧ r.left.size ≤ 20 ∧ r.right.size ≤ 20)) = true) (fun i => n - (intOf i).toNat)
    case atStart => exact ⟨0, by omega, rfl, by simp⟩
    case round =>
      obtain ⟨k, hk, rfl, hall⟩ := hrel
      have HALL := Lib.hid hall
      clear hall
      by_cases hlt : k < n
      · obtain ⟨xb, xo, r, rfl, hxb, hr, c0, c1, c2, -, -⟩ := HX.out.rk hlt
        have hfit := hfits r (List.mem_of_getElem? hr)
        have f0 := hfit.name
        have f1 := hfit.left
        have f2 := hfit.right
        unfold maxLen at f0 f1 f2
        have HSTOP : Hid (¬ (r.name.size ≤ 20 ∧ r.left.size ≤ 20 ∧ r.right.size ≤ 20) → fewB l = false) := fun hno => by
          unfold fewB
          rw [Bool.and_eq_false_iff]
          right
          rw [List.all_eq_false]
          exact ⟨r, List.mem_of_getElem? hr, by simpa using hno⟩
        have HR := Lib.hid hr
        clear hr hfit
        by_cases g0 : (20 : Int) < r.name.size
        · have HF := Lib.hid (HSTOP.out (by omega))
          go_wp2
          go_ret
          exact ⟨ret_bool HF.out.symm, rfl⟩
        by_cases g1 : (20 : Int) < r.left.size
        · have HF := Lib.hid (HSTOP.out (by omega))
          go_wp2
          go_ret
          exact ⟨ret_bool HF.out.symm, rfl⟩
        by_cases g2 : (20 : Int) < r.right.size
        · have HF := Lib.hid (HSTOP.out (by omega))
          go_wp2
          go_ret
          exact ⟨ret_bool HF.out.symm, rfl⟩
        have HN : Hid ((l.take (k + 1)).all (fun r => decide (r.name.size ≤ 20 ∧ r.left.size ≤ 20 ∧ r.right.size ≤ 20)) = true) := by
          show _ = _
          rw [List.take_add_one, HR.out, List.all_append, HALL.out]
          simp
          omega
        go_wp2
        go_round
        case rel => exact ⟨k + 1, by omega, by go_num, HN.out⟩
        case measure => simp [intOf]; omega
      · have hkn : k = n := by omega
        have HF : Hid (fewB l = true) := by
          show _ = _
          have := HALL.out
          rw [hkn, List.take_of_length_le (by rw [hxl.out]; omega)] at this
          unfold fewB
          rw [this, decide_eq_true HL.out]
          rfl
        clear hkn
        go_wp2
        go_ret
        exact ⟨ret_bool HF.out.symm, rfl⟩

theorem few_is (l : List Rk) (hfits : ∀ r ∈ l, r.Fits) (A : Option Addr) (n c N : Nat) (t : Bool) (ht : fewB l = t) (w : World) (hx : Reads w N 5 A n (rkCells l)) (hn : n ≤ 9223372036854775807) :
    Calls Try.prog 47 #[.slice A n c] w fun e w' => e = .returned (.bool t) ∧ w = w' := ht ▸ few_any l hfits A n c N w hx hn

theorem one_rk (l : List Rk) : ∀ u ∈ rkCells l, u.oneCell' = true := by
  intro u hu
  unfold rkCells at hu
  rw [List.mem_flatMap] at hu
  obtain ⟨p, -, hp⟩ := hu
  simp [Rk.cells] at hp
  rcases hp with rfl | rfl | rfl | rfl | rfl <;> rfl

theorem info_rk : (Try.prog.info? 132).map (fun i => (i.zero, i.size, i.bytes)) = some (some (.agg #[.string ByteArray.empty, .string ByteArray.empty, .string ByteArray.empty, .int .i64 0, .int .i64 0]), 5, 64) := by kernel_rfl

theorem copied_any (A : Option Addr) (n c N : Nat) (l : List Rk) (w : World) (hx : Reads w N 5 A n (rkCells l)) (hN : N ≤ w.heap.size) (hn : n ≤ 100000) :
    Calls Try.prog 49 #[.slice A n c] w (CopyPost w 132 5 n (rkCells l)) := by
  obtain ⟨v', W2, hrun, ho, hb⟩ := copy_run (P := Try.prog) 82 82 132 _ 5 64 Try.underlying82 info_rk rfl (by omega) w N A n c (rkCells l) hx hN (one_rk l) (by unfold maxLen; omega) (by omega)
  have HRUN := Lib.hid hrun
  have HO := Lib.hid ho
  have HB := Lib.hid hb
  clear hrun ho hb
  go_enter Try.func49, Try.ntmps49
  go_wp2_with (first | (at_builtin; refine wpList_app _ W2 v' rfl _ _ _ rfl _ _ rfl rfl HRUN.out ?_))
  go_ret
  exact CopyPost.of HO.out HB.out

end Go.Proofs.Ytmioamcgbihhjaa
