import Derived.Test.YtnepjgnnppfibaaQ21
import Derived.Test.YtnepjgnnppfibaaQ19
import Derived.Test.YtnepjgnnppfibaaQ10
import Derived.Test.YtnepjgnnppfibaaQ6

section
/- Sessions: small lists; what the calls answer. -/
namespace Go.Proofs.Ytnepjgnnppfibaa
open Go Go.RowKit

section
variable {A : Option Addr} {n c : Nat} {B : Option Addr} {m d : Nat} {h : List Int} {t : List TRow} {E : Int} {w : World}
theorem remaining_ok (hE : leftErr h (t.map (·.xs)) = 0) (hx : Reads w w.heap.size 1 A n (h.map (.int .i64))) (hy : ReadsT w w.heap.size B m t) (hn : n ≤ 1000) (hm : m ≤ 1000) :
    Calls Try.prog 62 #[.slice A n c, .slice B m d] w fun e w' => ∃ A c, e = .returned (.tuple #[.slice A n c, .int .i64 0]) ∧ Below w.heap.size w w' ∧ Reads w' w'.heap.size 1 A n ((tabL n (leftF h (t.map (·.xs)) (t.map (·.xs)).length)).map (.int .i64)) :=
  (remaining_is A n c B m d h t 0 hE w hx hy hn hm).mono fun e w' ⟨hb, hp⟩ => by
    rcases hp with ⟨he, -⟩ | ⟨-, A, c, he, hr⟩
    · exact absurd rfl he
    · exact ⟨A, c, he, hb, hr⟩
end
theorem copyT_any (A : Option Addr) (n c : Nat) (t : List TRow) (w : World) (hx : ReadsT w w.heap.size A n t) (hn : n ≤ 1000) (hrn : ∀ r ∈ t, r.n ≤ 1000) :
    Calls Try.prog 63 #[.slice A n c] w fun e w' => ∃ A' c' ts, e = .returned (.slice A' n c') ∧ Below w.heap.size w w' ∧ ts.map TRow.xs = t.map TRow.xs ∧ ReadsT w' w'.heap.size A' n ts :=
  (copylists_any A n c t w hx hn hrn).mono fun e w' ⟨hb, A', c', ts, he, hs, hr⟩ => ⟨A', c', ts, he, hb, hs, hr⟩
theorem copyJ_any (A : Option Addr) (n c : Nat) (l : List Int) (w : World) (hx : Reads w w.heap.size 1 A n (l.map (.int .i64))) (hn : n ≤ 1000000) :
    Calls Try.prog 34 #[.slice A n c] w fun e w' => ∃ A' c', e = .returned (.slice A' n c') ∧ Below w.heap.size w w' ∧ Reads w' w'.heap.size 1 A' n (l.map (.int .i64)) :=
  (copyints_any A n c _ l w hx (Nat.le_refl _) hn).mono fun e w' h => by
    obtain ⟨A', c', he, hb, hr, -⟩ := h
    exact ⟨A', c', he, hb, hr⟩

/-- At most six lists of at most 45 numbers, or a few more lists than the limit. -/
def listsB (m : Nat) (t : List TRow) : Bool := (decide (m ≤ 6) || (decide (100 < m) && decide (m ≤ 102))) && t.all (fun r => decide (r.n ≤ 45))
theorem lists_yes {m : Nat} {t : List TRow} (h : listsB m t = true) : m ≤ 102 ∧ ∀ r ∈ t, r.n ≤ 45 := by
  unfold listsB at h
  rw [Bool.and_eq_true, Bool.or_eq_true, Bool.and_eq_true, decide_eq_true_eq, decide_eq_true_eq, decide_eq_true_eq] at h
  refine ⟨by omega, fun r hr => ?_⟩
  simpa using List.all_eq_true.1 h.2 r hr
set_option maxRecDepth 100000 in
set_option maxHeartbeats 4000000 in
theorem lists_is (B : Option Addr) (m d : Nat) (t : List TRow) (b : Bool) (hb : listsB m t = b) (w : World) (hy : ReadsT w w.heap.size B m t) :
    Calls Try.prog 61 #[.slice B m d, .int .i64 6] w fun e w' => e = .returned (.bool b) ∧ w = w' := by
  have htl : t.length = m := hy.len
  have HY := Lib.hid hy
  have HTL := Lib.hid htl
  have HB0 := Lib.hid hb
  clear hy hb htl
  by_cases h1 : (m ≤ 6 ∨ (100 < m ∧ m ≤ 102))
  rotate_left
  · have HBB := Lib.hid (show false = b by
      rw [← HB0.out]; unfold listsB
      have : (decide (m ≤ 6) || (decide (100 < m) && decide (m ≤ 102))) = false := by
        rw [Bool.or_eq_false_iff, Bool.and_eq_false_iff, decide_eq_false_iff_not, decide_eq_false_iff_not, decide_eq_false_iff_not]; omega
      rw [this]; rfl)
    have d1 : decide ((6 : Int) < (m : Int)) = true := by simp; omega
    by_cases h2 : m ≤ 100
    · have d2 : decide ((m : Int) ≤ 100) = true := by simp; omega
      clear h1 h2
      go_enter Try.func61, Try.ntmps61
      go_wp2
      go_ret
      exact ⟨ret_bool HBB.out, rfl⟩
    · have d2 : decide ((m : Int) ≤ 100) = false := by simp; omega
      have d3 : decide ((102 : Int) < (m : Int)) = true := by simp; omega
      clear h1 h2
      go_enter Try.func61, Try.ntmps61
      go_wp2
      go_ret
      exact ⟨ret_bool HBB.out, rfl⟩
  have HB1 := Lib.hid (show t.all (fun r => decide (r.n ≤ 45)) = b by
    rw [← HB0.out]; unfold listsB
    have : (decide (m ≤ 6) || (decide (100 < m) && decide (m ≤ 102))) = true := by
      rw [Bool.or_eq_true, Bool.and_eq_true, decide_eq_true_eq, decide_eq_true_eq, decide_eq_true_eq]; omega
    rw [this, Bool.true_and])
  have d3 : decide ((102 : Int) < (m : Int)) = false := by simp; omega
  have hcase : (decide ((6 : Int) < (m : Int)) = false) ∨ (decide ((6 : Int) < (m : Int)) = true ∧ decide ((m : Int) ≤ 100) = false) := by
    rcases h1 with h | ⟨h, -⟩
    · exact .inl (by simp; omega)
    · exact .inr ⟨by simp; omega, by simp; omega⟩
  have hm2 : m ≤ 102 := by omega
  clear h1
  rcases hcase with d1 | ⟨d1, d2⟩
  all_goals
    go_enter Try.func61, Try.ntmps61
    go_wp2
    go_loopw [5] (fun v wr => ∃ k : Nat, k ≤ m ∧ v = .int .i64 k ∧ w = wr ∧ ∀ r ∈ t.take k, decide (r.n ≤ 45) = true) (fun v _ => m - (intOf v).toNat)
    case atStart => exact ⟨0, by omega, rfl, by first | trivial | rfl, by simp⟩
    case round =>
      obtain ⟨k, hk, rfl, rfl, hup⟩ := hrel
      have HUP := Lib.hid hup
      clear hup
      by_cases hlt : k < m
      · obtain ⟨bt, ot, r, rfl, hbt, hrt, cr, ⟨hrc1, hrc2⟩, hrl, hrr⟩ := HY.out.at_ hlt
        have hkk : (k : Int) < (m : Int) := by omega
        have HRT := Lib.hid hrt
        clear hrr hrt
        by_cases h45 : r.n ≤ 45
        · have d4 : decide ((45 : Int) < (r.n : Int)) = false := by simp; omega
          have HUP2 := Lib.hid (take_all HRT.out HUP.out (by simpa using h45))
          clear h45
          go_wp2
          go_roundw
          case rel => exact ⟨k + 1, by omega, by go_num, by first | trivial | rfl, HUP2.out⟩
          case measure => simp [intOf]; omega
        · have d4 : decide ((45 : Int) < (r.n : Int)) = true := by simp; omega
          have HBB := Lib.hid (show false = b by
            rw [← HB1.out]
            symm
            rw [List.all_eq_false]
            exact ⟨r, List.mem_of_getElem? HRT.out, by simpa using h45⟩)
          clear h45
          go_wp2
          go_ret
          exact ⟨ret_bool HBB.out, rfl⟩
      · obtain rfl : k = m := by omega
        have HBB := Lib.hid (show true = b by
          rw [← HB1.out]
          symm
          rw [List.all_eq_true]
          intro r hr
          exact HUP.out r (by rw [List.take_of_length_le (by rw [HTL.out]; omega)]; exact hr))
        go_wp2
        go_ret
        exact ⟨ret_bool HBB.out, rfl⟩
end Go.Proofs.Ytnepjgnnppfibaa

end

section
/- The walk of the statement on sessions that do not dig. -/
namespace Go.Proofs.Ytnepjgnnppfibaa
open Go Go.RowKit

/-- Accepted sessions: no errors, and nothing is below what is wanted. -/
theorem sess_zero {h v : List Int} {ws : List (List Int)} {k : Int} (hs : sessF h v ws = (k, 0)) : twoErr h v = 0 ∧ leftErr h ws = 0 ∧ digB h.length (tabL h.length (leftF h ws ws.length)) v = false := by
  unfold sessF at hs
  by_cases h1 : twoErr h v ≠ 0
  · rw [if_pos h1] at hs
    exact absurd (Prod.mk.inj hs).2 h1
  rw [if_neg h1] at hs
  by_cases h2 : 100 < ws.length
  · rw [if_pos h2] at hs
    exact absurd (Prod.mk.inj hs).2 (by decide)
  rw [if_neg h2] at hs
  cases h3 : digB h.length h v with
  | true => rw [h3, if_pos rfl] at hs; exact absurd (Prod.mk.inj hs).2 (by decide)
  | false =>
    rw [h3, if_neg (by simp)] at hs
    cases h4 : (List.range ws.length).find? (sessBad h.length h v ws) with
    | some q =>
      rw [h4] at hs
      simp only [Prod.mk.injEq] at hs
      by_cases h5 : wearErr h.length (ws.getD q []) ≠ 0
      · rw [if_pos h5] at hs; exact absurd hs.2 h5
      · rw [if_neg h5] at hs; exact absurd hs.2 (by decide)
    | none =>
      rw [List.find?_eq_none] at h4
      have hb : ∀ q, q < ws.length → sessBad h.length h v ws q = false := fun q hq => by
        have := h4 q (List.mem_range.2 hq)
        simpa using this
      have h1' := Decidable.not_not.1 h1
      obtain ⟨e0, -, -⟩ := two_ok h1'
      refine ⟨h1', ?_, ?_⟩
      · unfold leftErr
        rw [e0, if_neg (by simp), if_neg h2]
        refine firstErr_ok fun l hl => ?_
        obtain ⟨q, hq⟩ := List.getElem?_of_mem hl
        have hq2 := (List.getElem?_eq_some_iff.1 hq).1
        have := bad_wear (hb q hq2)
        rwa [getD_of hq] at this
      · rcases Nat.eq_zero_or_pos ws.length with hz | hz
        · rw [hz, tabL_congr (g := fun i => h.getD i 0) (fun i _ => leftF_zero _ _ _), ← tabL_of rfl]
          exact h3
        · have := hb (ws.length - 1) (by omega)
          unfold sessBad at this
          rw [Bool.or_eq_false_iff, show ws.length - 1 + 1 = ws.length by omega] at this
          exact this.2

set_option maxRecDepth 100000 in
set_option maxHeartbeats 4000000 in
theorem lawFG_any (A : Option Addr) (n c : Nat) (h : List Int) (V : Option Addr) (nv cv : Nat) (v : List Int) (B : Option Addr) (m d : Nat) (t : List TRow) (w : World) (hnc : n ≤ c ∧ c ≤ 9223372036854775807) (_ : h.length = n) (_ : ∀ z ∈ h, I64 z) (hx : Reads w w.heap.size 1 A n (h.map (.int .i64)))
    (hnv : nv ≤ cv ∧ cv ≤ 9223372036854775807) (_ : v.length = nv) (_ : ∀ z ∈ v, I64 z) (hv : Reads w w.heap.size 1 V nv (v.map (.int .i64)))
    (hmd : m ≤ d ∧ d ≤ 9223372036854775807) (_ : t.length = m) (_ : ∀ r ∈ t, ∀ z ∈ r.xs, I64 z) (hy : ReadsT w w.heap.size B m t) :
    Calls Try.prog 14 #[.slice A n c, .slice V nv cv, .slice B m d] w fun e w' => e = .returned (.bool true) ∧ Below w.heap.size w w' := by
  have hl : h.length = n := by have := hx.1; simpa using this
  have hlv : v.length = nv := by have := hv.1; simpa using this
  have HX := Lib.hid hx
  have HV := Lib.hid hv
  have HY := Lib.hid hy
  have HL := Lib.hid hl
  by_cases hn45 : n ≤ 45
  rotate_left
  · have hd2 : decide ((45 : Int) < (n : Int)) = true := by simp; omega
    clear hx hy hv hl hlv
    go_enter Try.func14, Try.ntmps14
    go_wp2_with fail
    refine (awake6_any _).mono ?_
    rintro e w1 ⟨rfl, hb⟩
    have HB1 := Lib.hid (show Below w.heap.size w w1 from step_below hb (by repeat' (first | exact Below.refl _ _ | exact HB0.out | refine below_drewN ?_ _ | refine Below.drew ?_ | refine Below.alloc ?_ (by first | omega | (simp; done) | (simp; omega) | (simp [World.setCell]; omega)) _ | refine Below.setCell ?_ (by first | omega | (simp; done) | (simp; omega)) _ | assumption)))
    have hz1 := hb.size
    try simp only [World.size_alloc, World.drewN, World.drew] at hz1
    clear hb
    go_wp2
    go_ret
    exact ⟨rfl, by repeat' (first | exact Below.refl _ _ | exact HB1.out | refine below_drewN ?_ _ | refine Below.drew ?_ | refine Below.alloc ?_ (by first | omega | (simp; done) | (simp; omega) | (simp [World.setCell]; omega)) _ | refine Below.setCell ?_ (by first | omega | (simp; done) | (simp; omega)) _ | assumption)⟩
  have hd2 : decide ((45 : Int) < (n : Int)) = false := by simp; omega
  by_cases hv45 : nv ≤ 45
  rotate_left
  · have hd3 : decide ((45 : Int) < (nv : Int)) = true := by simp; omega
    clear hx hy hv hl hlv
    go_enter Try.func14, Try.ntmps14
    go_wp2_with fail
    refine (awake6_any _).mono ?_
    rintro e w1 ⟨rfl, hb⟩
    have HB1 := Lib.hid (show Below w.heap.size w w1 from step_below hb (by repeat' (first | exact Below.refl _ _ | exact HB0.out | refine below_drewN ?_ _ | refine Below.drew ?_ | refine Below.alloc ?_ (by first | omega | (simp; done) | (simp; omega) | (simp [World.setCell]; omega)) _ | refine Below.setCell ?_ (by first | omega | (simp; done) | (simp; omega)) _ | assumption)))
    have hz1 := hb.size
    try simp only [World.size_alloc, World.drewN, World.drew] at hz1
    clear hb
    go_wp2
    go_ret
    exact ⟨rfl, by repeat' (first | exact Below.refl _ _ | exact HB1.out | refine below_drewN ?_ _ | refine Below.drew ?_ | refine Below.alloc ?_ (by first | omega | (simp; done) | (simp; omega) | (simp [World.setCell]; omega)) _ | refine Below.setCell ?_ (by first | omega | (simp; done) | (simp; omega)) _ | assumption)⟩
  have hd3 : decide ((45 : Int) < (nv : Int)) = false := by simp; omega
  obtain ⟨b, hb0⟩ : ∃ b, listsB m t = b := ⟨_, rfl⟩
  have HLB := Lib.hid hb0
  clear hx hy hv
  cases b
  · clear hb0 hl hlv
    go_enter Try.func14, Try.ntmps14
    go_wp2_with fail
    refine (awake6_any _).mono ?_
    rintro e w1 ⟨rfl, hb⟩
    have HB1 := Lib.hid (show Below w.heap.size w w1 from step_below hb (by repeat' (first | exact Below.refl _ _ | exact HB0.out | refine below_drewN ?_ _ | refine Below.drew ?_ | refine Below.alloc ?_ (by first | omega | (simp; done) | (simp; omega) | (simp [World.setCell]; omega)) _ | refine Below.setCell ?_ (by first | omega | (simp; done) | (simp; omega)) _ | assumption)))
    have hz1 := hb.size
    try simp only [World.size_alloc, World.drewN, World.drew] at hz1
    clear hb
    go_wp2_with fail
    refine (lists_is B m d t false HLB.out _ ((HY.out.below HB1.out).more HB1.out.size)).mono ?_
    rintro e w' ⟨rfl, rfl⟩
    go_wp2
    go_ret
    exact ⟨rfl, by repeat' (first | exact Below.refl _ _ | exact HB1.out | refine below_drewN ?_ _ | refine Below.drew ?_ | refine Below.alloc ?_ (by first | omega | (simp; done) | (simp; omega) | (simp [World.setCell]; omega)) _ | refine Below.setCell ?_ (by first | omega | (simp; done) | (simp; omega)) _ | assumption)⟩
  obtain ⟨hm102, hrn⟩ := lists_yes hb0
  have HRN := Lib.hid (show ∀ r ∈ t, r.n ≤ 1000 from fun r hr => by have := hrn r hr; omega)
  obtain ⟨⟨q1, q2⟩, hR⟩ : ∃ R, sessF h v (t.map (·.xs)) = R := ⟨_, rfl⟩
  have HR := Lib.hid hR
  have e1 : (q1 != q1) = false := by simp
  have e2 : (q2 != q2) = false := by simp
  clear hb0 hrn
  go_enter Try.func14, Try.ntmps14
  go_wp2_with fail
  refine (awake6_any _).mono ?_
  rintro e w1 ⟨rfl, hb⟩
  have HB1 := Lib.hid (show Below w.heap.size w w1 from step_below hb (by repeat' (first | exact Below.refl _ _ | exact HB0.out | refine below_drewN ?_ _ | refine Below.drew ?_ | refine Below.alloc ?_ (by first | omega | (simp; done) | (simp; omega) | (simp [World.setCell]; omega)) _ | refine Below.setCell ?_ (by first | omega | (simp; done) | (simp; omega)) _ | assumption)))
  have hz1 := hb.size
  try simp only [World.size_alloc, World.drewN, World.drew] at hz1
  clear hb
  go_wp2_with fail
  refine (lists_is B m d t true HLB.out _ ((HY.out.below HB1.out).more HB1.out.size)).mono ?_
  rintro e w' ⟨rfl, rfl⟩
  have hx := (HX.out.below HB1.out).more HB1.out.size
  have hv := (HV.out.below HB1.out).more HB1.out.size
  have hy := (HY.out.below HB1.out).more HB1.out.size
  have R0_1 := Lib.hid hx
  clear hx
  have R1_1 := Lib.hid hv
  clear hv
  have R2_1 := Lib.hid hy
  clear hy
  go_wp2_with fail
  refine (copyJ_any A n c h _ R0_1.out (by omega)).mono ?_
  rintro e w2 ⟨A2, c2, rfl, hb, hr2⟩
  have HB2 := Lib.hid (show Below w.heap.size w w2 from step_below hb (by repeat' (first | exact Below.refl _ _ | exact HB1.out | refine below_drewN ?_ _ | refine Below.drew ?_ | refine Below.alloc ?_ (by first | omega | (simp; done) | (simp; omega) | (simp [World.setCell]; omega)) _ | refine Below.setCell ?_ (by first | omega | (simp; done) | (simp; omega)) _ | assumption)))
  have hL2 := Lib.hid (show Below w1.heap.size w1 _ from reads_mid hb (by repeat' (first | exact Below.refl _ _ | refine below_drewN ?_ _ | refine Below.drew ?_ | refine Below.alloc ?_ (by first | omega | (simp; done) | (simp; omega) | (simp [World.setCell]; omega)) _ | refine Below.setCell ?_ (by first | omega | (simp; done) | (simp; omega)) _)))
  have R0_2 := Lib.hid (reads_lay hb hL2.out R0_1.out)
  have R1_2 := Lib.hid (reads_lay hb hL2.out R1_1.out)
  have R2_2 := Lib.hid (readsT_lay hb hL2.out R2_1.out)
  clear hL2 R0_1 R1_1 R2_1
  have hz2 := hb.size
  try simp only [World.size_alloc, World.drewN, World.drew] at hz2
  clear hb
  have R3_2 := Lib.hid hr2
  clear hr2
  go_wp2_with fail
  refine (copyJ_any V nv cv v _ R1_2.out (by omega)).mono ?_
  rintro e w3 ⟨A3, c3, rfl, hb, hr3⟩
  have HB3 := Lib.hid (show Below w.heap.size w w3 from step_below hb (by repeat' (first | exact Below.refl _ _ | exact HB2.out | refine below_drewN ?_ _ | refine Below.drew ?_ | refine Below.alloc ?_ (by first | omega | (simp; done) | (simp; omega) | (simp [World.setCell]; omega)) _ | refine Below.setCell ?_ (by first | omega | (simp; done) | (simp; omega)) _ | assumption)))
  have hL3 := Lib.hid (show Below w2.heap.size w2 _ from reads_mid hb (by repeat' (first | exact Below.refl _ _ | refine below_drewN ?_ _ | refine Below.drew ?_ | refine Below.alloc ?_ (by first | omega | (simp; done) | (simp; omega) | (simp [World.setCell]; omega)) _ | refine Below.setCell ?_ (by first | omega | (simp; done) | (simp; omega)) _)))
  have R0_3 := Lib.hid (reads_lay hb hL3.out R0_2.out)
  have R1_3 := Lib.hid (reads_lay hb hL3.out R1_2.out)
  have R2_3 := Lib.hid (readsT_lay hb hL3.out R2_2.out)
  have R3_3 := Lib.hid (reads_lay hb hL3.out R3_2.out)
  clear hL3 R0_2 R1_2 R2_2 R3_2
  have hz3 := hb.size
  try simp only [World.size_alloc, World.drewN, World.drew] at hz3
  clear hb
  have R4_3 := Lib.hid hr3
  clear hr3
  go_wp2_with fail
  refine (copyT_any B m d t _ R2_3.out (by omega) HRN.out).mono ?_
  rintro e w4 ⟨A4, c4, ts, rfl, hb, hts, hr4⟩
  have HB4 := Lib.hid (show Below w.heap.size w w4 from step_below hb (by repeat' (first | exact Below.refl _ _ | exact HB3.out | refine below_drewN ?_ _ | refine Below.drew ?_ | refine Below.alloc ?_ (by first | omega | (simp; done) | (simp; omega) | (simp [World.setCell]; omega)) _ | refine Below.setCell ?_ (by first | omega | (simp; done) | (simp; omega)) _ | assumption)))
  have hL4 := Lib.hid (show Below w3.heap.size w3 _ from reads_mid hb (by repeat' (first | exact Below.refl _ _ | refine below_drewN ?_ _ | refine Below.drew ?_ | refine Below.alloc ?_ (by first | omega | (simp; done) | (simp; omega) | (simp [World.setCell]; omega)) _ | refine Below.setCell ?_ (by first | omega | (simp; done) | (simp; omega)) _)))
  have R0_4 := Lib.hid (reads_lay hb hL4.out R0_3.out)
  have R1_4 := Lib.hid (reads_lay hb hL4.out R1_3.out)
  have R2_4 := Lib.hid (readsT_lay hb hL4.out R2_3.out)
  have R3_4 := Lib.hid (reads_lay hb hL4.out R3_3.out)
  have R4_4 := Lib.hid (reads_lay hb hL4.out R4_3.out)
  clear hL4 R0_3 R1_3 R2_3 R3_3 R4_3
  have hz4 := hb.size
  try simp only [World.size_alloc, World.drewN, World.drew] at hz4
  clear hb
  have R5_4 := Lib.hid hr4
  clear hr4
  have HTS := Lib.hid (show sessF h v (ts.map (·.xs)) = (q1, q2) from by rw [show ts.map (·.xs) = t.map (·.xs) from hts]; exact HR.out)
  clear hts
  go_wp2_with fail
  refine (checksessions_is A2 n c2 A3 nv c3 A4 m c4 h v ts (q1, q2) HTS.out _ R3_4.out R4_4.out R5_4.out (by omega) (by omega) (by omega)).mono ?_
  rintro e w5 ⟨rfl, hb⟩
  have HB5 := Lib.hid (show Below w.heap.size w w5 from step_below hb (by repeat' (first | exact Below.refl _ _ | exact HB4.out | refine below_drewN ?_ _ | refine Below.drew ?_ | refine Below.alloc ?_ (by first | omega | (simp; done) | (simp; omega) | (simp [World.setCell]; omega)) _ | refine Below.setCell ?_ (by first | omega | (simp; done) | (simp; omega)) _ | assumption)))
  have hL5 := Lib.hid (show Below w4.heap.size w4 _ from reads_mid hb (by repeat' (first | exact Below.refl _ _ | refine below_drewN ?_ _ | refine Below.drew ?_ | refine Below.alloc ?_ (by first | omega | (simp; done) | (simp; omega) | (simp [World.setCell]; omega)) _ | refine Below.setCell ?_ (by first | omega | (simp; done) | (simp; omega)) _)))
  have R0_5 := Lib.hid (reads_lay hb hL5.out R0_4.out)
  have R1_5 := Lib.hid (reads_lay hb hL5.out R1_4.out)
  have R2_5 := Lib.hid (readsT_lay hb hL5.out R2_4.out)
  have R3_5 := Lib.hid (reads_lay hb hL5.out R3_4.out)
  have R4_5 := Lib.hid (reads_lay hb hL5.out R4_4.out)
  have R5_5 := Lib.hid (readsT_lay hb hL5.out R5_4.out)
  clear hL5 R0_4 R1_4 R2_4 R3_4 R4_4 R5_4
  have hz5 := hb.size
  try simp only [World.size_alloc, World.drewN, World.drew] at hz5
  clear hb
  go_wp2_with fail
  refine (rchecksessions_is A n c V nv cv B m d h v t (q1, q2) HR.out _ R0_5.out R1_5.out R2_5.out (by omega) (by omega) (by omega)).mono ?_
  rintro e w6 ⟨rfl, hb⟩
  have HB6 := Lib.hid (show Below w.heap.size w w6 from step_below hb (by repeat' (first | exact Below.refl _ _ | exact HB5.out | refine below_drewN ?_ _ | refine Below.drew ?_ | refine Below.alloc ?_ (by first | omega | (simp; done) | (simp; omega) | (simp [World.setCell]; omega)) _ | refine Below.setCell ?_ (by first | omega | (simp; done) | (simp; omega)) _ | assumption)))
  have hL6 := Lib.hid (show Below w5.heap.size w5 _ from reads_mid hb (by repeat' (first | exact Below.refl _ _ | refine below_drewN ?_ _ | refine Below.drew ?_ | refine Below.alloc ?_ (by first | omega | (simp; done) | (simp; omega) | (simp [World.setCell]; omega)) _ | refine Below.setCell ?_ (by first | omega | (simp; done) | (simp; omega)) _)))
  have R0_6 := Lib.hid (reads_lay hb hL6.out R0_5.out)
  have R1_6 := Lib.hid (reads_lay hb hL6.out R1_5.out)
  have R2_6 := Lib.hid (readsT_lay hb hL6.out R2_5.out)
  have R3_6 := Lib.hid (reads_lay hb hL6.out R3_5.out)
  have R4_6 := Lib.hid (reads_lay hb hL6.out R4_5.out)
  have R5_6 := Lib.hid (readsT_lay hb hL6.out R5_5.out)
  clear hL6 R0_5 R1_5 R2_5 R3_5 R4_5 R5_5
  have hz6 := hb.size
  try simp only [World.size_alloc, World.drewN, World.drew] at hz6
  clear hb
  by_cases h0 : q2 = 0
  rotate_left
  · have e3 : (q2 != 0) = true := by simpa using h0
    clear h0
    go_wp2
    go_ret
    exact ⟨rfl, by repeat' (first | exact Below.refl _ _ | exact HB6.out | refine below_drewN ?_ _ | refine Below.drew ?_ | refine Below.alloc ?_ (by first | omega | (simp; done) | (simp; omega) | (simp [World.setCell]; omega)) _ | refine Below.setCell ?_ (by first | omega | (simp; done) | (simp; omega)) _ | assumption)⟩
  subst h0
  obtain ⟨hz1, hz2, hz3⟩ := sess_zero HR.out
  obtain ⟨-, hvh, -⟩ := two_ok hz1
  obtain rfl : n = nv := by omega
  rw [hl] at hz3
  have HZ2 := Lib.hid hz2
  have HZ3 := Lib.hid hz3
  have e4 : ((n : Int) != (n : Int)) = false := by simp
  clear hz1 hz2 hz3 hvh hl hlv hR
  clear R3_6 R4_6 R5_6
  go_wp2_with fail
  refine (remaining_ok HZ2.out R0_6.out R2_6.out (by omega) (by omega)).mono ?_
  rintro e w7 ⟨A7, c7, rfl, hb, hr7⟩
  have HB7 := Lib.hid (show Below w.heap.size w w7 from step_below hb (by repeat' (first | exact Below.refl _ _ | exact HB6.out | refine below_drewN ?_ _ | refine Below.drew ?_ | refine Below.alloc ?_ (by first | omega | (simp; done) | (simp; omega) | (simp [World.setCell]; omega)) _ | refine Below.setCell ?_ (by first | omega | (simp; done) | (simp; omega)) _ | assumption)))
  have hL7 := Lib.hid (show Below w6.heap.size w6 _ from reads_mid hb (by repeat' (first | exact Below.refl _ _ | refine below_drewN ?_ _ | refine Below.drew ?_ | refine Below.alloc ?_ (by first | omega | (simp; done) | (simp; omega) | (simp [World.setCell]; omega)) _ | refine Below.setCell ?_ (by first | omega | (simp; done) | (simp; omega)) _)))
  have R0_7 := Lib.hid (reads_lay hb hL7.out R0_6.out)
  have R1_7 := Lib.hid (reads_lay hb hL7.out R1_6.out)
  have R2_7 := Lib.hid (readsT_lay hb hL7.out R2_6.out)
  clear hL7 R0_6 R1_6 R2_6
  have hz7 := hb.size
  try simp only [World.size_alloc, World.drewN, World.drew] at hz7
  clear hb
  have R6_7 := Lib.hid hr7
  clear hr7
  go_wp2
  have RV := R1_7
  have RX := R6_7
  clear R0_7 R1_7 R2_7 R6_7
  have hs8 := HB7.out.size
  go_loopw [13] (fun x wr => ∃ j : Nat, j ≤ n ∧ x = .int .i64 j ∧ Below w7.heap.size w7 wr) (fun x _ => n - (intOf x).toNat)
  case atStart => exact ⟨0, by omega, rfl, Below.refl _ _⟩
  case round =>
    obtain ⟨j, hj, rfl, hbj⟩ := hrel
    obtain ⟨w8, hnm⟩ : ∃ z : World, z = wr := ⟨_, rfl⟩
    subst hnm
    have HBJ := Lib.hid hbj
    have hb' := HB7.out.trans (hbj.mono HB7.out.size)
    have hxd := RX.out.below hbj
    have hvd := RV.out.below hbj
    clear hbj
    have HB8 := Lib.hid hb'
    clear hb'
    by_cases hjt : j < n
    · have hjj : (j : Int) < (n : Int) := by omega
      obtain ⟨xb, xo, x, rfl, hxb, gx, cx⟩ := hxd.int_ hjt
      obtain ⟨yb, yo, y, rfl, hyb, gy, cy⟩ := hvd.int_ hjt
      have hge := dig_false HZ3.out j hjt
      rw [getD_of gx, getD_of gy] at hge
      have dl : decide (x < y) = false := by simp; omega
      clear gx gy hge hxd hvd
      go_wp2
      go_quiet (fail)
      go_wp2
      go_roundw
      case rel => exact ⟨j + 1, by omega, by go_num, below_drewN HBJ.out _⟩
      case measure => simp [intOf]; omega
    · obtain rfl : n = j := by omega
      go_wp2
      go_ret
      exact ⟨rfl, by repeat' (first | exact Below.refl _ _ | exact HB8.out | refine below_drewN ?_ _ | refine Below.drew ?_ | refine Below.alloc ?_ (by first | omega | (simp; done) | (simp; omega) | (simp [World.setCell]; omega)) _ | refine Below.setCell ?_ (by first | omega | (simp; done) | (simp; omega)) _ | assumption)⟩
end Go.Proofs.Ytnepjgnnppfibaa

end

section
/- For all heights and all wear the call of FigureSessions returns true and leaves its arguments as they were; no condition. -/
namespace Go.Proofs.Ytnepjgnnppfibaa.lawFG
open Go Go.RowKit Go.ChangeShapes Go.WideShapes Go.ChangeAt Go.Joins

set_option maxRecDepth 100000 in
theorem contract (H : Type) (enc : TypeId × Value → H) (W : World) (base : Nat) (args : Array Value) (ds gs : List (DataW H)) (before : List MemPlace)
    (hval : ∀ (j : Nat) t v, Try.f14.params[j]? = some t → args[j]? = some v → Value.okWide Try.prog W .any base t v)
    (hW : DataW.Whole enc Try.prog Try.f14.params.toList Rows.figureSessionsSpec.vars false W args.toList ds gs before) :
    Calls Try.prog 14 args W fun e W' => ∃ v, e = .returned v ∧ Rows.figureSessionsSpec.post enc Try.prog Try.f14 false true false false W args v W' := by
  have hW' := hW
  obtain ⟨p, q, hA, hV, rfl, hfz, hnd⟩ := hW'
  rw [Try.params14] at hA hval
  obtain ⟨v0, vs0, d0, ds0, p0, q0, hargs, rfl, rfl, h0, r0⟩ := trodAll_cons hA
  obtain ⟨v1, vs1, d1, ds1, p1, q1, rfl, rfl, rfl, h1, r1⟩ := trodAll_cons r0
  obtain ⟨v2, vs2, d2, ds2, p2, q2, rfl, rfl, rfl, h2, r2⟩ := trodAll_cons r1
  obtain ⟨rfl, rfl, rfl⟩ := trodAll_nil r2
  obtain rfl : args = #[v0, v1, v2] := by cases args; simp_all
  obtain ⟨A0, n0, c0, l0, rfl, hn0, hl0, hi0, hr0⟩ := arg_ints Try.underlying22 Try.underlying3 (by kernel_rfl) (hval 0 22 v0 rfl rfl) h0
  obtain ⟨A1, n1, c1, l1, rfl, hn1, hl1, hi1, hr1⟩ := arg_ints Try.underlying22 Try.underlying3 (by kernel_rfl) (hval 1 22 v1 rfl rfl) h1
  obtain ⟨A2, n2, c2, l2, rfl, hn2, hl2, hi2, hr2⟩ := arg_tabs Try.underlying93 (by kernel_rfl) Try.underlying22 Try.underlying3 (by kernel_rfl) (hval 2 93 v2 rfl rfl) h2
  refine (lawFG_any A0 n0 c0 l0 A1 n1 c1 l1 A2 n2 c2 l2 W hn0 hl0 hi0 hr0 hn1 hl1 hi1 hr1 hn2 hl2 hi2 hr2).mono fun e W' ⟨he, hg⟩ => ?_
  subst he
  obtain ⟨rfl, rfl⟩ := trodVars_none hV
  exact ⟨_, rfl, post_law hW rfl (by kernel_rfl) Try.underlying4 (by kernel_rfl) rfl rfl rfl hg⟩

set_option maxRecDepth 100000 in
theorem lifted (os : Os) (started : os.Started) (H : Type) (enc : TypeId × Value → H) :
    ReturnsInHanded {} Try.checked os 14 .any (Rows.figureSessionsSpec.pre6 enc Try.prog Try.f14 Rows.figureSessionsRow.domain false) (Rows.figureSessionsSpec.post enc Try.prog Try.f14 false true false false) := by
  refine returnsInHanded_of_change (C := Try.checked) (s := Rows.figureSessionsSpec) own_knob started (by kernel_rfl) Try.func14
    (ChangeSpec.witness6 (enc := enc) (C := Try.checked) (s := Rows.figureSessionsSpec) false ⟨#[], #[.slice none 0 0, .slice none 0 0, .slice none 0 0], []⟩ 8 (by kernel_rfl) (by kernel_rfl) (by kernel_rfl) (by kernel_rfl)) ?_
  intro W base args ds gs before hval hW _ _
  exact contract H enc W base args ds gs before hval hW

theorem over : Rows.FigureSessionsSaid :=
  OpenClaim.holds_of_wide 14 Try.f14 rfl rfl rfl rfl rfl rfl rfl ⟨rfl, rfl, rfl, rfl, rfl⟩ rfl rfl rfl rfl rfl (by kernel_rfl) Try.func14 (by kernel_rfl)
    (of_decide_eq_true (by kernel_rfl)) (by unfold Func.isWrapper; first | (rw [if_pos (by decide +kernel)]; kernel_rfl) | (rw [if_neg (by decide +kernel)]; exact ⟨rfl, rfl⟩))
    (fun os started H enc _ => lifted os started H enc)
end Go.Proofs.Ytnepjgnnppfibaa.lawFG

end
