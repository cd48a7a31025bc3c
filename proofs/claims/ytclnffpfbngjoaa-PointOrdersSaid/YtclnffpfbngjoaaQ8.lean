import Derived.Test.YtclnffpfbngjoaaQ2
import Derived.Test.YtclnffpfbngjoaaQ7
import Derived.Test.YtclnffpfbngjoaaQ3

section
/- Contracts of the reference's searches of names: what a name is, the number of a rocker, whether a text is in a list. -/
namespace Go.Proofs.Ytclnffpfbngjoaa
open Go.RowKit

def digitB (c : Nat) : Bool := decide (48 ≤ c ∧ c ≤ 57)
theorem restB_eq (c : Nat) : restB c = (letterB c || digitB c || decide (c = 45)) := by
  have e : decide (c = 45 ∨ 48 ≤ c ∧ c ≤ 57) = (decide (48 ≤ c ∧ c ≤ 57) || decide (c = 45)) := by
    rw [Bool.eq_iff_iff]; simp only [Bool.or_eq_true, decide_eq_true_iff]; omega
  unfold restB digitB
  rw [e, Bool.or_assoc]

theorem isletter_is (c : Nat) (t : Bool) (h : letterB c = t) (w : World) :
    Calls Try.prog 75 #[.int .u8 (c : Int)] w fun e w' => e = .returned (.bool t) ∧ w = w' := by
  have hcs : ((c : Int) < 65 ∧ t = false) ∨ ((65 : Int) ≤ (c : Int) ∧ (c : Int) ≤ 90 ∧ t = true) ∨ ((90 : Int) < (c : Int) ∧ (c : Int) < 97 ∧ t = false) ∨ ((97 : Int) ≤ (c : Int) ∧ (c : Int) ≤ 122 ∧ t = true) ∨ ((122 : Int) < (c : Int) ∧ t = false) := by
    subst h
    unfold letterB
    simp only [decide_eq_true_iff, decide_eq_false_iff_not]
    omega
  clear h
  rcases hcs with ⟨h1, rfl⟩ | ⟨h1, h2, rfl⟩ | ⟨h1, h2, rfl⟩ | ⟨h1, h2, rfl⟩ | ⟨h1, rfl⟩
  all_goals
    go_enter Try.func75, Try.ntmps75
    go_wp2
    go_ret
    first | exact ⟨rfl, rfl⟩ | exact ⟨ret_bool (by simp; omega), rfl⟩

theorem isdigit_is (c : Nat) (t : Bool) (h : digitB c = t) (w : World) :
    Calls Try.prog 76 #[.int .u8 (c : Int)] w fun e w' => e = .returned (.bool t) ∧ w = w' := by
  have hcs : ((c : Int) < 48 ∧ t = false) ∨ ((48 : Int) ≤ (c : Int) ∧ (c : Int) ≤ 57 ∧ t = true) ∨ ((57 : Int) < (c : Int) ∧ t = false) := by
    subst h
    unfold digitB
    simp only [decide_eq_true_iff, decide_eq_false_iff_not]
    omega
  clear h
  rcases hcs with ⟨h1, rfl⟩ | ⟨h1, h2, rfl⟩ | ⟨h1, rfl⟩
  all_goals
    go_enter Try.func76, Try.ntmps76
    go_wp2
    go_ret
    first | exact ⟨rfl, rfl⟩ | exact ⟨ret_bool (by simp; omega), rfl⟩

theorem okAt_zero {s : ByteArray} : okAt s 0 = letterB (byteAt s 0) := rfl
theorem okAt_of {s : ByteArray} {k : Nat} (h0 : letterB (byteAt s 0) = true) (h : restB (byteAt s k) = true) : okAt s k = true := by
  unfold okAt
  split
  · rename_i e; rw [e]; exact h0
  · exact h
theorem okAt_no {s : ByteArray} {k : Nat} (h : restB (byteAt s k) = false) : okAt s k = false := by
  unfold okAt
  split
  · rw [restB_eq] at h; cases hl : letterB (byteAt s k) <;> simp_all
  · exact h
theorem nameB_nil {s : ByteArray} (h : s.size = 0) : nameB s = false := by unfold nameB; simp [h]
theorem nameB_long {s : ByteArray} (h : 12 < s.size) : nameB s = false := by
  unfold nameB
  rw [decide_eq_false (show ¬ s.size ≤ 12 by omega), Bool.and_false]
theorem nameB_all {s : ByteArray} (h0 : s.size ≠ 0) (h1 : s.size ≤ 12) (h : (List.range s.size).all (okAt s) = true) : nameB s = true := by
  unfold nameB
  rw [h]
  simp [h0, h1]
set_option maxHeartbeats 1000000 in
theorem isnameref_any (s : ByteArray) (w : World) (hs : s.size ≤ maxLen) :
    Calls Try.prog 54 #[.string s] w fun e w' => e = .returned (.bool (nameB s)) ∧ w = w' := by
  unfold maxLen at hs
  by_cases h0 : s.size = 0
  · have HX := Lib.hid (nameB_nil h0)
    have hb : ((s.size : Int) == 0) = true := beq_iff_eq.2 (by omega)
    have HH := Lib.hid h0
    clear h0
    go_enter Try.func54, Try.ntmps54
    go_wp2
    go_ret
    exact ⟨ret_bool HX.out.symm, rfl⟩
  have hb : ((s.size : Int) == 0) = false := beq_eq_false_iff_ne.2 (by omega)
  have HH := Lib.hid h0
  clear h0
  by_cases h12 : (12 : Int) < (s.size : Int)
  · have HX := Lib.hid (nameB_long (s := s) (by omega))
    go_enter Try.func54, Try.ntmps54
    go_wp2
    go_ret
    exact ⟨ret_bool HX.out.symm, rfl⟩
  have hpos : 0 < s.size := by have := HH.out; omega
  have HB0 := Lib.hid (byteAt_get s 0 hpos)
  cases hl : letterB (byteAt s 0)
  · have HX := Lib.hid (name_bad hpos (okAt_zero.trans hl))
    have HL := Lib.hid (show letterB (s[0]).toNat = false by rw [← HB0.out]; exact hl)
    clear hl
    go_enter Try.func54, Try.ntmps54
    go_wp2_with (go_at_call 75; refine (isletter_is _ _ HL.out _).mono ?_; rintro e w' ⟨rfl, rfl⟩)
    go_ret
    exact ⟨ret_bool HX.out.symm, rfl⟩
  have HL0 := Lib.hid hl
  have HL := Lib.hid (show letterB (s[0]).toNat = true by rw [← HB0.out]; exact hl)
  clear hl
  go_enter Try.func54, Try.ntmps54
  go_wp2_with (go_at_call 75; refine (isletter_is _ _ HL.out _).mono ?_; rintro e w' ⟨rfl, rfl⟩)
  go_loop [3] (fun i => ∃ k : Nat, k ≤ s.size ∧ i = .int .i64 k ∧ (List.range k).all (okAt s) = true) (fun i => s.size - (intOf i).toNat)
  case atStart => exact ⟨0, Nat.zero_le _, rfl, rfl⟩
  case round =>
    obtain ⟨k, hk, rfl, ha⟩ := hrel
    have HA := Lib.hid ha
    clear ha
    by_cases hlt : k < s.size
    · have HB := Lib.hid (byteAt_get s k hlt)
      have HR := Lib.hid (restB_eq (byteAt s k))
      cases hl : letterB (byteAt s k)
      · have HLk := Lib.hid (show letterB (s[k]).toNat = false by rw [← HB.out]; exact hl)
        have HL1 := Lib.hid hl
        clear hl
        cases hd : digitB (byteAt s k)
        · have HDk := Lib.hid (show digitB (s[k]).toNat = false by rw [← HB.out]; exact hd)
          have HD1 := Lib.hid hd
          clear hd
          by_cases h45 : ((s[k]).toNat : Int) = 45
          · have hb45 : (((s[k]).toNat : Int) != 45) = false := by simp [h45]
            have HX := Lib.hid (okAt_of HL0.out (show restB (byteAt s k) = true by rw [HR.out, HL1.out, HD1.out, HB.out]; simp; omega))
            have HH45 := Lib.hid h45
            clear h45
            go_wp2_with (first | (go_at_call 75; refine (isletter_is _ _ HLk.out _).mono ?_; rintro e w' ⟨rfl, rfl⟩) | (go_at_call 76; refine (isdigit_is _ _ HDk.out _).mono ?_; rintro e w' ⟨rfl, rfl⟩))
            go_round
            case rel => exact ⟨k + 1, by omega, by go_num, name_step HA.out HX.out⟩
            case measure => simp [intOf]; omega
          · have hb45 : (((s[k]).toNat : Int) != 45) = true := by simpa using h45
            have HX := Lib.hid (name_bad hlt (okAt_no (show restB (byteAt s k) = false by rw [HR.out, HL1.out, HD1.out, HB.out]; simp; omega)))
            have HH45 := Lib.hid h45
            clear h45
            go_wp2_with (first | (go_at_call 75; refine (isletter_is _ _ HLk.out _).mono ?_; rintro e w' ⟨rfl, rfl⟩) | (go_at_call 76; refine (isdigit_is _ _ HDk.out _).mono ?_; rintro e w' ⟨rfl, rfl⟩))
            go_ret
            exact ⟨ret_bool HX.out.symm, rfl⟩
        · have HDk := Lib.hid (show digitB (s[k]).toNat = true by rw [← HB.out]; exact hd)
          have HX := Lib.hid (okAt_of HL0.out (show restB (byteAt s k) = true by rw [HR.out, HL1.out, hd]; rfl))
          clear hd
          go_wp2_with (first | (go_at_call 75; refine (isletter_is _ _ HLk.out _).mono ?_; rintro e w' ⟨rfl, rfl⟩) | (go_at_call 76; refine (isdigit_is _ _ HDk.out _).mono ?_; rintro e w' ⟨rfl, rfl⟩))
          go_round
          case rel => exact ⟨k + 1, by omega, by go_num, name_step HA.out HX.out⟩
          case measure => simp [intOf]; omega
      · have HLk := Lib.hid (show letterB (s[k]).toNat = true by rw [← HB.out]; exact hl)
        have HX := Lib.hid (okAt_of HL0.out (show restB (byteAt s k) = true by rw [HR.out, hl]; rfl))
        clear hl
        go_wp2_with (first | (go_at_call 75; refine (isletter_is _ _ HLk.out _).mono ?_; rintro e w' ⟨rfl, rfl⟩) | (go_at_call 76; fail))
        go_round
        case rel => exact ⟨k + 1, by omega, by go_num, name_step HA.out HX.out⟩
        case measure => simp [intOf]; omega
    · have hkn : k = s.size := by omega
      have HX := Lib.hid (nameB_all HH.out (by omega) (hkn ▸ HA.out))
      clear hkn
      go_wp2
      go_ret
      exact ⟨ret_bool HX.out.symm, rfl⟩

theorem isnameref_is (s : ByteArray) (t : Bool) (h : nameB s = t) (w : World) (hs : s.size ≤ maxLen) :
    Calls Try.prog 54 #[.string s] w fun e w' => e = .returned (.bool t) ∧ w = w' := h ▸ isnameref_any s w hs

/-- The number of a rocker, or -1. -/
def findI (l : List Rk) (s : ByteArray) : Int := match idxOf l s with | some i => (i : Int) | none => -1
theorem toList_inj {a b : ByteArray} (h : a.toList = b.toList) : a = b := by
  rw [ByteArray.toList_eq, ByteArray.toList_eq] at h
  cases a; cases b
  congr
  exact Array.toList_inj.1 h
/-- Texts as cells. -/
def strs (ps : List ByteArray) : List Value := ps.map .string
/-- Whether a text is in a list. -/
def hasB (xs : List ByteArray) (s : ByteArray) : Bool := xs.any fun x => decide (x = s)
end Go.Proofs.Ytclnffpfbngjoaa

end

section
/- Contracts of the checks of mountings, targets and days, the package's and the reference's. -/
namespace Go.Proofs.Ytclnffpfbngjoaa
open Go Go.RowKit

/-- A mounting in memory. -/
structure Mnt where
  ls : Int
  ms : Int
  lo : Int
  hi : Int
  sp : Int
  A1 : Option Addr
  n1 : Nat
  c1 : Nat
  l1 : List (Int × Int)
  A2 : Option Addr
  n2 : Nat
  c2 : Nat
  l2 : List (Int × Int)
def Mnt.val (m : Mnt) : Value := .agg #[.int .i64 m.ls, .int .i64 m.ms, .int .i64 m.lo, .int .i64 m.hi, .int .i64 m.sp, .slice m.A1 m.n1 m.c1, .slice m.A2 m.n2 m.c2]
structure MntAt (m : Mnt) (w : World) : Prop where
  r1 : Reads w w.heap.size 2 m.A1 m.n1 (cells2 m.l1)
  r2 : Reads w w.heap.size 2 m.A2 m.n2 (cells2 m.l2)
  b1 : m.n1 ≤ 9223372036854775807
  b2 : m.n2 ≤ 9223372036854775807
theorem MntAt.lay {m : Mnt} {w w' : World} (h : MntAt m w) (hb : Below w.heap.size w w') : MntAt m w' := ⟨(h.r1.below hb).more hb.size, (h.r2.below hb).more hb.size, h.b1, h.b2⟩
def Mnt.rng (m : Mnt) : Bool := smallL 25920000 [m.ls, m.ms] && withinB m.lo 0 324000 && withinB m.hi 0 324000 && withinB m.sp 1 1000000
/-- The error of a mounting. -/
def mntErr (m : Mnt) : Int := if m.rng = false then 2 else if m.ms < m.ls ∨ m.hi < m.lo then 9 else orE [tabErr m.l1, tabErr m.l2]

theorem chain4 {a b c d : Bool} (h : (a && b && c && d) = false) : a = false ∨ (a = true ∧ b = false) ∨ (a = true ∧ b = true ∧ c = false) ∨ (a = true ∧ b = true ∧ c = true ∧ d = false) := by
  cases a <;> cases b <;> cases c <;> cases d <;> simp_all
theorem chain4t {a b c d : Bool} (h : (a && b && c && d) = true) : a = true ∧ b = true ∧ c = true ∧ d = true := by
  cases a <;> cases b <;> cases c <;> cases d <;> simp_all
theorem chain5 {a b c d e : Bool} (h : (a && b && c && d && e) = false) : a = false ∨ (a = true ∧ b = false) ∨ (a = true ∧ b = true ∧ c = false) ∨ (a = true ∧ b = true ∧ c = true ∧ d = false) ∨ (a = true ∧ b = true ∧ c = true ∧ d = true ∧ e = false) := by
  cases a <;> cases b <;> cases c <;> cases d <;> cases e <;> simp_all
theorem chain5t {a b c d e : Bool} (h : (a && b && c && d && e) = true) : a = true ∧ b = true ∧ c = true ∧ d = true ∧ e = true := by
  cases a <;> cases b <;> cases c <;> cases d <;> cases e <;> simp_all

set_option maxRecDepth 100000 in
set_option maxHeartbeats 2000000 in
theorem pmount_is (m : Mnt) (E : Int) (hE : mntErr m = E) (w : World) (hx : MntAt m w) :
    Calls Try.prog 41 #[m.val] w fun e w' => e = .returned (.int .i64 E) ∧ Below w.heap.size w w' := by
  obtain ⟨ls, ms, lo, hi, sp, A1, n1, c1, l1, A2, n2, c2, l2⟩ := m
  obtain ⟨hx1, hx2, hb1, hb2⟩ := hx
  simp only at hx1 hx2 hb1 hb2
  unfold Mnt.val
  dsimp only
  unfold mntErr at hE
  cases hr : Mnt.rng ⟨ls, ms, lo, hi, sp, A1, n1, c1, l1, A2, n2, c2, l2⟩ with
  | false =>
    rw [if_pos hr] at hE
    subst hE
    unfold Mnt.rng at hr
    simp only at hr
    rcases chain4 hr with h1 | ⟨h1, h2⟩ | ⟨h1, h2, h3⟩ | ⟨h1, h2, h3, h4⟩
    all_goals
      clear hr hx1 hx2
      go_enter Try.func41, Try.ntmps41
      go_wp2_with fail
      refine (smallpt_lit 25920000 [ls, ms] 2 _ _ _ (by assumption) _ (by first | rfl | simp) rfl (by omega) (by omega) (by omega)).mono ?_
      rintro e w1 ⟨rfl, hb⟩
      have HB1 := Lib.hid (show Below w.heap.size w w1 from step_below hb (by repeat' (first | exact Below.refl _ _ | exact HB0.out | refine below_drewN ?_ _ | refine Below.drew ?_ | refine Below.alloc ?_ (by first | omega | (simp; done) | (simp; omega) | (simp [World.setCell]; omega)) _ | refine Below.setCell ?_ (by first | omega | (simp; done) | (simp; omega)) _ | assumption)))
      have K0_1 := Lib.hid (step_blk hb (show Blk _ (w.heap.size) 24 #[.int .i64 (ls), .int .i64 (ms), .int .i64 (lo), .int .i64 (hi), .int .i64 (sp), .slice A1 n1 c1, .slice A2 n2 c2] by repeat' (first | exact Blk.at_ _ (by first | rfl | (simp; done) | (simp; omega)) _ _ | refine Blk.drewN ?_ _ | refine Blk.drew ?_ | refine Blk.alloc ?_ _ | refine Blk.far ?_ (by first | omega | (simp; done) | (simp; omega)) _ | assumption)))
      have hz1 := hb.size
      try simp only [World.size_alloc, World.drewN, World.drew] at hz1
      clear hb
      have l0_1 : w.heap.size < w1.heap.size := K0_1.out.lt
      have z0_0_1 : w1.cell? ⟨w.heap.size, 0, none⟩ = some (.int .i64 (ls)) := K0_1.out.cell 0
      have z0_1_1 : w1.cell? ⟨w.heap.size, 1, none⟩ = some (.int .i64 (ms)) := K0_1.out.cell 1
      have z0_2_1 : w1.cell? ⟨w.heap.size, 2, none⟩ = some (.int .i64 (lo)) := K0_1.out.cell 2
      have z0_3_1 : w1.cell? ⟨w.heap.size, 3, none⟩ = some (.int .i64 (hi)) := K0_1.out.cell 3
      have z0_4_1 : w1.cell? ⟨w.heap.size, 4, none⟩ = some (.int .i64 (sp)) := K0_1.out.cell 4
      have z0_5_1 : w1.cell? ⟨w.heap.size, 5, none⟩ = some (.slice A1 n1 c1) := K0_1.out.cell 5
      have z0_6_1 : w1.cell? ⟨w.heap.size, 6, none⟩ = some (.slice A2 n2 c2) := K0_1.out.cell 6
      go_wp2_with (first | (go_at_call 43; refine (withinpt_is _ _ _ _ (by assumption) _).mono ?_; rintro e w' ⟨rfl, rfl⟩))
      go_ret
      exact ⟨rfl, HB1.out⟩
  | true =>
    rw [if_neg (by rw [hr]; simp)] at hE
    unfold Mnt.rng at hr
    simp only at hr hE
    obtain ⟨h1, h2, h3, h4⟩ := chain4t hr
    by_cases ho : ms < ls ∨ hi < lo
    · rw [if_pos ho] at hE
      subst hE
      rcases Decidable.em (ms < ls) with o1 | o1
      all_goals
        have o2 : ms < ls ∨ (¬ ms < ls ∧ hi < lo) := by omega
        first | (have o3 : hi < lo := by omega) | skip
        clear hr ho o2 hx1 hx2
        go_enter Try.func41, Try.ntmps41
        go_wp2_with fail
        refine (smallpt_lit 25920000 [ls, ms] 2 _ _ _ (by assumption) _ (by first | rfl | simp) rfl (by omega) (by omega) (by omega)).mono ?_
        rintro e w1 ⟨rfl, hb⟩
        have HB1 := Lib.hid (show Below w.heap.size w w1 from step_below hb (by repeat' (first | exact Below.refl _ _ | exact HB0.out | refine below_drewN ?_ _ | refine Below.drew ?_ | refine Below.alloc ?_ (by first | omega | (simp; done) | (simp; omega) | (simp [World.setCell]; omega)) _ | refine Below.setCell ?_ (by first | omega | (simp; done) | (simp; omega)) _ | assumption)))
        have K0_1 := Lib.hid (step_blk hb (show Blk _ (w.heap.size) 24 #[.int .i64 (ls), .int .i64 (ms), .int .i64 (lo), .int .i64 (hi), .int .i64 (sp), .slice A1 n1 c1, .slice A2 n2 c2] by repeat' (first | exact Blk.at_ _ (by first | rfl | (simp; done) | (simp; omega)) _ _ | refine Blk.drewN ?_ _ | refine Blk.drew ?_ | refine Blk.alloc ?_ _ | refine Blk.far ?_ (by first | omega | (simp; done) | (simp; omega)) _ | assumption)))
        have hz1 := hb.size
        try simp only [World.size_alloc, World.drewN, World.drew] at hz1
        clear hb
        have l0_1 : w.heap.size < w1.heap.size := K0_1.out.lt
        have z0_0_1 : w1.cell? ⟨w.heap.size, 0, none⟩ = some (.int .i64 (ls)) := K0_1.out.cell 0
        have z0_1_1 : w1.cell? ⟨w.heap.size, 1, none⟩ = some (.int .i64 (ms)) := K0_1.out.cell 1
        have z0_2_1 : w1.cell? ⟨w.heap.size, 2, none⟩ = some (.int .i64 (lo)) := K0_1.out.cell 2
        have z0_3_1 : w1.cell? ⟨w.heap.size, 3, none⟩ = some (.int .i64 (hi)) := K0_1.out.cell 3
        have z0_4_1 : w1.cell? ⟨w.heap.size, 4, none⟩ = some (.int .i64 (sp)) := K0_1.out.cell 4
        have z0_5_1 : w1.cell? ⟨w.heap.size, 5, none⟩ = some (.slice A1 n1 c1) := K0_1.out.cell 5
        have z0_6_1 : w1.cell? ⟨w.heap.size, 6, none⟩ = some (.slice A2 n2 c2) := K0_1.out.cell 6
        go_wp2_with (first | (go_at_call 43; refine (withinpt_is _ _ _ _ (by assumption) _).mono ?_; rintro e w' ⟨rfl, rfl⟩))
        go_ret
        exact ⟨rfl, HB1.out⟩
    · rw [if_neg ho] at hE
      obtain ⟨o1, o2⟩ : ¬ ms < ls ∧ ¬ hi < lo := by omega
      obtain ⟨t1, ht1⟩ : ∃ t, tabErr l1 = t := ⟨_, rfl⟩
      obtain ⟨t2, ht2⟩ : ∃ t, tabErr l2 = t := ⟨_, rfl⟩
      rw [ht1, ht2] at hE
      have HT1 := Lib.hid ht1
      have HT2 := Lib.hid ht2
      have HE := Lib.hid hE
      clear hr ho ht1 ht2 hE
      go_enter Try.func41, Try.ntmps41
      have R0_0 := Lib.hid hx1
      clear hx1
      have R1_0 := Lib.hid hx2
      clear hx2
      go_wp2_with fail
      refine (smallpt_lit 25920000 [ls, ms] 2 _ _ _ (by assumption) _ (by first | rfl | simp) rfl (by omega) (by omega) (by omega)).mono ?_
      rintro e w1 ⟨rfl, hb⟩
      have HB1 := Lib.hid (show Below w.heap.size w w1 from step_below hb (by repeat' (first | exact Below.refl _ _ | exact HB0.out | refine below_drewN ?_ _ | refine Below.drew ?_ | refine Below.alloc ?_ (by first | omega | (simp; done) | (simp; omega) | (simp [World.setCell]; omega)) _ | refine Below.setCell ?_ (by first | omega | (simp; done) | (simp; omega)) _ | assumption)))
      have K0_1 := Lib.hid (step_blk hb (show Blk _ (w.heap.size) 24 #[.int .i64 (ls), .int .i64 (ms), .int .i64 (lo), .int .i64 (hi), .int .i64 (sp), .slice A1 n1 c1, .slice A2 n2 c2] by repeat' (first | exact Blk.at_ _ (by first | rfl | (simp; done) | (simp; omega)) _ _ | refine Blk.drewN ?_ _ | refine Blk.drew ?_ | refine Blk.alloc ?_ _ | refine Blk.far ?_ (by first | omega | (simp; done) | (simp; omega)) _ | assumption)))
      have hL1 := Lib.hid (show Below w.heap.size w _ from reads_mid hb (by repeat' (first | exact Below.refl _ _ | refine below_drewN ?_ _ | refine Below.drew ?_ | refine Below.alloc ?_ (by first | omega | (simp; done) | (simp; omega) | (simp [World.setCell]; omega)) _ | refine Below.setCell ?_ (by first | omega | (simp; done) | (simp; omega)) _)))
      have R0_1 := Lib.hid (reads_lay hb hL1.out R0_0.out)
      have R1_1 := Lib.hid (reads_lay hb hL1.out R1_0.out)
      clear hL1 R0_0 R1_0
      have hz1 := hb.size
      try simp only [World.size_alloc, World.drewN, World.drew] at hz1
      clear hb
      have l0_1 : w.heap.size < w1.heap.size := K0_1.out.lt
      have z0_0_1 : w1.cell? ⟨w.heap.size, 0, none⟩ = some (.int .i64 (ls)) := K0_1.out.cell 0
      have z0_1_1 : w1.cell? ⟨w.heap.size, 1, none⟩ = some (.int .i64 (ms)) := K0_1.out.cell 1
      have z0_2_1 : w1.cell? ⟨w.heap.size, 2, none⟩ = some (.int .i64 (lo)) := K0_1.out.cell 2
      have z0_3_1 : w1.cell? ⟨w.heap.size, 3, none⟩ = some (.int .i64 (hi)) := K0_1.out.cell 3
      have z0_4_1 : w1.cell? ⟨w.heap.size, 4, none⟩ = some (.int .i64 (sp)) := K0_1.out.cell 4
      have z0_5_1 : w1.cell? ⟨w.heap.size, 5, none⟩ = some (.slice A1 n1 c1) := K0_1.out.cell 5
      have z0_6_1 : w1.cell? ⟨w.heap.size, 6, none⟩ = some (.slice A2 n2 c2) := K0_1.out.cell 6
      go_wp2_with (first | (go_at_call 43; refine (withinpt_is _ _ _ _ (by assumption) _).mono ?_; rintro e w' ⟨rfl, rfl⟩))
      refine Fx.regionG (fun W g f w' => Below W.heap.size W w' ∧ ∀ x, g = some x → Reads w' w'.heap.size 1 (some ⟨x, 0, none⟩) 2 (([t1, t2] : List Int).map (.int .i64))) (fun x : Nat => .slice (some ⟨x, 0, none⟩) 2 2) 6 (by kernel_rfl) (by kernel_rfl) (by kernel_rfl) ?_ ?_
      · intro f hf0
        exact ⟨below_drewN (Below.refl _ _) 1, fun x h => by cases h⟩
      repeat (first
        | (refine Fx.skipE_ (by rfl) (fun g f w h => h) ?_; simp only [Act.put, List.setIfInBounds_toArray, List.set_cons_zero, List.set_cons_succ])
        | (refine Fx.valE_ ?_ (by rfl) ?_ (fun g f w h => h) ?_
           rotate_left
           · intro g f w' hD hk
             obtain ⟨hb, hg⟩ := id hD
             have kb0 := step_blk hb (show Blk _ (w.heap.size) 24 #[.int .i64 (ls), .int .i64 (ms), .int .i64 (lo), .int .i64 (hi), .int .i64 (sp), .slice A1 n1 c1, .slice A2 n2 c2] by repeat' (first | exact K0_1.out | exact Blk.at_ _ (by first | rfl | (simp; done) | (simp; omega)) _ _ | refine Blk.drewN ?_ _ | refine Blk.drew ?_ | refine Blk.alloc ?_ _ | refine Blk.far ?_ (by first | omega | (simp; done) | (simp; omega)) _ | assumption))
             have y0_0 : w'.cell? ⟨w.heap.size, 0, none⟩ = some (.int .i64 (ls)) := kb0.cell 0
             have y0_1 : w'.cell? ⟨w.heap.size, 1, none⟩ = some (.int .i64 (ms)) := kb0.cell 1
             have y0_2 : w'.cell? ⟨w.heap.size, 2, none⟩ = some (.int .i64 (lo)) := kb0.cell 2
             have y0_3 : w'.cell? ⟨w.heap.size, 3, none⟩ = some (.int .i64 (hi)) := kb0.cell 3
             have y0_4 : w'.cell? ⟨w.heap.size, 4, none⟩ = some (.int .i64 (sp)) := kb0.cell 4
             have y0_5 : w'.cell? ⟨w.heap.size, 5, none⟩ = some (.slice A1 n1 c1) := kb0.cell 5
             have y0_6 : w'.cell? ⟨w.heap.size, 6, none⟩ = some (.slice A2 n2 c2) := kb0.cell 6
             clear kb0
             clear hk hD hb hg
             go_simp
             try rfl
           simp only [Act.put, List.setIfInBounds_toArray, List.set_cons_zero, List.set_cons_succ]))
      refine Fx.callvE_ (.int .i64 t1) ?_ ?_ (by rfl) ?_ ?_ ?_
      rotate_left 2
      · intro w'
        go_simp
        refine ⟨?_, ?_⟩ <;> rfl
      · intro g f w' hD hk
        exact (pchecktab_is A1 n1 c1 _ l1 t1 HT1.out _ ((R0_1.out.below hD.1).more hD.1.size) (Nat.le_refl _) hb1).mono fun e w'' ⟨he, hw⟩ => ⟨he, step_below hw hD.1, fun y hy => ((hD.2 y hy).below hw).more hw.size⟩
      simp only [Act.put, List.setIfInBounds_toArray, List.set_cons_zero, List.set_cons_succ]
      repeat (first
        | (refine Fx.skipE_ (by rfl) (fun g f w h => h) ?_; simp only [Act.put, List.setIfInBounds_toArray, List.set_cons_zero, List.set_cons_succ])
        | (refine Fx.valE_ ?_ (by rfl) ?_ (fun g f w h => h) ?_
           rotate_left
           · intro g f w' hD hk
             obtain ⟨hb, hg⟩ := id hD
             have kb0 := step_blk hb (show Blk _ (w.heap.size) 24 #[.int .i64 (ls), .int .i64 (ms), .int .i64 (lo), .int .i64 (hi), .int .i64 (sp), .slice A1 n1 c1, .slice A2 n2 c2] by repeat' (first | exact K0_1.out | exact Blk.at_ _ (by first | rfl | (simp; done) | (simp; omega)) _ _ | refine Blk.drewN ?_ _ | refine Blk.drew ?_ | refine Blk.alloc ?_ _ | refine Blk.far ?_ (by first | omega | (simp; done) | (simp; omega)) _ | assumption))
             have y0_0 : w'.cell? ⟨w.heap.size, 0, none⟩ = some (.int .i64 (ls)) := kb0.cell 0
             have y0_1 : w'.cell? ⟨w.heap.size, 1, none⟩ = some (.int .i64 (ms)) := kb0.cell 1
             have y0_2 : w'.cell? ⟨w.heap.size, 2, none⟩ = some (.int .i64 (lo)) := kb0.cell 2
             have y0_3 : w'.cell? ⟨w.heap.size, 3, none⟩ = some (.int .i64 (hi)) := kb0.cell 3
             have y0_4 : w'.cell? ⟨w.heap.size, 4, none⟩ = some (.int .i64 (sp)) := kb0.cell 4
             have y0_5 : w'.cell? ⟨w.heap.size, 5, none⟩ = some (.slice A1 n1 c1) := kb0.cell 5
             have y0_6 : w'.cell? ⟨w.heap.size, 6, none⟩ = some (.slice A2 n2 c2) := kb0.cell 6
             clear kb0
             clear hk hD hb hg
             go_simp
             try rfl
           simp only [Act.put, List.setIfInBounds_toArray, List.set_cons_zero, List.set_cons_succ]))
      refine Fx.callvE_ (.int .i64 t2) ?_ ?_ (by rfl) ?_ ?_ ?_
      rotate_left 2
      · intro w'
        go_simp
        refine ⟨?_, ?_⟩ <;> rfl
      · intro g f w' hD hk
        exact (pchecktab_is A2 n2 c2 _ l2 t2 HT2.out _ ((R1_1.out.below hD.1).more hD.1.size) (Nat.le_refl _) hb2).mono fun e w'' ⟨he, hw⟩ => ⟨he, step_below hw hD.1, fun y hy => ((hD.2 y hy).below hw).more hw.size⟩
      simp only [Act.put, List.setIfInBounds_toArray, List.set_cons_zero, List.set_cons_succ]
      repeat (first
        | (refine Fx.skipE_ (by rfl) (fun g f w h => h) ?_; simp only [Act.put, List.setIfInBounds_toArray, List.set_cons_zero, List.set_cons_succ])
        | (refine Fx.valE_ ?_ (by rfl) ?_ (fun g f w h => h) ?_
           rotate_left
           · intro g f w' hD hk
             obtain ⟨hb, hg⟩ := id hD
             have kb0 := step_blk hb (show Blk _ (w.heap.size) 24 #[.int .i64 (ls), .int .i64 (ms), .int .i64 (lo), .int .i64 (hi), .int .i64 (sp), .slice A1 n1 c1, .slice A2 n2 c2] by repeat' (first | exact K0_1.out | exact Blk.at_ _ (by first | rfl | (simp; done) | (simp; omega)) _ _ | refine Blk.drewN ?_ _ | refine Blk.drew ?_ | refine Blk.alloc ?_ _ | refine Blk.far ?_ (by first | omega | (simp; done) | (simp; omega)) _ | assumption))
             have y0_0 : w'.cell? ⟨w.heap.size, 0, none⟩ = some (.int .i64 (ls)) := kb0.cell 0
             have y0_1 : w'.cell? ⟨w.heap.size, 1, none⟩ = some (.int .i64 (ms)) := kb0.cell 1
             have y0_2 : w'.cell? ⟨w.heap.size, 2, none⟩ = some (.int .i64 (lo)) := kb0.cell 2
             have y0_3 : w'.cell? ⟨w.heap.size, 3, none⟩ = some (.int .i64 (hi)) := kb0.cell 3
             have y0_4 : w'.cell? ⟨w.heap.size, 4, none⟩ = some (.int .i64 (sp)) := kb0.cell 4
             have y0_5 : w'.cell? ⟨w.heap.size, 5, none⟩ = some (.slice A1 n1 c1) := kb0.cell 5
             have y0_6 : w'.cell? ⟨w.heap.size, 6, none⟩ = some (.slice A2 n2 c2) := kb0.cell 6
             clear kb0
             clear hk hD hb hg
             go_simp
             try rfl
           simp only [Act.put, List.setIfInBounds_toArray, List.set_cons_zero, List.set_cons_succ]))
      refine Fx.makeE_ (by rfl) (by rfl) ?_ ?_
      · intro f w' hD hk
        refine ⟨w'.heap.size, w'.alloc (.cells #[.int .i64 (t1), .int .i64 (t2)] 32), ?_, ?_⟩
        · clear hD hk
          go_simp
          try rfl
        · exact ⟨hD.1.alloc hD.1.size _, fun y hy => by cases hy; exact Blk.reads (Blk.new _ _ _) rfl⟩
      intro x
      simp only [Act.put, List.setIfInBounds_toArray, List.set_cons_zero, List.set_cons_succ]
      repeat (first
        | (refine Fx.skip_ (by rfl) (fun f w h => h) ?_; simp only [Act.put, List.setIfInBounds_toArray, List.set_cons_zero, List.set_cons_succ])
        | (refine Fx.val_ ?_ (by rfl) ?_ (fun f w h => h) ?_
           rotate_left
           · intro f w' hD hk
             obtain ⟨hb, hg⟩ := id hD
             have kb0 := step_blk hb (show Blk _ (w.heap.size) 24 #[.int .i64 (ls), .int .i64 (ms), .int .i64 (lo), .int .i64 (hi), .int .i64 (sp), .slice A1 n1 c1, .slice A2 n2 c2] by repeat' (first | exact K0_1.out | exact Blk.at_ _ (by first | rfl | (simp; done) | (simp; omega)) _ _ | refine Blk.drewN ?_ _ | refine Blk.drew ?_ | refine Blk.alloc ?_ _ | refine Blk.far ?_ (by first | omega | (simp; done) | (simp; omega)) _ | assumption))
             have y0_0 : w'.cell? ⟨w.heap.size, 0, none⟩ = some (.int .i64 (ls)) := kb0.cell 0
             have y0_1 : w'.cell? ⟨w.heap.size, 1, none⟩ = some (.int .i64 (ms)) := kb0.cell 1
             have y0_2 : w'.cell? ⟨w.heap.size, 2, none⟩ = some (.int .i64 (lo)) := kb0.cell 2
             have y0_3 : w'.cell? ⟨w.heap.size, 3, none⟩ = some (.int .i64 (hi)) := kb0.cell 3
             have y0_4 : w'.cell? ⟨w.heap.size, 4, none⟩ = some (.int .i64 (sp)) := kb0.cell 4
             have y0_5 : w'.cell? ⟨w.heap.size, 5, none⟩ = some (.slice A1 n1 c1) := kb0.cell 5
             have y0_6 : w'.cell? ⟨w.heap.size, 6, none⟩ = some (.slice A2 n2 c2) := kb0.cell 6
             clear kb0
             clear hk hD hb hg
             go_simp
             try rfl
           simp only [Act.put, List.setIfInBounds_toArray, List.set_cons_zero, List.set_cons_succ]))
      refine Fx.call_ (.int .i64 (E)) ?_ ?_ (by rfl) ?_ ?_ ?_
      rotate_left 2
      · intro w'
        go_simp
        refine ⟨?_, ?_⟩ <;> rfl
      · intro f w' hD hk
        exact (orerr_is (some ⟨x, 0, none⟩) 2 2 _ [t1, t2] E HE.out _ (hD.2 x rfl) (Nat.le_refl _) (by omega)).mono fun e w'' ⟨he, hw⟩ => ⟨he, hw ▸ hD⟩
      simp only [Act.put, List.setIfInBounds_toArray, List.set_cons_zero, List.set_cons_succ]
      repeat (first
        | (refine Fx.skip_ (by rfl) (fun f w h => h) ?_; simp only [Act.put, List.setIfInBounds_toArray, List.set_cons_zero, List.set_cons_succ])
        | (refine Fx.val_ ?_ (by rfl) ?_ (fun f w h => h) ?_
           rotate_left
           · intro f w' hD hk
             obtain ⟨hb, hg⟩ := id hD
             have kb0 := step_blk hb (show Blk _ (w.heap.size) 24 #[.int .i64 (ls), .int .i64 (ms), .int .i64 (lo), .int .i64 (hi), .int .i64 (sp), .slice A1 n1 c1, .slice A2 n2 c2] by repeat' (first | exact K0_1.out | exact Blk.at_ _ (by first | rfl | (simp; done) | (simp; omega)) _ _ | refine Blk.drewN ?_ _ | refine Blk.drew ?_ | refine Blk.alloc ?_ _ | refine Blk.far ?_ (by first | omega | (simp; done) | (simp; omega)) _ | assumption))
             have y0_0 : w'.cell? ⟨w.heap.size, 0, none⟩ = some (.int .i64 (ls)) := kb0.cell 0
             have y0_1 : w'.cell? ⟨w.heap.size, 1, none⟩ = some (.int .i64 (ms)) := kb0.cell 1
             have y0_2 : w'.cell? ⟨w.heap.size, 2, none⟩ = some (.int .i64 (lo)) := kb0.cell 2
             have y0_3 : w'.cell? ⟨w.heap.size, 3, none⟩ = some (.int .i64 (hi)) := kb0.cell 3
             have y0_4 : w'.cell? ⟨w.heap.size, 4, none⟩ = some (.int .i64 (sp)) := kb0.cell 4
             have y0_5 : w'.cell? ⟨w.heap.size, 5, none⟩ = some (.slice A1 n1 c1) := kb0.cell 5
             have y0_6 : w'.cell? ⟨w.heap.size, 6, none⟩ = some (.slice A2 n2 c2) := kb0.cell 6
             clear kb0
             clear hk hD hb hg
             go_simp
             try rfl
           simp only [Act.put, List.setIfInBounds_toArray, List.set_cons_zero, List.set_cons_succ]))
      refine Fx.nil_ ?_
      intro f w2 hall hD
      have hb := hD.1
      clear hall hD
      have HB2 := Lib.hid (show Below w.heap.size w w2 from step_below hb (by repeat' (first | exact Below.refl _ _ | exact HB1.out | refine below_drewN ?_ _ | refine Below.drew ?_ | refine Below.alloc ?_ (by first | omega | (simp; done) | (simp; omega) | (simp [World.setCell]; omega)) _ | refine Below.setCell ?_ (by first | omega | (simp; done) | (simp; omega)) _ | assumption)))
      have K0_2 := Lib.hid (step_blk hb (show Blk _ (w.heap.size) 24 #[.int .i64 (ls), .int .i64 (ms), .int .i64 (lo), .int .i64 (hi), .int .i64 (sp), .slice A1 n1 c1, .slice A2 n2 c2] by repeat' (first | exact K0_1.out | exact Blk.at_ _ (by first | rfl | (simp; done) | (simp; omega)) _ _ | refine Blk.drewN ?_ _ | refine Blk.drew ?_ | refine Blk.alloc ?_ _ | refine Blk.far ?_ (by first | omega | (simp; done) | (simp; omega)) _ | assumption)))
      have hL2 := Lib.hid (show Below w1.heap.size w1 _ from reads_mid hb (by repeat' (first | exact Below.refl _ _ | refine below_drewN ?_ _ | refine Below.drew ?_ | refine Below.alloc ?_ (by first | omega | (simp; done) | (simp; omega) | (simp [World.setCell]; omega)) _ | refine Below.setCell ?_ (by first | omega | (simp; done) | (simp; omega)) _)))
      have R0_2 := Lib.hid (reads_lay hb hL2.out R0_1.out)
      have R1_2 := Lib.hid (reads_lay hb hL2.out R1_1.out)
      clear hL2 R0_1 R1_1
      have hz2 := hb.size
      try simp only [World.size_alloc, World.drewN, World.drew] at hz2
      clear hb K0_1 z0_0_1 z0_1_1 z0_2_1 z0_3_1 z0_4_1 z0_5_1 z0_6_1 l0_1
      have l0_2 : w.heap.size < w2.heap.size := K0_2.out.lt
      have z0_0_2 : w2.cell? ⟨w.heap.size, 0, none⟩ = some (.int .i64 (ls)) := K0_2.out.cell 0
      have z0_1_2 : w2.cell? ⟨w.heap.size, 1, none⟩ = some (.int .i64 (ms)) := K0_2.out.cell 1
      have z0_2_2 : w2.cell? ⟨w.heap.size, 2, none⟩ = some (.int .i64 (lo)) := K0_2.out.cell 2
      have z0_3_2 : w2.cell? ⟨w.heap.size, 3, none⟩ = some (.int .i64 (hi)) := K0_2.out.cell 3
      have z0_4_2 : w2.cell? ⟨w.heap.size, 4, none⟩ = some (.int .i64 (sp)) := K0_2.out.cell 4
      have z0_5_2 : w2.cell? ⟨w.heap.size, 5, none⟩ = some (.slice A1 n1 c1) := K0_2.out.cell 5
      have z0_6_2 : w2.cell? ⟨w.heap.size, 6, none⟩ = some (.slice A2 n2 c2) := K0_2.out.cell 6
      go_wp2
      go_ret
      exact ⟨rfl, HB2.out⟩

end Go.Proofs.Ytclnffpfbngjoaa

end
