/- Contracts of the functions that tell which texts are names. -/
import Derived.Test.YtmioamcgbihhjaaArith
import Derived.Test.YtmioamcgbihhjaaMem
namespace Go.Proofs.Ytmioamcgbihhjaa
open Go.RowKit

def letterB (c : Nat) : Bool := decide (97 ≤ c ∧ c ≤ 122 ∨ 65 ≤ c ∧ c ≤ 90)
def restB (c : Nat) : Bool := letterB c || decide (c = 45 ∨ 48 ≤ c ∧ c ≤ 57)
def byteAt (s : ByteArray) (j : Nat) : Nat := (s.data.toList.getD j 0).toNat
def okAt (s : ByteArray) (j : Nat) : Bool := if j = 0 then letterB (byteAt s j) else restB (byteAt s j)
/-- Whether a text is a name. -/
def nameB (s : ByteArray) : Bool := (List.range s.size).all (okAt s) && decide (s.size ≠ 0) && decide (s.size ≤ 12)

theorem byteAt_get (s : ByteArray) (j : Nat) (h : j < s.size) : byteAt s j = (s[j]).toNat := by
  have h' : j < s.data.size := h
  unfold byteAt
  simp only [List.getD_eq_getElem?_getD, Array.getElem?_toList, h', Array.getElem?_eq_getElem, Option.getD_some]
  rfl

theorem byteAt_lt (s : ByteArray) (j : Nat) : byteAt s j < 256 := by unfold byteAt; exact UInt8.toNat_lt _

theorem range_split (c : Int) : c < 45 ∨ c = 45 ∨ (46 ≤ c ∧ c ≤ 47) ∨ (48 ≤ c ∧ c ≤ 57) ∨ (58 ≤ c ∧ c ≤ 64) ∨ (65 ≤ c ∧ c ≤ 90) ∨ (91 ≤ c ∧ c ≤ 96) ∨ (97 ≤ c ∧ c ≤ 122) ∨ 123 ≤ c := by omega

theorem ret_bool {a b : Bool} (h : a = b) : Ending.returned (.bool a) = .returned (.bool b) := by rw [h]

theorem name_bad {s : ByteArray} {k : Nat} (h : k < s.size) (ho : okAt s k = false) : nameB s = false := by
  have : (List.range s.size).all (okAt s) = false := List.all_eq_false.2 ⟨k, List.mem_range.2 h, by rw [ho]; simp⟩
  unfold nameB
  rw [this]; rfl

theorem name_step {s : ByteArray} {k : Nat} (ha : (List.range k).all (okAt s) = true) (ho : okAt s k = true) : (List.range (k + 1)).all (okAt s) = true := by
  rw [List.range_succ, List.all_append, ha]
  simp [ho]

theorem empty_iff (s : ByteArray) : s.toList = [] ↔ s.size = 0 := by
  rw [ByteArray.toList_eq]
  constructor
  · intro h
    have := congrArg List.length h
    simpa using this
  · intro h
    apply List.eq_nil_of_length_eq_zero
    simpa using h

theorem name_end (s : ByteArray) (ha : (List.range s.size).all (okAt s) = true) : nameB s = (!s.toList.isEmpty && decide ((s.size : Int) ≤ 12)) := by
  have e : s.toList.isEmpty = decide (s.size = 0) := by
    rw [Bool.eq_iff_iff, List.isEmpty_iff, decide_eq_true_iff]; exact empty_iff s
  unfold nameB
  rw [ha, e]
  by_cases h : s.size = 0
  · simp [h]
  · simp [h]; omega

set_option maxHeartbeats 4000000 in
theorem isname_any (s : ByteArray) (w : World) (hs : s.size ≤ maxLen) :
    Calls Try.prog 131 #[.string s] w fun e w' => e = .returned (.bool (nameB s)) ∧ w = w' := by
  unfold maxLen at hs
  go_enter Try.func131, Try.ntmps131
  go_wp2
  go_loop [7] (fun i => ∃ k : Nat, k ≤ s.size ∧ i = .int .i64 k ∧ (List.range k).all (okAt s) = true) (fun i => s.size - (intOf i).toNat)
  case atStart => exact ⟨0, Nat.zero_le _, rfl, rfl⟩
  case round =>
    obtain ⟨k, hk, rfl, ha⟩ := hrel
    have HA := Lib.hid ha
    clear ha
    by_cases hlt : k < s.size
    · have hb := byteAt_get s k hlt
      have HB := Lib.hid hb
      clear hb
      have hcs : (((97 : Int) ≤ ((s[k]).toNat : Int) ∧ ((s[k]).toNat : Int) ≤ 122) ∨ (¬ (97 : Int) ≤ ((s[k]).toNat : Int) ∧ (65 : Int) ≤ ((s[k]).toNat : Int) ∧ ((s[k]).toNat : Int) ≤ 90) ∨ (¬ (97 : Int) ≤ ((s[k]).toNat : Int) ∧ ¬ (65 : Int) ≤ ((s[k]).toNat : Int) ∧ ¬ k = 0 ∧ ((s[k]).toNat : Int) = 45) ∨ (¬ (97 : Int) ≤ ((s[k]).toNat : Int) ∧ ¬ (65 : Int) ≤ ((s[k]).toNat : Int) ∧ ¬ k = 0 ∧ ¬ ((s[k]).toNat : Int) = 45 ∧ ¬ ((s[k]).toNat : Int) < 48 ∧ ¬ 57 < ((s[k]).toNat : Int))) ∨ (((97 : Int) ≤ ((s[k]).toNat : Int) ∧ ¬ ((s[k]).toNat : Int) ≤ 122 ∧ (65 : Int) ≤ ((s[k]).toNat : Int) ∧ ¬ ((s[k]).toNat : Int) ≤ 90 ∧ k = 0) ∨ (¬ (97 : Int) ≤ ((s[k]).toNat : Int) ∧ ¬ (65 : Int) ≤ ((s[k]).toNat : Int) ∧ k = 0) ∨ (¬ (97 : Int) ≤ ((s[k]).toNat : Int) ∧ (65 : Int) ≤ ((s[k]).toNat : Int) ∧ ¬ ((s[k]).toNat : Int) ≤ 90 ∧ k = 0) ∨ ((97 : Int) ≤ ((s[k]).toNat : Int) ∧ ¬ ((s[k]).toNat : Int) ≤ 122 ∧ (65 : Int) ≤ ((s[k]).toNat : Int) ∧ ¬ ((s[k]).toNat : Int) ≤ 90 ∧ ¬ k = 0 ∧ ¬ ((s[k]).toNat : Int) = 45 ∧ ¬ ((s[k]).toNat : Int) < 48 ∧ 57 < ((s[k]).toNat : Int)) ∨ (¬ (97 : Int) ≤ ((s[k]).toNat : Int) ∧ (65 : Int) ≤ ((s[k]).toNat : Int) ∧ ¬ ((s[k]).toNat : Int) ≤ 90 ∧ ¬ k = 0 ∧ ¬ ((s[k]).toNat : Int) = 45 ∧ ¬ ((s[k]).toNat : Int) < 48 ∧ 57 < ((s[k]).toNat : Int)) ∨ (¬ (97 : Int) ≤ ((s[k]).toNat : Int) ∧ ¬ (65 : Int) ≤ ((s[k]).toNat : Int) ∧ ¬ k = 0 ∧ ¬ ((s[k]).toNat : Int) = 45 ∧ ((s[k]).toNat : Int) < 48) ∨ (¬ (97 : Int) ≤ ((s[k]).toNat : Int) ∧ ¬ (65 : Int) ≤ ((s[k]).toNat : Int) ∧ ¬ k = 0 ∧ ¬ ((s[k]).toNat : Int) = 45 ∧ ¬ ((s[k]).toNat : Int) < 48 ∧ 57 < ((s[k]).toNat : Int))) := by omega
      rcases hcs with hcs | hcs
      · have HX := Lib.hid (show okAt s k = true from by unfold okAt letterB restB letterB; rw [HB.out]; split <;> simp <;> omega)
        rcases hcs with ⟨h0, h1⟩ | ⟨h0, h1, h2⟩ | ⟨h0, h1, h2, h3⟩ | ⟨h0, h1, h2, h3, h4, h5⟩
        all_goals
          go_wp2
          go_round
          case rel => exact ⟨k + 1, by omega, by go_num, name_step HA.out HX.out⟩
          case measure => simp [intOf]; omega
      · have HX := Lib.hid (name_bad hlt (show okAt s k = false from by unfold okAt letterB restB letterB; rw [HB.out]; split <;> simp <;> omega))
        rcases hcs with ⟨h0, h1, h2, h3, h4⟩ | ⟨h0, h1, h2⟩ | ⟨h0, h1, h2, h3⟩ | ⟨h0, h1, h2, h3, h4, h5, h6, h7⟩ | ⟨h0, h1, h2, h3, h4, h5, h6⟩ | ⟨h0, h1, h2, h3, h4⟩ | ⟨h0, h1, h2, h3, h4, h5⟩
        all_goals
          try subst_vars
          try have e45 : (((s[k]).toNat : Int) != 45) = true := bne_iff_ne.2 (by assumption)
          go_wp2
          go_ret
          exact ⟨ret_bool HX.out.symm, rfl⟩
    · have hkn : k = s.size := by omega
      have HE := Lib.hid (name_end s (hkn ▸ HA.out))
      clear hkn
      go_wp2
      all_goals go_ret
      · have hn : s.toList = [] := by assumption
        exact ⟨ret_bool (by rw [HE.out]; simp [hn]), rfl⟩
      · exact ⟨ret_bool HE.out.symm, rfl⟩

end Go.Proofs.Ytmioamcgbihhjaa
