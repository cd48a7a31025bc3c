import Derived.Test.YtgamepmipoociaaQ3

section
/- Contracts of the reference's searches of names: what a name is, the number of a rocker, whether a text is in a list. -/
namespace Go.Proofs.Ytgamepmipoociaa
open Go.RowKit

def digitB (c : Nat) : Bool := decide (48 ≤ c ∧ c ≤ 57)
theorem restB_eq (c : Nat) : restB c = (letterB c || digitB c || decide (c = 45)) := by
  have e : decide (c = 45 ∨ 48 ≤ c ∧ c ≤ 57) = (decide (48 ≤ c ∧ c ≤ 57) || decide (c = 45)) := by
    rw [Bool.eq_iff_iff]; simp only [Bool.or_eq_true, decide_eq_true_iff]; omega
  unfold restB digitB
  rw [e, Bool.or_assoc]

theorem isletter_is (c : Nat) (t : Bool) (h : letterB c = t) (w : World) :
    Calls Try.prog 118 #[.int .u8 (c : Int)] w fun e w' => e = .returned (.bool t) ∧ w = w' := by
  have hcs : ((c : Int) < 65 ∧ t = false) ∨ ((65 : Int) ≤ (c : Int) ∧ (c : Int) ≤ 90 ∧ t = true) ∨ ((90 : Int) < (c : Int) ∧ (c : Int) < 97 ∧ t = false) ∨ ((97 : Int) ≤ (c : Int) ∧ (c : Int) ≤ 122 ∧ t = true) ∨ ((122 : Int) < (c : Int) ∧ t = false) := by
    subst h
    unfold letterB
    simp only [decide_eq_true_iff, decide_eq_false_iff_not]
    omega
  clear h
  rcases hcs with ⟨h1, rfl⟩ | ⟨h1, h2, rfl⟩ | ⟨h1, h2, rfl⟩ | ⟨h1, h2, rfl⟩ | ⟨h1, rfl⟩
  all_goals
    go_enter Try.func118, Try.ntmps118
    go_wp2
    go_ret
    first | exact ⟨rfl, rfl⟩ | exact ⟨ret_bool (by simp; omega), rfl⟩

theorem isdigit_is (c : Nat) (t : Bool) (h : digitB c = t) (w : World) :
    Calls Try.prog 119 #[.int .u8 (c : Int)] w fun e w' => e = .returned (.bool t) ∧ w = w' := by
  have hcs : ((c : Int) < 48 ∧ t = false) ∨ ((48 : Int) ≤ (c : Int) ∧ (c : Int) ≤ 57 ∧ t = true) ∨ ((57 : Int) < (c : Int) ∧ t = false) := by
    subst h
    unfold digitB
    simp only [decide_eq_true_iff, decide_eq_false_iff_not]
    omega
  clear h
  rcases hcs with ⟨h1, rfl⟩ | ⟨h1, h2, rfl⟩ | ⟨h1, rfl⟩
  all_goals
    go_enter Try.func119, Try.ntmps119
    go_wp2
    go_ret
    first | exact ⟨rfl, rfl⟩ | exact ⟨ret_bool (by simp; omega), rfl⟩

theorem okAt_zero {s : ByteArray} : okAt s 0 = letterB (byteAt s 0) := rfl
theorem okAt_of {s : ByteArray} {k : Nat} (h0 : letterB (byteAt s 0) = true) (h : restB (byteAt s k) = true) : okAt s k = true := by
  unfold okAt
  split
  · rename_i e; rw [e]; exact h0
  · exact h
theorem okAt_no {s : ByteArray} {k : Nat} (h : restB (byteAt s k) = false) : okAt s k = false := by
  unfold okAt
  split
  · rw [restB_eq] at h; cases hl : letterB (byteAt s k) <;> simp_all
  · exact h
theorem nameB_nil {s : ByteArray} (h : s.size = 0) : nameB s = false := by unfold nameB; simp [h]
theorem nameB_long {s : ByteArray} (h : 12 < s.size) : nameB s = false := by
  unfold nameB
  rw [decide_eq_false (show ¬ s.size ≤ 12 by omega), Bool.and_false]
theorem nameB_all {s : ByteArray} (h0 : s.size ≠ 0) (h1 : s.size ≤ 12) (h : (List.range s.size).all (okAt s) = true) : nameB s = true := by
  unfold nameB
  rw [h]
  simp [h0, h1]
theorem nameB_size {s : ByteArray} (h : nameB s = true) : 1 ≤ s.size ∧ s.size ≤ 12 := by
  unfold nameB at h
  simp only [Bool.and_eq_true, decide_eq_true_iff] at h
  omega

set_option maxHeartbeats 1000000 in
theorem isnameref_any (s : ByteArray) (w : World) (hs : s.size ≤ maxLen) :
    Calls Try.prog 87 #[.string s] w fun e w' => e = .returned (.bool (nameB s)) ∧ w = w' := by
  unfold maxLen at hs
  by_cases h0 : s.size = 0
  · have HX := Lib.hid (nameB_nil h0)
    have hb : ((s.size : Int) == 0) = true := beq_iff_eq.2 (by omega)
    have HH := Lib.hid h0
    clear h0
    go_enter Try.func87, Try.ntmps87
    go_wp2
    go_ret
    exact ⟨ret_bool HX.out.symm, rfl⟩
  have hb : ((s.size : Int) == 0) = false := beq_eq_false_iff_ne.2 (by omega)
  have HH := Lib.hid h0
  clear h0
  by_cases h12 : (12 : Int) < (s.size : Int)
  · have HX := Lib.hid (nameB_long (s := s) (by omega))
    go_enter Try.func87, Try.ntmps87
    go_wp2
    go_ret
    exact ⟨ret_bool HX.out.symm, rfl⟩
  have hpos : 0 < s.size := by have := HH.out; omega
  have HB0 := Lib.hid (byteAt_get s 0 hpos)
  cases hl : letterB (byteAt s 0)
  · have HX := Lib.hid (name_bad hpos (okAt_zero.trans hl))
    have HL := Lib.hid (show letterB (s[0]).toNat = false by rw [← HB0.out]; exact hl)
    clear hl
    go_enter Try.func87, Try.ntmps87
    go_wp2_with (go_at_call 118; refine (isletter_is _ _ HL.out _).mono ?_; rintro e w' ⟨rfl, rfl⟩)
    go_ret
    exact ⟨ret_bool HX.out.symm, rfl⟩
  have HL0 := Lib.hid hl
  have HL := Lib.hid (show letterB (s[0]).toNat = true by rw [← HB0.out]; exact hl)
  clear hl
  go_enter Try.func87, Try.ntmps87
  go_wp2_with (go_at_call 118; refine (isletter_is _ _ HL.out _).mono ?_; rintro e w' ⟨rfl, rfl⟩)
  go_loop [3] (fun i => ∃ k : Nat, k ≤ s.size ∧ i = .int .i64 k ∧ (List.range k).all (okAt s) = true) (fun i => s.size - (intOf i).toNat)
  case atStart => exact ⟨0, Nat.zero_le _, rfl, rfl⟩
  case round =>
    obtain ⟨k, hk, rfl, ha⟩ := hrel
    have HA := Lib.hid ha
    clear ha
    by_cases hlt : k < s.size
    · have HB := Lib.hid (byteAt_get s k hlt)
      have HR := Lib.hid (restB_eq (byteAt s k))
      cases hl : letterB (byteAt s k)
      · have HLk := Lib.hid (show letterB (s[k]).toNat = false by rw [← HB.out]; exact hl)
        have HL1 := Lib.hid hl
        clear hl
        cases hd : digitB (byteAt s k)
        · have HDk := Lib.hid (show digitB (s[k]).toNat = false by rw [← HB.out]; exact hd)
          have HD1 := Lib.hid hd
          clear hd
          by_cases h45 : ((s[k]).toNat : Int) = 45
          · have hb45 : (((s[k]).toNat : Int) != 45) = false := by simp [h45]
            have HX := Lib.hid (okAt_of HL0.out (show restB (byteAt s k) = true by rw [HR.out, HL1.out, HD1.out, HB.out]; simp; omega))
            have HH45 := Lib.hid h45
            clear h45
            go_wp2_with (first | (go_at_call 118; refine (isletter_is _ _ HLk.out _).mono ?_; rintro e w' ⟨rfl, rfl⟩) | (go_at_call 119; refine (isdigit_is _ _ HDk.out _).mono ?_; rintro e w' ⟨rfl, rfl⟩))
            go_round
            case rel => exact ⟨k + 1, by omega, by go_num, name_step HA.out HX.out⟩
            case measure => simp [intOf]; omega
          · have hb45 : (((s[k]).toNat : Int) != 45) = true := by simpa using h45
            have HX := Lib.hid (name_bad hlt (okAt_no (show restB (byteAt s k) = false by rw [HR.out, HL1.out, HD1.out, HB.out]; simp; omega)))
            have HH45 := Lib.hid h45
            clear h45
            go_wp2_with (first | (go_at_call 118; refine (isletter_is _ _ HLk.out _).mono ?_; rintro e w' ⟨rfl, rfl⟩) | (go_at_call 119; refine (isdigit_is _ _ HDk.out _).mono ?_; rintro e w' ⟨rfl, rfl⟩))
            go_ret
            exact ⟨ret_bool HX.out.symm, rfl⟩
        · have HDk := Lib.hid (show digitB (s[k]).toNat = true by rw [← HB.out]; exact hd)
          have HX := Lib.hid (okAt_of HL0.out (show restB (byteAt s k) = true by rw [HR.out, HL1.out, hd]; rfl))
          clear hd
          go_wp2_with (first | (go_at_call 118; refine (isletter_is _ _ HLk.out _).mono ?_; rintro e w' ⟨rfl, rfl⟩) | (go_at_call 119; refine (isdigit_is _ _ HDk.out _).mono ?_; rintro e w' ⟨rfl, rfl⟩))
          go_round
          case rel => exact ⟨k + 1, by omega, by go_num, name_step HA.out HX.out⟩
          case measure => simp [intOf]; omega
      · have HLk := Lib.hid (show letterB (s[k]).toNat = true by rw [← HB.out]; exact hl)
        have HX := Lib.hid (okAt_of HL0.out (show restB (byteAt s k) = true by rw [HR.out, hl]; rfl))
        clear hl
        go_wp2_with (first | (go_at_call 118; refine (isletter_is _ _ HLk.out _).mono ?_; rintro e w' ⟨rfl, rfl⟩) | (go_at_call 119; fail))
        go_round
        case rel => exact ⟨k + 1, by omega, by go_num, name_step HA.out HX.out⟩
        case measure => simp [intOf]; omega
    · have hkn : k = s.size := by omega
      have HX := Lib.hid (nameB_all HH.out (by omega) (hkn ▸ HA.out))
      clear hkn
      go_wp2
      go_ret
      exact ⟨ret_bool HX.out.symm, rfl⟩

theorem isnameref_is (s : ByteArray) (t : Bool) (h : nameB s = t) (w : World) (hs : s.size ≤ maxLen) :
    Calls Try.prog 87 #[.string s] w fun e w' => e = .returned (.bool t) ∧ w = w' := h ▸ isnameref_any s w hs

/-- The number of a rocker, or -1. -/
def findI (l : List Rk) (s : ByteArray) : Int := match idxOf l s with | some i => (i : Int) | none => -1
theorem toList_inj {a b : ByteArray} (h : a.toList = b.toList) : a = b := by
  rw [ByteArray.toList_eq, ByteArray.toList_eq] at h
  cases a; cases b
  congr
  exact Array.toList_inj.1 h
theorem str_ne {a b : ByteArray} (h : a ≠ b) : (a.toList == b.toList) = false := by
  rw [beq_eq_false_iff_ne]; exact fun e => h (toList_inj e)
theorem str_eq {a b : ByteArray} (h : a = b) : (a.toList == b.toList) = true := by rw [h]; simp
theorem idx_hit {l : List Rk} {s : ByteArray} {k : Nat} {r : Rk} (h : idxOf (l.take k) s = none) (hr : l[k]? = some r) (hs : r.name = s) : idxOf l s = some k := by
  obtain ⟨hk, rfl⟩ := List.getElem?_eq_some_iff.1 hr
  have e : l = l.take k ++ l.drop k := (List.take_append_drop _ _).symm
  rw [e, idxOf_append, h, List.drop_eq_getElem_cons hk]
  have : idxOf (l[k] :: l.drop (k + 1)) s = some 0 := by unfold idxOf; rw [List.findIdx?_cons]; simp [hs]
  rw [this]
  simp; omega
theorem idx_miss {l : List Rk} {s : ByteArray} {k : Nat} {r : Rk} (h : idxOf (l.take k) s = none) (hr : l[k]? = some r) (hs : r.name ≠ s) : idxOf (l.take (k + 1)) s = none := by
  rw [List.take_add_one, hr, idxOf_append, h]
  have : idxOf [r] s = none := by simp [idxOf, hs]
  simp [this]



/-- Texts as cells. -/
def strs (ps : List ByteArray) : List Value := ps.map .string
theorem Reads.len1 {w : World} {B n : Nat} {A : Option Addr} {l : List ByteArray} (h : Reads w B 1 A n (strs l)) : l.length = n := by
  have := h.1; unfold strs at this; rw [List.length_map] at this; omega
theorem Reads.str {w : World} {B n : Nat} {A : Option Addr} {l : List ByteArray} (h : Reads w B 1 A n (strs l)) {i : Nat} (hi : i < n) :
    ∃ b o s, A = some ⟨b, o, none⟩ ∧ b < B ∧ l[i]? = some s ∧ w.cell? ⟨b, o + i, none⟩ = some (.string s) := by
  obtain ⟨b, o, u, e, hb, hu, hc⟩ := h.at_ hi
  unfold strs at hu
  rw [List.getElem?_map] at hu
  cases hs : l[i]? with
  | none => rw [hs] at hu; cases hu
  | some s => rw [hs] at hu; obtain rfl := Option.some.inj hu; exact ⟨b, o, s, e, hb, rfl, hc⟩

/-- Whether a text is in a list. -/
def hasB (xs : List ByteArray) (s : ByteArray) : Bool := xs.any fun x => decide (x = s)
theorem hasB_true {xs : List ByteArray} {s : ByteArray} : hasB xs s = true ↔ s ∈ xs := by
  unfold hasB
  rw [List.any_eq_true]
  constructor
  · rintro ⟨x, hx, h⟩; rw [of_decide_eq_true h] at hx; exact hx
  · intro h; exact ⟨s, h, decide_eq_true rfl⟩
theorem hasB_false {xs : List ByteArray} {s : ByteArray} : hasB xs s = false ↔ s ∉ xs := by
  rw [← hasB_true]; simp

theorem mem_take_succ {α : Type} {xs : List α} {k : Nat} {x s : α} (h : xs[k]? = some x) : s ∈ xs.take (k + 1) ↔ s ∈ xs.take k ∨ s = x := by
  rw [List.take_add_one, h]; simp



end Go.Proofs.Ytgamepmipoociaa

end
