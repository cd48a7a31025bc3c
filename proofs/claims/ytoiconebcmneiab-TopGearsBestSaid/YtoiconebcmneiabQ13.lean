import Derived.Test.YtoiconebcmneiabQ8
import Derived.Test.YtoiconebcmneiabQ3

section
/- A tree without a cycle has no deep branch: what lies below its top is found. -/
namespace Go.Proofs.Ytoiconebcmneiab
open Go.RowKit

theorem nodup_le {α : Type} [DecidableEq α] : ∀ {p q : List α}, p.Nodup → (∀ x ∈ p, x ∈ q) → p.length ≤ q.length
  | [], _, _, _ => by simp
  | a :: t, q, hn, hs => by
    have ha := hs a (by simp)
    have hn' := List.nodup_cons.1 hn
    have h1 : t.length ≤ (q.erase a).length := nodup_le hn'.2 fun x hx => by
      have hne : x ≠ a := fun e => hn'.1 (e ▸ hx)
      exact (List.mem_erase_of_ne hne).2 (hs x (by simp [hx]))
    rw [List.length_erase_of_mem ha] at h1
    have : 0 < q.length := List.length_pos_of_mem ha
    simp only [List.length_cons]
    omega

/-- The rocker that bears a thing, by its name. -/
def upOf (l : List Rk) (s : ByteArray) : Option ByteArray := (bearerOf l s).bind fun i => (l[i]?).map (·.name)

theorem bearer_get {l : List Rk} {s : ByteArray} {i : Nat} (h : bearerOf l s = some i) : ∃ r, l[i]? = some r ∧ (r.left = s ∨ r.right = s) := by
  unfold bearerOf at h
  obtain ⟨hi, hp, -⟩ := List.findIdx?_eq_some_iff_getElem.1 h
  exact ⟨l[i], List.getElem?_eq_getElem hi, by simpa using hp⟩

theorem climbs_up {l : List Rk} {s t : ByteArray} (h : upOf l s = some t) (f : Nat) : climbs l (f + 1) s = climbs l f t ∧ climbs l 0 s = true := by
  unfold upOf at h
  cases hb : bearerOf l s with
  | none => rw [hb] at h; cases h
  | some i =>
    rw [hb] at h
    simp only [Option.bind_some] at h
    simp only [climbs, hb, h]
    exact ⟨rfl, rfl⟩

/-- From a circle one climbs as long as one likes. -/
theorem climbs_circle {l : List Rk} (S : ByteArray → Prop) (h : ∀ s, S s → ∃ t, upOf l s = some t ∧ S t) : ∀ (f : Nat) (s : ByteArray), S s → climbs l f s = true
  | 0, s, hs => by obtain ⟨t, ht, -⟩ := h s hs; exact (climbs_up ht 0).2
  | f + 1, s, hs => by
    obtain ⟨t, ht, hS⟩ := h s hs
    rw [(climbs_up ht f).1]
    exact climbs_circle S h f t hS

theorem bear_one {s : ByteArray} : ∀ {l : List Rk} {i j : Nat} {r r' : Rk}, (borneAll l).Nodup → l[i]? = some r → l[j]? = some r' → (r.left = s ∨ r.right = s) → (r'.left = s ∨ r'.right = s) → i = j
  | x :: l, i, j, r, r', hn, hi, hj, h1, h2 => by
    have e : borneAll (x :: l) = [x.left, x.right] ++ borneAll l := rfl
    rw [e, List.nodup_append] at hn
    have mem : ∀ {k : Nat} {q : Rk}, l[k]? = some q → (q.left = s ∨ q.right = s) → s ∈ borneAll l := fun hk hq => by
      unfold borneAll
      rw [List.mem_flatMap]
      refine ⟨_, List.mem_of_getElem? hk, ?_⟩
      rcases hq with rfl | rfl <;> simp
    cases i with
    | zero =>
      cases j with
      | zero => rfl
      | succ j =>
        simp at hi
        subst hi
        exact absurd rfl (hn.2.2 s (by rcases h1 with rfl | rfl <;> simp) s (mem (by simpa using hj) h2))
    | succ i =>
      cases j with
      | zero =>
        simp at hj
        subst hj
        exact absurd rfl (hn.2.2 s (by rcases h2 with rfl | rfl <;> simp) s (mem (by simpa using hi) h1))
      | succ j =>
        have hi' : l[i]? = some r := by simpa using hi
        have hj' : l[j]? = some r' := by simpa using hj
        have := bear_one hn.2.1 hi' hj' h1 h2
        omega
  | [], i, j, r, r', _, hi, _, _, _ => by simp at hi

theorem up_of_child {l : List Rk} (hn : (borneAll l).Nodup) {i : Nat} {r : Rk} {s : ByteArray} (hi : l[i]? = some r) (hs : r.left = s ∨ r.right = s) : upOf l s = some r.name := by
  cases hb : bearerOf l s with
  | none =>
    unfold bearerOf at hb
    have := List.findIdx?_eq_none_iff.1 hb r (List.mem_of_getElem? hi)
    simp at this
    rcases hs with h | h
    · exact absurd h this.1
    · exact absurd h this.2
  | some j =>
    obtain ⟨r', hj, hs'⟩ := bearer_get hb
    have e := bear_one hn hi hj hs hs'
    subst e
    unfold upOf
    rw [hb]
    simp [hi]

theorem idx_get {l : List Rk} {s : ByteArray} {i : Nat} (h : idxOf l s = some i) : ∃ r, l[i]? = some r ∧ r.name = s := by
  unfold idxOf at h
  obtain ⟨hi, hp, -⟩ := List.findIdx?_eq_some_iff_getElem.1 h
  exact ⟨l[i], List.getElem?_eq_getElem hi, by simpa using hp⟩

/-- A way down that is too long, from its end up. -/
structure WayUp (l : List Rk) (p : List ByteArray) (s : ByteArray) : Prop where
  last : p.getLast? = some s
  up : ∀ k a b, p[k]? = some a → p[k + 1]? = some b → upOf l a = some b
  rk : ∀ x ∈ p, ∃ r ∈ l, r.name = x

theorem WayUp.snoc {l : List Rk} {p : List ByteArray} {s t : ByteArray} (h : WayUp l p s) (hu : upOf l s = some t) (ht : ∃ r ∈ l, r.name = t) : WayUp l (p ++ [t]) t := by
  refine ⟨by simp, fun k a b ha hb => ?_, fun x hx => ?_⟩
  · rcases Nat.lt_trichotomy (k + 1) p.length with hk | hk | hk
    · rw [List.getElem?_append_left (by omega)] at ha
      rw [List.getElem?_append_left hk] at hb
      exact h.up k a b ha hb
    · rw [List.getElem?_append_left (by omega)] at ha
      rw [List.getElem?_append_right (by omega)] at hb
      have e1 : b = t := by rw [hk, Nat.sub_self] at hb; simpa using hb.symm
      have e2 : a = s := by
        have := h.last
        rw [List.getLast?_eq_getElem?, show p.length - 1 = k by omega, ha] at this
        exact Option.some.inj this
      rw [e1, e2]
      exact hu
    · rw [List.getElem?_eq_none (by simp; omega)] at hb
      cases hb
  · rcases List.mem_append.1 hx with hx | hx
    · exact h.rk x hx
    · simp at hx; exact hx ▸ ht

theorem pts_none {l : List Rk} (hn : (borneAll l).Nodup) : ∀ (f : Nat) (s : ByteArray), pts l f s = none → ∃ p, p.length = f + 1 ∧ WayUp l p s
  | 0, s, h => by
    unfold pts at h
    cases hi : idxOf l s with
    | none => rw [hi] at h; cases h
    | some i =>
      obtain ⟨r, hr, hs⟩ := idx_get hi
      refine ⟨[s], rfl, by simp, fun k a b ha hb => ?_, fun x hx => ?_⟩
      · simp at hb
      · simp at hx; exact ⟨r, List.mem_of_getElem? hr, hs.trans hx.symm⟩
  | f + 1, s, h => by
    unfold pts at h
    cases hi : idxOf l s with
    | none => rw [hi] at h; cases h
    | some i =>
      obtain ⟨r, hr, hs⟩ := idx_get hi
      rw [hi] at h
      simp only [hr] at h
      have hmem : ∃ r ∈ l, r.name = s := ⟨r, List.mem_of_getElem? hr, hs⟩
      cases h1 : pts l f r.left with
      | none =>
        obtain ⟨p, hp, hw⟩ := pts_none hn f r.left h1
        exact ⟨p ++ [s], by simp [hp], hw.snoc (hs ▸ up_of_child hn hr (.inl rfl)) hmem⟩
      | some a =>
        cases h2 : pts l f r.right with
        | none =>
          obtain ⟨p, hp, hw⟩ := pts_none hn f r.right h2
          exact ⟨p ++ [s], by simp [hp], hw.snoc (hs ▸ up_of_child hn hr (.inr rfl)) hmem⟩
        | some b => rw [h1, h2] at h; cases h

theorem pts_ok {l : List Rk} (h : openErr l = 0) (s : ByteArray) : pts l l.length s ≠ none := by
  intro hp
  obtain ⟨h0, h1, h2, hn, h4, h5⟩ := open_zero h
  obtain ⟨p, hlen, hw⟩ := pts_none hn _ _ hp
  have hdup : ¬ p.Nodup := fun hd => by
    have := nodup_le (q := l.map (·.name)) hd fun x hx => by
      obtain ⟨r, hr, e⟩ := hw.rk x hx
      exact List.mem_map.2 ⟨r, hr, e⟩
    rw [hlen, List.length_map] at this
    omega
  have hex : ∃ i j : Nat, ∃ x, i < j ∧ p[i]? = some x ∧ p[j]? = some x := by
    refine Classical.byContradiction fun hno => hdup ?_
    refine List.pairwise_iff_getElem.2 fun i j hi hj hij e => hno ⟨i, j, p[i], hij, List.getElem?_eq_getElem hi, ?_⟩
    rw [List.getElem?_eq_getElem hj, e]
  obtain ⟨i, j, x, hij, hi, hj⟩ := hex
  have hc := climbs_circle (l := l) (fun s => ∃ k, i ≤ k ∧ k < j ∧ p[k]? = some s) (fun s ⟨k, k1, k2, k3⟩ => by
    have hjl : j < p.length := (List.getElem?_eq_some_iff.1 hj).1
    have hk1 : p[k + 1]? = some (p[k + 1]'(by omega)) := List.getElem?_eq_getElem (by omega)
    refine ⟨_, hw.up k _ _ k3 hk1, ?_⟩
    by_cases e : k + 1 = j
    · refine ⟨i, Nat.le_refl _, hij, ?_⟩
      rw [hi, ← hj, ← hk1, e]
    · exact ⟨k + 1, by omega, by omega, hk1⟩) (l.length + 1) x ⟨i, Nat.le_refl _, hij, hi⟩
  obtain ⟨r, hr, e⟩ := hw.rk x (List.mem_of_getElem? hi)
  have := List.any_eq_false.1 h4 r hr
  rw [e] at this
  exact this hc

end Go.Proofs.Ytoiconebcmneiab

end

section
/- Contracts of the reference's searches of names: what a name is, the number of a rocker, whether a text is in a list. -/
namespace Go.Proofs.Ytoiconebcmneiab
open Go.RowKit

def digitB (c : Nat) : Bool := decide (48 ≤ c ∧ c ≤ 57)
theorem restB_eq (c : Nat) : restB c = (letterB c || digitB c || decide (c = 45)) := by
  have e : decide (c = 45 ∨ 48 ≤ c ∧ c ≤ 57) = (decide (48 ≤ c ∧ c ≤ 57) || decide (c = 45)) := by
    rw [Bool.eq_iff_iff]; simp only [Bool.or_eq_true, decide_eq_true_iff]; omega
  unfold restB digitB
  rw [e, Bool.or_assoc]

theorem isletter_is (c : Nat) (t : Bool) (h : letterB c = t) (w : World) :
    Calls Try.prog 87 #[.int .u8 (c : Int)] w fun e w' => e = .returned (.bool t) ∧ w = w' := by
  have hcs : ((c : Int) < 65 ∧ t = false) ∨ ((65 : Int) ≤ (c : Int) ∧ (c : Int) ≤ 90 ∧ t = true) ∨ ((90 : Int) < (c : Int) ∧ (c : Int) < 97 ∧ t = false) ∨ ((97 : Int) ≤ (c : Int) ∧ (c : Int) ≤ 122 ∧ t = true) ∨ ((122 : Int) < (c : Int) ∧ t = false) := by
    subst h
    unfold letterB
    simp only [decide_eq_true_iff, decide_eq_false_iff_not]
    omega
  clear h
  rcases hcs with ⟨h1, rfl⟩ | ⟨h1, h2, rfl⟩ | ⟨h1, h2, rfl⟩ | ⟨h1, h2, rfl⟩ | ⟨h1, rfl⟩
  all_goals
    go_enter Try.func87, Try.ntmps87
    go_wp2
    go_ret
    first | exact ⟨rfl, rfl⟩ | exact ⟨ret_bool (by simp; omega), rfl⟩

theorem isdigit_is (c : Nat) (t : Bool) (h : digitB c = t) (w : World) :
    Calls Try.prog 88 #[.int .u8 (c : Int)] w fun e w' => e = .returned (.bool t) ∧ w = w' := by
  have hcs : ((c : Int) < 48 ∧ t = false) ∨ ((48 : Int) ≤ (c : Int) ∧ (c : Int) ≤ 57 ∧ t = true) ∨ ((57 : Int) < (c : Int) ∧ t = false) := by
    subst h
    unfold digitB
    simp only [decide_eq_true_iff, decide_eq_false_iff_not]
    omega
  clear h
  rcases hcs with ⟨h1, rfl⟩ | ⟨h1, h2, rfl⟩ | ⟨h1, rfl⟩
  all_goals
    go_enter Try.func88, Try.ntmps88
    go_wp2
    go_ret
    first | exact ⟨rfl, rfl⟩ | exact ⟨ret_bool (by simp; omega), rfl⟩

theorem okAt_zero {s : ByteArray} : okAt s 0 = letterB (byteAt s 0) := rfl
theorem okAt_of {s : ByteArray} {k : Nat} (h0 : letterB (byteAt s 0) = true) (h : restB (byteAt s k) = true) : okAt s k = true := by
  unfold okAt
  split
  · rename_i e; rw [e]; exact h0
  · exact h
theorem okAt_no {s : ByteArray} {k : Nat} (h : restB (byteAt s k) = false) : okAt s k = false := by
  unfold okAt
  split
  · rw [restB_eq] at h; cases hl : letterB (byteAt s k) <;> simp_all
  · exact h
theorem nameB_nil {s : ByteArray} (h : s.size = 0) : nameB s = false := by unfold nameB; simp [h]
theorem nameB_long {s : ByteArray} (h : 12 < s.size) : nameB s = false := by
  unfold nameB
  rw [decide_eq_false (show ¬ s.size ≤ 12 by omega), Bool.and_false]
theorem nameB_all {s : ByteArray} (h0 : s.size ≠ 0) (h1 : s.size ≤ 12) (h : (List.range s.size).all (okAt s) = true) : nameB s = true := by
  unfold nameB
  rw [h]
  simp [h0, h1]
theorem nameB_size {s : ByteArray} (h : nameB s = true) : 1 ≤ s.size ∧ s.size ≤ 12 := by
  unfold nameB at h
  simp only [Bool.and_eq_true, decide_eq_true_iff] at h
  omega

set_option maxHeartbeats 1000000 in
theorem isnameref_any (s : ByteArray) (w : World) (hs : s.size ≤ maxLen) :
    Calls Try.prog 55 #[.string s] w fun e w' => e = .returned (.bool (nameB s)) ∧ w = w' := by
  unfold maxLen at hs
  by_cases h0 : s.size = 0
  · have HX := Lib.hid (nameB_nil h0)
    have hb : ((s.size : Int) == 0) = true := beq_iff_eq.2 (by omega)
    have HH := Lib.hid h0
    clear h0
    go_enter Try.func55, Try.ntmps55
    go_wp2
    go_ret
    exact ⟨ret_bool HX.out.symm, rfl⟩
  have hb : ((s.size : Int) == 0) = false := beq_eq_false_iff_ne.2 (by omega)
  have HH := Lib.hid h0
  clear h0
  by_cases h12 : (12 : Int) < (s.size : Int)
  · have HX := Lib.hid (nameB_long (s := s) (by omega))
    go_enter Try.func55, Try.ntmps55
    go_wp2
    go_ret
    exact ⟨ret_bool HX.out.symm, rfl⟩
  have hpos : 0 < s.size := by have := HH.out; omega
  have HB0 := Lib.hid (byteAt_get s 0 hpos)
  cases hl : letterB (byteAt s 0)
  · have HX := Lib.hid (name_bad hpos (okAt_zero.trans hl))
    have HL := Lib.hid (show letterB (s[0]).toNat = false by rw [← HB0.out]; exact hl)
    clear hl
    go_enter Try.func55, Try.ntmps55
    go_wp2_with (go_at_call 87; refine (isletter_is _ _ HL.out _).mono ?_; rintro e w' ⟨rfl, rfl⟩)
    go_ret
    exact ⟨ret_bool HX.out.symm, rfl⟩
  have HL0 := Lib.hid hl
  have HL := Lib.hid (show letterB (s[0]).toNat = true by rw [← HB0.out]; exact hl)
  clear hl
  go_enter Try.func55, Try.ntmps55
  go_wp2_with (go_at_call 87; refine (isletter_is _ _ HL.out _).mono ?_; rintro e w' ⟨rfl, rfl⟩)
  go_loop [3] (fun i => ∃ k : Nat, k ≤ s.size ∧ i = .int .i64 k ∧ (List.range k).all (okAt s) = true) (fun i => s.size - (intOf i).toNat)
  case atStart => exact ⟨0, Nat.zero_le _, rfl, rfl⟩
  case round =>
    obtain ⟨k, hk, rfl, ha⟩ := hrel
    have HA := Lib.hid ha
    clear ha
    by_cases hlt : k < s.size
    · have HB := Lib.hid (byteAt_get s k hlt)
      have HR := Lib.hid (restB_eq (byteAt s k))
      cases hl : letterB (byteAt s k)
      · have HLk := Lib.hid (show letterB (s[k]).toNat = false by rw [← HB.out]; exact hl)
        have HL1 := Lib.hid hl
        clear hl
        cases hd : digitB (byteAt s k)
        · have HDk := Lib.hid (show digitB (s[k]).toNat = false by rw [← HB.out]; exact hd)
          have HD1 := Lib.hid hd
          clear hd
          by_cases h45 : ((s[k]).toNat : Int) = 45
          · have hb45 : (((s[k]).toNat : Int) != 45) = false := by simp [h45]
            have HX := Lib.hid (okAt_of HL0.out (show restB (byteAt s k) = true by rw [HR.out, HL1.out, HD1.out, HB.out]; simp; omega))
            have HH45 := Lib.hid h45
            clear h45
            go_wp2_with (first | (go_at_call 87; refine (isletter_is _ _ HLk.out _).mono ?_; rintro e w' ⟨rfl, rfl⟩) | (go_at_call 88; refine (isdigit_is _ _ HDk.out _).mono ?_; rintro e w' ⟨rfl, rfl⟩))
            go_round
            case rel => exact ⟨k + 1, by omega, by go_num, name_step HA.out HX.out⟩
            case measure => simp [intOf]; omega
          · have hb45 : (((s[k]).toNat : Int) != 45) = true := by simpa using h45
            have HX := Lib.hid (name_bad hlt (okAt_no (show restB (byteAt s k) = false by rw [HR.out, HL1.out, HD1.out, HB.out]; simp; omega)))
            have HH45 := Lib.hid h45
            clear h45
            go_wp2_with (first | (go_at_call 87; refine (isletter_is _ _ HLk.out _).mono ?_; rintro e w' ⟨rfl, rfl⟩) | (go_at_call 88; refine (isdigit_is _ _ HDk.out _).mono ?_; rintro e w' ⟨rfl, rfl⟩))
            go_ret
            exact ⟨ret_bool HX.out.symm, rfl⟩
        · have HDk := Lib.hid (show digitB (s[k]).toNat = true by rw [← HB.out]; exact hd)
          have HX := Lib.hid (okAt_of HL0.out (show restB (byteAt s k) = true by rw [HR.out, HL1.out, hd]; rfl))
          clear hd
          go_wp2_with (first | (go_at_call 87; refine (isletter_is _ _ HLk.out _).mono ?_; rintro e w' ⟨rfl, rfl⟩) | (go_at_call 88; refine (isdigit_is _ _ HDk.out _).mono ?_; rintro e w' ⟨rfl, rfl⟩))
          go_round
          case rel => exact ⟨k + 1, by omega, by go_num, name_step HA.out HX.out⟩
          case measure => simp [intOf]; omega
      · have HLk := Lib.hid (show letterB (s[k]).toNat = true by rw [← HB.out]; exact hl)
        have HX := Lib.hid (okAt_of HL0.out (show restB (byteAt s k) = true by rw [HR.out, hl]; rfl))
        clear hl
        go_wp2_with (first | (go_at_call 87; refine (isletter_is _ _ HLk.out _).mono ?_; rintro e w' ⟨rfl, rfl⟩) | (go_at_call 88; fail))
        go_round
        case rel => exact ⟨k + 1, by omega, by go_num, name_step HA.out HX.out⟩
        case measure => simp [intOf]; omega
    · have hkn : k = s.size := by omega
      have HX := Lib.hid (nameB_all HH.out (by omega) (hkn ▸ HA.out))
      clear hkn
      go_wp2
      go_ret
      exact ⟨ret_bool HX.out.symm, rfl⟩

theorem isnameref_is (s : ByteArray) (t : Bool) (h : nameB s = t) (w : World) (hs : s.size ≤ maxLen) :
    Calls Try.prog 55 #[.string s] w fun e w' => e = .returned (.bool t) ∧ w = w' := h ▸ isnameref_any s w hs

/-- The number of a rocker, or -1. -/
def findI (l : List Rk) (s : ByteArray) : Int := match idxOf l s with | some i => (i : Int) | none => -1
theorem toList_inj {a b : ByteArray} (h : a.toList = b.toList) : a = b := by
  rw [ByteArray.toList_eq, ByteArray.toList_eq] at h
  cases a; cases b
  congr
  exact Array.toList_inj.1 h
theorem str_ne {a b : ByteArray} (h : a ≠ b) : (a.toList == b.toList) = false := by
  rw [beq_eq_false_iff_ne]; exact fun e => h (toList_inj e)
theorem str_eq {a b : ByteArray} (h : a = b) : (a.toList == b.toList) = true := by rw [h]; simp
theorem idx_hit {l : List Rk} {s : ByteArray} {k : Nat} {r : Rk} (h : idxOf (l.take k) s = none) (hr : l[k]? = some r) (hs : r.name = s) : idxOf l s = some k := by
  obtain ⟨hk, rfl⟩ := List.getElem?_eq_some_iff.1 hr
  have e : l = l.take k ++ l.drop k := (List.take_append_drop _ _).symm
  rw [e, idxOf_append, h, List.drop_eq_getElem_cons hk]
  have : idxOf (l[k] :: l.drop (k + 1)) s = some 0 := by unfold idxOf; rw [List.findIdx?_cons]; simp [hs]
  rw [this]
  simp; omega
theorem idx_miss {l : List Rk} {s : ByteArray} {k : Nat} {r : Rk} (h : idxOf (l.take k) s = none) (hr : l[k]? = some r) (hs : r.name ≠ s) : idxOf (l.take (k + 1)) s = none := by
  rw [List.take_add_one, hr, idxOf_append, h]
  have : idxOf [r] s = none := by simp [idxOf, hs]
  simp [this]

set_option maxHeartbeats 1000000 in
theorem find_any (l : List Rk) (A : Option Addr) (n c N : Nat) (s : ByteArray) (w : World) (hx : Reads w N 5 A n (rkCells l)) (hn : n ≤ 1000000) :
    Calls Try.prog 38 #[.slice A n c, .string s] w fun e w' => e = .returned (.int .i64 (findI l s)) ∧ w = w' := by
  have hxl := Lib.hid hx.len5
  have HX := Lib.hid hx
  clear hx
  go_enter Try.func38, Try.ntmps38
  go_wp2
  go_loop [5] (fun i => ∃ k : Nat, k ≤ n ∧ i = .int .i64 k ∧ idxOf (l.take k) s = none) (fun i => n - (intOf i).toNat)
  case atStart => exact ⟨0, by omega, rfl, rfl⟩
  case round =>
    obtain ⟨k, hk, rfl, hno⟩ := hrel
    have HN := Lib.hid hno
    clear hno
    by_cases hlt : k < n
    · obtain ⟨xb, xo, r, rfl, hxb, hr, c0, -, -, -, -⟩ := HX.out.rk hlt
      have HR := Lib.hid hr
      clear hr
      by_cases he : r.name = s
      · have HF : Hid (findI l s = (k : Int)) := by show _ = _; unfold findI; rw [idx_hit HN.out HR.out he]
        have hq := str_eq he
        have HE := Lib.hid he
        clear he
        go_wp2
        go_ret
        exact ⟨ret_int HF.out.symm, rfl⟩
      · have HF := Lib.hid (idx_miss HN.out HR.out he)
        have hq := str_ne he
        have HE := Lib.hid he
        clear he
        go_wp2
        go_round
        case rel => exact ⟨k + 1, by omega, by go_num, HF.out⟩
        case measure => simp [intOf]; omega
    · have hkn : k = n := by omega
      have HF : Hid (findI l s = -1) := by
        show _ = _
        have := HN.out
        rw [List.take_of_length_le (by rw [hxl.out]; omega)] at this
        unfold findI; rw [this]
      clear hkn
      go_wp2
      go_ret
      exact ⟨ret_int HF.out.symm, rfl⟩

theorem find_is (l : List Rk) (A : Option Addr) (n c N : Nat) (s : ByteArray) (i : Int) (hi : findI l s = i) (w : World) (hx : Reads w N 5 A n (rkCells l)) (hn : n ≤ 1000000) :
    Calls Try.prog 38 #[.slice A n c, .string s] w fun e w' => e = .returned (.int .i64 i) ∧ w = w' := hi ▸ find_any l A n c N s w hx hn

/-- Texts as cells. -/
def strs (ps : List ByteArray) : List Value := ps.map .string
theorem Reads.len1 {w : World} {B n : Nat} {A : Option Addr} {l : List ByteArray} (h : Reads w B 1 A n (strs l)) : l.length = n := by
  have := h.1; unfold strs at this; rw [List.length_map] at this; omega
theorem Reads.str {w : World} {B n : Nat} {A : Option Addr} {l : List ByteArray} (h : Reads w B 1 A n (strs l)) {i : Nat} (hi : i < n) :
    ∃ b o s, A = some ⟨b, o, none⟩ ∧ b < B ∧ l[i]? = some s ∧ w.cell? ⟨b, o + i, none⟩ = some (.string s) := by
  obtain ⟨b, o, u, e, hb, hu, hc⟩ := h.at_ hi
  unfold strs at hu
  rw [List.getElem?_map] at hu
  cases hs : l[i]? with
  | none => rw [hs] at hu; cases hu
  | some s => rw [hs] at hu; obtain rfl := Option.some.inj hu; exact ⟨b, o, s, e, hb, rfl, hc⟩

/-- Whether a text is in a list. -/
def hasB (xs : List ByteArray) (s : ByteArray) : Bool := xs.any fun x => decide (x = s)
theorem hasB_true {xs : List ByteArray} {s : ByteArray} : hasB xs s = true ↔ s ∈ xs := by
  unfold hasB
  rw [List.any_eq_true]
  constructor
  · rintro ⟨x, hx, h⟩; rw [of_decide_eq_true h] at hx; exact hx
  · intro h; exact ⟨s, h, decide_eq_true rfl⟩
theorem hasB_false {xs : List ByteArray} {s : ByteArray} : hasB xs s = false ↔ s ∉ xs := by
  rw [← hasB_true]; simp

theorem mem_take_succ {α : Type} {xs : List α} {k : Nat} {x s : α} (h : xs[k]? = some x) : s ∈ xs.take (k + 1) ↔ s ∈ xs.take k ∨ s = x := by
  rw [List.take_add_one, h]; simp

set_option maxHeartbeats 1000000 in
theorem hastext_any (xs : List ByteArray) (A : Option Addr) (n c N : Nat) (s : ByteArray) (w : World) (hx : Reads w N 1 A n (strs xs)) (hn : n ≤ 1000000) :
    Calls Try.prog 57 #[.slice A n c, .string s] w fun e w' => e = .returned (.bool (hasB xs s)) ∧ w = w' := by
  have hxl := Lib.hid hx.len1
  have HX := Lib.hid hx
  clear hx
  go_enter Try.func57, Try.ntmps57
  go_wp2
  go_loop [5] (fun i => ∃ k : Nat, k ≤ n ∧ i = .int .i64 k ∧ s ∉ xs.take k) (fun i => n - (intOf i).toNat)
  case atStart => exact ⟨0, by omega, rfl, by simp⟩
  case round =>
    obtain ⟨k, hk, rfl, hno⟩ := hrel
    have HN := Lib.hid hno
    clear hno
    by_cases hlt : k < n
    · obtain ⟨xb, xo, x, rfl, hxb, hr, c0⟩ := HX.out.str hlt
      have HR := Lib.hid hr
      clear hr
      by_cases he : x = s
      · have HF : Hid (hasB xs s = true) := by show _ = _; rw [hasB_true, ← he]; exact List.mem_of_getElem? HR.out
        have hq := str_eq he
        have HE := Lib.hid he
        clear he
        go_wp2
        go_ret
        exact ⟨ret_bool HF.out.symm, rfl⟩
      · have HF := Lib.hid (show s ∉ xs.take (k + 1) by rw [mem_take_succ HR.out]; rintro (h | h); exact HN.out h; exact he h.symm)
        have hq := str_ne he
        have HE := Lib.hid he
        clear he
        go_wp2
        go_round
        case rel => exact ⟨k + 1, by omega, by go_num, HF.out⟩
        case measure => simp [intOf]; omega
    · have hkn : k = n := by omega
      have HF : Hid (hasB xs s = false) := by
        show _ = _
        have := HN.out
        rw [List.take_of_length_le (by rw [hxl.out]; omega)] at this
        rw [hasB_false]; exact this
      clear hkn
      go_wp2
      go_ret
      exact ⟨ret_bool HF.out.symm, rfl⟩

theorem hastext_is (xs : List ByteArray) (A : Option Addr) (n c N : Nat) (s : ByteArray) (t : Bool) (ht : hasB xs s = t) (w : World) (hx : Reads w N 1 A n (strs xs)) (hn : n ≤ 1000000) :
    Calls Try.prog 57 #[.slice A n c, .string s] w fun e w' => e = .returned (.bool t) ∧ w = w' := ht ▸ hastext_any xs A n c N s w hx hn

end Go.Proofs.Ytoiconebcmneiab

end

section
/- The plain law of trees: a tree whose ways up all end has just one top; a way up that does not end comes back. -/
namespace Go.Proofs.Ytoiconebcmneiab
open Go.RowKit

/-- So many steps up. -/
def upN (l : List Rk) : Nat → ByteArray → Option ByteArray
  | 0, s => some s
  | k + 1, s => (upN l k s).bind (upOf l)

theorem upN_add (l : List Rk) (i : Nat) : ∀ (j : Nat) (s t : ByteArray), upN l i s = some t → upN l (i + j) s = upN l j t
  | 0, s, t, h => h
  | j + 1, s, t, h => by
    show (upN l (i + j) s).bind (upOf l) = (upN l j t).bind (upOf l)
    rw [upN_add l i j s t h]

theorem upN_less {l : List Rk} {s : ByteArray} : ∀ {j : Nat} (i : Nat), upN l (i + j) s ≠ none → upN l i s ≠ none
  | 0, i, h => h
  | j + 1, i, h => upN_less (j := j) i fun e => h (by show (upN l (i + j) s).bind _ = none; rw [e]; rfl)

/-- A thing comes back to itself within so many steps up. -/
def Circ (l : List Rk) (s : ByteArray) (k : Nat) : Prop := ∃ j, 1 ≤ j ∧ j ≤ k ∧ upN l j s = some s

theorem climbs_upN {l : List Rk} : ∀ (f : Nat) (s : ByteArray), climbs l f s = true → upN l (f + 1) s ≠ none
  | 0, s, h => by
    intro e
    cases hb : bearerOf l s with
    | none => simp [climbs, hb] at h
    | some i =>
      obtain ⟨r, hr, -⟩ := bearer_get hb
      have : upN l 1 s = some r.name := by show upOf l s = _; unfold upOf; rw [hb]; simp [hr]
      rw [this] at e
      cases e
  | f + 1, s, h => by
    cases hb : bearerOf l s with
    | none => simp [climbs, hb] at h
    | some i =>
      obtain ⟨r, hr, -⟩ := bearer_get hb
      have hu : upN l 1 s = some r.name := by show upOf l s = _; unfold upOf; rw [hb]; simp [hr]
      have h' : climbs l f r.name = true := by simpa [climbs, hb, hr] using h
      rw [show f + 1 + 1 = 1 + (f + 1) by omega, upN_add l 1 (f + 1) s r.name hu]
      exact climbs_upN f r.name h'

theorem upOf_rk {l : List Rk} {s t : ByteArray} (h : upOf l s = some t) : ∃ r ∈ l, r.name = t := by
  unfold upOf at h
  cases hb : bearerOf l s with
  | none => rw [hb] at h; cases h
  | some i =>
    rw [hb] at h
    simp only [Option.bind_some] at h
    cases hr : l[i]? with
    | none => rw [hr] at h; cases h
    | some r => rw [hr] at h; exact ⟨r, List.mem_of_getElem? hr, Option.some.inj h⟩

theorem upN_rk {l : List Rk} {s : ByteArray} (hs : ∃ r ∈ l, r.name = s) : ∀ {k : Nat} {t : ByteArray}, upN l k s = some t → ∃ r ∈ l, r.name = t
  | 0, t, h => by obtain rfl := Option.some.inj h; exact hs
  | k + 1, t, h => by
    have h' : (upN l k s).bind (upOf l) = some t := h
    cases hk : upN l k s with
    | none => rw [hk] at h'; cases h'
    | some u => rw [hk] at h'; exact upOf_rk h'

/-- Who climbs for long is above a circle. -/
theorem circ_of_climbs {l : List Rk} {r : Rk} (hr : r ∈ l) (h : climbs l (l.length + 1) r.name = true) : ∃ x ∈ l, Circ l x.name (l.length + 1) := by
  have hn := climbs_upN _ _ h
  have hall : ∀ k, k ≤ l.length → ∃ t, upN l k r.name = some t := fun k hk => by
    cases hx : upN l k r.name with
    | some t => exact ⟨t, rfl⟩
    | none => exact absurd hx (upN_less (j := l.length + 1 + 1 - k) k (by rw [show k + (l.length + 1 + 1 - k) = l.length + 1 + 1 by omega]; exact hn))
  let p : List ByteArray := (List.range (l.length + 1)).map fun k => (upN l k r.name).getD r.name
  have hp : p.length = l.length + 1 := by simp [p]
  have hget : ∀ k t, k ≤ l.length → upN l k r.name = some t → p[k]? = some t := fun k t hk ht => by
    simp only [p]
    rw [List.getElem?_map, List.getElem?_range (by omega)]
    simp [ht]
  have hdup : ¬ p.Nodup := fun hd => by
    have := nodup_le (q := l.map (·.name)) hd fun x hx => by
      obtain ⟨k, hk⟩ := List.getElem?_of_mem hx
      have hkl : k < p.length := (List.getElem?_eq_some_iff.1 hk).1
      obtain ⟨t, ht⟩ := hall k (by omega)
      rw [hget k t (by omega) ht] at hk
      obtain rfl := Option.some.inj hk
      obtain ⟨y, hy, e⟩ := upN_rk ⟨r, hr, rfl⟩ ht
      exact List.mem_map.2 ⟨y, hy, e⟩
    rw [hp, List.length_map] at this
    omega
  have hex : ∃ i j : Nat, ∃ x, i < j ∧ j ≤ l.length ∧ p[i]? = some x ∧ p[j]? = some x := by
    refine Classical.byContradiction fun hno => hdup ?_
    refine List.pairwise_iff_getElem.2 fun i j hi hj hij e => hno ⟨i, j, p[i], hij, by omega, List.getElem?_eq_getElem hi, ?_⟩
    rw [List.getElem?_eq_getElem hj, e]
  obtain ⟨i, j, x, hij, hjl, hi, hj⟩ := hex
  obtain ⟨a, ha⟩ := hall i (by omega)
  obtain ⟨b, hb⟩ := hall j hjl
  rw [hget i a (by omega) ha] at hi
  rw [hget j b hjl hb] at hj
  obtain rfl := Option.some.inj hi
  obtain rfl := Option.some.inj hj
  obtain ⟨y, hy, rfl⟩ := upN_rk ⟨r, hr, rfl⟩ ha
  refine ⟨y, hy, j - i, by omega, by omega, ?_⟩
  rw [← hb, show j = i + (j - i) by omega, upN_add l i (j - i) _ _ ha]
  congr 1
  omega

theorem climbs_of_circ {l : List Rk} {s : ByteArray} {k : Nat} (h : Circ l s k) (f : Nat) : climbs l f s = true := by
  obtain ⟨j, h1, -, hj⟩ := h
  have hper : ∀ m, ∃ t, upN l m s = some t := fun m => by
    have hmul : ∀ q, upN l (j * q) s = some s := fun q => by
      induction q with
      | zero => rfl
      | succ q ih => rw [Nat.mul_succ, upN_add l (j * q) j s s ih]; exact hj
    have hle : m ≤ j * m := Nat.le_mul_of_pos_left m (by omega)
    cases hx : upN l m s with
    | some t => exact ⟨t, rfl⟩
    | none => exact absurd hx (upN_less (j := j * m - m) m (by rw [show m + (j * m - m) = j * m by omega, hmul]; exact fun e => by cases e))
  refine climbs_circle (fun u => ∃ m, upN l m s = some u) (fun u ⟨m, hm⟩ => ?_) f s ⟨0, rfl⟩
  obtain ⟨t, ht⟩ := hper (m + 1)
  refine ⟨t, ?_, m + 1, ht⟩
  have : (upN l m s).bind (upOf l) = some t := ht
  rw [hm] at this
  exact this

theorem circ_no {l : List Rk} (h : ∀ r ∈ l, ¬ Circ l r.name (l.length + 1)) : l.any (fun r => climbs l (l.length + 1) r.name) = false := by
  rw [List.any_eq_false]
  intro r hr hc
  obtain ⟨x, hx, hci⟩ := circ_of_climbs hr hc
  exact h x hx hci
theorem circ_yes {l : List Rk} {r : Rk} {k : Nat} (hr : r ∈ l) (h : Circ l r.name k) : l.any (fun r => climbs l (l.length + 1) r.name) = true :=
  List.any_eq_true.2 ⟨r, hr, climbs_of_circ h _⟩

theorem Circ.more {l : List Rk} {s : ByteArray} {k : Nat} (hn : ¬ Circ l s k) {t : ByteArray} (hu : upN l (k + 1) s = some t) (ht : t ≠ s) : ¬ Circ l s (k + 1) := by
  rintro ⟨j, h1, h2, h3⟩
  rcases Nat.lt_or_ge k j with h | h
  · obtain rfl : j = k + 1 := by omega
    rw [hu] at h3
    exact ht (Option.some.inj h3)
  · exact hn ⟨j, h1, h, h3⟩
theorem Circ.ended {l : List Rk} {s : ByteArray} {k : Nat} (hn : ¬ Circ l s k) (hu : upN l (k + 1) s = none) (m : Nat) : ¬ Circ l s m := by
  rintro ⟨j, h1, h2, h3⟩
  rcases Nat.lt_or_ge k j with h | h
  · exact upN_less (l := l) (s := s) (j := j - (k + 1)) (k + 1) (by rw [show k + 1 + (j - (k + 1)) = j by omega, h3]; exact fun e => by cases e) hu
  · exact hn ⟨j, h1, h, h3⟩
theorem circ_zero (l : List Rk) (s : ByteArray) : ¬ Circ l s 0 := by
  rintro ⟨j, h1, h2, -⟩
  omega

theorem bearer_mem {l : List Rk} {s : ByteArray} : (bearerOf l s).isNone = !hasB (borneAll l) s := by
  cases hb : bearerOf l s with
  | none =>
    have := List.findIdx?_eq_none_iff.1 hb
    have hn : s ∉ borneAll l := fun hm => by
      unfold borneAll at hm
      rw [List.mem_flatMap] at hm
      obtain ⟨r, hr, hs⟩ := hm
      have := this r hr
      simp at this hs
      rcases hs with e | e
      · exact this.1 e.symm
      · exact this.2 e.symm
    simp [hasB_false.2 hn]
  | some i =>
    obtain ⟨r, hr, hs⟩ := bearer_get hb
    have hm : s ∈ borneAll l := by
      unfold borneAll
      rw [List.mem_flatMap]
      refine ⟨r, List.mem_of_getElem? hr, ?_⟩
      rcases hs with rfl | rfl <;> simp
    simp [hasB_true.2 hm]

theorem isTop_mem {l : List Rk} {i : Nat} {r : Rk} (h : l[i]? = some r) : isTop l i = !hasB (borneAll l) r.name := by
  unfold isTop
  rw [h]
  exact bearer_mem

theorem top_exists {l : List Rk} : ∀ (f : Nat) (i : Nat) (r : Rk), l[i]? = some r → climbs l f r.name = false → ∃ k, k < l.length ∧ isTop l k = true
  | 0, i, r, hr, h => by
    refine ⟨i, (List.getElem?_eq_some_iff.1 hr).1, ?_⟩
    unfold isTop
    rw [hr]
    cases hb : bearerOf l r.name with
    | none => simp [hb]
    | some j => simp [climbs, hb] at h
  | f + 1, i, r, hr, h => by
    cases hb : bearerOf l r.name with
    | none =>
      refine ⟨i, (List.getElem?_eq_some_iff.1 hr).1, ?_⟩
      unfold isTop
      rw [hr]
      simp [hb]
    | some j =>
      obtain ⟨r', hr', -⟩ := bearer_get hb
      exact top_exists f j r' hr' (by simpa [climbs, hb, hr'] using h)

theorem tops_one {l : List Rk} (h : openErr l = 0) : ∃ k, k < l.length ∧ isTop l k = true ∧ topOf l = k ∧ ∀ j, j < l.length → isTop l j = true → j = k := by
  obtain ⟨h0, h1, h2, hn, h4, h5⟩ := open_zero h
  have hx : ∃ r, l[0]? = some r := ⟨l[0]'(by omega), List.getElem?_eq_getElem (by omega)⟩
  obtain ⟨r, hr⟩ := hx
  have hc : climbs l (l.length + 1) r.name = false := by simpa using List.any_eq_false.1 h4 r (List.mem_of_getElem? hr)
  obtain ⟨k, hk, hT⟩ := top_exists _ _ _ hr hc
  have mem : ∀ j, j < l.length → isTop l j = true → j ∈ topsOf l := fun j hj hjT => by
    unfold topsOf topsTo
    exact List.mem_filter.2 ⟨List.mem_range.2 hj, hjT⟩
  have hk' := mem k hk hT
  obtain ⟨x, hx⟩ : ∃ x, topsOf l = [x] := by
    match ht : topsOf l with
    | [] => rw [ht] at hk'; cases hk'
    | [x] => exact ⟨x, rfl⟩
    | x :: y :: t => rw [ht] at h5; simp at h5
  rw [hx] at hk'
  have hkx : k = x := by simpa using hk'
  subst hkx
  refine ⟨k, hk, hT, by unfold topOf; rw [hx]; rfl, fun j hj hjT => ?_⟩
  have := mem j hj hjT
  rw [hx] at this
  simpa using this

end Go.Proofs.Ytoiconebcmneiab

end
