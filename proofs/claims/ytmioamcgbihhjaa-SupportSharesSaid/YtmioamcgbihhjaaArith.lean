/- Contracts of the small integer functions: absolute value, greatest common divisor, bounds. -/
import Derived.Test.YtmioamcgbihhjaaProg
import Derived.WalkKit
import Derived.WalkSpells
import Derived.WalkLawsBesides
import Derived.BigQuiet
import Derived.Lib.Hide
namespace Go.Proofs.Ytmioamcgbihhjaa
open Go.RowKit

theorem ret_int {k : IntKind} {a b : Int} (h : a = b) : Ending.returned (.int k a) = .returned (.int k b) := by rw [h]

theorem abs_any (a : Int) (w : World) (h1 : -9223372036854775808 ≤ a) (h2 : a ≤ 9223372036854775807) :
    Calls Try.prog 20 #[.int .i64 a] w fun e w' => e = .returned (.int .i64 (wrap64 (a.natAbs : Int))) ∧ w = w' := by
  go_enter Try.func20, Try.ntmps20
  go_wp2
  all_goals go_ret
  · exact ⟨ret_int (show wrap64 (-a) = _ from by congr 1; omega), rfl⟩
  · exact ⟨ret_int (show a = _ from by rw [IntWalk.wrap64_in _ ⟨by omega, by omega⟩]; omega), rfl⟩

theorem gcd_tmod (c d : Int) : Int.gcd d (c.tmod d) = Int.gcd c d := by
  rw [Int.gcd_comm d]
  unfold Int.gcd
  rw [Int.natAbs_tmod, Nat.gcd_comm c.natAbs, Nat.gcd_rec d.natAbs]

theorem tmod_lt (c d : Int) (hd : d ≠ 0) : (c.tmod d).natAbs < d.natAbs := by
  rw [Int.natAbs_tmod]; exact Nat.mod_lt _ (by omega)

theorem tmod_in (c d : Int) (h1 : -9223372036854775808 ≤ d) (h2 : d ≤ 9223372036854775807) (hd : d ≠ 0) : -9223372036854775808 ≤ c.tmod d ∧ c.tmod d ≤ 9223372036854775807 := by
  have := tmod_lt c d hd
  omega

theorem gcdref_any (a b : Int) (w : World) (h1 : -9223372036854775808 ≤ a) (h2 : a ≤ 9223372036854775807) (h3 : -9223372036854775808 ≤ b) (h4 : b ≤ 9223372036854775807) :
    Calls Try.prog 73 #[.int .i64 a, .int .i64 b] w fun e w' => e = .returned (.int .i64 (wrap64 (Int.gcd a b : Int))) ∧ ∃ n, w' = w.drewN n := by
  go_enter Try.func73, Try.ntmps73
  go_wp2
  go_loopw [0, 1] (fun x y wr => ∃ c d : Int, x = .int .i64 c ∧ y = .int .i64 d ∧ -9223372036854775808 ≤ c ∧ c ≤ 9223372036854775807 ∧ -9223372036854775808 ≤ d ∧ d ≤ 9223372036854775807 ∧ Int.gcd c d = Int.gcd a b ∧ ∃ n, wr = w.drewN n) (fun _ y _ => (intOf y).natAbs)
  case atStart => exact ⟨a, b, rfl, rfl, h1, h2, h3, h4, rfl, 0, rfl⟩
  case round =>
    obtain ⟨c, d, rfl, rfl, k1, k2, k3, k4, hg, n, rfl⟩ := hrel
    have HG := Lib.hid hg
    clear hg
    by_cases hd : d = 0
    · subst hd
      go_wp2_with (go_at_call 20; refine (abs_any _ _ (by omega) (by omega)).mono ?_; rintro e w' ⟨rfl, rfl⟩)
      go_ret
      exact ⟨ret_int (show wrap64 _ = wrap64 _ from by rw [← HG.out]; simp), _, rfl⟩
    · have ht := tmod_in c d k3 k4 hd
      have hl := tmod_lt c d hd
      go_wp2
      go_quiet (fail)
      go_wp2
      go_roundw
      case rel => exact ⟨d, c.tmod d, rfl, rfl, k3, k4, ht.1, ht.2, (gcd_tmod c d).trans HG.out, _, World.drewN_drewN _ _ _⟩
      case measure => exact hl

theorem neg_min : wrap64 (-(-9223372036854775808)) = -9223372036854775808 := by unfold wrap64; decide
theorem abs_min : wrap64 (((-9223372036854775808 : Int).natAbs : Nat) : Int) = -9223372036854775808 := by unfold wrap64; decide

theorem max_lt (a : Int) (h1 : -9223372036854775808 ≤ a) (h2 : a ≤ 9223372036854775807) (h : a < wrap64 (-a)) : wrap64 (-a) = wrap64 (a.natAbs : Int) := by
  by_cases e : a = -9223372036854775808
  · subst e; rw [neg_min] at h; omega
  · rw [IntWalk.wrap64_in _ ⟨by omega, by omega⟩] at h ⊢; rw [IntWalk.wrap64_in _ ⟨by omega, by omega⟩]; omega

theorem max_ge (a : Int) (h1 : -9223372036854775808 ≤ a) (h2 : a ≤ 9223372036854775807) (h : ¬ a < wrap64 (-a)) : a = wrap64 (a.natAbs : Int) := by
  by_cases e : a = -9223372036854775808
  · subst e; rw [abs_min]
  · rw [IntWalk.wrap64_in _ ⟨by omega, by omega⟩] at h; rw [IntWalk.wrap64_in _ ⟨by omega, by omega⟩]; omega

theorem gcdsup_any (a b : Int) (w : World) (h1 : -9223372036854775808 ≤ a) (h2 : a ≤ 9223372036854775807) (h3 : -9223372036854775808 ≤ b) (h4 : b ≤ 9223372036854775807) :
    Calls Try.prog 77 #[.int .i64 a, .int .i64 b] w fun e w' => e = .returned (.int .i64 (wrap64 (Int.gcd a b : Int))) ∧ ∃ n, w' = w.drewN n := by
  go_enter Try.func77, Try.ntmps77
  go_wp2
  go_loopw [0, 1] (fun x y wr => ∃ c d : Int, x = .int .i64 c ∧ y = .int .i64 d ∧ -9223372036854775808 ≤ c ∧ c ≤ 9223372036854775807 ∧ -9223372036854775808 ≤ d ∧ d ≤ 9223372036854775807 ∧ Int.gcd c d = Int.gcd a b ∧ ∃ n, wr = w.drewN n) (fun _ y _ => (intOf y).natAbs)
  case atStart => exact ⟨a, b, rfl, rfl, h1, h2, h3, h4, rfl, 0, rfl⟩
  case round =>
    obtain ⟨c, d, rfl, rfl, k1, k2, k3, k4, hg, n, rfl⟩ := hrel
    have HG := Lib.hid hg
    clear hg
    by_cases hd : d = 0
    · subst hd
      go_wp2
      all_goals go_ret
      · have h : c < wrap64 (-c) := by assumption
        exact ⟨ret_int (show wrap64 (-c) = _ from by rw [max_lt c k1 k2 h, ← HG.out]; simp), _, rfl⟩
      · have h : ¬ c < wrap64 (-c) := by first | assumption | (have h : wrap64 (-c) ≤ c := by assumption); omega
        exact ⟨ret_int (show c = _ from by rw [← HG.out]; simpa using max_ge c k1 k2 h), _, rfl⟩
    · have ht := tmod_in c d k3 k4 hd
      have hl := tmod_lt c d hd
      go_wp2
      go_quiet (fail)
      go_wp2
      go_roundw
      case rel => exact ⟨d, c.tmod d, rfl, rfl, k3, k4, ht.1, ht.2, (gcd_tmod c d).trans HG.out, _, World.drewN_drewN _ _ _⟩
      case measure => exact hl

theorem divisor_fuel (k : Nat) : ∀ (a b : Int) (w : World), b.natAbs ≤ k → -9223372036854775808 ≤ a → a ≤ 9223372036854775807 → -9223372036854775808 ≤ b → b ≤ 9223372036854775807 →
    Calls Try.prog 117 #[.int .i64 a, .int .i64 b] w fun e w' => e = .returned (.int .i64 (wrap64 (Int.gcd a b : Int))) ∧ w = w' := by
  induction k with
  | zero =>
    intro a b w hk h1 h2 h3 h4
    have hb : b = 0 := by omega
    subst hb
    go_enter Try.func117, Try.ntmps117
    go_wp2_with fail
    all_goals go_ret
    · have h : a < wrap64 (-a) := by assumption
      exact ⟨ret_int (show wrap64 (-a) = _ from by simpa using max_lt a h1 h2 h), rfl⟩
    · have h : ¬ a < wrap64 (-a) := by first | assumption | (have h : wrap64 (-a) ≤ a := by assumption); omega
      exact ⟨ret_int (show a = _ from by simpa using max_ge a h1 h2 h), rfl⟩
  | succ k ih =>
    intro a b w hk h1 h2 h3 h4
    by_cases hb : b = 0
    · subst hb
      go_enter Try.func117, Try.ntmps117
      go_wp2_with fail
      all_goals go_ret
      · have h : a < wrap64 (-a) := by assumption
        exact ⟨ret_int (show wrap64 (-a) = _ from by simpa using max_lt a h1 h2 h), rfl⟩
      · have h : ¬ a < wrap64 (-a) := by first | assumption | (have h : wrap64 (-a) ≤ a := by assumption); omega
        exact ⟨ret_int (show a = _ from by simpa using max_ge a h1 h2 h), rfl⟩
    · have ht := tmod_in a b h3 h4 hb
      have hl := tmod_lt a b hb
      have IH := Lib.hid ih
      clear ih
      go_enter Try.func117, Try.ntmps117
      go_wp2_with fail
      refine (IH.out b (a.tmod b) _ (by omega) h3 h4 ht.1 ht.2).mono ?_
      rintro e w' ⟨rfl, rfl⟩
      go_wp2_with fail
      go_ret
      exact ⟨ret_int (show wrap64 _ = wrap64 _ from by rw [gcd_tmod]), rfl⟩

theorem divisor_any (a b : Int) (w : World) (h1 : -9223372036854775808 ≤ a) (h2 : a ≤ 9223372036854775807) (h3 : -9223372036854775808 ≤ b) (h4 : b ≤ 9223372036854775807) :
    Calls Try.prog 117 #[.int .i64 a, .int .i64 b] w fun e w' => e = .returned (.int .i64 (wrap64 (Int.gcd a b : Int))) ∧ w = w' :=
  divisor_fuel _ a b w (Nat.le_refl _) h1 h2 h3 h4

/-- Whether a number lies between two others. -/
def withinB (n lo hi : Int) : Bool := decide (lo ≤ n) && decide (n ≤ hi)
theorem withinB_iff (n lo hi : Int) : withinB n lo hi = true ↔ lo ≤ n ∧ n ≤ hi := by simp [withinB]

theorem withinref_any (n lo hi : Int) (w : World) :
    Calls Try.prog 31 #[.int .i64 n, .int .i64 lo, .int .i64 hi] w fun e w' => e = .returned (.bool (withinB n lo hi)) ∧ w = w' := by
  by_cases h1 : lo ≤ n
  · go_enter Try.func31, Try.ntmps31
    go_wp2
    go_ret
    exact ⟨by simp [withinB, h1], rfl⟩
  · go_enter Try.func31, Try.ntmps31
    go_wp2
    go_ret
    exact ⟨by simp [withinB]; omega, rfl⟩

theorem withinsup_any (n lo hi : Int) (w : World) :
    Calls Try.prog 79 #[.int .i64 n, .int .i64 lo, .int .i64 hi] w fun e w' => e = .returned (.bool (withinB n lo hi)) ∧ w = w' := by
  by_cases h1 : lo ≤ n
  · go_enter Try.func79, Try.ntmps79
    go_wp2
    go_ret
    exact ⟨by simp [withinB, h1], rfl⟩
  · go_enter Try.func79, Try.ntmps79
    go_wp2
    go_ret
    exact ⟨by simp [withinB]; omega, rfl⟩

theorem between_any (n lo hi : Int) (w : World) :
    Calls Try.prog 118 #[.int .i64 n, .int .i64 lo, .int .i64 hi] w fun e w' => e = .returned (.bool (withinB n lo hi)) ∧ w = w' := by
  by_cases h1 : lo ≤ n
  · go_enter Try.func118, Try.ntmps118
    go_wp2
    go_ret
    exact ⟨by simp [withinB, h1], rfl⟩
  · go_enter Try.func118, Try.ntmps118
    go_wp2
    go_ret
    exact ⟨by simp [withinB]; omega, rfl⟩

theorem withinsup_is (n lo hi : Int) (t : Bool) (h : withinB n lo hi = t) (w : World) :
    Calls Try.prog 79 #[.int .i64 n, .int .i64 lo, .int .i64 hi] w fun e w' => e = .returned (.bool t) ∧ w = w' := h ▸ withinsup_any n lo hi w
theorem withinref_is (n lo hi : Int) (t : Bool) (h : withinB n lo hi = t) (w : World) :
    Calls Try.prog 31 #[.int .i64 n, .int .i64 lo, .int .i64 hi] w fun e w' => e = .returned (.bool t) ∧ w = w' := h ▸ withinref_any n lo hi w

end Go.Proofs.Ytmioamcgbihhjaa
