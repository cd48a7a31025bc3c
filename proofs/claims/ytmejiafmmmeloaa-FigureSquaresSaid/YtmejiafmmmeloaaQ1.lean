import Derived.Test.YtmejiafmmmeloaaProg
import Derived.WalkKit
import Derived.WalkSpells
import Derived.WalkLawsBesides
import Derived.BigQuiet
import Derived.Lib.Hide
import Derived.Below
import Derived.Laws.OwnMore
import Derived.Deep.AppendLies
import Derived.Deep.Draws
import Derived.Laws.Rows
import Derived.Maps.AppendAt
import Derived.RegionTactic
import Derived.OwnWalk
import Derived.Deep.OwnRows
import Derived.Laws.AppendOwn
import Derived.ChangeSame
import Derived.Tactics
import Derived.Deep.QuietTactic
import Derived.Laws.MakeOwn
import Derived.Laws.Entries

section
/- Contracts of the small integer functions: absolute value, greatest common divisor, bounds. -/
namespace Go.Proofs.Ytmejiafmmmeloaa
open Go.RowKit

theorem ret_int {k : IntKind} {a b : Int} (h : a = b) : Ending.returned (.int k a) = .returned (.int k b) := by rw [h]

theorem abs_any (a : Int) (w : World) (h1 : -9223372036854775808 ≤ a) (h2 : a ≤ 9223372036854775807) :
    Calls Try.prog 49 #[.int .i64 a] w fun e w' => e = .returned (.int .i64 (wrap64 (a.natAbs : Int))) ∧ w = w' := by
  go_enter Try.func49, Try.ntmps49
  go_wp2
  all_goals go_ret
  · exact ⟨ret_int (show wrap64 (-a) = _ from by congr 1; omega), rfl⟩
  · exact ⟨ret_int (show a = _ from by rw [IntWalk.wrap64_in _ ⟨by omega, by omega⟩]; omega), rfl⟩

theorem gcd_tmod (c d : Int) : Int.gcd d (c.tmod d) = Int.gcd c d := by
  rw [Int.gcd_comm d]
  unfold Int.gcd
  rw [Int.natAbs_tmod, Nat.gcd_comm c.natAbs, Nat.gcd_rec d.natAbs]

theorem tmod_lt (c d : Int) (hd : d ≠ 0) : (c.tmod d).natAbs < d.natAbs := by
  rw [Int.natAbs_tmod]; exact Nat.mod_lt _ (by omega)

theorem tmod_in (c d : Int) (h1 : -9223372036854775808 ≤ d) (h2 : d ≤ 9223372036854775807) (hd : d ≠ 0) : -9223372036854775808 ≤ c.tmod d ∧ c.tmod d ≤ 9223372036854775807 := by
  have := tmod_lt c d hd
  omega

theorem gcdref_any (a b : Int) (w : World) (h1 : -9223372036854775808 ≤ a) (h2 : a ≤ 9223372036854775807) (h3 : -9223372036854775808 ≤ b) (h4 : b ≤ 9223372036854775807) :
    Calls Try.prog 34 #[.int .i64 a, .int .i64 b] w fun e w' => e = .returned (.int .i64 (wrap64 (Int.gcd a b : Int))) ∧ ∃ n, w' = w.drewN n := by
  go_enter Try.func34, Try.ntmps34
  go_wp2
  go_loopw [0, 1] (fun x y wr => ∃ c d : Int, x = .int .i64 c ∧ y = .int .i64 d ∧ -9223372036854775808 ≤ c ∧ c ≤ 9223372036854775807 ∧ -9223372036854775808 ≤ d ∧ d ≤ 9223372036854775807 ∧ Int.gcd c d = Int.gcd a b ∧ ∃ n, wr = w.drewN n) (fun _ y _ => (intOf y).natAbs)
  case atStart => exact ⟨a, b, rfl, rfl, h1, h2, h3, h4, rfl, 0, rfl⟩
  case round =>
    obtain ⟨c, d, rfl, rfl, k1, k2, k3, k4, hg, n, rfl⟩ := hrel
    have HG := Lib.hid hg
    clear hg
    by_cases hd : d = 0
    · subst hd
      go_wp2_with (go_at_call 49; refine (abs_any _ _ (by omega) (by omega)).mono ?_; rintro e w' ⟨rfl, rfl⟩)
      go_ret
      exact ⟨ret_int (show wrap64 _ = wrap64 _ from by rw [← HG.out]; simp), _, rfl⟩
    · have ht := tmod_in c d k3 k4 hd
      have hl := tmod_lt c d hd
      go_wp2
      go_quiet (fail)
      go_wp2
      go_roundw
      case rel => exact ⟨d, c.tmod d, rfl, rfl, k3, k4, ht.1, ht.2, (gcd_tmod c d).trans HG.out, _, World.drewN_drewN _ _ _⟩
      case measure => exact hl

theorem neg_min : wrap64 (-(-9223372036854775808)) = -9223372036854775808 := by unfold wrap64; decide
theorem abs_min : wrap64 (((-9223372036854775808 : Int).natAbs : Nat) : Int) = -9223372036854775808 := by unfold wrap64; decide

theorem max_lt (a : Int) (h1 : -9223372036854775808 ≤ a) (h2 : a ≤ 9223372036854775807) (h : a < wrap64 (-a)) : wrap64 (-a) = wrap64 (a.natAbs : Int) := by
  by_cases e : a = -9223372036854775808
  · subst e; rw [neg_min] at h; omega
  · rw [IntWalk.wrap64_in _ ⟨by omega, by omega⟩] at h ⊢; rw [IntWalk.wrap64_in _ ⟨by omega, by omega⟩]; omega

theorem max_ge (a : Int) (h1 : -9223372036854775808 ≤ a) (h2 : a ≤ 9223372036854775807) (h : ¬ a < wrap64 (-a)) : a = wrap64 (a.natAbs : Int) := by
  by_cases e : a = -9223372036854775808
  · subst e; rw [abs_min]
  · rw [IntWalk.wrap64_in _ ⟨by omega, by omega⟩] at h; rw [IntWalk.wrap64_in _ ⟨by omega, by omega⟩]; omega

theorem gcdfig_any (a b : Int) (w : World) (h1 : -9223372036854775808 ≤ a) (h2 : a ≤ 9223372036854775807) (h3 : -9223372036854775808 ≤ b) (h4 : b ≤ 9223372036854775807) :
    Calls Try.prog 43 #[.int .i64 a, .int .i64 b] w fun e w' => e = .returned (.int .i64 (wrap64 (Int.gcd a b : Int))) ∧ ∃ n, w' = w.drewN n := by
  go_enter Try.func43, Try.ntmps43
  go_wp2
  go_loopw [0, 1] (fun x y wr => ∃ c d : Int, x = .int .i64 c ∧ y = .int .i64 d ∧ -9223372036854775808 ≤ c ∧ c ≤ 9223372036854775807 ∧ -9223372036854775808 ≤ d ∧ d ≤ 9223372036854775807 ∧ Int.gcd c d = Int.gcd a b ∧ ∃ n, wr = w.drewN n) (fun _ y _ => (intOf y).natAbs)
  case atStart => exact ⟨a, b, rfl, rfl, h1, h2, h3, h4, rfl, 0, rfl⟩
  case round =>
    obtain ⟨c, d, rfl, rfl, k1, k2, k3, k4, hg, n, rfl⟩ := hrel
    have HG := Lib.hid hg
    clear hg
    by_cases hd : d = 0
    · subst hd
      go_wp2
      all_goals go_ret
      · have h : c < wrap64 (-c) := by assumption
        exact ⟨ret_int (show wrap64 (-c) = _ from by rw [max_lt c k1 k2 h, ← HG.out]; simp), _, rfl⟩
      · have h : ¬ c < wrap64 (-c) := by first | assumption | (have h : wrap64 (-c) ≤ c := by assumption); omega
        exact ⟨ret_int (show c = _ from by rw [← HG.out]; simpa using max_ge c k1 k2 h), _, rfl⟩
    · have ht := tmod_in c d k3 k4 hd
      have hl := tmod_lt c d hd
      go_wp2
      go_quiet (fail)
      go_wp2
      go_roundw
      case rel => exact ⟨d, c.tmod d, rfl, rfl, k3, k4, ht.1, ht.2, (gcd_tmod c d).trans HG.out, _, World.drewN_drewN _ _ _⟩
      case measure => exact hl



/-- Whether a number lies between two others. -/
def withinB (n lo hi : Int) : Bool := decide (lo ≤ n) && decide (n ≤ hi)
theorem withinB_iff (n lo hi : Int) : withinB n lo hi = true ↔ lo ≤ n ∧ n ≤ hi := by simp [withinB]

theorem withinref_any (n lo hi : Int) (w : World) :
    Calls Try.prog 18 #[.int .i64 n, .int .i64 lo, .int .i64 hi] w fun e w' => e = .returned (.bool (withinB n lo hi)) ∧ w = w' := by
  by_cases h1 : lo ≤ n
  · go_enter Try.func18, Try.ntmps18
    go_wp2
    go_ret
    exact ⟨by simp [withinB, h1], rfl⟩
  · go_enter Try.func18, Try.ntmps18
    go_wp2
    go_ret
    exact ⟨by simp [withinB]; omega, rfl⟩

theorem withinfig_any (n lo hi : Int) (w : World) :
    Calls Try.prog 32 #[.int .i64 n, .int .i64 lo, .int .i64 hi] w fun e w' => e = .returned (.bool (withinB n lo hi)) ∧ w = w' := by
  by_cases h1 : lo ≤ n
  · go_enter Try.func32, Try.ntmps32
    go_wp2
    go_ret
    exact ⟨by simp [withinB, h1], rfl⟩
  · go_enter Try.func32, Try.ntmps32
    go_wp2
    go_ret
    exact ⟨by simp [withinB]; omega, rfl⟩


theorem withinfig_is (n lo hi : Int) (t : Bool) (h : withinB n lo hi = t) (w : World) :
    Calls Try.prog 32 #[.int .i64 n, .int .i64 lo, .int .i64 hi] w fun e w' => e = .returned (.bool t) ∧ w = w' := h ▸ withinfig_any n lo hi w

theorem withinref_is (n lo hi : Int) (t : Bool) (h : withinB n lo hi = t) (w : World) :
    Calls Try.prog 18 #[.int .i64 n, .int .i64 lo, .int .i64 hi] w fun e w' => e = .returned (.bool t) ∧ w = w' := h ▸ withinref_any n lo hi w

end Go.Proofs.Ytmejiafmmmeloaa

end

section
/- Plain model of the stable sort by insertion. -/
namespace Go.Proofs.Ytmejiafmmmeloaa
open Go.RowKit

def insAt (p : List Nat) (x j : Nat) : List Nat := p.take j ++ x :: p.drop j
/-- x sinks from place j. -/
def insF (lt : Nat → Nat → Bool) (p : List Nat) (x : Nat) : Nat → List Nat
  | 0 => insAt p x 0
  | j + 1 => if lt x (p.getD j 0) then insF lt p x j else insAt p x (j + 1)
def sortF (lt : Nat → Nat → Bool) (l : List Nat) : List Nat := l.foldl (fun p x => insF lt p x p.length) []

theorem sortF_snoc (lt : Nat → Nat → Bool) (l : List Nat) (x : Nat) : sortF lt (l ++ [x]) = insF lt (sortF lt l) x (sortF lt l).length := by unfold sortF; rw [List.foldl_append]; rfl
theorem insAt_len {p : List Nat} {x j : Nat} (hj : j ≤ p.length) : (insAt p x j).length = p.length + 1 := by
  unfold insAt
  rw [List.length_append, List.length_cons, List.length_take, List.length_drop]
  omega
theorem insF_at (lt : Nat → Nat → Bool) (p : List Nat) (x : Nat) : ∀ j, j ≤ p.length → ∃ i, i ≤ j ∧ insF lt p x j = insAt p x i
  | 0, _ => ⟨0, Nat.le_refl _, rfl⟩
  | j + 1, hj => by
    unfold insF
    cases lt x (p.getD j 0) with
    | true =>
      obtain ⟨i, h1, h2⟩ := insF_at lt p x j (by omega)
      exact ⟨i, by omega, by simpa using h2⟩
    | false => exact ⟨j + 1, Nat.le_refl _, by simp⟩
theorem insF_len (lt : Nat → Nat → Bool) (p : List Nat) (x j : Nat) (hj : j ≤ p.length) : (insF lt p x j).length = p.length + 1 := by
  obtain ⟨i, h1, h2⟩ := insF_at lt p x j hj
  rw [h2, insAt_len (by omega)]
theorem sortF_len (lt : Nat → Nat → Bool) (l : List Nat) : (sortF lt l).length = l.length := by
  have key : ∀ (l p : List Nat), (l.foldl (fun p x => insF lt p x p.length) p).length = p.length + l.length := by
    intro l
    induction l with
    | nil => intro p; simp
    | cons x l ih => intro p; rw [List.foldl_cons, ih, insF_len _ _ _ _ (Nat.le_refl _), List.length_cons]; omega
  unfold sortF
  rw [key]
  simp
theorem insAt_mem {p : List Nat} {x j y : Nat} : y ∈ insAt p x j ↔ y ∈ p ∨ y = x := by
  unfold insAt
  rw [List.mem_append, List.mem_cons]
  have h : y ∈ p ↔ y ∈ p.take j ∨ y ∈ p.drop j := by rw [← List.mem_append, List.take_append_drop]
  rw [h]
  constructor
  · rintro (h | h | h)
    · exact .inl (.inl h)
    · exact .inr h
    · exact .inl (.inr h)
  · rintro ((h | h) | h)
    · exact .inl h
    · exact .inr (.inr h)
    · exact .inr (.inl h)
theorem sortF_mem (lt : Nat → Nat → Bool) {y : Nat} : ∀ (l : List Nat), y ∈ sortF lt l ↔ y ∈ l := by
  have key : ∀ (l p : List Nat), y ∈ l.foldl (fun p x => insF lt p x p.length) p ↔ y ∈ p ∨ y ∈ l := by
    intro l
    induction l with
    | nil => intro p; simp
    | cons x l ih =>
      intro p
      obtain ⟨i, h1, h2⟩ := insF_at lt p x p.length (Nat.le_refl _)
      rw [List.foldl_cons, ih, h2, insAt_mem, List.mem_cons, or_assoc]
  intro l
  unfold sortF
  rw [key]
  simp
theorem cut_at {p : List Nat} {j : Nat} (hj : j < p.length) : ∃ a y b, p = a ++ y :: b ∧ a.length = j ∧ p.getD j 0 = y := by
  refine ⟨p.take j, p[j], p.drop (j + 1), ?_, by rw [List.length_take]; omega, ?_⟩
  · rw [← List.drop_eq_getElem_cons hj, List.take_append_drop]
  · rw [List.getD_eq_getElem?_getD, List.getElem?_eq_getElem hj]; rfl
theorem take_mid (a : List Nat) (y : Nat) (b : List Nat) : (a ++ y :: b).take (a.length + 1) = a ++ [y] ∧ (a ++ y :: b).drop (a.length + 1) = b := by
  have e : a ++ y :: b = (a ++ [y]) ++ b := by simp
  have hl : (a ++ [y]).length = a.length + 1 := by simp
  rw [e, ← hl]
  exact ⟨by rw [List.take_left], by rw [List.drop_left]⟩
theorem insAt_get {p r : List Nat} {x j : Nat} (hj : j < p.length) : (insAt p x (j + 1) ++ r)[j + 1]? = some x ∧ (insAt p x (j + 1) ++ r)[j]? = some (p.getD j 0) := by
  obtain ⟨a, y, b, rfl, rfl, hy⟩ := cut_at hj
  rw [hy]
  have e : insAt (a ++ y :: b) x (a.length + 1) = a ++ y :: x :: b := by
    unfold insAt
    rw [(take_mid a y b).1, (take_mid a y b).2]
    simp
  rw [e]
  constructor
  · rw [List.append_assoc, List.getElem?_append_right (by omega)]; simp
  · rw [List.append_assoc, List.getElem?_append_right (by omega)]; simp
theorem insAt_swap {p r : List Nat} {x j : Nat} (hj : j < p.length) : ((insAt p x (j + 1) ++ r).set (j + 1) (p.getD j 0)).set j x = insAt p x j ++ r := by
  obtain ⟨a, y, b, rfl, rfl, hy⟩ := cut_at hj
  rw [hy]
  have e : insAt (a ++ y :: b) x (a.length + 1) = a ++ y :: x :: b := by
    unfold insAt
    rw [(take_mid a y b).1, (take_mid a y b).2]
    simp
  have e2 : insAt (a ++ y :: b) x a.length = a ++ x :: y :: b := by
    unfold insAt
    rw [List.take_append, List.drop_append]
    simp
  rw [e, e2, List.append_assoc, List.set_append_right _ _ (by omega), List.append_assoc, List.set_append_right _ _ (by omega)]
  simp
theorem insAt_all {p : List Nat} {x : Nat} : insAt p x p.length = p ++ [x] := by unfold insAt; simp

/-- In order: no element is less than one ahead of it. -/
def Srt (lt : Nat → Nat → Bool) (l : List Nat) : Prop := l.Pairwise fun a b => lt b a = false
theorem insF_srt {lt : Nat → Nat → Bool} (htr : ∀ a b c, lt b a = false → lt c b = false → lt c a = false) (has : ∀ a b, lt a b = true → lt b a = false) {p : List Nat} (hp : Srt lt p) (x : Nat) :
    ∀ j, j ≤ p.length → (∀ y ∈ p.drop j, lt y x = false) → Srt lt (insF lt p x j) := by
  have key : ∀ j, j ≤ p.length → (∀ y ∈ p.drop j, lt y x = false) → (∀ y ∈ p.take j, lt x y = false) → Srt lt (insAt p x j) := by
    intro j hj h1 h2
    unfold Srt insAt at *
    rw [← List.take_append_drop j p, List.pairwise_append] at hp
    rw [List.pairwise_append, List.pairwise_cons]
    refine ⟨hp.1, ⟨h1, hp.2.1⟩, fun a ha b hb => ?_⟩
    rcases List.mem_cons.1 hb with rfl | hb
    · exact h2 a ha
    · exact hp.2.2 a ha b hb
  intro j
  induction j with
  | zero => intro hj h1; exact key 0 hj h1 (by simp)
  | succ j ih =>
    intro hj h1
    unfold insF
    obtain ⟨a, y, b, hp', hl, hy⟩ := cut_at (show j < p.length by omega)
    have hdr : p.drop j = y :: p.drop (j + 1) := by
      have e1 : p.drop j = y :: b := by rw [hp', ← hl]; simp
      have e2 : p.drop (j + 1) = b := by rw [hp', ← hl]; exact (take_mid a y b).2
      rw [e1, e2]
    cases hlt : lt x (p.getD j 0) with
    | true =>
      rw [hy] at hlt
      simp only [if_true]
      refine ih (by omega) fun z hz => ?_
      rw [hdr] at hz
      rcases List.mem_cons.1 hz with rfl | hz
      · exact has _ _ hlt
      · exact h1 z hz
    | false =>
      rw [hy] at hlt
      simp only [Bool.false_eq_true, if_false]
      refine key (j + 1) hj h1 fun z hz => ?_
      have e3 : p.take (j + 1) = a ++ [y] := by rw [hp', ← hl]; exact (take_mid a y b).1
      rw [e3] at hz
      rcases List.mem_append.1 hz with hz | hz
      · have : lt y z = false := by
          unfold Srt at hp
          rw [hp', List.pairwise_append] at hp
          exact hp.2.2 z hz y (by simp)
        exact htr z y x this hlt
      · obtain rfl : z = y := by simpa using hz
        exact hlt
theorem sortF_srt {lt : Nat → Nat → Bool} (htr : ∀ a b c, lt b a = false → lt c b = false → lt c a = false) (has : ∀ a b, lt a b = true → lt b a = false) (l : List Nat) : Srt lt (sortF lt l) := by
  have key : ∀ (l p : List Nat), Srt lt p → Srt lt (l.foldl (fun p x => insF lt p x p.length) p) := by
    intro l
    induction l with
    | nil => intro p hp; exact hp
    | cons x l ih => intro p hp; exact ih _ (insF_srt htr has hp x p.length (Nat.le_refl _) (by simp))
  exact key l [] List.Pairwise.nil
end Go.Proofs.Ytmejiafmmmeloaa

end

section
/- Lemmas on memory, for copying out of the guide's pages of extra lemmas: slices that read as lists, blocks known whole, appends, frames, results. -/
namespace Go.Proofs.Ytmejiafmmmeloaa
open Go.RowKit Go.WideShapes Go.ChangeShapes

theorem add_lit (b o n : Nat) : Addr.add ⟨b, o, none⟩ n = ⟨b, o + n, none⟩ := Addr.add_lit b o n

/-- The slice value '.slice A n c' holds the cells xs (so many a piece as size says), in a block below B. -/
def Reads (w : World) (B size : Nat) (A : Option Addr) (n : Nat) (xs : List Value) : Prop :=
  xs.length = n * size ∧ (0 < n → ∃ b o, A = some ⟨b, o, none⟩ ∧ b < B ∧ ∀ j u, xs[j]? = some u → w.cell? ⟨b, o + j, none⟩ = some u)

section
variable {w w' : World} {B B' size n : Nat} {A : Option Addr} {xs : List Value}
theorem Reads.none_ : Reads w B size A 0 [] := ⟨by simp, fun h => absurd h (by omega)⟩
theorem Reads.at_ {k : Nat} (h : Reads w B 1 A n xs) (hk : k < n) : ∃ b o u, A = some ⟨b, o, none⟩ ∧ b < B ∧ xs[k]? = some u ∧ w.cell? ⟨b, o + k, none⟩ = some u := by
  obtain ⟨b, o, e, hb, hc⟩ := h.2 (by omega)
  have hl : k < xs.length := by have := h.1; omega
  exact ⟨b, o, xs[k], e, hb, List.getElem?_eq_getElem hl, hc k _ (List.getElem?_eq_getElem hl)⟩
theorem Reads.keep (h : Reads w B size A n xs) (hk : ∀ p : Addr, p.block < B → w'.cell? p = w.cell? p) : Reads w' B size A n xs :=
  ⟨h.1, fun hn => by
    obtain ⟨b, o, e, hb, hc⟩ := h.2 hn
    exact ⟨b, o, e, hb, fun j u hu => (hk _ hb).trans (hc j u hu)⟩⟩
theorem Reads.more (h : Reads w B size A n xs) (hB : B ≤ B') : Reads w B' size A n xs :=
  ⟨h.1, fun hn => by
    obtain ⟨b, o, e, hb, hc⟩ := h.2 hn
    exact ⟨b, o, e, by omega, hc⟩⟩
theorem Reads.below (h : Reads w B size A n xs) (hb : Below B w w') : Reads w' B size A n xs := h.keep fun _ hp => hb.cell hp
theorem Reads.drew (h : Reads w B size A n xs) : Reads w.drew B size A n xs := h
theorem Reads.drewN (h : Reads w B size A n xs) (k : Nat) : Reads (w.drewN k) B size A n xs := h
theorem Reads.alloc (h : Reads w B size A n xs) (hB : B ≤ w.heap.size) (o : Obj) : Reads (w.alloc o) B size A n xs := h.keep fun p hp => World.cell?_alloc_lt w o p (by omega)
theorem Reads.setCell (h : Reads w B size A n xs) {p : Addr} (hB : B ≤ p.block) (u : Value) : Reads (w.setCell p u) B size A n xs :=
  h.keep fun q hq => World.cell?_setCell_other w p q u (fun e => by subst e; omega)
theorem Reads.grown (h : Reads w B size A n xs) {row : Option Nat} (hg : w.grownBy w' row) (hB : B ≤ w.heap.size) (hr : ∀ g, row = some g → B ≤ g) : Reads w' B size A n xs :=
  h.keep fun p hp => World.cell?_of_block (hg.block p.block (by omega) (fun e => by have := hr _ e.symm; omega))
theorem Reads.cut (h : Reads w B size A n xs) {k cap : Nat} (hk : k ≤ n) (hc : n ≤ cap) :
    Reads w B size (if cap = k then A else A.map (·.add (k * size))) (n - k) (xs.drop (k * size)) := by
  refine ⟨by rw [List.length_drop, h.1, Nat.sub_mul], fun hn => ?_⟩
  obtain ⟨b, o, rfl, hb, hcell⟩ := h.2 (by omega)
  rw [if_neg (by omega)]
  refine ⟨b, o + k * size, by rw [Option.map_some, add_lit], hb, fun j u hu => ?_⟩
  rw [Nat.add_assoc]
  exact hcell _ u (by rw [← hu, List.getElem?_drop])
/-- A cell that holds something is a plain place. -/
theorem plain_of_cell {a : Addr} {v : Value} (h : w.cell? a = some v) : a = ⟨a.block, a.off, none⟩ := by
  obtain ⟨b, o, sp⟩ := a
  cases sp with
  | none => rfl
  | some x =>
    unfold World.cell? at h
    simp only [Option.isSome_some, if_true] at h
    split at h <;> cases h
theorem Reads.of_adds {a : Addr} (hsz : 0 < size) (hl : xs.length = n * size) (hb : a.block < B) (hc : ∀ j u, xs[j]? = some u → w.cell? (a.add j) = some u) : Reads w B size (some a) n xs := by
  refine ⟨hl, fun hn => ?_⟩
  have h0 : 0 < xs.length := by rw [hl]; exact Nat.mul_pos hn hsz
  have hp := plain_of_cell (by simpa [Addr.add] using hc 0 _ (List.getElem?_eq_getElem h0))
  refine ⟨a.block, a.off, by rw [← hp], hb, fun j u hu => ?_⟩
  have := hc j u hu
  rw [hp, add_lit] at this
  exact this
end

def Blk (w : World) (g : Nat) (t : TypeId) (cs : Array Value) : Prop := w.heap[g]? = some (.cells cs t (0, 0))

section
variable {w w' : World} {g : Nat} {t : TypeId} {cs : Array Value}
theorem Blk.lt (h : Blk w g t cs) : g < w.heap.size := by
  rcases Nat.lt_or_ge g w.heap.size with hlt | hge
  · exact hlt
  · unfold Blk at h; rw [Array.getElem?_eq_none hge] at h; cases h
theorem Blk.cell (h : Blk w g t cs) (i : Nat) : w.cell? ⟨g, i, none⟩ = cs[i]? := cell_of_row w g i cs t (0, 0) h
theorem Blk.frozen (h : Blk w g t cs) (i : Nat) : w.frozen? ⟨g, i, none⟩ = false := by
  unfold Blk at h
  simp [World.frozen?, h]
theorem Blk.new (w : World) (t : TypeId) (cs : Array Value) : Blk (w.alloc (.cells cs t)) w.heap.size t cs := heap_alloc_new w _
theorem Blk.at_ (w : World) {g : Nat} (h : w.heap.size = g) (t : TypeId) (cs : Array Value) : Blk (w.alloc (.cells cs t)) g t cs := h ▸ Blk.new w t cs
theorem Blk.drew (h : Blk w g t cs) : Blk w.drew g t cs := h
theorem Blk.drewN (h : Blk w g t cs) (n : Nat) : Blk (w.drewN n) g t cs := h
theorem Blk.alloc (h : Blk w g t cs) (o : Obj) : Blk (w.alloc o) g t cs := (Below.heap_alloc w o g h.lt).trans h
theorem Blk.set_ (h : Blk w g t cs) (i : Nat) (u : Value) : Blk (w.setCell ⟨g, i, none⟩ u) g t (cs.setIfInBounds i u) := by
  unfold Blk at h ⊢
  simp [World.setCell, Array.getElem?_modify, h]
theorem Blk.far (h : Blk w g t cs) {p : Addr} (hp : g ≠ p.block) (u : Value) : Blk (w.setCell p u) g t cs := (Below.heap_setCell w p u g hp).trans h
theorem Blk.below {B : Nat} (h : Blk w g t cs) (hb : Below B w w') (hg : g < B) : Blk w' g t cs := (hb.block g hg).trans h
theorem Blk.grown {row : Option Nat} (h : Blk w g t cs) (hb : w.grownBy w' row) (hg : some g ≠ row) : Blk w' g t cs := (hb.block g h.lt hg).trans h
theorem Blk.ne_ {g' : Nat} {t' : TypeId} {cs' : Array Value} (h : Blk w g t cs) (h' : Blk w g' t' cs') (hne : t ≠ t') : g ≠ g' := by
  rintro rfl
  unfold Blk at h h'
  rw [h] at h'
  injection h' with h'
  injection h' with _ ht
  exact hne ht
theorem own_blk_ne {base : Nat} {e : TypeId} {size n : Nat} {v : Value} {xs : List Value} (h : w.ownsRow base e size v n xs) (hg : Blk w g t cs) (hne : e ≠ t) : v.ownBlock ≠ some g := by
  rcases h.2 with ⟨rfl, _⟩ | ⟨g', cap, cur, rfl, _, hh, _⟩
  · simp [Value.ownBlock]
  · intro he
    have : g' = g := by simpa [Value.ownBlock] using he
    subst this
    exact Blk.ne_ (t := e) hh hg hne rfl
end

section
variable {P : Program} (w : World)

theorem run_append_of_nil (base : Nat) (t ty e : TypeId) (i : TypeInfo) (size : Nat) (ht : P.underlying t = some (.slice e)) (hi : P.info? e = some i)
    (v : Value) (n : Nat) (xs : List Value) (hown : w.ownsRow base e size v n xs) (c : Nat) : (Builtin.append_ #[t, t] ty #[v, .slice none 0 c]).run P w = .ok v w := by
  rcases hown.2 with ⟨rfl, rfl⟩ | ⟨g, cap, cur, rfl, _, _, hnc, _⟩
  · simp [Builtin.append_, run_underlying ht, sizeOf, typeInfo, hi, Builtin.lenOf, Builtin.firstCells]
  · simp [Builtin.append_, run_underlying ht, sizeOf, typeInfo, hi, Builtin.lenOf, Builtin.firstCells, hnc, storeCells]

theorem run_append_any (base : Nat) (t ty e : TypeId) (i : TypeInfo) (z : Value) (size bytes : Nat) (ht : P.underlying t = some (.slice e)) (hi : P.info? e = some i) (hz : i.zero = some z)
    (hsize : i.size = size) (hby : i.bytes = bytes) (hzs : z.cells.size = size) (hsz : 0 < size)
    (v : Value) (n : Nat) (xs : List Value) (hown : w.ownsRow base e size v n xs)
    (B : Nat) (A : Option Addr) (m c : Nat) (news : List Value) (hr : Reads w B size A m news) (h1 : ∀ u ∈ news, u.oneCell' = true)
    (h63 : n + m ≤ maxLen) (hbytes : (n + m) * bytes ≤ 140737488355328) (hbase : base ≤ w.heap.size) :
    ∃ v' w', (Builtin.append_ #[t, t] ty #[v, .slice A m c]).run P w = .ok v' w' ∧ w'.ownsRow base e size v' (n + m) (xs ++ news) ∧ w.grownBy w' v.ownBlock ∧
      (v'.ownBlock = v.ownBlock ∨ v'.ownBlock = some w.heap.size) := by
  rcases A with _ | ad
  · have hm : m = 0 := by
      rcases Nat.eq_zero_or_pos m with h0 | h0
      · exact h0
      · obtain ⟨_, _, h, _⟩ := hr.2 h0
        cases h
    subst hm
    have hn : news = [] := List.eq_nil_of_length_eq_zero (by simpa using hr.1)
    subst hn
    exact ⟨v, w, run_append_of_nil w base t ty e i size ht hi v n xs hown c, by simpa using hown, World.grownBy.refl w _, .inl rfl⟩
  · have hcells : ∀ j u, news[j]? = some u → w.cell? (ad.add j) = some u := by
      intro j u hu
      rcases Nat.eq_zero_or_pos m with h0 | h0
      · subst h0
        have hn : news = [] := List.eq_nil_of_length_eq_zero (by simpa using hr.1)
        subst hn
        simp at hu
      · obtain ⟨b', o', h, _, hc⟩ := hr.2 h0
        injection h with h
        subst h
        rw [add_lit]
        exact hc j u hu
    obtain ⟨v', w', hrun, h2, h3, _, h5⟩ := run_append_own_at (P := P) w base t ty e i z size bytes ht hi hz hsize hby hzs hsz v n xs hown ad m c news hr.1 hcells h1 h63 hbytes hbase
    exact ⟨v', w', hrun, h2, h3, h5⟩

end

theorem below_drewN {B : Nat} {a w : World} (h : Below B a w) (n : Nat) : Below B a (w.drewN n) := ⟨h.os, h.tape, h.output, h.size, h.block⟩
theorem only_drewN {a w : World} {row : Option Nat} (h : a.grownBy w row) (n : Nat) : a.grownBy (w.drewN n) row := ⟨h.os, h.tape, h.output, h.size, h.block⟩
theorem only_setCell {a w : World} {g : Nat} (h : a.grownBy w (some g)) {p : Addr} (hp : p.block = g ∨ a.heap.size ≤ p.block) (u : Value) : a.grownBy (w.setCell p u) (some g) :=
  ⟨h.os, h.tape, h.output, by simpa [World.setCell] using h.size, fun i hi hne => (Below.heap_setCell w p u i (by
    rintro rfl
    rcases hp with hp | hp
    · exact hne (by rw [hp])
    · omega)).trans (h.block i hi hne)⟩
theorem only_of_below {a w : World} (h : Below a.heap.size a w) (row : Option Nat) : a.grownBy w row := ⟨h.os, h.tape, h.output, h.size, fun i hi _ => h.block i hi⟩

section
variable {H : Type} {enc : TypeId × Value → H} {P : Program}
theorem post_of_below {f : Func} {s : ChangeSpec} {apart fresh handsOn again : Bool} {W W' : World} {args : Array Value} {v : Value} {ds gs : List (DataW H)} {before pa pv : List MemPlace}
    (hW : DataW.Whole enc P f.params.toList s.vars apart W args.toList ds gs before)
    (hres : ∀ (b : Nat) (sp : Nat → Bool) (hd : Bool), DataW.TrodAll enc P W' b sp hd f.resultTypes.toList (v.resultList f.resultTypes.size) (s.fn H (ds ++ gs)).results [])
    (hargs : ∀ sp : Nat → Bool, (∀ p ∈ before, sp p.block = true) → DataW.TrodAll enc P W' 0 sp true f.params.toList args.toList (s.fn H (ds ++ gs)).args pa)
    (hvars : ∀ sp : Nat → Bool, (∀ p ∈ before, sp p.block = true) → DataW.TrodVars enc P W' sp s.vars (s.fn H (ds ++ gs)).vars pv)
    (hps : before = pa ++ pv) (hb : Below W.heap.size W W')
    (hok : ∀ (j : Nat) (t : TypeId) (r : Value), f.resultTypes[j]? = some t → (v.resultList f.resultTypes.size)[j]? = some r → Value.okWide P W' .any 0 t r) :
    s.post enc P f apart fresh handsOn again W args v W' := by
  have hlt : ∀ p ∈ before, p.block < W.heap.size := fun p hp => hW.lt p hp
  have hold : ∀ p ∈ before, (fun b => decide (b < W.heap.size)) p.block = true := fun p hp => by simpa using hlt p hp
  refine ⟨ds, gs, before, [], pa, pv, hW, hres _ _ _, hargs _ hold, hvars _ hold, World.keptBut_mono (fun p hp => ⟨hp, ?_⟩) (hb.frame (· ∈ before)), fun _ => ?_⟩
  · rw [hps, List.mem_append] at hp
    exact Or.inr hp
  · obtain ⟨_, _, _, _, _, hz, hn⟩ := hW
    refine ⟨hok, _, _, ([] ++ pa) ++ pv, ⟨[] ++ pa, pv, trodAll_append (hargs _ (fun _ _ => rfl)) (hres _ _ _), hvars _ (fun _ _ => rfl), rfl, ?_, ?_⟩, ?_⟩
    · intro b off hp
      have hin : MemPlace.cell b off ∈ before := by rw [hps]; simpa using hp
      rw [hb.frozen (hlt _ hin)]
      exact hz b off hin
    · intro ha
      have := hn ha
      rw [hps] at this
      simpa using this
    · intro p hp _
      rw [hps]
      simpa using hp
end

theorem run_make_rowN {P : Program} (t e : TypeId) (i : TypeInfo) (z : Value) (ht : P.underlying t = some (.slice e)) (hi : P.info? e = some i) (hz : i.zero = some z)
    (kl kc : IntKind) (n c : Nat) (hnc : n ≤ c) (hbytes : i.bytes * c ≤ 281474976710656) (h63 : c ≤ 9223372036854775807) (w : World) :
    (Instr.makeSlice t (.int kl (n : Int)) (.int kc (c : Int))).run P w = .ok (.slice (some ⟨w.heap.size, 0, none⟩) n c) (w.alloc (.cells (madeCells z.cells (c * i.size)) e)) := by
  have hb : (i.bytes : Int) * (c : Int) ≤ 281474976710656 := by
    have h : ((i.bytes * c : Nat) : Int) ≤ 281474976710656 := by omega
    rwa [Int.natCast_mul] at h
  have hr := run_make (P := P) w t e i z ht hi hz kl kc n c (by omega) (by omega) hb (by omega)
  simp only [Int.toNat_natCast] at hr
  exact hr
end Go.Proofs.Ytmejiafmmmeloaa

end
