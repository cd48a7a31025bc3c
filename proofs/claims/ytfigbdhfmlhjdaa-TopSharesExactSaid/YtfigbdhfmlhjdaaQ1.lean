import Derived.Test.YtfigbdhfmlhjdaaProg
import Derived.WalkKit
import Derived.WalkSpells
import Derived.WalkLawsBesides
import Derived.BigQuiet
import Derived.Lib.Hide
import Derived.Below
import Derived.Laws.OwnMore
import Derived.Deep.AppendLies
import Derived.Deep.Draws
import Derived.Laws.Rows
import Derived.Maps.AppendAt
import Derived.RegionTactic
import Derived.OwnWalk
import Derived.Deep.OwnRows
import Derived.Laws.AppendOwn
import Derived.ChangeSame
import Derived.Tactics
import Derived.Deep.QuietTactic
import Derived.Laws.MakeOwn
import Derived.Laws.Entries
import Derived.Maps.Own
import Derived.Maps.OwnOps
import Derived.Maps.OwnSet
import Derived.StringKeys

section
/- Contracts of the small integer functions: absolute value, greatest common divisor, bounds. -/
namespace Go.Proofs.Ytfigbdhfmlhjdaa
open Go.RowKit

theorem ret_int {k : IntKind} {a b : Int} (h : a = b) : Ending.returned (.int k a) = .returned (.int k b) := by rw [h]

theorem abs_any (a : Int) (w : World) (h1 : -9223372036854775808 ≤ a) (h2 : a ≤ 9223372036854775807) :
    Calls Try.prog 41 #[.int .i64 a] w fun e w' => e = .returned (.int .i64 (wrap64 (a.natAbs : Int))) ∧ w = w' := by
  go_enter Try.func41, Try.ntmps41
  go_wp2
  all_goals go_ret
  · exact ⟨ret_int (show wrap64 (-a) = _ from by congr 1; omega), rfl⟩
  · exact ⟨ret_int (show a = _ from by rw [IntWalk.wrap64_in _ ⟨by omega, by omega⟩]; omega), rfl⟩

theorem gcd_tmod (c d : Int) : Int.gcd d (c.tmod d) = Int.gcd c d := by
  rw [Int.gcd_comm d]
  unfold Int.gcd
  rw [Int.natAbs_tmod, Nat.gcd_comm c.natAbs, Nat.gcd_rec d.natAbs]

theorem tmod_lt (c d : Int) (hd : d ≠ 0) : (c.tmod d).natAbs < d.natAbs := by
  rw [Int.natAbs_tmod]; exact Nat.mod_lt _ (by omega)

theorem tmod_in (c d : Int) (h1 : -9223372036854775808 ≤ d) (h2 : d ≤ 9223372036854775807) (hd : d ≠ 0) : -9223372036854775808 ≤ c.tmod d ∧ c.tmod d ≤ 9223372036854775807 := by
  have := tmod_lt c d hd
  omega

theorem gcdref_any (a b : Int) (w : World) (h1 : -9223372036854775808 ≤ a) (h2 : a ≤ 9223372036854775807) (h3 : -9223372036854775808 ≤ b) (h4 : b ≤ 9223372036854775807) :
    Calls Try.prog 20 #[.int .i64 a, .int .i64 b] w fun e w' => e = .returned (.int .i64 (wrap64 (Int.gcd a b : Int))) ∧ ∃ n, w' = w.drewN n := by
  go_enter Try.func20, Try.ntmps20
  go_wp2
  go_loopw [0, 1] (fun x y wr => ∃ c d : Int, x = .int .i64 c ∧ y = .int .i64 d ∧ -9223372036854775808 ≤ c ∧ c ≤ 9223372036854775807 ∧ -9223372036854775808 ≤ d ∧ d ≤ 9223372036854775807 ∧ Int.gcd c d = Int.gcd a b ∧ ∃ n, wr = w.drewN n) (fun _ y _ => (intOf y).natAbs)
  case atStart => exact ⟨a, b, rfl, rfl, h1, h2, h3, h4, rfl, 0, rfl⟩
  case round =>
    obtain ⟨c, d, rfl, rfl, k1, k2, k3, k4, hg, n, rfl⟩ := hrel
    have HG := Lib.hid hg
    clear hg
    by_cases hd : d = 0
    · subst hd
      go_wp2_with (go_at_call 41; refine (abs_any _ _ (by omega) (by omega)).mono ?_; rintro e w' ⟨rfl, rfl⟩)
      go_ret
      exact ⟨ret_int (show wrap64 _ = wrap64 _ from by rw [← HG.out]; simp), _, rfl⟩
    · have ht := tmod_in c d k3 k4 hd
      have hl := tmod_lt c d hd
      go_wp2
      go_quiet (fail)
      go_wp2
      go_roundw
      case rel => exact ⟨d, c.tmod d, rfl, rfl, k3, k4, ht.1, ht.2, (gcd_tmod c d).trans HG.out, _, World.drewN_drewN _ _ _⟩
      case measure => exact hl

theorem neg_min : wrap64 (-(-9223372036854775808)) = -9223372036854775808 := by unfold wrap64; decide
theorem abs_min : wrap64 (((-9223372036854775808 : Int).natAbs : Nat) : Int) = -9223372036854775808 := by unfold wrap64; decide

theorem max_lt (a : Int) (h1 : -9223372036854775808 ≤ a) (h2 : a ≤ 9223372036854775807) (h : a < wrap64 (-a)) : wrap64 (-a) = wrap64 (a.natAbs : Int) := by
  by_cases e : a = -9223372036854775808
  · subst e; rw [neg_min] at h; omega
  · rw [IntWalk.wrap64_in _ ⟨by omega, by omega⟩] at h ⊢; rw [IntWalk.wrap64_in _ ⟨by omega, by omega⟩]; omega

theorem max_ge (a : Int) (h1 : -9223372036854775808 ≤ a) (h2 : a ≤ 9223372036854775807) (h : ¬ a < wrap64 (-a)) : a = wrap64 (a.natAbs : Int) := by
  by_cases e : a = -9223372036854775808
  · subst e; rw [abs_min]
  · rw [IntWalk.wrap64_in _ ⟨by omega, by omega⟩] at h; rw [IntWalk.wrap64_in _ ⟨by omega, by omega⟩]; omega

theorem gcdsup_any (a b : Int) (w : World) (h1 : -9223372036854775808 ≤ a) (h2 : a ≤ 9223372036854775807) (h3 : -9223372036854775808 ≤ b) (h4 : b ≤ 9223372036854775807) :
    Calls Try.prog 48 #[.int .i64 a, .int .i64 b] w fun e w' => e = .returned (.int .i64 (wrap64 (Int.gcd a b : Int))) ∧ ∃ n, w' = w.drewN n := by
  go_enter Try.func48, Try.ntmps48
  go_wp2
  go_loopw [0, 1] (fun x y wr => ∃ c d : Int, x = .int .i64 c ∧ y = .int .i64 d ∧ -9223372036854775808 ≤ c ∧ c ≤ 9223372036854775807 ∧ -9223372036854775808 ≤ d ∧ d ≤ 9223372036854775807 ∧ Int.gcd c d = Int.gcd a b ∧ ∃ n, wr = w.drewN n) (fun _ y _ => (intOf y).natAbs)
  case atStart => exact ⟨a, b, rfl, rfl, h1, h2, h3, h4, rfl, 0, rfl⟩
  case round =>
    obtain ⟨c, d, rfl, rfl, k1, k2, k3, k4, hg, n, rfl⟩ := hrel
    have HG := Lib.hid hg
    clear hg
    by_cases hd : d = 0
    · subst hd
      go_wp2
      all_goals go_ret
      · have h : c < wrap64 (-c) := by assumption
        exact ⟨ret_int (show wrap64 (-c) = _ from by rw [max_lt c k1 k2 h, ← HG.out]; simp), _, rfl⟩
      · have h : ¬ c < wrap64 (-c) := by first | assumption | (have h : wrap64 (-c) ≤ c := by assumption); omega
        exact ⟨ret_int (show c = _ from by rw [← HG.out]; simpa using max_ge c k1 k2 h), _, rfl⟩
    · have ht := tmod_in c d k3 k4 hd
      have hl := tmod_lt c d hd
      go_wp2
      go_quiet (fail)
      go_wp2
      go_roundw
      case rel => exact ⟨d, c.tmod d, rfl, rfl, k3, k4, ht.1, ht.2, (gcd_tmod c d).trans HG.out, _, World.drewN_drewN _ _ _⟩
      case measure => exact hl

theorem divisor_fuel (k : Nat) : ∀ (a b : Int) (w : World), b.natAbs ≤ k → -9223372036854775808 ≤ a → a ≤ 9223372036854775807 → -9223372036854775808 ≤ b → b ≤ 9223372036854775807 →
    Calls Try.prog 66 #[.int .i64 a, .int .i64 b] w fun e w' => e = .returned (.int .i64 (wrap64 (Int.gcd a b : Int))) ∧ w = w' := by
  induction k with
  | zero =>
    intro a b w hk h1 h2 h3 h4
    have hb : b = 0 := by omega
    subst hb
    go_enter Try.func66, Try.ntmps66
    go_wp2_with fail
    all_goals go_ret
    · have h : a < wrap64 (-a) := by assumption
      exact ⟨ret_int (show wrap64 (-a) = _ from by simpa using max_lt a h1 h2 h), rfl⟩
    · have h : ¬ a < wrap64 (-a) := by first | assumption | (have h : wrap64 (-a) ≤ a := by assumption); omega
      exact ⟨ret_int (show a = _ from by simpa using max_ge a h1 h2 h), rfl⟩
  | succ k ih =>
    intro a b w hk h1 h2 h3 h4
    by_cases hb : b = 0
    · subst hb
      go_enter Try.func66, Try.ntmps66
      go_wp2_with fail
      all_goals go_ret
      · have h : a < wrap64 (-a) := by assumption
        exact ⟨ret_int (show wrap64 (-a) = _ from by simpa using max_lt a h1 h2 h), rfl⟩
      · have h : ¬ a < wrap64 (-a) := by first | assumption | (have h : wrap64 (-a) ≤ a := by assumption); omega
        exact ⟨ret_int (show a = _ from by simpa using max_ge a h1 h2 h), rfl⟩
    · have ht := tmod_in a b h3 h4 hb
      have hl := tmod_lt a b hb
      have IH := Lib.hid ih
      clear ih
      go_enter Try.func66, Try.ntmps66
      go_wp2_with fail
      refine (IH.out b (a.tmod b) _ (by omega) h3 h4 ht.1 ht.2).mono ?_
      rintro e w' ⟨rfl, rfl⟩
      go_wp2_with fail
      go_ret
      exact ⟨ret_int (show wrap64 _ = wrap64 _ from by rw [gcd_tmod]), rfl⟩

theorem divisor_any (a b : Int) (w : World) (h1 : -9223372036854775808 ≤ a) (h2 : a ≤ 9223372036854775807) (h3 : -9223372036854775808 ≤ b) (h4 : b ≤ 9223372036854775807) :
    Calls Try.prog 66 #[.int .i64 a, .int .i64 b] w fun e w' => e = .returned (.int .i64 (wrap64 (Int.gcd a b : Int))) ∧ w = w' :=
  divisor_fuel _ a b w (Nat.le_refl _) h1 h2 h3 h4

/-- Whether a number lies between two others. -/
def withinB (n lo hi : Int) : Bool := decide (lo ≤ n) && decide (n ≤ hi)
theorem withinB_iff (n lo hi : Int) : withinB n lo hi = true ↔ lo ≤ n ∧ n ≤ hi := by simp [withinB]

theorem withinref_any (n lo hi : Int) (w : World) :
    Calls Try.prog 31 #[.int .i64 n, .int .i64 lo, .int .i64 hi] w fun e w' => e = .returned (.bool (withinB n lo hi)) ∧ w = w' := by
  by_cases h1 : lo ≤ n
  · go_enter Try.func31, Try.ntmps31
    go_wp2
    go_ret
    exact ⟨by simp [withinB, h1], rfl⟩
  · go_enter Try.func31, Try.ntmps31
    go_wp2
    go_ret
    exact ⟨by simp [withinB]; omega, rfl⟩

theorem withinsup_any (n lo hi : Int) (w : World) :
    Calls Try.prog 28 #[.int .i64 n, .int .i64 lo, .int .i64 hi] w fun e w' => e = .returned (.bool (withinB n lo hi)) ∧ w = w' := by
  by_cases h1 : lo ≤ n
  · go_enter Try.func28, Try.ntmps28
    go_wp2
    go_ret
    exact ⟨by simp [withinB, h1], rfl⟩
  · go_enter Try.func28, Try.ntmps28
    go_wp2
    go_ret
    exact ⟨by simp [withinB]; omega, rfl⟩

theorem between_any (n lo hi : Int) (w : World) :
    Calls Try.prog 76 #[.int .i64 n, .int .i64 lo, .int .i64 hi] w fun e w' => e = .returned (.bool (withinB n lo hi)) ∧ w = w' := by
  by_cases h1 : lo ≤ n
  · go_enter Try.func76, Try.ntmps76
    go_wp2
    go_ret
    exact ⟨by simp [withinB, h1], rfl⟩
  · go_enter Try.func76, Try.ntmps76
    go_wp2
    go_ret
    exact ⟨by simp [withinB]; omega, rfl⟩

theorem withinsup_is (n lo hi : Int) (t : Bool) (h : withinB n lo hi = t) (w : World) :
    Calls Try.prog 28 #[.int .i64 n, .int .i64 lo, .int .i64 hi] w fun e w' => e = .returned (.bool t) ∧ w = w' := h ▸ withinsup_any n lo hi w

theorem withinref_is (n lo hi : Int) (t : Bool) (h : withinB n lo hi = t) (w : World) :
    Calls Try.prog 31 #[.int .i64 n, .int .i64 lo, .int .i64 hi] w fun e w' => e = .returned (.bool t) ∧ w = w' := h ▸ withinref_any n lo hi w

end Go.Proofs.Ytfigbdhfmlhjdaa

end

section
/- Lemmas on memory, for copying out of the guide's pages of extra lemmas: slices that read as lists, blocks known whole, appends, frames, results. -/
namespace Go.Proofs.Ytfigbdhfmlhjdaa
open Go.RowKit Go.WideShapes Go.ChangeShapes

theorem add_lit (b o n : Nat) : Addr.add ⟨b, o, none⟩ n = ⟨b, o + n, none⟩ := Addr.add_lit b o n

/-- The slice value '.slice A n c' holds the cells xs (so many a piece as size says), in a block below B. -/
def Reads (w : World) (B size : Nat) (A : Option Addr) (n : Nat) (xs : List Value) : Prop :=
  xs.length = n * size ∧ (0 < n → ∃ b o, A = some ⟨b, o, none⟩ ∧ b < B ∧ ∀ j u, xs[j]? = some u → w.cell? ⟨b, o + j, none⟩ = some u)

section
variable {w w' : World} {B B' size n : Nat} {A : Option Addr} {xs : List Value}
theorem Reads.none_ : Reads w B size A 0 [] := ⟨by simp, fun h => absurd h (by omega)⟩
theorem Reads.at_ {k : Nat} (h : Reads w B 1 A n xs) (hk : k < n) : ∃ b o u, A = some ⟨b, o, none⟩ ∧ b < B ∧ xs[k]? = some u ∧ w.cell? ⟨b, o + k, none⟩ = some u := by
  obtain ⟨b, o, e, hb, hc⟩ := h.2 (by omega)
  have hl : k < xs.length := by have := h.1; omega
  exact ⟨b, o, xs[k], e, hb, List.getElem?_eq_getElem hl, hc k _ (List.getElem?_eq_getElem hl)⟩
theorem Reads.keep (h : Reads w B size A n xs) (hk : ∀ p : Addr, p.block < B → w'.cell? p = w.cell? p) : Reads w' B size A n xs :=
  ⟨h.1, fun hn => by
    obtain ⟨b, o, e, hb, hc⟩ := h.2 hn
    exact ⟨b, o, e, hb, fun j u hu => (hk _ hb).trans (hc j u hu)⟩⟩
theorem Reads.more (h : Reads w B size A n xs) (hB : B ≤ B') : Reads w B' size A n xs :=
  ⟨h.1, fun hn => by
    obtain ⟨b, o, e, hb, hc⟩ := h.2 hn
    exact ⟨b, o, e, by omega, hc⟩⟩
theorem Reads.below (h : Reads w B size A n xs) (hb : Below B w w') : Reads w' B size A n xs := h.keep fun _ hp => hb.cell hp
theorem Reads.belowLe (h : Reads w B size A n xs) (hb : Below B' w w') (hB : B ≤ B') : Reads w' B size A n xs := h.keep fun _ hp => hb.cell (by omega)
theorem Reads.drew (h : Reads w B size A n xs) : Reads w.drew B size A n xs := h
theorem Reads.drewN (h : Reads w B size A n xs) (k : Nat) : Reads (w.drewN k) B size A n xs := h
theorem Reads.alloc (h : Reads w B size A n xs) (hB : B ≤ w.heap.size) (o : Obj) : Reads (w.alloc o) B size A n xs := h.keep fun p hp => World.cell?_alloc_lt w o p (by omega)
theorem Reads.setCell (h : Reads w B size A n xs) {p : Addr} (hB : B ≤ p.block) (u : Value) : Reads (w.setCell p u) B size A n xs :=
  h.keep fun q hq => World.cell?_setCell_other w p q u (fun e => by subst e; omega)
theorem Reads.grown (h : Reads w B size A n xs) {row : Option Nat} (hg : w.grownBy w' row) (hB : B ≤ w.heap.size) (hr : ∀ g, row = some g → B ≤ g) : Reads w' B size A n xs :=
  h.keep fun p hp => World.cell?_of_block (hg.block p.block (by omega) (fun e => by have := hr _ e.symm; omega))
theorem Reads.cut (h : Reads w B size A n xs) {k cap : Nat} (hk : k ≤ n) (hc : n ≤ cap) :
    Reads w B size (if cap = k then A else A.map (·.add (k * size))) (n - k) (xs.drop (k * size)) := by
  refine ⟨by rw [List.length_drop, h.1, Nat.sub_mul], fun hn => ?_⟩
  obtain ⟨b, o, rfl, hb, hcell⟩ := h.2 (by omega)
  rw [if_neg (by omega)]
  refine ⟨b, o + k * size, by rw [Option.map_some, add_lit], hb, fun j u hu => ?_⟩
  rw [Nat.add_assoc]
  exact hcell _ u (by rw [← hu, List.getElem?_drop])
theorem Reads.take_ (h : Reads w B size A n xs) {k : Nat} (hk : k ≤ n) : Reads w B size A k (xs.take (k * size)) := by
  have hm : k * size ≤ n * size := Nat.mul_le_mul_right _ hk
  refine ⟨by rw [List.length_take, h.1]; omega, fun hn => ?_⟩
  obtain ⟨b, o, rfl, hb, hcell⟩ := h.2 (by omega)
  refine ⟨b, o, rfl, hb, fun j u hu => hcell j u ?_⟩
  rw [List.getElem?_take] at hu
  split at hu
  · exact hu
  · cases hu
/-- A cell that holds something is a plain place. -/
theorem plain_of_cell {a : Addr} {v : Value} (h : w.cell? a = some v) : a = ⟨a.block, a.off, none⟩ := by
  obtain ⟨b, o, sp⟩ := a
  cases sp with
  | none => rfl
  | some x =>
    unfold World.cell? at h
    simp only [Option.isSome_some, if_true] at h
    split at h <;> cases h
theorem Reads.of_adds {a : Addr} (hsz : 0 < size) (hl : xs.length = n * size) (hb : a.block < B) (hc : ∀ j u, xs[j]? = some u → w.cell? (a.add j) = some u) : Reads w B size (some a) n xs := by
  refine ⟨hl, fun hn => ?_⟩
  have h0 : 0 < xs.length := by rw [hl]; exact Nat.mul_pos hn hsz
  have hp := plain_of_cell (by simpa [Addr.add] using hc 0 _ (List.getElem?_eq_getElem h0))
  refine ⟨a.block, a.off, by rw [← hp], hb, fun j u hu => ?_⟩
  have := hc j u hu
  rw [hp, add_lit] at this
  exact this
end

def Blk (w : World) (g : Nat) (t : TypeId) (cs : Array Value) : Prop := w.heap[g]? = some (.cells cs t (0, 0))

section
variable {w w' : World} {g : Nat} {t : TypeId} {cs : Array Value}
theorem Blk.lt (h : Blk w g t cs) : g < w.heap.size := by
  rcases Nat.lt_or_ge g w.heap.size with hlt | hge
  · exact hlt
  · unfold Blk at h; rw [Array.getElem?_eq_none hge] at h; cases h
theorem Blk.cell (h : Blk w g t cs) (i : Nat) : w.cell? ⟨g, i, none⟩ = cs[i]? := cell_of_row w g i cs t (0, 0) h
theorem Blk.frozen (h : Blk w g t cs) (i : Nat) : w.frozen? ⟨g, i, none⟩ = false := by
  unfold Blk at h
  simp [World.frozen?, h]
theorem Blk.new (w : World) (t : TypeId) (cs : Array Value) : Blk (w.alloc (.cells cs t)) w.heap.size t cs := heap_alloc_new w _
theorem Blk.at_ (w : World) {g : Nat} (h : w.heap.size = g) (t : TypeId) (cs : Array Value) : Blk (w.alloc (.cells cs t)) g t cs := h ▸ Blk.new w t cs
theorem Blk.drew (h : Blk w g t cs) : Blk w.drew g t cs := h
theorem Blk.drewN (h : Blk w g t cs) (n : Nat) : Blk (w.drewN n) g t cs := h
theorem Blk.alloc (h : Blk w g t cs) (o : Obj) : Blk (w.alloc o) g t cs := (Below.heap_alloc w o g h.lt).trans h
theorem Blk.set_ (h : Blk w g t cs) (i : Nat) (u : Value) : Blk (w.setCell ⟨g, i, none⟩ u) g t (cs.setIfInBounds i u) := by
  unfold Blk at h ⊢
  simp [World.setCell, Array.getElem?_modify, h]
theorem Blk.far (h : Blk w g t cs) {p : Addr} (hp : g ≠ p.block) (u : Value) : Blk (w.setCell p u) g t cs := (Below.heap_setCell w p u g hp).trans h
theorem Blk.below {B : Nat} (h : Blk w g t cs) (hb : Below B w w') (hg : g < B) : Blk w' g t cs := (hb.block g hg).trans h
theorem Blk.grown {row : Option Nat} (h : Blk w g t cs) (hb : w.grownBy w' row) (hg : some g ≠ row) : Blk w' g t cs := (hb.block g h.lt hg).trans h
end

section
variable {P : Program} (w : World)

theorem run_append_of_nil (base : Nat) (t ty e : TypeId) (i : TypeInfo) (size : Nat) (ht : P.underlying t = some (.slice e)) (hi : P.info? e = some i)
    (v : Value) (n : Nat) (xs : List Value) (hown : w.ownsRow base e size v n xs) (c : Nat) : (Builtin.append_ #[t, t] ty #[v, .slice none 0 c]).run P w = .ok v w := by
  rcases hown.2 with ⟨rfl, rfl⟩ | ⟨g, cap, cur, rfl, _, _, hnc, _⟩
  · simp [Builtin.append_, run_underlying ht, sizeOf, typeInfo, hi, Builtin.lenOf, Builtin.firstCells]
  · simp [Builtin.append_, run_underlying ht, sizeOf, typeInfo, hi, Builtin.lenOf, Builtin.firstCells, hnc, storeCells]

theorem run_append_any (base : Nat) (t ty e : TypeId) (i : TypeInfo) (z : Value) (size bytes : Nat) (ht : P.underlying t = some (.slice e)) (hi : P.info? e = some i) (hz : i.zero = some z)
    (hsize : i.size = size) (hby : i.bytes = bytes) (hzs : z.cells.size = size) (hsz : 0 < size)
    (v : Value) (n : Nat) (xs : List Value) (hown : w.ownsRow base e size v n xs)
    (B : Nat) (A : Option Addr) (m c : Nat) (news : List Value) (hr : Reads w B size A m news) (h1 : ∀ u ∈ news, u.oneCell' = true)
    (h63 : n + m ≤ maxLen) (hbytes : (n + m) * bytes ≤ 140737488355328) (hbase : base ≤ w.heap.size) :
    ∃ v' w', (Builtin.append_ #[t, t] ty #[v, .slice A m c]).run P w = .ok v' w' ∧ w'.ownsRow base e size v' (n + m) (xs ++ news) ∧ w.grownBy w' v.ownBlock ∧
      (v'.ownBlock = v.ownBlock ∨ v'.ownBlock = some w.heap.size) := by
  rcases A with _ | ad
  · have hm : m = 0 := by
      rcases Nat.eq_zero_or_pos m with h0 | h0
      · exact h0
      · obtain ⟨_, _, h, _⟩ := hr.2 h0
        cases h
    subst hm
    have hn : news = [] := List.eq_nil_of_length_eq_zero (by simpa using hr.1)
    subst hn
    exact ⟨v, w, run_append_of_nil w base t ty e i size ht hi v n xs hown c, by simpa using hown, World.grownBy.refl w _, .inl rfl⟩
  · have hcells : ∀ j u, news[j]? = some u → w.cell? (ad.add j) = some u := by
      intro j u hu
      rcases Nat.eq_zero_or_pos m with h0 | h0
      · subst h0
        have hn : news = [] := List.eq_nil_of_length_eq_zero (by simpa using hr.1)
        subst hn
        simp at hu
      · obtain ⟨b', o', h, _, hc⟩ := hr.2 h0
        injection h with h
        subst h
        rw [add_lit]
        exact hc j u hu
    obtain ⟨v', w', hrun, h2, h3, _, h5⟩ := run_append_own_at (P := P) w base t ty e i z size bytes ht hi hz hsize hby hzs hsz v n xs hown ad m c news hr.1 hcells h1 h63 hbytes hbase
    exact ⟨v', w', hrun, h2, h3, h5⟩

end

theorem below_drewN {B : Nat} {a w : World} (h : Below B a w) (n : Nat) : Below B a (w.drewN n) := ⟨h.os, h.tape, h.output, h.size, h.block⟩
theorem only_drewN {a w : World} {row : Option Nat} (h : a.grownBy w row) (n : Nat) : a.grownBy (w.drewN n) row := ⟨h.os, h.tape, h.output, h.size, h.block⟩
theorem only_alloc {a w : World} {row : Option Nat} (h : a.grownBy w row) (o : Obj) : a.grownBy (w.alloc o) row :=
  ⟨h.os, h.tape, h.output, Nat.le_trans h.size (by simp), fun i hi hne => (Below.heap_alloc w o i (Nat.lt_of_lt_of_le hi h.size)).trans (h.block i hi hne)⟩
theorem only_setCell {a w : World} {g : Nat} (h : a.grownBy w (some g)) {p : Addr} (hp : p.block = g ∨ a.heap.size ≤ p.block) (u : Value) : a.grownBy (w.setCell p u) (some g) :=
  ⟨h.os, h.tape, h.output, by simpa [World.setCell] using h.size, fun i hi hne => (Below.heap_setCell w p u i (by
    rintro rfl
    rcases hp with hp | hp
    · exact hne (by rw [hp])
    · omega)).trans (h.block i hi hne)⟩
theorem only_of_below {a w : World} (h : Below a.heap.size a w) (row : Option Nat) : a.grownBy w row := ⟨h.os, h.tape, h.output, h.size, fun i hi _ => h.block i hi⟩

section
variable {H : Type} {enc : TypeId × Value → H} {P : Program}
theorem post_of_below {f : Func} {s : ChangeSpec} {apart fresh handsOn again : Bool} {W W' : World} {args : Array Value} {v : Value} {ds gs : List (DataW H)} {before pa pv : List MemPlace}
    (hW : DataW.Whole enc P f.params.toList s.vars apart W args.toList ds gs before)
    (hres : ∀ (b : Nat) (sp : Nat → Bool) (hd : Bool), DataW.TrodAll enc P W' b sp hd f.resultTypes.toList (v.resultList f.resultTypes.size) (s.fn H (ds ++ gs)).results [])
    (hargs : ∀ sp : Nat → Bool, (∀ p ∈ before, sp p.block = true) → DataW.TrodAll enc P W' 0 sp true f.params.toList args.toList (s.fn H (ds ++ gs)).args pa)
    (hvars : ∀ sp : Nat → Bool, (∀ p ∈ before, sp p.block = true) → DataW.TrodVars enc P W' sp s.vars (s.fn H (ds ++ gs)).vars pv)
    (hps : before = pa ++ pv) (hb : Below W.heap.size W W')
    (hok : ∀ (j : Nat) (t : TypeId) (r : Value), f.resultTypes[j]? = some t → (v.resultList f.resultTypes.size)[j]? = some r → Value.okWide P W' .any 0 t r) :
    s.post enc P f apart fresh handsOn again W args v W' := by
  have hlt : ∀ p ∈ before, p.block < W.heap.size := fun p hp => hW.lt p hp
  have hold : ∀ p ∈ before, (fun b => decide (b < W.heap.size)) p.block = true := fun p hp => by simpa using hlt p hp
  refine ⟨ds, gs, before, [], pa, pv, hW, hres _ _ _, hargs _ hold, hvars _ hold, World.keptBut_mono (fun p hp => ⟨hp, ?_⟩) (hb.frame (· ∈ before)), fun _ => ?_⟩
  · rw [hps, List.mem_append] at hp
    exact Or.inr hp
  · obtain ⟨_, _, _, _, _, hz, hn⟩ := hW
    refine ⟨hok, _, _, ([] ++ pa) ++ pv, ⟨[] ++ pa, pv, trodAll_append (hargs _ (fun _ _ => rfl)) (hres _ _ _), hvars _ (fun _ _ => rfl), rfl, ?_, ?_⟩, ?_⟩
    · intro b off hp
      have hin : MemPlace.cell b off ∈ before := by rw [hps]; simpa using hp
      rw [hb.frozen (hlt _ hin)]
      exact hz b off hin
    · intro ha
      have := hn ha
      rw [hps] at this
      simpa using this
    · intro p hp _
      rw [hps]
      simpa using hp
end

theorem run_make_rowN {P : Program} (t e : TypeId) (i : TypeInfo) (z : Value) (ht : P.underlying t = some (.slice e)) (hi : P.info? e = some i) (hz : i.zero = some z)
    (kl kc : IntKind) (n c : Nat) (hnc : n ≤ c) (hbytes : i.bytes * c ≤ 281474976710656) (h63 : c ≤ 9223372036854775807) (w : World) :
    (Instr.makeSlice t (.int kl (n : Int)) (.int kc (c : Int))).run P w = .ok (.slice (some ⟨w.heap.size, 0, none⟩) n c) (w.alloc (.cells (madeCells z.cells (c * i.size)) e)) := by
  have hb : (i.bytes : Int) * (c : Int) ≤ 281474976710656 := by
    have h : ((i.bytes * c : Nat) : Int) ≤ 281474976710656 := by omega
    rwa [Int.natCast_mul] at h
  have hr := run_make (P := P) w t e i z ht hi hz kl kc n c (by omega) (by omega) hb (by omega)
  simp only [Int.toNat_natCast] at hr
  exact hr
end Go.Proofs.Ytfigbdhfmlhjdaa

end

section
/- Contracts of the functions that tell which texts are names. -/
namespace Go.Proofs.Ytfigbdhfmlhjdaa
open Go.RowKit

def letterB (c : Nat) : Bool := decide (97 ≤ c ∧ c ≤ 122 ∨ 65 ≤ c ∧ c ≤ 90)
def restB (c : Nat) : Bool := letterB c || decide (c = 45 ∨ 48 ≤ c ∧ c ≤ 57)
def byteAt (s : ByteArray) (j : Nat) : Nat := (s.data.toList.getD j 0).toNat
def okAt (s : ByteArray) (j : Nat) : Bool := if j = 0 then letterB (byteAt s j) else restB (byteAt s j)
/-- Whether a text is a name. -/
def nameB (s : ByteArray) : Bool := (List.range s.size).all (okAt s) && decide (s.size ≠ 0) && decide (s.size ≤ 12)

theorem byteAt_get (s : ByteArray) (j : Nat) (h : j < s.size) : byteAt s j = (s[j]).toNat := by
  have h' : j < s.data.size := h
  unfold byteAt
  simp only [List.getD_eq_getElem?_getD, Array.getElem?_toList, h', Array.getElem?_eq_getElem, Option.getD_some]
  rfl

theorem ret_bool {a b : Bool} (h : a = b) : Ending.returned (.bool a) = .returned (.bool b) := by rw [h]

theorem name_bad {s : ByteArray} {k : Nat} (h : k < s.size) (ho : okAt s k = false) : nameB s = false := by
  have : (List.range s.size).all (okAt s) = false := List.all_eq_false.2 ⟨k, List.mem_range.2 h, by rw [ho]; simp⟩
  unfold nameB
  rw [this]; rfl

theorem name_step {s : ByteArray} {k : Nat} (ha : (List.range k).all (okAt s) = true) (ho : okAt s k = true) : (List.range (k + 1)).all (okAt s) = true := by
  rw [List.range_succ, List.all_append, ha]
  simp [ho]

theorem empty_iff (s : ByteArray) : s.toList = [] ↔ s.size = 0 := by
  rw [ByteArray.toList_eq]
  constructor
  · intro h
    have := congrArg List.length h
    simpa using this
  · intro h
    apply List.eq_nil_of_length_eq_zero
    simpa using h

theorem name_end (s : ByteArray) (ha : (List.range s.size).all (okAt s) = true) : nameB s = (!s.toList.isEmpty && decide ((s.size : Int) ≤ 12)) := by
  have e : s.toList.isEmpty = decide (s.size = 0) := by
    rw [Bool.eq_iff_iff, List.isEmpty_iff, decide_eq_true_iff]; exact empty_iff s
  unfold nameB
  rw [ha, e]
  by_cases h : s.size = 0
  · simp [h]
  · simp [h]; omega

set_option maxHeartbeats 4000000 in
theorem isname_any (s : ByteArray) (w : World) (hs : s.size ≤ maxLen) :
    Calls Try.prog 75 #[.string s] w fun e w' => e = .returned (.bool (nameB s)) ∧ w = w' := by
  unfold maxLen at hs
  go_enter Try.func75, Try.ntmps75
  go_wp2
  go_loop [7] (fun i => ∃ k : Nat, k ≤ s.size ∧ i = .int .i64 k ∧ (List.range k).all (okAt s) = true) (fun i => s.size - (intOf i).toNat)
  case atStart => exact ⟨0, Nat.zero_le _, rfl, rfl⟩
  case round =>
    obtain ⟨k, hk, rfl, ha⟩ := hrel
    have HA := Lib.hid ha
    clear ha
    by_cases hlt : k < s.size
    · have hb := byteAt_get s k hlt
      have HB := Lib.hid hb
      clear hb
      have hcs : (((97 : Int) ≤ ((s[k]).toNat : Int) ∧ ((s[k]).toNat : Int) ≤ 122) ∨ (¬ (97 : Int) ≤ ((s[k]).toNat : Int) ∧ (65 : Int) ≤ ((s[k]).toNat : Int) ∧ ((s[k]).toNat : Int) ≤ 90) ∨ (¬ (97 : Int) ≤ ((s[k]).toNat : Int) ∧ ¬ (65 : Int) ≤ ((s[k]).toNat : Int) ∧ ¬ k = 0 ∧ ((s[k]).toNat : Int) = 45) ∨ (¬ (97 : Int) ≤ ((s[k]).toNat : Int) ∧ ¬ (65 : Int) ≤ ((s[k]).toNat : Int) ∧ ¬ k = 0 ∧ ¬ ((s[k]).toNat : Int) = 45 ∧ ¬ ((s[k]).toNat : Int) < 48 ∧ ¬ 57 < ((s[k]).toNat : Int))) ∨ (((97 : Int) ≤ ((s[k]).toNat : Int) ∧ ¬ ((s[k]).toNat : Int) ≤ 122 ∧ (65 : Int) ≤ ((s[k]).toNat : Int) ∧ ¬ ((s[k]).toNat : Int) ≤ 90 ∧ k = 0) ∨ (¬ (97 : Int) ≤ ((s[k]).toNat : Int) ∧ ¬ (65 : Int) ≤ ((s[k]).toNat : Int) ∧ k = 0) ∨ (¬ (97 : Int) ≤ ((s[k]).toNat : Int) ∧ (65 : Int) ≤ ((s[k]).toNat : Int) ∧ ¬ ((s[k]).toNat : Int) ≤ 90 ∧ k = 0) ∨ ((97 : Int) ≤ ((s[k]).toNat : Int) ∧ ¬ ((s[k]).toNat : Int) ≤ 122 ∧ (65 : Int) ≤ ((s[k]).toNat : Int) ∧ ¬ ((s[k]).toNat : Int) ≤ 90 ∧ ¬ k = 0 ∧ ¬ ((s[k]).toNat : Int) = 45 ∧ ¬ ((s[k]).toNat : Int) < 48 ∧ 57 < ((s[k]).toNat : Int)) ∨ (¬ (97 : Int) ≤ ((s[k]).toNat : Int) ∧ (65 : Int) ≤ ((s[k]).toNat : Int) ∧ ¬ ((s[k]).toNat : Int) ≤ 90 ∧ ¬ k = 0 ∧ ¬ ((s[k]).toNat : Int) = 45 ∧ ¬ ((s[k]).toNat : Int) < 48 ∧ 57 < ((s[k]).toNat : Int)) ∨ (¬ (97 : Int) ≤ ((s[k]).toNat : Int) ∧ ¬ (65 : Int) ≤ ((s[k]).toNat : Int) ∧ ¬ k = 0 ∧ ¬ ((s[k]).toNat : Int) = 45 ∧ ((s[k]).toNat : Int) < 48) ∨ (¬ (97 : Int) ≤ ((s[k]).toNat : Int) ∧ ¬ (65 : Int) ≤ ((s[k]).toNat : Int) ∧ ¬ k = 0 ∧ ¬ ((s[k]).toNat : Int) = 45 ∧ ¬ ((s[k]).toNat : Int) < 48 ∧ 57 < ((s[k]).toNat : Int))) := by omega
      rcases hcs with hcs | hcs
      · have HX := Lib.hid (show okAt s k = true from by unfold okAt letterB restB letterB; rw [HB.out]; split <;> simp <;> omega)
        rcases hcs with ⟨h0, h1⟩ | ⟨h0, h1, h2⟩ | ⟨h0, h1, h2, h3⟩ | ⟨h0, h1, h2, h3, h4, h5⟩
        all_goals
          go_wp2
          go_round
          case rel => exact ⟨k + 1, by omega, by go_num, name_step HA.out HX.out⟩
          case measure => simp [intOf]; omega
      · have HX := Lib.hid (name_bad hlt (show okAt s k = false from by unfold okAt letterB restB letterB; rw [HB.out]; split <;> simp <;> omega))
        rcases hcs with ⟨h0, h1, h2, h3, h4⟩ | ⟨h0, h1, h2⟩ | ⟨h0, h1, h2, h3⟩ | ⟨h0, h1, h2, h3, h4, h5, h6, h7⟩ | ⟨h0, h1, h2, h3, h4, h5, h6⟩ | ⟨h0, h1, h2, h3, h4⟩ | ⟨h0, h1, h2, h3, h4, h5⟩
        all_goals
          try subst_vars
          try have e45 : (((s[k]).toNat : Int) != 45) = true := bne_iff_ne.2 (by assumption)
          go_wp2
          go_ret
          exact ⟨ret_bool HX.out.symm, rfl⟩
    · have hkn : k = s.size := by omega
      have HE := Lib.hid (name_end s (hkn ▸ HA.out))
      clear hkn
      go_wp2
      all_goals go_ret
      · have hn : s.toList = [] := by assumption
        exact ⟨ret_bool (by rw [HE.out]; simp [hn]), rfl⟩
      · exact ⟨ret_bool HE.out.symm, rfl⟩

end Go.Proofs.Ytfigbdhfmlhjdaa

end

section
/- A map with strings as keys that the program has made, said as a function from strings to values. -/
namespace Go.Proofs.Ytfigbdhfmlhjdaa
open Go.RowKit Go.Maps Go.WideShapes Go.MapKept

/-- A value read as itself. -/
def heldR (v : Value) : Option (DataW Value × List MemPlace) := some (.held v, [])
def keyS (s : ByteArray) : Lit := .string s.data.toList

theorem keyS_inj {s t : ByteArray} (h : keyS s = keyS t) : s = t := by
  unfold keyS at h
  injection h with h
  cases s; cases t; congr; exact Array.toList_inj.1 h

/-- Block b is a map of at most n entries, with M's values at M's keys. -/
def MapIs (P : Program) (k : TypeId) (w : World) (b n : Nat) (M : ByteArray → Option Value) : Prop :=
  ∃ D : DataW Value, w.ownsMap P k heldR b n D ∧ ∀ s, match M s with
    | none => Maps.has D (keyS s) = false
    | some v => Maps.has D (keyS s) = true ∧ ∀ z, D.atKey (keyS s) z = .held v

section
variable {P : Program} {k t e : TypeId} {w w' : World} {b n : Nat} {M : ByteArray → Option Value}

theorem MapIs.made (w : World) (P : Program) (k : TypeId) : MapIs P k (w.alloc (.map #[] 0)) w.heap.size 0 (fun _ => none) :=
  ⟨.map [], World.ownsMap_made w P k heldR, fun s => rfl⟩
theorem MapIs.made_ {W : World} {g : Nat} (h : W.heap.size = g) (P : Program) (k : TypeId) : MapIs P k (W.alloc (.map #[] 0)) g 0 (fun _ => none) := h ▸ MapIs.made W P k
theorem MapIs.lt (h : MapIs P k w b n M) : b < w.heap.size := by obtain ⟨D, h, _⟩ := h; exact h.lt
theorem MapIs.mono (h : MapIs P k w b n M) {n' : Nat} (hn : n ≤ n') : MapIs P k w b n' M := by obtain ⟨D, h, hm⟩ := h; exact ⟨D, h.mono hn, hm⟩
theorem MapIs.kept {row : Option Nat} (h : MapIs P k w b n M) (hg : w.grownBy w' row) (hne : some b ≠ row) : MapIs P k w' b n M := by obtain ⟨D, h, hm⟩ := h; exact ⟨D, h.kept hg hne, hm⟩
theorem MapIs.alloc (h : MapIs P k w b n M) (o : Obj) : MapIs P k (w.alloc o) b n M := by obtain ⟨D, h, hm⟩ := h; exact ⟨D, h.alloc o, hm⟩
theorem MapIs.drew (h : MapIs P k w b n M) : MapIs P k w.drew b n M := h
theorem MapIs.drewN (h : MapIs P k w b n M) (m : Nat) : MapIs P k (w.drewN m) b n M := h
theorem MapIs.below {B : Nat} (h : MapIs P k w b n M) (hb : Below B w w') (hB : b < B) : MapIs P k w' b n M := by
  obtain ⟨D, ⟨es, clock, h1, h2⟩, hm⟩ := h
  exact ⟨D, ⟨es, clock, (hb.block b hB).trans h1, h2⟩, hm⟩
theorem MapIs.set_ (h : MapIs P k w b n M) {a : Addr} (ha : b ≠ a.block) (u : Value) : MapIs P k (w.setCell a u) b n M := by
  obtain ⟨D, h, hm⟩ := h; exact ⟨D, h.setCell ha u, hm⟩
theorem MapIs.ne_blk (h : MapIs P k w b n M) {g : Nat} {ty : TypeId} {cs : Array Value} (hg : Blk w g ty cs) : b ≠ g := by
  rintro rfl
  obtain ⟨D, ⟨es, clock, h1, _⟩, _⟩ := h
  unfold Blk at hg
  rw [hg] at h1
  injection h1 with h1
  cases h1
/-- 'v, ok := m[s]'. -/
theorem MapIs.look (h : MapIs P k w b n M) (hk : P.underlying k = some .string) (ht : P.underlying t = some (.map k e)) {z : Value} (hz : (zeroValue e).run P w = .ok z w) (s : ByteArray) (hs : s.size ≤ maxLen) :
    (Instr.lookup t (.map (some b)) (.string s) true).run P w = .ok (.tuple #[(M s).getD z, .bool (M s).isSome]) w := by
  obtain ⟨D, h, hm⟩ := h
  have hkey : keyOf P k (.string s) = some (keyS s) := WideMaps.keyOf_string_mk hk hs
  obtain ⟨v, ps, hrun, hv⟩ := h.look_ok (string_keyed hk) ht hz (zd := .held z) (zp := []) rfl hkey
  rw [hrun]
  have := hm s
  cases hM : M s with
  | none =>
    rw [hM] at this
    rw [this]
    rw [Maps.atKey_of_not_has this] at hv
    simp only [heldR, Option.some.injEq, Prod.mk.injEq, DataW.held.injEq] at hv
    rw [hv.1]; rfl
  | some u =>
    rw [hM] at this
    rw [this.1]
    rw [this.2] at hv
    simp only [heldR, Option.some.injEq, Prod.mk.injEq, DataW.held.injEq] at hv
    rw [hv.1]; rfl

/-- 'm[s]'. -/
theorem MapIs.get (h : MapIs P k w b n M) (hk : P.underlying k = some .string) (ht : P.underlying t = some (.map k e)) {z : Value} (hz : (zeroValue e).run P w = .ok z w) (s : ByteArray) (hs : s.size ≤ maxLen) :
    (Instr.lookup t (.map (some b)) (.string s) false).run P w = .ok ((M s).getD z) w := by
  obtain ⟨D, h, hm⟩ := h
  have hkey : keyOf P k (.string s) = some (keyS s) := WideMaps.keyOf_string_mk hk hs
  obtain ⟨v, ps, hrun, hv⟩ := h.lookup (string_keyed hk) ht hz (zd := .held z) (zp := []) rfl hkey
  rw [hrun]
  have := hm s
  cases hM : M s with
  | none =>
    rw [hM] at this
    rw [Maps.atKey_of_not_has this] at hv
    simp only [heldR, Option.some.injEq, Prod.mk.injEq, DataW.held.injEq] at hv
    rw [hv.1]; rfl
  | some u =>
    rw [hM] at this
    rw [this.2] at hv
    simp only [heldR, Option.some.injEq, Prod.mk.injEq, DataW.held.injEq] at hv
    rw [hv.1]; rfl

/-- 'm[s] = v'. -/
theorem MapIs.put (h : MapIs P k w b n M) (hk : P.underlying k = some .string) (ht : P.underlying t = some (.map k e)) (s : ByteArray) (hs : s.size ≤ maxLen) (hn : n < maxLen) (v : Value) :
    ∃ w', (Instr.mapUpdate t (.map (some b)) (.string s) v).run P w = .ok () w' ∧ MapIs P k w' b (n + 1) (fun u => if u = s then some v else M u) ∧ w.grownBy w' (some b) := by
  obtain ⟨D, h, hm⟩ := h
  have hkey : keyOf P k (.string s) = some (keyS s) := WideMaps.keyOf_string_mk hk hs
  obtain ⟨w', hrun, hown, hg⟩ := h.update (string_keyed hk) ht hn (val := v) (d := .held v) (ps := []) hkey rfl
  refine ⟨w', hrun, ⟨_, hown, fun u => ?_⟩, hg⟩
  have hmap : IsMap D := h.isMap
  have hlit : WideAt.IsKeyLit (keyS s) := by unfold keyS; trivial
  by_cases hu : u = s
  · subst hu
    simp only [if_true]
    exact ⟨has_put_same hmap hlit _, fun z => atKey_put_same hmap hlit _ z⟩
  · simp only [if_neg hu]
    have hne : keyS u ≠ keyS s := fun e => hu (keyS_inj e)
    have := hm u
    rw [has_put_other hne]
    cases hM : M u with
    | none => rw [hM] at this; exact this
    | some x => rw [hM] at this; exact ⟨this.1, fun z => by rw [atKey_put_other hne]; exact this.2 z⟩
end

section
variable {P : Program} {k t e : TypeId} {b n : Nat} {M : ByteArray → Option Value} {ops : Array Oper} {rest : List Oper} {o : Oper} {a : Act} {Q : Exit → Act → World → Prop}
theorem wpList_look (w : World) (hg : o.guard = none) (m x : Operand) (t : TypeId) (hop : o.op = Op.lookup t m x true) (hk : P.underlying k = some .string) (ht : P.underlying t = some (.map k e)) {z : Value} (hz : (zeroValue e).run P w = .ok z w)
    (hM : MapIs P k w b n M) (hm : a.eval m = .map (some b)) (s : ByteArray) (hx : a.eval x = .string s) (hs : s.size ≤ maxLen)
    (hK : wpList P ops Q rest (a.put o.dst (.tuple #[(M s).getD z, .bool (M s).isSome])) w) : wpList P ops Q (o :: rest) a w := by
  refine wpList_plain hg fun K' hK' => ?_
  have hrun := hM.look hk ht hz s hs
  unfold Oper.wp
  simp [execOp, hop, hm, hx, hrun, Result.andThen]
  exact hK' _ _ hK

theorem wpList_put (w : World) (hg : o.guard = none) (m x v : Operand) (t : TypeId) (hop : o.op = Op.mapUpdate t m x v) (hk : P.underlying k = some .string) (ht : P.underlying t = some (.map k e))
    (hM : MapIs P k w b n M) (hm : a.eval m = .map (some b)) (s : ByteArray) (hx : a.eval x = .string s) (hs : s.size ≤ maxLen) (hn : n < maxLen) (u : Value) (hv : a.eval v = u)
    (hK : ∀ w', MapIs P k w' b (n + 1) (fun y => if y = s then some u else M y) → w.grownBy w' (some b) → wpList P ops Q rest (a.put o.dst undef) w') : wpList P ops Q (o :: rest) a w := by
  refine wpList_plain hg fun K' hK' => ?_
  obtain ⟨w', hrun, h1, h2⟩ := hM.put hk ht s hs hn u
  unfold Oper.wp
  simp [execOp, hop, hm, hx, hv, hrun, Result.andThen]
  exact hK' _ _ (hK w' h1 h2)
end
end Go.Proofs.Ytfigbdhfmlhjdaa

end
