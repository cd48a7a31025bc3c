import Derived.Test.YtnepjgnnppfibaaQ7
import Derived.Test.YtnepjgnnppfibaaQ6

section
/- The contract of the reference's check of a tour. -/
namespace Go.Proofs.Ytnepjgnnppfibaa
open Go Go.RowKit

end Go.Proofs.Ytnepjgnnppfibaa

end

section
/- Contracts of the path of a choice and of its cost. -/
namespace Go.Proofs.Ytnepjgnnppfibaa
open Go Go.RowKit

theorem ints_at {l : List Int} {q : Nat} {u : Value} (hu : (l.map (Value.int .i64))[q]? = some u) : ∃ z, l[q]? = some z ∧ .int .i64 z = u := by
  rw [List.getElem?_map] at hu
  cases h : l[q]? with
  | none => rw [h] at hu; cases hu
  | some t => rw [h] at hu; exact ⟨t, rfl, Option.some.inj hu⟩
theorem Reads.int_ {w : World} {B n : Nat} {A : Option Addr} {l : List Int} (h : Reads w B 1 A n (l.map (.int .i64))) {i : Nat} (hi : i < n) : ∃ b o z, A = some ⟨b, o, none⟩ ∧ b < B ∧ l[i]? = some z ∧ w.cell? ⟨b, o + i, none⟩ = some (.int .i64 z) := by
  obtain ⟨b, o, u, hA, hb, hu, hc⟩ := h.at_ hi
  obtain ⟨z, hz, rfl⟩ := ints_at hu
  exact ⟨b, o, z, hA, hb, hz, hc⟩
theorem Reads.ilen {w : World} {B n : Nat} {A : Option Addr} {l : List Int} (h : Reads w B 1 A n (l.map (.int .i64))) : l.length = n := by have := h.1; simpa using this

def IdxYes (l : List Int) (z : Int) (w : World) (e : Ending) (w' : World) : Prop := (∃ i : Nat, e = .returned (.int .i64 i) ∧ l[i]? = some z) ∧ w = w'
/-- The position of a target by a turn. -/
def posK (m : Mnt) (day : Int) (t : Tgt) (k : Int) : Int := (appF m t day).1 + k * 1296000
def turnOk (m : Mnt) (day : Int) (t : Tgt) (k : Int) : Bool := decide (k ∈ turnsV m day t)
def pathL (m : Mnt) (day : Int) : List Tgt → List Int → List Int := List.zipWith (posK m day)
def pathOk (m : Mnt) (day : Int) (l : List Tgt) (ks : List Int) : Bool := (List.zipWith (turnOk m day) l ks).all id
/-- The error of a choice. -/
def pathErr (m : Mnt) (day : Int) (l : List Tgt) (ks : List Int) : Int := if ks.length ≠ l.length then 10 else if pathOk m day l ks = false then 6 else 0
def PathOk (P : List Int) (n : Nat) (w : World) (e : Ending) (w' : World) : Prop :=
  ∃ A c, e = .returned (.tuple #[.slice A n c, .int .i64 0]) ∧ Below w.heap.size w w' ∧ Reads w' w'.heap.size 1 A n (P.map (.int .i64))
def PathFit (E : Int) (P : List Int) (n : Nat) (w : World) (e : Ending) (w' : World) : Prop :=
  (E ≠ 0 → e = .returned (.tuple #[.slice none 0 0, .int .i64 E]) ∧ Below w.heap.size w w') ∧ (E = 0 → PathOk P n w e w')

end Go.Proofs.Ytnepjgnnppfibaa

end

section
/- The contract of the check of a choice. -/
namespace Go.Proofs.Ytnepjgnnppfibaa
open Go Go.RowKit

def costL (a : Int) : List Int → Int
  | [] => 0
  | z :: r => costF a z + costL z r
def lastI (a : Int) : List Int → Int
  | [] => a
  | z :: r => lastI z r
/-- The cost of a choice, and the error. -/
def choiceF (m : Mnt) (l : List Tgt) (day pos : Int) (ks : List Int) : Int × Int :=
  if pathErr m day l ks ≠ 0 then (0, pathErr m day l ks) else (costL pos (pathL m day l ks), 0)
end Go.Proofs.Ytnepjgnnppfibaa

end

section
/- Contracts of what the statements on tours begin with: the guard, and the check of a tour. -/
namespace Go.Proofs.Ytnepjgnnppfibaa
open Go Go.RowKit

end Go.Proofs.Ytnepjgnnppfibaa

end

section
/- The comparison of lists of numbers. -/
namespace Go.Proofs.Ytnepjgnnppfibaa
open Go Go.RowKit

theorem ints_eqd (A B : Option Addr) (ca cb n m : Nat) (xs ys : List Int) (t : Bool) (ht : decide (xs = ys) = t) (w : World) (N M : Nat) (hx : Reads w N 1 A n (xs.map (.int .i64))) (hy : Reads w M 1 B m (ys.map (.int .i64))) (h1 : n ≤ 9223372036854775807) (h2 : m ≤ 9223372036854775807) :
    Calls Try.prog 47 #[.slice A n ca, .slice B m cb] w fun e w' => e = .returned (.bool t) ∧ ∃ q, w' = w.drewN q := by
  have hl := hx.ilen
  have hl' := hy.ilen
  by_cases hnm : n = m
  rotate_left
  · have hb : ((n : Int) != (m : Int)) = true := by simpa using (show (n : Int) ≠ m by omega)
    have ht' : t = false := by rw [← ht]; exact decide_eq_false (by rintro rfl; omega)
    subst ht'
    clear hx hy ht hl hl'
    go_enter Try.func47, Try.ntmps47
    go_wp2
    go_ret
    exact ⟨rfl, 0, rfl⟩
  subst hnm
  have hb : ((n : Int) != (n : Int)) = false := by simp
  have HX := Lib.hid hx
  have HY := Lib.hid hy
  have HL := Lib.hid (And.intro hl hl')
  have HT := Lib.hid ht
  clear hx hy hl hl' ht
  go_enter Try.func47, Try.ntmps47
  go_wp2
  go_loopw [5] (fun i wr => ∃ k : Nat, k ≤ n ∧ i = .int .i64 k ∧ (∃ q, wr = w.drewN q) ∧ xs.take k = ys.take k) (fun i _ => n - (intOf i).toNat)
  case atStart => exact ⟨0, by omega, rfl, ⟨0, rfl⟩, rfl⟩
  case round =>
    obtain ⟨k, hk, rfl, ⟨q, rfl⟩, hpre⟩ := hrel
    have HP := Lib.hid hpre
    clear hpre
    by_cases hlt : k < n
    · obtain ⟨xb, xo, p, rfl, _, hp, c0⟩ := HX.out.int_ hlt
      obtain ⟨yb, yo, r, rfl, _, hr, d0⟩ := HY.out.int_ hlt
      have HPX := Lib.hid hp
      have HPY := Lib.hid hr
      clear hp hr
      by_cases hpr : p = r
      · subst hpr
        have hq : (p != p) = false := by simp
        go_wp2
        go_quiet (fail)
        go_wp2
        go_roundw
        case rel => exact ⟨k + 1, by omega, by go_num, ⟨_, rfl⟩, by rw [List.take_add_one, List.take_add_one, HP.out, HPX.out, HPY.out]⟩
        case measure => simp [intOf]; omega
      · have hq : (p != r) = true := by simpa using hpr
        have ht' : t = false := by
          rw [← HT.out]
          refine decide_eq_false fun e => hpr ?_
          have h1 := HPX.out
          rw [e, HPY.out] at h1
          exact (Option.some.inj h1).symm
        subst ht'
        go_wp2
        go_quiet (fail)
        go_wp2
        go_ret
        exact ⟨rfl, _, World.drewN_drewN _ _ _⟩
    · have ht' : t = true := by
        rw [← HT.out]
        refine decide_eq_true ?_
        have := HP.out
        rwa [List.take_of_length_le (by have := HL.out; omega), List.take_of_length_le (by have := HL.out; omega)] at this
      subst ht'
      go_wp2
      go_ret
      exact ⟨rfl, _, rfl⟩
end Go.Proofs.Ytnepjgnnppfibaa

end

section
/- Contracts of the reference's functions on choices: whether a list has a number, positions, costs, the check of a choice. -/
namespace Go.Proofs.Ytnepjgnnppfibaa
open Go Go.RowKit



end Go.Proofs.Ytnepjgnnppfibaa

end

section
/- The plain law of the minutes of a choice. -/
namespace Go.Proofs.Ytnepjgnnppfibaa
open Go Go.RowKit

/-- When a target begins: from the minute and the position before it. -/
def ceilQ (n s : Int) : Int := -((-n) / s)
def begT (sp : Int) (s : Int × Int) (p : Tgt × Int) : Int := if s.1 + ceilQ (wayF s.2 p.2) sp < p.1.fr then p.1.fr else s.1 + ceilQ (wayF s.2 p.2) sp
def stepT (sp : Int) (s : Int × Int) (p : Tgt × Int) : Int × Int := (begT sp s p + p.1.dw, p.2)
def stT (sp : Int) (s0 : Int × Int) (Z : List (Tgt × Int)) (k : Nat) : Int × Int := (Z.take k).foldl (stepT sp) s0
def begL (sp : Int) (s0 : Int × Int) (Z : List (Tgt × Int)) (k : Nat) : List Int := (List.range k).map fun j => match Z[j]? with
  | some p => begT sp (stT sp s0 Z j) p
  | none => 0
def lateE (sp : Int) (s0 : Int × Int) (Z : List (Tgt × Int)) (j : Nat) (p : Tgt × Int) : Int := if p.1.to < (stepT sp (stT sp s0 Z j) p).1 then 18 else 0
/-- The minutes, the number of the first late target, the error. -/
def timesQ (sp : Int) (s0 : Int × Int) (Z : List (Tgt × Int)) : (List Int × Int) × Int :=
  if (firstStep (lateE sp s0 Z) 0 Z).2 ≠ 0 then (([], (firstStep (lateE sp s0 Z) 0 Z).1), (firstStep (lateE sp s0 Z) 0 Z).2) else ((begL sp s0 Z Z.length, 0), 0)
end Go.Proofs.Ytnepjgnnppfibaa

end

section
/- The contract of the minutes of a choice. -/
namespace Go.Proofs.Ytnepjgnnppfibaa
open Go Go.RowKit

/-- 'out = append(out, z)': the literal and the append. -/
theorem snocint_run (B : Nat) (v : Value) (k : Nat) (xs : List Value) (z : Int) (w : World) (ho : w.ownsRow B 3 1 v k xs) (hB : B ≤ w.heap.size) (hk : k ≤ 100000) :
    ∃ v' W2, (Builtin.append_ #[22, 22] 22 #[v, .slice (some ⟨w.heap.size, 0, none⟩) 1 1]).run Try.prog (w.alloc (.cells #[.int .i64 z] 3)) = .ok v' W2 ∧ W2.ownsRow B 3 1 v' (k + 1) (xs ++ [.int .i64 z]) ∧ Below B w W2 := by
  obtain ⟨i0, hi0, hz0, hz1, hz2⟩ := info_parts info_ints1
  have hbW : Below B w (w.alloc (.cells #[.int .i64 z] 3)) := (Below.refl _ _).alloc hB _
  obtain ⟨v', W2, hrun, o2', hg2, -⟩ := run_append_any (P := Try.prog) (w.alloc (.cells #[.int .i64 z] 3)) B 22 22 3 i0 _ 1 8 Try.underlying22 hi0 hz0 hz1 hz2 rfl (by omega) v k _ (ho.alloc _) (w.alloc (.cells #[.int .i64 z] 3)).heap.size (some ⟨w.heap.size, 0, none⟩) 1 1 [.int .i64 z] (Blk.reads (Blk.new _ _ _) rfl) (by simp [Value.oneCell']) (by unfold maxLen; omega) (by omega) (Nat.le_trans hB hbW.size)
  exact ⟨v', W2, hrun, o2', hbW.grown hg2 (Nat.le_trans hB hbW.size) (fun g hg => (own_lt ho hg).1)⟩

def TimesPost (L : List Int) (i E : Int) (q : Nat) (w : World) (e : Ending) (w' : World) : Prop :=
  ∃ A c, e = .returned (.tuple #[.slice A q c, .int .i64 i, .int .i64 E]) ∧ Below w.heap.size w w' ∧ Reads w' w'.heap.size 1 A q (L.map (.int .i64))
/-- The targets with the positions of a choice. -/
def tgtPos (m : Mnt) (day : Int) (l : List Tgt) (ks : List Int) : List (Tgt × Int) := l.zip (pathL m day l ks)
end Go.Proofs.Ytnepjgnnppfibaa

end
