import Derived.Test.YtkfecbkcghmmhaaQ22
import Derived.Test.YtkfecbkcghmmhaaQ2
import Derived.Test.YtkfecbkcghmmhaaQ4
import Derived.Test.YtkfecbkcghmmhaaQ6
import Derived.Deep.CutBlock
import Derived.Test.YtkfecbkcghmmhaaQ5
import Derived.Test.YtkfecbkcghmmhaaQ3
import Derived.Laws.OwnMore

section
/- Plain law of readings: the table of least lengths; with less errors it is nowhere more. -/
namespace Go.Proofs.Ytkfecbkcghmmhaa

/-- More than any length: there is no way. -/
def farT : Int := 1099511627776
def tab0 : Nat → Nat → Int := fun i j => if i = j then 0 else farT
def mnT (a b : Int) : Int := if b < a then b else a
/-- An arc in the table. -/
def putT (T : Nat → Nat → Int) (a : Arc) : Nat → Nat → Int := fun i j => if i = a.1 ∧ j = a.2.1 then mnT (T i j) a.2.2 else T i j
/-- All ways over zone k. -/
def stgT (T : Nat → Nat → Int) (k : Nat) : Nat → Nat → Int := fun i j => if T i k < farT ∧ T k j < farT then mnT (T i j) (T i k + T k j) else T i j
def stgs (T : Nat → Nat → Int) : Nat → Nat → Nat → Int
  | 0 => T
  | k + 1 => stgT (stgs T k) k
def arcsT (ars : List Arc) : Nat → Nat → Int := ars.foldl putT tab0
def tabT (n : Nat) (ars : List Arc) : Nat → Nat → Int := stgs (arcsT ars) n
/-- A table of ways that heights keep. -/
structure TabOk (p : Nat → Int) (B : Int) (T : Nat → Nat → Int) : Prop where
  diag : ∀ i, T i i = 0
  ent : ∀ i j, T i j = farT ∨ (p j - p i ≤ T i j ∧ T i j ≤ B)
section
variable {p : Nat → Int} {B : Int} {T : Nat → Nat → Int}
theorem mnT_le (a b : Int) : mnT a b ≤ a ∧ mnT a b ≤ b ∧ (mnT a b = a ∨ mnT a b = b) := by unfold mnT; split <;> omega
theorem tab0_ok (hB : 0 ≤ B) : TabOk p B tab0 := by
  refine ⟨fun i => by unfold tab0; rw [if_pos rfl], fun i j => ?_⟩
  unfold tab0
  by_cases h : i = j
  · subst h; rw [if_pos rfl]; exact .inr ⟨by omega, hB⟩
  · rw [if_neg h]; exact .inl rfl
theorem put_ok {a : Arc} (h : TabOk p B T) (ha : p a.2.1 - p a.1 ≤ a.2.2) (hb : a.2.2 ≤ B) (hB : B < farT) (hne : a.1 ≠ a.2.1) : TabOk p B (putT T a) := by
  refine ⟨fun i => ?_, fun i j => ?_⟩
  · unfold putT; rw [if_neg (by rintro ⟨e1, e2⟩; exact hne (e1.symm.trans e2))]; exact h.diag i
  · unfold putT
    by_cases hij : i = a.1 ∧ j = a.2.1
    · rw [if_pos hij]
      obtain ⟨rfl, rfl⟩ := hij
      obtain ⟨m1, m2, m3⟩ := mnT_le (T a.1 a.2.1) a.2.2
      rcases h.ent a.1 a.2.1 with h1 | h1
      · refine .inr ⟨?_, by omega⟩
        rcases m3 with m3 | m3 <;> omega
      · refine .inr ⟨?_, by omega⟩
        rcases m3 with m3 | m3 <;> omega
    · rw [if_neg hij]; exact h.ent i j
theorem arcs_ok {ars : List Arc} (hB : 0 ≤ B) (hf : B < farT) (hk : KeepsA p ars) (hl : ∀ a ∈ ars, a.2.2 ≤ B ∧ a.1 ≠ a.2.1) : ∀ T, TabOk p B T → TabOk p B (ars.foldl putT T) := by
  induction ars with
  | nil => exact fun T h => h
  | cons a t ih => exact fun T h => ih (fun b hb => hk b (by simp [hb])) (fun b hb => hl b (by simp [hb])) _ (put_ok h (hk a (by simp)) (hl a (by simp)).1 hf (hl a (by simp)).2)
theorem stg_ok {k : Nat} (h : TabOk p B T) (hB : 0 ≤ B) (hf : B + B < farT) : TabOk p (B + B) (stgT T k) := by
  have key : ∀ i j, T i k < farT → T k j < farT → p j - p i ≤ T i k + T k j ∧ T i k + T k j ≤ B + B := fun i j h1 h2 => by
    rcases h.ent i k with e1 | e1
    · omega
    rcases h.ent k j with e2 | e2
    · omega
    omega
  refine ⟨fun i => ?_, fun i j => ?_⟩
  · unfold stgT
    split
    · rename_i hc
      have := key i i hc.1 hc.2
      have hd := h.diag i
      unfold mnT
      split <;> omega
    · exact h.diag i
  · unfold stgT
    split
    · rename_i hc
      obtain ⟨k1, k2⟩ := key i j hc.1 hc.2
      obtain ⟨m1, m2, m3⟩ := mnT_le (T i j) (T i k + T k j)
      refine .inr ⟨?_, by omega⟩
      rcases h.ent i j with e | e
      · rcases m3 with m3 | m3 <;> omega
      · rcases m3 with m3 | m3 <;> omega
    · rcases h.ent i j with e | e
      · exact .inl e
      · exact .inr ⟨e.1, by omega⟩
theorem stgs_ok (h : TabOk p B T) (hB : 0 ≤ B) : ∀ k, B * 2 ^ k < farT → TabOk p (B * 2 ^ k) (stgs T k)
  | 0, _ => by rw [Int.pow_zero, Int.mul_one]; exact h
  | k + 1, hf => by
    have e : B * 2 ^ (k + 1) = B * 2 ^ k + B * 2 ^ k := by rw [Int.pow_succ, ← Int.mul_assoc]; omega
    have hp : 0 ≤ B * 2 ^ k := Int.mul_nonneg hB (Int.pow_nonneg (by omega))
    rw [e] at hf ⊢
    exact stg_ok (stgs_ok h hB k (by omega)) hp hf
/-- In its place the table is changed entry by entry. -/
def midT (T : Nat → Nat → Int) (k i j : Nat) : Nat → Nat → Int := fun a b => if a < i ∨ (a = i ∧ b < j) then stgT T k a b else T a b
theorem mid_start (T : Nat → Nat → Int) (k : Nat) : midT T k 0 0 = T := by
  funext a b; unfold midT; rw [if_neg (by omega)]
theorem mid_row {n k i : Nat} (T : Nat → Nat → Int) {a b : Nat} (hb : b < n) : midT T k i n a b = midT T k (i + 1) 0 a b := by
  unfold midT
  by_cases h : a < i ∨ (a = i ∧ b < n)
  · rw [if_pos h, if_pos (by omega)]
  · rw [if_neg h, if_neg (by omega)]
theorem mid_end {n k : Nat} (T : Nat → Nat → Int) {a b : Nat} (ha : a < n) : midT T k n 0 a b = stgT T k a b := by
  unfold midT; rw [if_pos (by omega)]
theorem mid_col {k i j : Nat} (hd : T k k = 0) : midT T k i j i k = T i k := by
  unfold midT
  split
  · unfold stgT
    split
    · unfold mnT; rw [if_neg (by omega)]
    · rfl
  · rfl
theorem mid_rowk {k i j : Nat} (hd : T k k = 0) : midT T k i j k j = T k j := by
  unfold midT
  split
  · unfold stgT
    split
    · unfold mnT; rw [if_neg (by omega)]
    · rfl
  · rfl
theorem mid_here {k i j : Nat} : midT T k i j i j = T i j := by unfold midT; rw [if_neg (by omega)]
theorem mid_step {k i j a b : Nat} : midT T k i (j + 1) a b = if a = i ∧ b = j then stgT T k i j else midT T k i j a b := by
  unfold midT
  by_cases h : a = i ∧ b = j
  · rw [if_pos h, if_pos (by omega), h.1, h.2]
  · rw [if_neg h]
    by_cases h2 : a < i ∨ (a = i ∧ b < j)
    · rw [if_pos h2, if_pos (by omega)]
    · rw [if_neg h2, if_neg (by omega)]
end
/-- One table is nowhere more than another one, and has the same ways. -/
def TabLe (S T : Nat → Nat → Int) : Prop := ∀ i j, S i j ≤ T i j ∧ (S i j = farT ↔ T i j = farT)
section
variable {p : Nat → Int} {B : Int} {S T : Nat → Nat → Int}
end
end Go.Proofs.Ytkfecbkcghmmhaa

end

section
/- Lists of four numbers each, as they lie. -/
namespace Go.Proofs.Ytkfecbkcghmmhaa
open Go Go.RowKit

abbrev Quad := Int × Int × Int × Int
def cells4 (l : List Quad) : List Value := l.flatMap fun p => [.int .i64 p.1, .int .i64 p.2.1, .int .i64 p.2.2.1, .int .i64 p.2.2.2]
theorem cells4_len : ∀ l : List Quad, (cells4 l).length = l.length * 4
  | [] => rfl
  | p :: l => by
    have ih := cells4_len l
    unfold cells4 at ih ⊢
    rw [List.flatMap_cons, List.length_append, ih]
    simp
    omega
theorem cells4_cons (p : Quad) (l : List Quad) : cells4 (p :: l) = .int .i64 p.1 :: .int .i64 p.2.1 :: .int .i64 p.2.2.1 :: .int .i64 p.2.2.2 :: cells4 l := by
  unfold cells4
  rw [List.flatMap_cons]
  rfl
theorem cells4_append (a b : List Quad) : cells4 (a ++ b) = cells4 a ++ cells4 b := by unfold cells4; rw [List.flatMap_append]
theorem cells4_get : ∀ (l : List Quad) (k : Nat) (p : Quad), l[k]? = some p → (cells4 l)[k * 4]? = some (.int .i64 p.1) ∧ (cells4 l)[k * 4 + 1]? = some (.int .i64 p.2.1) ∧ (cells4 l)[k * 4 + 2]? = some (.int .i64 p.2.2.1) ∧ (cells4 l)[k * 4 + 3]? = some (.int .i64 p.2.2.2)
  | [], k, p, h => by simp at h
  | q :: l, 0, p, h => by
    obtain rfl : q = p := by simpa using h
    rw [cells4_cons]
    simp
  | q :: l, k + 1, p, h => by
    have ih := cells4_get l k p (by simpa using h)
    rw [cells4_cons, show (k + 1) * 4 = k * 4 + 1 + 1 + 1 + 1 by omega]
    simpa using ih
theorem one_cells4 (l : List Quad) : ∀ u ∈ cells4 l, u.oneCell' = true := by
  intro u hu
  unfold cells4 at hu
  obtain ⟨p, -, hp⟩ := List.mem_flatMap.1 hu
  simp at hp
  rcases hp with rfl | rfl | rfl | rfl <;> rfl
theorem Reads.len4 {w : World} {B n : Nat} {A : Option Addr} {l : List Quad} (h : Reads w B 4 A n (cells4 l)) : l.length = n := by
  have := h.1; rw [cells4_len] at this; omega
theorem Reads.quad {w : World} {B n : Nat} {A : Option Addr} {l : List Quad} (h : Reads w B 4 A n (cells4 l)) {k : Nat} (hk : k < n) : ∃ b o p, A = some ⟨b, o, none⟩ ∧ b < B ∧ l[k]? = some p ∧ w.cell? ⟨b, o + k * 4, none⟩ = some (.int .i64 p.1) ∧ w.cell? ⟨b, o + k * 4 + 1, none⟩ = some (.int .i64 p.2.1) ∧ w.cell? ⟨b, o + k * 4 + 2, none⟩ = some (.int .i64 p.2.2.1) ∧ w.cell? ⟨b, o + k * 4 + 3, none⟩ = some (.int .i64 p.2.2.2) := by
  obtain ⟨b, o, e, hb, hc⟩ := h.2 (by omega)
  have hl := h.len4
  have hr := List.getElem?_eq_getElem (show k < l.length by omega)
  obtain ⟨c0, c1, c2, c3⟩ := cells4_get l k _ hr
  exact ⟨b, o, _, e, hb, hr, hc _ _ c0, hc _ _ c1, hc _ _ c2, hc _ _ c3⟩
theorem cells4_set : ∀ (l : List Quad) (k : Nat) (p : Quad), k < l.length → ((((cells4 l).set (k * 4) (.int .i64 p.1)).set (k * 4 + 1) (.int .i64 p.2.1)).set (k * 4 + 2) (.int .i64 p.2.2.1)).set (k * 4 + 3) (.int .i64 p.2.2.2) = cells4 (l.set k p)
  | [], k, p, h => by simp at h
  | q :: l, 0, p, _ => by
    rw [cells4_cons, show (q :: l).set 0 p = p :: l from rfl, cells4_cons]
    rfl
  | q :: l, k + 1, p, h => by
    have ih := cells4_set l k p (by simpa using h)
    rw [cells4_cons, show (q :: l).set (k + 1) p = q :: l.set k p from rfl, cells4_cons, ← ih]
    rw [show (k + 1) * 4 = k * 4 + 1 + 1 + 1 + 1 by omega]
    simp only [List.set_cons_succ]
/-- The arcs of the first k readings. -/
def arcsK (l : List Quad) : Nat → List Quad
  | 0 => []
  | k + 1 => arcsK l k ++ match l[k]? with
    | some r => [(r.1, r.2.1, r.2.2.2, (k : Int) + 1), (r.2.1, r.1, -r.2.2.1, -(k : Int) - 1)]
    | none => []
theorem arcsK_succ {l : List Quad} {k : Nat} {r : Quad} (h : l[k]? = some r) : arcsK l (k + 1) = arcsK l k ++ [(r.1, r.2.1, r.2.2.2, (k : Int) + 1), (r.2.1, r.1, -r.2.2.1, -(k : Int) - 1)] := by
  show arcsK l k ++ (match l[k]? with | some r => _ | none => []) = _
  rw [h]
theorem arcsK_len {l : List Quad} : ∀ {k : Nat}, k ≤ l.length → (arcsK l k).length = 2 * k
  | 0, _ => rfl
  | k + 1, h => by
    rw [arcsK_succ (List.getElem?_eq_getElem (show k < l.length by omega)), List.length_append, arcsK_len (by omega)]
    simp
    omega
theorem arcsK_mem {l : List Quad} : ∀ {k : Nat} {a : Quad}, a ∈ arcsK l k → ∃ r ∈ l, (a.1 = r.1 ∧ a.2.1 = r.2.1 ∧ a.2.2.1 = r.2.2.2) ∨ (a.1 = r.2.1 ∧ a.2.1 = r.1 ∧ a.2.2.1 = -r.2.2.1)
  | 0, _, h => by simp [arcsK] at h
  | k + 1, a, h => by
    cases hk : l[k]? with
    | none =>
      have e : arcsK l (k + 1) = arcsK l k := by
        show arcsK l k ++ (match l[k]? with | some r => _ | none => []) = _
        rw [hk]; simp
      rw [e] at h
      exact arcsK_mem h
    | some r =>
      rw [arcsK_succ hk] at h
      rcases List.mem_append.1 h with h | h
      · exact arcsK_mem h
      · have hr := List.mem_of_getElem? hk
        rcases List.mem_cons.1 h with rfl | h
        · exact ⟨r, hr, .inl ⟨rfl, rfl, rfl⟩⟩
        · obtain rfl := List.mem_singleton.1 h
          exact ⟨r, hr, .inr ⟨rfl, rfl, rfl⟩⟩
end Go.Proofs.Ytkfecbkcghmmhaa

end

section
/- Plain law of readings: what readings mean, as arcs; how low a height of the search goes. -/
namespace Go.Proofs.Ytkfecbkcghmmhaa

def arcQ (q : Quad) : Arc := (q.1.toNat, q.2.1.toNat, q.2.2.1)
def arsOf (l : List Quad) : List Arc := (arcsK l l.length).map arcQ
/-- Readings of n zones that are right. -/
def RdOk (n : Nat) (l : List Quad) : Prop := ∀ r ∈ l, (0 ≤ r.1 ∧ r.1 < (n : Int)) ∧ (0 ≤ r.2.1 ∧ r.2.1 < (n : Int)) ∧ r.1 ≠ r.2.1 ∧ -1000000 ≤ r.2.2.1 ∧ r.2.2.1 ≤ r.2.2.2 ∧ r.2.2.2 ≤ 1000000
/-- A profile keeps readings. -/
def KeepQ (p : Nat → Int) (l : List Quad) : Prop := ∀ r ∈ l, r.2.2.1 ≤ p r.2.1.toNat - p r.1.toNat ∧ p r.2.1.toNat - p r.1.toNat ≤ r.2.2.2
section
variable {n : Nat} {p : Nat → Int} {l : List Quad} {H : Nat → Int}
theorem ars_keep (h : KeepQ p l) : KeepsA p (arsOf l) := by
  intro a ha
  obtain ⟨q, hq, rfl⟩ := List.mem_map.1 ha
  obtain ⟨r, hr, ⟨e1, e2, e3⟩ | ⟨e1, e2, e3⟩⟩ := arcsK_mem hq
  · obtain ⟨h1, h2⟩ := h r hr
    show p q.2.1.toNat - p q.1.toNat ≤ q.2.2.1
    rw [e1, e2, e3]; omega
  · obtain ⟨h1, h2⟩ := h r hr
    show p q.2.1.toNat - p q.1.toNat ≤ q.2.2.1
    rw [e1, e2, e3]; omega
/-- What an arc of right readings is. -/
theorem arc_in (h : RdOk n l) {k : Nat} {q : Quad} (hq : q ∈ arcsK l k) : (0 ≤ q.1 ∧ q.1 < (n : Int)) ∧ (0 ≤ q.2.1 ∧ q.2.1 < (n : Int)) ∧ q.1 ≠ q.2.1 ∧ -1000000 ≤ q.2.2.1 ∧ q.2.2.1 ≤ 1000000 := by
  obtain ⟨r, hr, ⟨e1, e2, e3⟩ | ⟨e1, e2, e3⟩⟩ := arcsK_mem hq
  · obtain ⟨h1, h2, h3, h4, h5, h6⟩ := h r hr
    rw [e1, e2, e3]
    exact ⟨h1, h2, h3, by omega, by omega⟩
  · obtain ⟨h1, h2, h3, h4, h5, h6⟩ := h r hr
    rw [e1, e2, e3]
    exact ⟨h2, h1, fun e => h3 e.symm, by omega, by omega⟩
def LowB (n : Nat) (p : Nat → Int) (H : Nat → Int) : Prop := ∀ v, v < n → H v ≤ 0 ∧ ∃ x, x < n ∧ p v - p x ≤ H v
theorem low_start : LowB n p (fun _ => 0) := fun v hv => ⟨Int.le_refl _, v, hv, by show p v - p v ≤ (0 : Int); omega⟩
theorem low_relax {ars : List Arc} (hk : KeepsA p ars) (h : LowB n p H) {a : Arc} (ha : a ∈ ars) (h1 : a.1 < n) (h2 : a.2.1 < n) (hl : H a.1 + a.2.2 < H a.2.1) : LowB n p (relax H a) := fun v hv => by
  unfold relax
  by_cases e : v = a.2.1
  · rw [if_pos e]
    obtain ⟨q1, x, hx, q2⟩ := h a.1 h1
    have := (h a.2.1 h2).1
    have hka := hk a ha
    exact ⟨by omega, x, hx, by rw [e]; omega⟩
  · rw [if_neg e]; exact h v hv
theorem low_in {P : Int} (h : LowB n p H) (hp : ∀ v, v < n → -P ≤ p v ∧ p v ≤ P) {v : Nat} (hv : v < n) : -(P + P) ≤ H v ∧ H v ≤ 0 := by
  obtain ⟨q1, x, hx, q2⟩ := h v hv
  have := hp v hv
  have := hp x hx
  omega
end
end Go.Proofs.Ytkfecbkcghmmhaa

end

section
/- Readings: right ones are accepted; their arcs. -/
namespace Go.Proofs.Ytkfecbkcghmmhaa
open Go Go.RowKit

theorem withinprof_is (n lo hi : Int) (t : Bool) (h : withinB n lo hi = t) (w : World) : Calls Try.prog 30 #[.int .i64 n, .int .i64 lo, .int .i64 hi] w fun e w' => e = .returned (.bool t) ∧ w = w' := by
  subst h
  unfold withinB
  by_cases h1 : lo ≤ n <;> by_cases h2 : n ≤ hi
  all_goals
    go_enter Try.func30, Try.ntmps30
    have d1 : decide (lo ≤ n) = decide (lo ≤ n) := rfl
    go_wp2
    go_ret
    exact ⟨by simp [h1, h2], rfl⟩

theorem within_mk' {n lo hi : Int} (h1 : lo ≤ n) (h2 : n ≤ hi) : withinB n lo hi = true := (withinB_iff n lo hi).2 ⟨h1, h2⟩
set_option maxRecDepth 100000 in
set_option maxHeartbeats 2000000 in
/-- Right readings are accepted. -/
theorem readings_ok (n : Nat) (hn : 1 ≤ n ∧ n ≤ 40) (A : Option Addr) (k c : Nat) (l : List Quad) (hk : k ≤ 100) (hl : RdOk n l) (w : World) (hx : Reads w w.heap.size 4 A k (cells4 l)) :
    Calls Try.prog 14 #[.int .i64 (n : Int), .slice A k c] w fun e w' => e = .returned (.int .i64 0) ∧ Below w.heap.size w w' := by
  have HX := Lib.hid hx
  have HL := Lib.hid hl
  have H1 := Lib.hid (within_mk' (show (1 : Int) ≤ (n : Int) by omega) (show (n : Int) ≤ 40 by omega))
  have e1 := IntWalk.i64_in ((n : Int) - 1) ⟨by omega, by omega⟩
  have d1 : decide ((100 : Int) < (k : Int)) = false := by simp; omega
  clear hx hl
  go_enter Try.func14, Try.ntmps14
  go_wp2_with fail
  refine (withinprof_is _ _ _ true H1.out _).mono ?_
  rintro e w' ⟨rfl, rfl⟩
  go_wp2
  go_loopw [17] (fun i wr => ∃ j : Nat, j ≤ k ∧ i = .int .i64 j ∧ Below w.heap.size w wr) (fun i _ => k - (intOf i).toNat)
  case atStart => exact ⟨0, by omega, rfl, Below.refl _ _⟩
  case round =>
    obtain ⟨j, hj, rfl, hb⟩ := hrel
    have HB := Lib.hid hb
    by_cases hlt : j < k
    rotate_left
    · clear hb
      go_wp2
      go_ret
      exact ⟨rfl, HB.out⟩
    have hjj : (j : Int) < (k : Int) := by omega
    obtain ⟨xb, xo, ⟨a, b, lo, hi⟩, hAe, hxb, hr, c0, c1, c2, c3⟩ := (HX.out.below hb).quad hlt
    simp only at c0 c1 c2 c3
    obtain ⟨q1, q2, q3, q4, q5, q6⟩ := HL.out _ (List.mem_of_getElem? hr)
    simp only at q1 q2 q3 q4 q5 q6
    subst hAe
    have W1 := Lib.hid (within_mk' q1.1 (show a ≤ (n : Int) - 1 by omega))
    have W2 := Lib.hid (within_mk' q2.1 (show b ≤ (n : Int) - 1 by omega))
    have W3 := Lib.hid (within_mk' q4 (show lo ≤ 1000000 by omega))
    have W4 := Lib.hid (within_mk' (show -1000000 ≤ hi by omega) q6)
    have hab : (a == b) = false := by simpa using q3
    have hlo : decide (hi < lo) = false := by simp; omega
    have hbs := HB.out.size
    clear hb hr
    go_wp2_with fail
    generalize hW : wr.alloc (.cells #[.int .i64 a, .int .i64 b, .int .i64 lo, .int .i64 hi] 54) = w1
    have HB1 := Lib.hid (show Below w.heap.size w w1 by rw [← hW]; exact HB.out.alloc hbs _)
    have hk1 : Blk w1 wr.heap.size 54 #[.int .i64 a, .int .i64 b, .int .i64 lo, .int .i64 hi] := by rw [← hW]; exact Blk.new _ _ _
    have z0 := hk1.cell 0
    have z1 := hk1.cell 1
    have z2 := hk1.cell 2
    have z3 := hk1.cell 3
    clear hW hk1 c0 c1 c2 c3
    refine (withinprof_is _ _ _ true W1.out _).mono ?_
    rintro e w' ⟨rfl, rfl⟩
    go_wp2_with fail
    refine (withinprof_is _ _ _ true W2.out _).mono ?_
    rintro e w' ⟨rfl, rfl⟩
    go_wp2_with fail
    refine (withinprof_is _ _ _ true W3.out _).mono ?_
    rintro e w' ⟨rfl, rfl⟩
    go_wp2_with fail
    refine (withinprof_is _ _ _ true W4.out _).mono ?_
    rintro e w' ⟨rfl, rfl⟩
    go_wp2
    go_roundw
    case rel => exact ⟨j + 1, by omega, by go_num, HB1.out⟩
    case measure => simp [intOf]; omega
end Go.Proofs.Ytkfecbkcghmmhaa

end

section
/- The arcs of readings. -/
namespace Go.Proofs.Ytkfecbkcghmmhaa
open Go Go.RowKit

theorem info_arc : (Try.prog.info? 84).map (fun i => (i.zero, i.size, i.bytes)) = some (some (.agg #[.int .i64 0, .int .i64 0, .int .i64 0, .int .i64 0]), 4, 32) := by kernel_rfl
theorem snoc2_run (B : Nat) (v : Value) (k : Nat) (l : List Quad) (p q : Quad) (w : World) (ho : w.ownsRow B 84 4 v k (cells4 l)) (hB : B ≤ w.heap.size) (hk : k ≤ 100000) :
    ∃ v' W2, (Builtin.append_ #[81, 81] 81 #[v, .slice (some ⟨w.heap.size, 0, none⟩) 2 2]).run Try.prog (w.alloc (.cells #[.int .i64 p.1, .int .i64 p.2.1, .int .i64 p.2.2.1, .int .i64 p.2.2.2, .int .i64 q.1, .int .i64 q.2.1, .int .i64 q.2.2.1, .int .i64 q.2.2.2] 84)) = .ok v' W2 ∧ W2.ownsRow B 84 4 v' (k + 2) (cells4 (l ++ [p, q])) ∧ Below B w W2 := by
  obtain ⟨i0, hi0, hz0, hz1, hz2⟩ := info_parts info_arc
  obtain ⟨W, hW⟩ : ∃ W, W = w.alloc (.cells #[.int .i64 p.1, .int .i64 p.2.1, .int .i64 p.2.2.1, .int .i64 p.2.2.2, .int .i64 q.1, .int .i64 q.2.1, .int .i64 q.2.2.1, .int .i64 q.2.2.2] 84) := ⟨_, rfl⟩
  have hbW : Below B w W := by rw [hW]; exact (Below.refl _ _).alloc hB _
  have hoW : W.ownsRow B 84 4 v k (cells4 l) := by rw [hW]; exact ho.alloc _
  have hnb : Blk W w.heap.size 84 #[.int .i64 p.1, .int .i64 p.2.1, .int .i64 p.2.2.1, .int .i64 p.2.2.2, .int .i64 q.1, .int .i64 q.2.1, .int .i64 q.2.2.1, .int .i64 q.2.2.2] := by rw [hW]; exact Blk.new _ _ _
  have hsz : W.heap.size = w.heap.size + 1 := by rw [hW]; simp
  obtain ⟨v', W2, hrun, o2', hg2, -⟩ := run_append_any (P := Try.prog) W B 81 81 84 i0 _ 4 32 Try.underlying81 hi0 hz0 hz1 hz2 rfl (by omega) v k _ hoW W.heap.size (some ⟨w.heap.size, 0, none⟩) 2 2 (cells4 [p, q]) (Blk.reads hnb rfl) (one_cells4 _) (by unfold maxLen; omega) (by omega) (by omega)
  rw [hW] at hrun
  exact ⟨v', W2, hrun, by rw [cells4_append]; exact o2', hbW.grown hg2 (by omega) (fun g hg => (own_lt hoW hg).1)⟩
theorem own_adr5 {w : World} {base n size c : Nat} {A : Option Addr} {e : TypeId} {xs : List Value} (h : w.ownsRow base e size (.slice A n c) n xs) : ∀ b o, A = some ⟨b, o, none⟩ → base ≤ b := by
  intro b o hA
  rcases h.2 with ⟨h1, -⟩ | ⟨g, cap, cur, h1, hb, _⟩
  · injection h1 with h1 _ _; rw [hA] at h1; cases h1
  · injection h1 with h1 _ _; rw [hA] at h1; injection h1 with h1; injection h1 with h1 _ _; omega
set_option maxRecDepth 100000 in
set_option maxHeartbeats 2000000 in
theorem arcs_is (A : Option Addr) (k c n : Nat) (l : List Quad) (hk : k ≤ 100) (hn : n ≤ 40) (hl : RdOk n l) (w : World) (hx : Reads w w.heap.size 4 A k (cells4 l)) :
    Calls Try.prog 31 #[.slice A k c] w fun e w' => ∃ A' c', e = .returned (.slice A' (2 * k) c') ∧ Below w.heap.size w w' ∧ Reads w' w'.heap.size 4 A' (2 * k) (cells4 (arcsK l k)) ∧ ∀ b o, A' = some ⟨b, o, none⟩ → w.heap.size ≤ b := by
  have hlk := hx.len4
  have HX := Lib.hid hx
  have HL := Lib.hid hl
  clear hx hl
  go_enter Try.func31, Try.ntmps31
  go_wp2
  go_loopw [3, 8] (fun o i wr => ∃ j : Nat, j ≤ k ∧ i = .int .i64 j ∧ Below w.heap.size w wr ∧ wr.ownsRow w.heap.size 84 4 o (2 * j) (cells4 (arcsK l j))) (fun _ i _ => k - (intOf i).toNat)
  case atStart => exact ⟨0, by omega, rfl, Below.refl _ _, World.ownsRow_nil _ _ _ _⟩
  case round =>
    obtain ⟨j, hj, rfl, hb, ho⟩ := hrel
    obtain ⟨w1, hnm⟩ : ∃ z : World, z = wr := ⟨_, rfl⟩
    subst hnm
    have HB := Lib.hid hb
    have HO := Lib.hid ho
    clear ho
    by_cases hlt : j < k
    rotate_left
    · obtain rfl : k = j := by omega
      obtain ⟨A', c', rfl, hr⟩ := own_reads HO.out
      have HR := Lib.hid hr
      have HA := Lib.hid (own_adr5 HO.out)
      clear hb hr
      go_wp2
      go_ret
      exact ⟨A', c', rfl, HB.out, HR.out, HA.out⟩
    have hjj : (j : Int) < (k : Int) := by omega
    obtain ⟨xb, xo, ⟨a, b, lo, hi⟩, hAe, hxb, hr, c0, c1, c2, c3⟩ := (HX.out.below hb).quad hlt
    simp only at c0 c1 c2 c3
    obtain ⟨q1, q2, q3, q4, q5, q6⟩ := HL.out _ (List.mem_of_getElem? hr)
    simp only at q1 q2 q3 q4 q5 q6
    have HAR := Lib.hid (arcsK_succ hr)
    subst hAe
    have hbs := HB.out.size
    have e1 := IntWalk.i64_in ((j : Int) + 1) ⟨by omega, by omega⟩
    have e2 := IntWalk.i64_in (-lo) ⟨by omega, by omega⟩
    have e3 := IntWalk.i64_in (-(j : Int)) ⟨by omega, by omega⟩
    have e4 := IntWalk.i64_in (-(j : Int) - 1) ⟨by omega, by omega⟩
    clear hb hr
    go_upto_region 5 with fail
    generalize hW : w1.alloc (.cells #[.int .i64 a, .int .i64 b, .int .i64 lo, .int .i64 hi] 54) = w2
    have HB2 := Lib.hid (show Below w.heap.size w w2 by rw [← hW]; exact HB.out.alloc hbs _)
    have hk1 : Blk w2 w1.heap.size 54 #[.int .i64 a, .int .i64 b, .int .i64 lo, .int .i64 hi] := by rw [← hW]; exact Blk.new _ _ _
    have ho2 : w2.ownsRow w.heap.size 84 4 u3 (2 * j) (cells4 (arcsK l j)) := by rw [← hW]; exact HO.out.alloc _
    have z0 := hk1.cell 0
    have z1 := hk1.cell 1
    have z2 := hk1.cell 2
    have z3 := hk1.cell 3
    obtain ⟨v', W2, hrun, ho3, hb3⟩ := snoc2_run w.heap.size _ (2 * j) _ (a, b, hi, (j : Int) + 1) (b, a, -lo, -(j : Int) - 1) w2 ho2 HB2.out.size (by omega)
    have HRUN := Lib.hid hrun
    have HO3 := Lib.hid (show W2.ownsRow w.heap.size 84 4 v' (2 * (j + 1)) (cells4 (arcsK l (j + 1))) by rw [HAR.out]; exact ho3)
    have HB3 := Lib.hid (HB2.out.trans hb3)
    clear hW hk1 c0 c1 c2 c3 ho2 hrun ho3 hb3
    go_wp2_with (first | (at_builtin; refine wpList_app _ W2 v' rfl _ _ _ rfl _ _ rfl rfl HRUN.out ?_))
    go_roundw
    case rel => exact ⟨j + 1, by omega, by go_num, HB3.out, HO3.out⟩
    case measure => simp [intOf]; omega
end Go.Proofs.Ytkfecbkcghmmhaa

end

section
/- What a piece of a walk leaves as it was: all blocks but some; rows of cells given by a function. -/
namespace Go.Proofs.Ytkfecbkcghmmhaa
open Go.RowKit

/-- All that was there, apart from the blocks of X, is as it was. -/
structure Tch (X : Nat → Prop) (w w' : World) : Prop where
  os : w'.os = w.os
  tape : w'.tape = w.tape
  output : w'.output = w.output
  size : w.heap.size ≤ w'.heap.size
  block : ∀ i, i < w.heap.size → ¬ X i → w'.heap[i]? = w.heap[i]?
section
variable {X Y : Nat → Prop} {w w' w'' : World}
theorem Tch.refl (X : Nat → Prop) (w : World) : Tch X w w := ⟨rfl, rfl, rfl, Nat.le_refl _, fun _ _ _ => rfl⟩
theorem Tch.trans (h : Tch X w w') (k : Tch X w' w'') : Tch X w w'' := ⟨k.os.trans h.os, k.tape.trans h.tape, k.output.trans h.output, Nat.le_trans h.size k.size, fun i hi hx => (k.block i (Nat.lt_of_lt_of_le hi h.size) hx).trans (h.block i hi hx)⟩
theorem Tch.mono (h : Tch X w w') (hs : ∀ i, i < w.heap.size → X i → Y i) : Tch Y w w' := ⟨h.os, h.tape, h.output, h.size, fun i hi hy => h.block i hi fun hx => hy (hs i hi hx)⟩
theorem Tch.then_ (h : Tch X w w') (k : Tch Y w' w'') (hs : ∀ i, i < w.heap.size → Y i → X i) : Tch X w w'' := ⟨k.os.trans h.os, k.tape.trans h.tape, k.output.trans h.output, Nat.le_trans h.size k.size, fun i hi hx => (k.block i (Nat.lt_of_lt_of_le hi h.size) fun hy => hx (hs i hi hy)).trans (h.block i hi hx)⟩
theorem Tch.of_below (h : Below w.heap.size w w') : Tch X w w' := ⟨h.os, h.tape, h.output, h.size, fun i hi _ => h.block i hi⟩
theorem Tch.call (h : Tch X w w') (k : Below w'.heap.size w' w'') : Tch X w w'' := h.trans (Tch.of_below k)
theorem Tch.alloc (h : Tch X w w') (o : Obj) : Tch X w (w'.alloc o) := h.call ((Below.refl _ _).alloc (Nat.le_refl _) _)
theorem Tch.drewN (h : Tch X w w') (n : Nat) : Tch X w (w'.drewN n) := h.call (below_drewN (Below.refl _ _) n)
theorem Tch.drew (h : Tch X w w') : Tch X w w'.drew := ⟨h.os, h.tape, h.output, h.size, h.block⟩
theorem Tch.setCell (h : Tch X w w') {p : Addr} (hp : X p.block ∨ w.heap.size ≤ p.block) (u : Value) : Tch X w (w'.setCell p u) :=
  ⟨h.os, h.tape, h.output, by simpa [World.setCell] using h.size, fun i hi hx => (Below.heap_setCell w' p u i (by rintro rfl; rcases hp with hp | hp; exact hx hp; omega)).trans (h.block i hi hx)⟩
theorem Tch.blk (h : Tch X w w') {q : Nat} {t : TypeId} {cs : Array Value} (hq : Blk w q t cs) (hx : ¬ X q) : Blk w' q t cs := (h.block q hq.lt hx).trans hq
theorem Tch.below {B : Nat} (h : Tch X w w') (hx : ∀ q, X q → B ≤ q) (hB : B ≤ w.heap.size) : Below B w w' := ⟨h.os, h.tape, h.output, h.size, fun i hi => h.block i (by omega) fun hxi => by have := hx i hxi; omega⟩
theorem Tch.own (h : Tch X w w') {base n size : Nat} {e : TypeId} {v : Value} {xs : List Value} (ho : w.ownsRow base e size v n xs) (hx : ∀ q, v.ownBlock = some q → ¬ X q) : w'.ownsRow base e size v n xs :=
  own_same ho fun q hq => h.block q (own_lt ho hq).2 (hx q hq)
theorem Tch.grown (h : Tch X w w') {row : Option Nat} (hg : w'.grownBy w'' row) (hx : ∀ q, row = some q → X q ∨ w.heap.size ≤ q) : Tch X w w'' :=
  ⟨hg.os.trans h.os, hg.tape.trans h.tape, hg.output.trans h.output, Nat.le_trans h.size hg.size, fun i hi hxi => (hg.block i (Nat.lt_of_lt_of_le hi h.size) (fun e => by rcases hx i e.symm with k | k; exact hxi k; omega)).trans (h.block i hi hxi)⟩
end

/-- A block of n cells, told by a function. -/
def RB (w : World) (g : Nat) (t : TypeId) (n : Nat) (f : Nat → Value) : Prop := Blk w g t ((List.range n).map f).toArray
section
variable {w w' : World} {g n : Nat} {t : TypeId} {f f' : Nat → Value}
theorem RB.lt (h : RB w g t n f) : g < w.heap.size := Blk.lt h
theorem RB.cell (h : RB w g t n f) {k : Nat} (hk : k < n) : w.cell? ⟨g, k, none⟩ = some (f k) := by
  rw [Blk.cell h k]
  simp [hk]
theorem RB.frozen (h : RB w g t n f) (k : Nat) : w.frozen? ⟨g, k, none⟩ = false := Blk.frozen h k
theorem RB.congr (h : RB w g t n f) (he : ∀ k, k < n → f k = f' k) : RB w g t n f' := by
  have e : (List.range n).map f = (List.range n).map f' := List.map_congr_left fun k hk => he k (List.mem_range.1 hk)
  unfold RB at h ⊢
  rwa [e] at h
theorem RB.set_ (h : RB w g t n f) (k : Nat) (u : Value) : RB (w.setCell ⟨g, k, none⟩ u) g t n (fun j => if j = k then u else f j) := by
  have h' := Blk.set_ h k u
  unfold RB
  have e : ((List.range n).map f).toArray.setIfInBounds k u = ((List.range n).map (fun j => if j = k then u else f j)).toArray := by
    rw [List.setIfInBounds_toArray]
    congr 1
    apply List.ext_getElem?
    intro i
    rw [List.getElem?_set, List.getElem?_map]
    by_cases hin : i < n
    · by_cases hik : k = i
      · subst hik; simp [hin]
      · rw [if_neg hik]
        have : ¬ i = k := fun e => hik e.symm
        simp [hin, this]
    · simp only [List.getElem?_map, List.length_map, List.length_range]
      have : (List.range n)[i]? = none := by rw [List.getElem?_eq_none]; simp; omega
      rw [this]
      by_cases hik : k = i
      · subst hik; simp [hin]
      · rw [if_neg hik]; rfl
  rwa [e] at h'
theorem RB.reads (h : RB w g t n f) : Reads w w.heap.size 1 (some ⟨g, 0, none⟩) n ((List.range n).map f) := Blk.reads h (by simp)
end
theorem Tch.rb {X : Nat → Prop} {w w' : World} (h : Tch X w w') {g n : Nat} {t : TypeId} {f : Nat → Value} (hq : RB w g t n f) (hx : ¬ X g) : RB w' g t n f := Tch.blk h hq hx
theorem RB.lay {w w' : World} {g n : Nat} {t : TypeId} {f : Nat → Value} (h : RB w g t n f) (hb : Below w.heap.size w w') : RB w' g t n f := Blk.below h hb h.lt
theorem RB.alloc {w : World} {g n : Nat} {t : TypeId} {f : Nat → Value} (h : RB w g t n f) (o : Obj) : RB (w.alloc o) g t n f := Blk.alloc h o
theorem Tch.cell {X : Nat → Prop} {w w' : World} (h : Tch X w w') {p : Addr} (hp : p.block < w.heap.size) (hx : ¬ X p.block) : w'.cell? p = w.cell? p := World.cell?_of_block (h.block _ hp hx)
theorem made_one (z : Value) (n : Nat) : madeCells #[z] n = ((List.range n).map fun _ => z).toArray := by
  have h := toList_madeCells_one z n
  apply Array.ext'
  rw [h]
  simp [List.map_const']

end Go.Proofs.Ytkfecbkcghmmhaa

end
