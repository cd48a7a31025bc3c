/- The contracts of PeakToValley, of the program and of the reference. -/
import Derived.Test.YtmioamcgbihhjaaNear
import Derived.Test.YtmioamcgbihhjaaLists
import Derived.Test.YtmioamcgbihhjaaMk
namespace Go.Proofs.Ytmioamcgbihhjaa
open Go.RowKit

/-- The first error of a list. -/
def firstErr {α : Type} (f : α → Int) : List α → Int
  | [] => 0
  | a :: l => if f a ≠ 0 then f a else firstErr f l
theorem firstErr_at {α : Type} {f : α → Int} : ∀ {l : List α} {k : Nat} {p : α}, l[k]? = some p → (∀ x ∈ l.take k, f x = 0) → f p ≠ 0 → firstErr f l = f p
  | a :: l, 0, p, hp, _, hf => by simp at hp; subst hp; simp only [firstErr]; rw [if_pos hf]
  | a :: l, k + 1, p, hp, hb, hf => by
    simp only [firstErr]
    rw [if_neg (by simpa using hb a (by simp))]
    exact firstErr_at (by simpa using hp) (fun x hx => hb x (by simp [hx])) hf
  | [], k, p, hp, _, _ => by simp at hp
theorem firstErr_ok {α : Type} {f : α → Int} : ∀ {l : List α}, (∀ x ∈ l, f x = 0) → firstErr f l = 0
  | [], _ => rfl
  | a :: l, h => by simp only [firstErr]; rw [if_neg (by simpa using h a (by simp))]; exact firstErr_ok fun x hx => h x (by simp [hx])
theorem firstErr_zero {α : Type} {f : α → Int} : ∀ {l : List α}, firstErr f l = 0 → ∀ x ∈ l, f x = 0
  | a :: l, h, x, hx => by
    simp only [firstErr] at h
    split at h
    · exact absurd h (by assumption)
    · rename_i h0
      rcases List.mem_cons.1 hx with rfl | hx
      · simpa using h0
      · exact firstErr_zero h x hx
  | [], _, x, hx => by cases hx
theorem take_ok {α : Type} {f : α → Int} {l : List α} {k : Nat} {p : α} (hp : l[k]? = some p) (hb : ∀ x ∈ l.take k, f x = 0) (hf : f p = 0) : ∀ x ∈ l.take (k + 1), f x = 0 := by
  rw [List.take_add_one, hp]
  intro x hx
  rcases List.mem_append.1 hx with hx | hx
  · exact hb x hx
  · simp at hx; exact hx ▸ hf

/-- The error of a range. -/
def rangeErr (p : Int × Int) : Int := if p.1 < -1000000000000000 ∨ 1000000000000000 < p.1 ∨ p.2 < -1000000000000000 ∨ 1000000000000000 < p.2 then 2 else if p.2 < p.1 then 9 else 0
theorem within_no {n lo hi : Int} (h : withinB n lo hi = false) : n < lo ∨ hi < n := by
  have := mt (withinB_iff n lo hi).2 (by rw [h]; simp)
  omega
theorem within_yes {n lo hi : Int} (h : withinB n lo hi = true) : lo ≤ n ∧ n ≤ hi := (withinB_iff n lo hi).1 h
theorem within_mk {n lo hi : Int} (h1 : lo ≤ n) (h2 : n ≤ hi) : withinB n lo hi = true := (withinB_iff n lo hi).2 ⟨h1, h2⟩
theorem rangeErr_zero {p : Int × Int} (h : rangeErr p = 0) : -1000000000000000 ≤ p.1 ∧ p.1 ≤ p.2 ∧ p.2 ≤ 1000000000000000 := by
  unfold rangeErr at h
  split at h
  · cases h
  · split at h
    · cases h
    · omega

theorem between_is (n lo hi : Int) (t : Bool) (h : withinB n lo hi = t) (w : World) : Calls Try.prog 118 #[.int .i64 n, .int .i64 lo, .int .i64 hi] w fun e w' => e = .returned (.bool t) ∧ w = w' := h ▸ between_any n lo hi w

theorem checkrange_any (a b : Int) (w : World) : Calls Try.prog 88 #[.agg #[.int .i64 a, .int .i64 b]] w fun e w' => e = .returned (.int .i64 (rangeErr (a, b))) ∧ Below w.heap.size w w' := by
  cases h1 : withinB a (-1000000000000000) 1000000000000000 with
  | false =>
    have hE : rangeErr (a, b) = 2 := by unfold rangeErr; rw [if_pos (by have := within_no h1; simp only; omega)]
    rw [hE]
    clear hE
    have H1 := Lib.hid h1
    clear h1
    go_enter Try.func88, Try.ntmps88
    go_wp2_with (go_at_call 118; refine (between_is _ _ _ _ H1.out _).mono ?_; rintro e w' ⟨rfl, rfl⟩)
    go_ret
    exact ⟨rfl, by repeat' (first | exact Below.refl _ _ | exact HB0.out | assumption | refine below_drewN ?_ _ | refine Below.drew ?_ | refine Below.alloc ?_ (by first | omega | (simp; done) | (simp; omega) | (simp [World.setCell]; omega)) _ | refine Below.setCell ?_ (by first | omega | (simp; done) | (simp; omega)) _)⟩
  | true =>
    cases h2 : withinB b (-1000000000000000) 1000000000000000 with
    | false =>
      have hE : rangeErr (a, b) = 2 := by unfold rangeErr; rw [if_pos (by have := within_no h2; simp only; omega)]
      rw [hE]
      clear hE
      have H1 := Lib.hid h1
      have H2 := Lib.hid h2
      clear h1 h2
      go_enter Try.func88, Try.ntmps88
      go_wp2_with fail
      refine (between_is _ _ _ _ H1.out _).mono ?_
      rintro e w' ⟨rfl, rfl⟩
      go_wp2_with fail
      refine (between_is _ _ _ _ H2.out _).mono ?_
      rintro e w' ⟨rfl, rfl⟩
      go_wp2
      go_ret
      exact ⟨rfl, by repeat' (first | exact Below.refl _ _ | exact HB0.out | assumption | refine below_drewN ?_ _ | refine Below.drew ?_ | refine Below.alloc ?_ (by first | omega | (simp; done) | (simp; omega) | (simp [World.setCell]; omega)) _ | refine Below.setCell ?_ (by first | omega | (simp; done) | (simp; omega)) _)⟩
    | true =>
      have hE : rangeErr (a, b) = if b < a then 9 else 0 := by unfold rangeErr; rw [if_neg (by have := within_yes h1; have := within_yes h2; simp only; omega)]
      rw [hE]
      clear hE
      have H1 := Lib.hid h1
      have H2 := Lib.hid h2
      clear h1 h2
      by_cases h3 : b < a
      · rw [if_pos h3]
        go_enter Try.func88, Try.ntmps88
        go_wp2_with fail
        refine (between_is _ _ _ _ H1.out _).mono ?_
        rintro e w' ⟨rfl, rfl⟩
        go_wp2_with fail
        refine (between_is _ _ _ _ H2.out _).mono ?_
        rintro e w' ⟨rfl, rfl⟩
        go_wp2
        go_ret
        exact ⟨rfl, by repeat' (first | exact Below.refl _ _ | exact HB0.out | assumption | refine below_drewN ?_ _ | refine Below.drew ?_ | refine Below.alloc ?_ (by first | omega | (simp; done) | (simp; omega) | (simp [World.setCell]; omega)) _ | refine Below.setCell ?_ (by first | omega | (simp; done) | (simp; omega)) _)⟩
      · rw [if_neg h3]
        go_enter Try.func88, Try.ntmps88
        go_wp2_with fail
        refine (between_is _ _ _ _ H1.out _).mono ?_
        rintro e w' ⟨rfl, rfl⟩
        go_wp2_with fail
        refine (between_is _ _ _ _ H2.out _).mono ?_
        rintro e w' ⟨rfl, rfl⟩
        go_wp2
        go_ret
        exact ⟨rfl, by repeat' (first | exact Below.refl _ _ | exact HB0.out | assumption | refine below_drewN ?_ _ | refine Below.drew ?_ | refine Below.alloc ?_ (by first | omega | (simp; done) | (simp; omega) | (simp [World.setCell]; omega)) _ | refine Below.setCell ?_ (by first | omega | (simp; done) | (simp; omega)) _)⟩

theorem checkrange_is (p : Int × Int) (t : Int) (h : rangeErr p = t) (w : World) : Calls Try.prog 88 #[.agg #[.int .i64 p.1, .int .i64 p.2]] w fun e w' => e = .returned (.int .i64 t) ∧ Below w.heap.size w w' := h ▸ checkrange_any p.1 p.2 w

theorem rcheckrange_any (a b : Int) (w : World) : Calls Try.prog 89 #[.agg #[.int .i64 a, .int .i64 b]] w fun e w' => e = .returned (.int .i64 (rangeErr (a, b))) ∧ Below w.heap.size w w' := by
  have hc : a < -1000000000000000 ∨ (¬ a < -1000000000000000 ∧ 1000000000000000 < a) ∨ (¬ a < -1000000000000000 ∧ ¬ 1000000000000000 < a ∧ b < -1000000000000000) ∨ (¬ a < -1000000000000000 ∧ ¬ 1000000000000000 < a ∧ ¬ b < -1000000000000000 ∧ 1000000000000000 < b) ∨
      (¬ a < -1000000000000000 ∧ ¬ 1000000000000000 < a ∧ ¬ b < -1000000000000000 ∧ ¬ 1000000000000000 < b ∧ b < a) ∨ (¬ a < -1000000000000000 ∧ ¬ 1000000000000000 < a ∧ ¬ b < -1000000000000000 ∧ ¬ 1000000000000000 < b ∧ ¬ b < a) := by omega
  have i0 : ∀ w, (Instr.index 51 (.agg #[.int .i64 a, .int .i64 b]) (.int .i64 0)).run Try.prog w = .ok (.int .i64 a) w := fun _ => by kernel_rfl
  have i1 : ∀ w, (Instr.index 51 (.agg #[.int .i64 a, .int .i64 b]) (.int .i64 1)).run Try.prog w = .ok (.int .i64 b) w := fun _ => by kernel_rfl
  have HC := Lib.hid hc
  clear hc
  rcases HC.out with h1 | ⟨h1, h2⟩ | ⟨h1, h2, h3⟩ | ⟨h1, h2, h3, h4⟩ | ⟨h1, h2, h3, h4, h5⟩ | ⟨h1, h2, h3, h4, h5⟩
  all_goals
    go_enter Try.func89, Try.ntmps89
    go_wp2
    refine wp_loop_rounds 3 ?_
    repeat any_goals (rw [rounds_succ]; go_wp2)
    go_ret
    refine ⟨ret_int ?_, by repeat' (first | exact Below.refl _ _ | exact HB0.out | assumption | refine below_drewN ?_ _ | refine Below.drew ?_ | refine Below.alloc ?_ (by first | omega | (simp; done) | (simp; omega) | (simp [World.setCell]; omega)) _ | refine Below.setCell ?_ (by first | omega | (simp; done) | (simp; omega)) _)⟩
    unfold rangeErr
    simp only
    split <;> (try split) <;> omega
theorem rcheckrange_is (p : Int × Int) (t : Int) (h : rangeErr p = t) (w : World) : Calls Try.prog 89 #[.agg #[.int .i64 p.1, .int .i64 p.2]] w fun e w' => e = .returned (.int .i64 t) ∧ Below w.heap.size w w' := h ▸ rcheckrange_any p.1 p.2 w

/-- How far two numbers of two ranges may be apart. -/
def spStep (l : List (Int × Int)) (i k : Nat) (r : Int × Int) : Int × Int := if i = k then r else (max r.1 ((l.getD i (0, 0)).1 - (l.getD k (0, 0)).2), max r.2 ((l.getD i (0, 0)).2 - (l.getD k (0, 0)).1))
def spRow (l : List (Int × Int)) (i m : Nat) (r : Int × Int) : Int × Int := (List.range m).foldl (fun r k => spStep l i k r) r
def spAll (l : List (Int × Int)) (m : Nat) : Int × Int := (List.range m).foldl (fun r i => spRow l i l.length r) (0, 0)
theorem spRow_succ (l : List (Int × Int)) (i m : Nat) (r : Int × Int) : spRow l i (m + 1) r = spStep l i m (spRow l i m r) := by unfold spRow; rw [List.range_succ, List.foldl_append]; rfl
theorem spAll_succ (l : List (Int × Int)) (m : Nat) : spAll l (m + 1) = spRow l m l.length (spAll l m) := by unfold spAll; rw [List.range_succ, List.foldl_append]; rfl
/-- What PeakToValley answers. -/
def peakF (l : List (Int × Int)) : (Int × Int) × Int :=
  if withinB (l.length : Int) 1 40 = false then ((0, 0), 10) else if firstErr rangeErr l ≠ 0 then ((0, 0), firstErr rangeErr l) else if rangeErr (spAll l l.length) ≠ 0 then ((0, 0), 8) else (spAll l l.length, 0)

section
variable {l : List (Int × Int)} {i m : Nat} {r : Int × Int} {B : Int}
theorem spStep_ne (h : i ≠ m) : spStep l i m r = (max r.1 ((l.getD i (0, 0)).1 - (l.getD m (0, 0)).2), max r.2 ((l.getD i (0, 0)).2 - (l.getD m (0, 0)).1)) := by unfold spStep; rw [if_neg h]
theorem spStep_mono : r.1 ≤ (spStep l i m r).1 ∧ r.2 ≤ (spStep l i m r).2 := by
  unfold spStep
  split
  · omega
  · simp only; omega
theorem spRow_mono (l : List (Int × Int)) (i : Nat) (r : Int × Int) : ∀ m, r.1 ≤ (spRow l i m r).1 ∧ r.2 ≤ (spRow l i m r).2
  | 0 => by simp [spRow]
  | m + 1 => by
    rw [spRow_succ]
    have h1 := spRow_mono l i r m
    have h2 := spStep_mono (l := l) (i := i) (m := m) (r := spRow l i m r)
    omega
theorem spAll_mono (l : List (Int × Int)) : ∀ m, 0 ≤ (spAll l m).1 ∧ 0 ≤ (spAll l m).2
  | 0 => by simp [spAll]
  | m + 1 => by
    rw [spAll_succ]
    have h1 := spAll_mono l m
    have h2 := spRow_mono l m (spAll l m) l.length
    omega
theorem spRow_ge (l : List (Int × Int)) (i : Nat) (r : Int × Int) : ∀ m k, k < m → i ≠ k → (l.getD i (0, 0)).1 - (l.getD k (0, 0)).2 ≤ (spRow l i m r).1 ∧ (l.getD i (0, 0)).2 - (l.getD k (0, 0)).1 ≤ (spRow l i m r).2
  | 0, _, h, _ => absurd h (by omega)
  | m + 1, k, h, hne => by
    rw [spRow_succ]
    have h2 := spStep_mono (l := l) (i := i) (m := m) (r := spRow l i m r)
    by_cases e : k = m
    · subst e
      rw [spStep_ne hne]
      simp only
      omega
    · have h1 := spRow_ge l i r m k (by omega) hne
      omega
theorem spAll_ge (l : List (Int × Int)) : ∀ m i k, i < m → k < l.length → i ≠ k → (l.getD i (0, 0)).1 - (l.getD k (0, 0)).2 ≤ (spAll l m).1 ∧ (l.getD i (0, 0)).2 - (l.getD k (0, 0)).1 ≤ (spAll l m).2
  | 0, _, _, h, _, _ => absurd h (by omega)
  | m + 1, i, k, h, hk, hne => by
    rw [spAll_succ]
    by_cases e : i = m
    · subst e
      exact spRow_ge l i _ _ k hk hne
    · have h1 := spAll_ge l m i k (by omega) hk hne
      have h2 := spRow_mono l m (spAll l m) l.length
      omega
theorem spRow_le (l : List (Int × Int)) (i : Nat) (r : Int × Int) (C D : Int) (h1 : r.1 ≤ C) (h2 : r.2 ≤ D) : ∀ m, (∀ k, k < m → i ≠ k → (l.getD i (0, 0)).1 - (l.getD k (0, 0)).2 ≤ C ∧ (l.getD i (0, 0)).2 - (l.getD k (0, 0)).1 ≤ D) → (spRow l i m r).1 ≤ C ∧ (spRow l i m r).2 ≤ D
  | 0, _ => by simpa [spRow] using ⟨h1, h2⟩
  | m + 1, h => by
    rw [spRow_succ]
    have h3 := spRow_le l i r C D h1 h2 m fun k hk hne => h k (by omega) hne
    by_cases e : i = m
    · unfold spStep; rw [if_pos e]; exact h3
    · rw [spStep_ne e]
      have := h m (by omega) e
      simp only
      omega
theorem spAll_le (l : List (Int × Int)) (C D : Int) (h1 : 0 ≤ C) (h2 : 0 ≤ D) : ∀ m, (∀ i k, i < m → k < l.length → i ≠ k → (l.getD i (0, 0)).1 - (l.getD k (0, 0)).2 ≤ C ∧ (l.getD i (0, 0)).2 - (l.getD k (0, 0)).1 ≤ D) → (spAll l m).1 ≤ C ∧ (spAll l m).2 ≤ D
  | 0, _ => by simpa [spAll] using ⟨h1, h2⟩
  | m + 1, h => by
    rw [spAll_succ]
    have h3 := spAll_le l C D h1 h2 m fun i k hi hk hne => h i k (by omega) hk hne
    exact spRow_le l m _ C D h3.1 h3.2 l.length fun k hk hne => h m k (by omega) hk hne
end

theorem withinsup_is' (n lo hi : Int) (t : Bool) (h : withinB n lo hi = t) (w : World) : Calls Try.prog 79 #[.int .i64 n, .int .i64 lo, .int .i64 hi] w fun e w' => e = .returned (.bool t) ∧ w = w' := withinsup_is n lo hi t h w

set_option maxRecDepth 100000 in
set_option maxHeartbeats 4000000 in
theorem peak_any (A : Option Addr) (n c N : Nat) (l : List (Int × Int)) (w : World) (hx : Reads w N 2 A n (cells2 l)) (hN : N ≤ w.heap.size) (hn : n ≤ 9223372036854775807) (x y e : Int) (hR : peakF l = ((x, y), e)) :
    Calls Try.prog 38 #[.slice A n c] w fun en w' => en = .returned (.tuple #[.agg #[.int .i64 x, .int .i64 y], .int .i64 e]) ∧ Below w.heap.size w w' := by
  have hxl := hx.len2
  unfold peakF at hR
  rw [hxl] at hR
  have HXL := Lib.hid hxl
  have HX := Lib.hid hx
  clear hx hxl
  cases hw : withinB (n : Int) 1 40 with
  | false =>
    rw [if_pos hw] at hR
    cases hR
    have HW := Lib.hid hw
    clear hw
    go_enter Try.func38, Try.ntmps38
    go_wp2_with (go_at_call 79; refine (withinsup_is _ _ _ _ HW.out _).mono ?_; rintro e w' ⟨rfl, rfl⟩)
    exact bodyPost_ret (v := .tuple #[.agg #[.int .i64 0, .int .i64 0], .int .i64 10]) (by simp [results, Try.results38, go_sem]) rfl ⟨rfl, by repeat' (first | exact Below.refl _ _ | exact HB0.out | assumption | refine below_drewN ?_ _ | refine Below.drew ?_ | refine Below.alloc ?_ (by first | omega | (simp; done) | (simp; omega) | (simp [World.setCell]; omega)) _ | refine Below.setCell ?_ (by first | omega | (simp; done) | (simp; omega)) _)⟩
  | true =>
    rw [if_neg (by rw [hw]; simp)] at hR
    obtain ⟨hw1, hw2⟩ := within_yes hw
    have HR := Lib.hid hR
    have HW := Lib.hid hw
    clear hw hR
    go_enter Try.func38, Try.ntmps38
    go_wp2_with fail
    refine (withinsup_is _ _ _ _ HW.out _).mono ?_
    rintro en w' ⟨rfl, rfl⟩
    go_wp2
    go_loopw [19] (fun i wr => ∃ k : Nat, k ≤ n ∧ i = .int .i64 k ∧ (∀ p ∈ l.take k, rangeErr p = 0) ∧ Below w.heap.size w wr ∧ Blk wr w.heap.size 64 #[.int .i64 0, .int .i64 0]) (fun i _ => n - (intOf i).toNat)
    case atStart => exact ⟨0, by omega, rfl, by simp, (Below.refl _ _).alloc (Nat.le_refl _) _, Blk.new _ _ _⟩
    case round =>
      obtain ⟨k, hk, rfl, ht, hb, hk0⟩ := hrel
      have HT := Lib.hid ht
      clear ht
      have HB1 := Lib.hid hb
      have K0_1 := Lib.hid (show Blk wr (w.heap.size) 64 #[.int .i64 (0), .int .i64 (0)] from hk0)
      clear hb hk0
      have l0_1 : w.heap.size < wr.heap.size := K0_1.out.lt
      have z0_0_1 : wr.cell? ⟨w.heap.size, 0, none⟩ = some (.int .i64 (0)) := K0_1.out.cell 0
      have z0_1_1 : wr.cell? ⟨w.heap.size, 1, none⟩ = some (.int .i64 (0)) := K0_1.out.cell 1
      by_cases hlt : k < n
      · obtain ⟨xb, xo, p, rfl, hxb, hp, c0, c1⟩ := (HX.out.belowLe HB1.out hN).pair hlt
        obtain ⟨t, ht⟩ : ∃ t, rangeErr p = t := ⟨_, rfl⟩
        have HTT := Lib.hid ht
        have HP := Lib.hid hp
        clear ht hp
        go_wp2_with fail
        refine (checkrange_is p t HTT.out _).mono ?_
        rintro e w2 ⟨rfl, hb⟩
        have HB2 := Lib.hid (show Below w.heap.size w w2 from step_below hb (by repeat' (first | exact Below.refl _ _ | exact HB1.out | assumption | refine below_drewN ?_ _ | refine Below.drew ?_ | refine Below.alloc ?_ (by first | omega | (simp; done) | (simp; omega) | (simp [World.setCell]; omega)) _ | refine Below.setCell ?_ (by first | omega | (simp; done) | (simp; omega)) _)))
        have K0_2 := Lib.hid (step_blk hb (show Blk _ (w.heap.size) 64 #[.int .i64 (0), .int .i64 (0)] by repeat' (first | assumption | exact K0_1.out | exact Blk.at_ _ (by first | rfl | (simp; done) | (simp; omega)) _ _ | refine Blk.drewN ?_ _ | refine Blk.drew ?_ | refine Blk.alloc ?_ _ | refine Blk.far ?_ (by first | omega | (simp; done) | (simp; omega)) _)))
        have hz2 := hb.size
        try simp only [World.size_alloc, World.drewN, World.drew] at hz2
        clear hb K0_1 z0_0_1 z0_1_1 l0_1
        have l0_2 : w.heap.size < w2.heap.size := K0_2.out.lt
        have z0_0_2 : w2.cell? ⟨w.heap.size, 0, none⟩ = some (.int .i64 (0)) := K0_2.out.cell 0
        have z0_1_2 : w2.cell? ⟨w.heap.size, 1, none⟩ = some (.int .i64 (0)) := K0_2.out.cell 1
        by_cases h0 : t = 0
        · subst h0
          go_wp2
          go_roundw
          case rel => exact ⟨k + 1, by omega, by go_num, take_ok HP.out HT.out HTT.out, HB2.out, K0_2.out⟩
          case measure => simp [intOf]; omega
        · have e0 : (t != 0) = true := by simpa using h0
          have hF := HR.out
          rw [firstErr_at HP.out HT.out (by rw [HTT.out]; exact h0), HTT.out, if_pos h0] at hF
          cases hF
          have zf0_0 := K0_2.out.frozen 0
          have zf0_1 := K0_2.out.frozen 1
          go_wp2
          exact bodyPost_ret (v := .tuple #[.agg #[.int .i64 0, .int .i64 0], .int .i64 e]) (by simp [results, Try.results38, go_sem, z0_0_2, z0_1_2, l0_2]) rfl ⟨rfl, by repeat' (first | exact Below.refl _ _ | exact HB2.out | assumption | refine below_drewN ?_ _ | refine Below.drew ?_ | refine Below.alloc ?_ (by first | omega | (simp; done) | (simp; omega) | (simp [World.setCell]; omega)) _ | refine Below.setCell ?_ (by first | omega | (simp; done) | (simp; omega)) _)⟩
      · have hok : ∀ p ∈ l, rangeErr p = 0 := by
          have := HT.out
          rwa [List.take_of_length_le (by rw [HXL.out]; omega)] at this
        have hR := HR.out
        rw [firstErr_ok hok, if_neg (by simp)] at hR
        have HOK := Lib.hid hok
        have HR2 := Lib.hid hR
        clear hok hR HT HR
        have hget : ∀ k p, l[k]? = some p → l.getD k (0, 0) = p := fun k p h => by rw [List.getD, h]; rfl
        have HG := Lib.hid hget
        clear hget
        obtain ⟨wo, hwo⟩ : ∃ wo : World, wo = wr := ⟨_, rfl⟩
        subst hwo
        go_wp2
        go_loopw [32] (fun i wr => ∃ k : Nat, k ≤ n ∧ i = .int .i64 k ∧ 0 ≤ (spAll l k).1 ∧ (spAll l k).1 ≤ 2000000000000000 ∧ 0 ≤ (spAll l k).2 ∧ (spAll l k).2 ≤ 2000000000000000 ∧ Below w.heap.size w wr ∧ Blk wr w.heap.size 64 #[.int .i64 0, .int .i64 0] ∧
          Blk wr wo.heap.size 64 #[.int .i64 (spAll l k).1, .int .i64 (spAll l k).2]) (fun i _ => n - (intOf i).toNat)
        case atStart => exact ⟨0, by omega, rfl, by simp [spAll], by simp [spAll], by simp [spAll], by simp [spAll], HB1.out.alloc HB1.out.size _, K0_1.out.alloc _, Blk.new _ _ _⟩
        case round =>
          obtain ⟨i, hi, rfl, b1, b2, b3, b4, hb, hk0, hk1⟩ := hrel
          obtain ⟨R, hRR⟩ : ∃ R, spAll l i = R := ⟨_, rfl⟩
          rw [hRR] at b1 b2 b3 b4 hk1
          have HRR := Lib.hid hRR
          clear hRR
          obtain ⟨wp, hwo⟩ : ∃ wo : World, wo = wr := ⟨_, rfl⟩
          subst hwo
          by_cases hli : i < n
          · obtain ⟨xb, xo, p, rfl, hxb, hp, c0, c1⟩ := (HX.out.belowLe hb hN).pair hli
            obtain ⟨pz1, pz2, pz3⟩ := rangeErr_zero (HOK.out p (List.mem_of_getElem? hp))
            have hpd := HG.out i p hp
            have HPD := Lib.hid hpd
            have hbb := hb.size
            have HB5 := Lib.hid (hb.alloc hb.size (.cells #[.int .i64 p.1, .int .i64 p.2] 64))
            have K0 := Lib.hid (hk0.alloc (.cells #[.int .i64 p.1, .int .i64 p.2] 64))
            have K1 := Lib.hid (hk1.alloc (.cells #[.int .i64 p.1, .int .i64 p.2] 64))
            have l1 := hk1.lt
            clear hp hpd hb hk0 hk1
            go_wp2
            go_loopw [39] (fun j wr => ∃ k : Nat, k ≤ n ∧ j = .int .i64 k ∧ 0 ≤ (spRow l i k R).1 ∧ (spRow l i k R).1 ≤ 2000000000000000 ∧ 0 ≤ (spRow l i k R).2 ∧ (spRow l i k R).2 ≤ 2000000000000000 ∧ Below w.heap.size w wr ∧ Blk wr w.heap.size 64 #[.int .i64 0, .int .i64 0] ∧
              Blk wr wo.heap.size 64 #[.int .i64 (spRow l i k R).1, .int .i64 (spRow l i k R).2] ∧ Blk wr wp.heap.size 64 #[.int .i64 p.1, .int .i64 p.2]) (fun j _ => n - (intOf j).toNat)
            case atStart => exact ⟨0, by omega, rfl, b1, b2, b3, b4, HB5.out, K0.out, K1.out, Blk.new _ _ _⟩
            case round =>
              obtain ⟨k, hk, rfl, d1, d2, d3, d4, hb, hk0, hk1, hk2⟩ := hrel
              obtain ⟨Q, hQ⟩ : ∃ Q, spRow l i k R = Q := ⟨_, rfl⟩
              rw [hQ] at d1 d2 d3 d4 hk1
              have HQ := Lib.hid hQ
              clear hQ
              have lt1 := hk1.lt
              have lt2 := hk2.lt
              by_cases hlk : k < n
              · obtain ⟨xb', xo', q, hA, hxb', hp, e0, e1⟩ := (HX.out.belowLe hb hN).pair hlk
                cases hA
                obtain ⟨qz1, qz2, qz3⟩ := rangeErr_zero (HOK.out q (List.mem_of_getElem? hp))
                have hqd := HG.out k q hp
                have HQD := Lib.hid hqd
                clear hp hqd
                by_cases hik : i = k
                · have hst : spRow l i (k + 1) R = Q := by rw [spRow_succ, HQ.out]; unfold spStep; rw [if_pos hik]
                  have HST := Lib.hid hst
                  have hik' : (i : Int) = (k : Int) := by omega
                  have HB := Lib.hid hb
                  have K0 := Lib.hid hk0
                  have K1 := Lib.hid hk1
                  have K2 := Lib.hid hk2
                  clear hst hb hk0 hk1 hk2
                  go_wp2
                  go_roundw
                  case rel => exact ⟨k + 1, by omega, by go_num, by rw [HST.out]; exact d1, by rw [HST.out]; exact d2, by rw [HST.out]; exact d3, by rw [HST.out]; exact d4, HB.out.alloc HB.out.size _, K0.out.alloc _, by rw [HST.out]; exact K1.out.alloc _, K2.out.alloc _⟩
                  case measure => simp [intOf]; omega
                · have hik' : ¬ (i : Int) = (k : Int) := by omega
                  have hst : spRow l i (k + 1) R = (max Q.1 (p.1 - q.2), max Q.2 (p.2 - q.1)) := by rw [spRow_succ, HQ.out, spStep_ne hik, HPD.out, HQD.out]
                  have HST := Lib.hid hst
                  have v1 := IntWalk.i64_in (p.1 - q.2) ⟨by omega, by omega⟩
                  have v2 := IntWalk.i64_in (p.2 - q.1) ⟨by omega, by omega⟩
                  have z0 : wr.cell? ⟨wo.heap.size, 0, none⟩ = some (.int .i64 Q.1) := hk1.cell 0
                  have z1 : wr.cell? ⟨wo.heap.size, 1, none⟩ = some (.int .i64 Q.2) := hk1.cell 1
                  have z2 : wr.frozen? ⟨wo.heap.size, 0, none⟩ = false := hk1.frozen 0
                  have z3 : wr.frozen? ⟨wo.heap.size, 1, none⟩ = false := hk1.frozen 1
                  have z4 : wr.cell? ⟨wp.heap.size, 0, none⟩ = some (.int .i64 p.1) := hk2.cell 0
                  have z5 : wr.cell? ⟨wp.heap.size, 1, none⟩ = some (.int .i64 p.2) := hk2.cell 1
                  have HB := Lib.hid hb
                  have K0 := Lib.hid hk0
                  have K1 := Lib.hid hk1
                  have K2 := Lib.hid hk2
                  have hm : (Q.1 < p.1 - q.2 ∨ ¬ Q.1 < p.1 - q.2) ∧ (Q.2 < p.2 - q.1 ∨ ¬ Q.2 < p.2 - q.1) := by omega
                  clear hst hb hk0 hk1 hk2
                  have hz1 := HB1.out.size
                  rcases hm with ⟨m1 | m1, m2 | m2⟩
                  all_goals
                    go_wp2
                    go_roundw
                    case rel =>
                      have h0 : (spRow l i (k + 1) R).1 = max Q.1 (p.1 - q.2) := by rw [HST.out]
                      have h1 : (spRow l i (k + 1) R).2 = max Q.2 (p.2 - q.1) := by rw [HST.out]
                      refine ⟨k + 1, by omega, by go_num, by rw [h0]; omega, by rw [h0]; omega, by rw [h1]; omega, by rw [h1]; omega, ?_, ?_, ?_, ?_⟩
                      · exact ((HB.out.setCell (p := ⟨wo.heap.size, 0, none⟩) (by simp; omega) _).setCell (p := ⟨wo.heap.size, 1, none⟩) (by simp; omega) _).alloc (by simp [World.setCell]; omega) _
                      · exact ((K0.out.far (p := ⟨wo.heap.size, 0, none⟩) (by simp; omega) _).far (p := ⟨wo.heap.size, 1, none⟩) (by simp; omega) _).alloc _
                      · rw [h0, h1]
                        first
                        | (rw [Int.max_eq_left (show p.1 - q.2 ≤ Q.1 by omega), Int.max_eq_left (show p.2 - q.1 ≤ Q.2 by omega)]; simpa using ((K1.out.set_ 0 (.int .i64 Q.1)).set_ 1 (.int .i64 Q.2)).alloc (.cells #[.int .i64 q.1, .int .i64 q.2] 64))
                        | (rw [Int.max_eq_left (show p.1 - q.2 ≤ Q.1 by omega), Int.max_eq_right (show Q.2 ≤ p.2 - q.1 by omega)]; simpa using ((K1.out.set_ 0 (.int .i64 Q.1)).set_ 1 (.int .i64 (p.2 - q.1))).alloc (.cells #[.int .i64 q.1, .int .i64 q.2] 64))
                        | (rw [Int.max_eq_right (show Q.1 ≤ p.1 - q.2 by omega), Int.max_eq_left (show p.2 - q.1 ≤ Q.2 by omega)]; simpa using ((K1.out.set_ 0 (.int .i64 (p.1 - q.2))).set_ 1 (.int .i64 Q.2)).alloc (.cells #[.int .i64 q.1, .int .i64 q.2] 64))
                        | (rw [Int.max_eq_right (show Q.1 ≤ p.1 - q.2 by omega), Int.max_eq_right (show Q.2 ≤ p.2 - q.1 by omega)]; simpa using ((K1.out.set_ 0 (.int .i64 (p.1 - q.2))).set_ 1 (.int .i64 (p.2 - q.1))).alloc (.cells #[.int .i64 q.1, .int .i64 q.2] 64))
                      · exact ((K2.out.far (p := ⟨wo.heap.size, 0, none⟩) (by simp; omega) _).far (p := ⟨wo.heap.size, 1, none⟩) (by simp; omega) _).alloc _
                    case measure => simp [intOf]; omega
              · have hkn : k = n := by omega
                have hst : spAll l (i + 1) = Q := by rw [spAll_succ, HRR.out, HXL.out, ← hkn, HQ.out]
                have HST := Lib.hid hst
                have HB := Lib.hid hb
                have K0 := Lib.hid hk0
                have K1 := Lib.hid hk1
                clear hst hb hk0 hk1 hk2
                go_wp2
                go_roundw
                case rel => exact ⟨i + 1, by omega, by go_num, by rw [HST.out]; exact d1, by rw [HST.out]; exact d2, by rw [HST.out]; exact d3, by rw [HST.out]; exact d4, HB.out, K0.out, by rw [HST.out]; exact K1.out⟩
                case measure => simp [intOf]; omega
          · have hin : i = n := by omega
            subst hin
            obtain ⟨t, ht⟩ : ∃ t, rangeErr R = t := ⟨_, rfl⟩
            have hF := HR2.out
            rw [HRR.out, ht] at hF
            have HF := Lib.hid hF
            have HTT := Lib.hid ht
            clear hF ht
            have HB21 := Lib.hid hb
            have K0_21 := Lib.hid (show Blk wp (w.heap.size) 64 #[.int .i64 (0), .int .i64 (0)] from hk0)
            have K1_21 := Lib.hid (show Blk wp (wo.heap.size) 64 #[.int .i64 (R.1), .int .i64 (R.2)] from hk1)
            clear hb hk0 hk1
            have l0_21 : w.heap.size < wp.heap.size := K0_21.out.lt
            have z0_0_21 : wp.cell? ⟨w.heap.size, 0, none⟩ = some (.int .i64 (0)) := K0_21.out.cell 0
            have z0_1_21 : wp.cell? ⟨w.heap.size, 1, none⟩ = some (.int .i64 (0)) := K0_21.out.cell 1
            have l1_21 : wo.heap.size < wp.heap.size := K1_21.out.lt
            have z1_0_21 : wp.cell? ⟨wo.heap.size, 0, none⟩ = some (.int .i64 (R.1)) := K1_21.out.cell 0
            have z1_1_21 : wp.cell? ⟨wo.heap.size, 1, none⟩ = some (.int .i64 (R.2)) := K1_21.out.cell 1
            go_wp2_with fail
            refine (checkrange_is R t HTT.out _).mono ?_
            rintro e w22 ⟨rfl, hb⟩
            have HB22 := Lib.hid (show Below w.heap.size w w22 from step_below hb (by repeat' (first | exact Below.refl _ _ | exact HB21.out | assumption | refine below_drewN ?_ _ | refine Below.drew ?_ | refine Below.alloc ?_ (by first | omega | (simp; done) | (simp; omega) | (simp [World.setCell]; omega)) _ | refine Below.setCell ?_ (by first | omega | (simp; done) | (simp; omega)) _)))
            have K0_22 := Lib.hid (step_blk hb (show Blk _ (w.heap.size) 64 #[.int .i64 (0), .int .i64 (0)] by repeat' (first | assumption | exact K0_21.out | exact K1_21.out | exact Blk.at_ _ (by first | rfl | (simp; done) | (simp; omega)) _ _ | refine Blk.drewN ?_ _ | refine Blk.drew ?_ | refine Blk.alloc ?_ _ | refine Blk.far ?_ (by first | omega | (simp; done) | (simp; omega)) _)))
            have K1_22 := Lib.hid (step_blk hb (show Blk _ (wo.heap.size) 64 #[.int .i64 (R.1), .int .i64 (R.2)] by repeat' (first | assumption | exact K0_21.out | exact K1_21.out | exact Blk.at_ _ (by first | rfl | (simp; done) | (simp; omega)) _ _ | refine Blk.drewN ?_ _ | refine Blk.drew ?_ | refine Blk.alloc ?_ _ | refine Blk.far ?_ (by first | omega | (simp; done) | (simp; omega)) _)))
            have hz22 := hb.size
            try simp only [World.size_alloc, World.drewN, World.drew] at hz22
            clear hb K0_21 K1_21 z0_0_21 z0_1_21 l0_21 z1_0_21 z1_1_21 l1_21
            have l0_22 : w.heap.size < w22.heap.size := K0_22.out.lt
            have z0_0_22 : w22.cell? ⟨w.heap.size, 0, none⟩ = some (.int .i64 (0)) := K0_22.out.cell 0
            have z0_1_22 : w22.cell? ⟨w.heap.size, 1, none⟩ = some (.int .i64 (0)) := K0_22.out.cell 1
            have l1_22 : wo.heap.size < w22.heap.size := K1_22.out.lt
            have z1_0_22 : w22.cell? ⟨wo.heap.size, 0, none⟩ = some (.int .i64 (R.1)) := K1_22.out.cell 0
            have z1_1_22 : w22.cell? ⟨wo.heap.size, 1, none⟩ = some (.int .i64 (R.2)) := K1_22.out.cell 1
            have zf0_0 := K0_22.out.frozen 0
            have zf0_1 := K0_22.out.frozen 1
            by_cases h0 : t = 0
            · have hF := HF.out
              rw [if_neg (show ¬ t ≠ 0 by simp [h0])] at hF
              have h1 := congrArg (fun q => q.1.1) hF
              have h2 := congrArg (fun q => q.1.2) hF
              have h3 := congrArg (fun q => q.2) hF
              simp only at h1 h2 h3
              subst h1 h2 h3 h0
              clear hF
              go_wp2
              exact bodyPost_ret (v := .tuple #[.agg #[.int .i64 R.1, .int .i64 R.2], .int .i64 0]) (by simp [results, Try.results38, go_sem, z0_0_22, z0_1_22, z1_0_22, z1_1_22, l0_22, l1_22]) rfl ⟨rfl, by repeat' (first | exact Below.refl _ _ | exact HB22.out | assumption | refine below_drewN ?_ _ | refine Below.drew ?_ | refine Below.alloc ?_ (by first | omega | (simp; done) | (simp; omega) | (simp [World.setCell]; omega)) _ | refine Below.setCell ?_ (by first | omega | (simp; done) | (simp; omega)) _)⟩
            · have e0 : (t != 0) = true := by simpa using h0
              have hF := HF.out
              rw [if_pos h0] at hF
              cases hF
              go_wp2
              exact bodyPost_ret (v := .tuple #[.agg #[.int .i64 0, .int .i64 0], .int .i64 8]) (by simp [results, Try.results38, go_sem, z0_0_22, z0_1_22, z1_0_22, z1_1_22, l0_22, l1_22]) rfl ⟨rfl, by repeat' (first | exact Below.refl _ _ | exact HB22.out | assumption | refine below_drewN ?_ _ | refine Below.drew ?_ | refine Below.alloc ?_ (by first | omega | (simp; done) | (simp; omega) | (simp [World.setCell]; omega)) _ | refine Below.setCell ?_ (by first | omega | (simp; done) | (simp; omega)) _)⟩

end Go.Proofs.Ytmioamcgbihhjaa
