import Derived.Test.YtgamepmipoociaaQ25
import Derived.Test.YtgamepmipoociaaQ26
import Derived.Test.YtgamepmipoociaaQ22

section
/- Contracts of screws: area, check, lowest terms; both sides. -/
namespace Go.Proofs.Ytgamepmipoociaa
open Go Go.RowKit

def scr4 (l : List (Int × Int)) : List Int := l.flatMap fun p => [p.1, p.2]
def scrDet : List (Int × Int) → Int
  | [a, b] => a.1 * b.2 - b.1 * a.2
  | _ => 0
/-- The error of screws. -/
def scrErr (l : List (Int × Int)) : Int := if l.length ≠ 2 then 10 else if smallL 1000 (scr4 l) = false then 2 else if scrDet l = 0 then 11 else 0
theorem two_of {l : List (Int × Int)} (h : l.length = 2) : ∃ a0 a1 b0 b1, l = [(a0, a1), (b0, b1)] := by
  match l, h with
  | [(a0, a1), (b0, b1)], _ => exact ⟨a0, a1, b0, b1, rfl⟩
theorem small4 {a0 a1 b0 b1 : Int} (h : smallL 1000 (scr4 [(a0, a1), (b0, b1)]) = true) : (-1000 ≤ a0 ∧ a0 ≤ 1000) ∧ (-1000 ≤ a1 ∧ a1 ≤ 1000) ∧ (-1000 ≤ b0 ∧ b0 ≤ 1000) ∧ (-1000 ≤ b1 ∧ b1 ≤ 1000) := by
  simp only [scr4, List.flatMap_cons, List.flatMap_nil, List.append_nil, List.cons_append, List.nil_append, smallL, List.all_cons, List.all_nil, Bool.and_true, Bool.and_eq_true, withinB_iff] at h
  exact h
theorem Reads.four {w : World} {B : Nat} {A : Option Addr} {a0 a1 b0 b1 : Int} (h : Reads w B 2 A 2 (cells2 [(a0, a1), (b0, b1)])) :
    ∃ b o, A = some ⟨b, o, none⟩ ∧ b < B ∧ w.cell? ⟨b, o, none⟩ = some (.int .i64 a0) ∧ w.cell? ⟨b, o + 1, none⟩ = some (.int .i64 a1) ∧ w.cell? ⟨b, o + 2, none⟩ = some (.int .i64 b0) ∧ w.cell? ⟨b, o + 2 + 1, none⟩ = some (.int .i64 b1) := by
  obtain ⟨b, o, e, hb, hc⟩ := h.2 (by omega)
  exact ⟨b, o, e, hb, hc 0 _ rfl, hc 1 _ rfl, hc 2 _ rfl, hc 3 _ rfl⟩

theorem prod_in {x y a b : Int} (hx : -a ≤ x ∧ x ≤ a) (hy : -b ≤ y ∧ y ≤ b) (ha : 0 ≤ a) (hb : 0 ≤ b) : -(a * b) ≤ x * y ∧ x * y ≤ a * b := mulb hx hy ha hb
set_option maxRecDepth 100000 in
theorem area_is (A : Option Addr) (c N : Nat) (a0 a1 b0 b1 d : Int) (hd : a0 * b1 - b0 * a1 = d) (hs : smallL 1000 (scr4 [(a0, a1), (b0, b1)]) = true) (w : World) (hx : Reads w N 2 A 2 (cells2 [(a0, a1), (b0, b1)])) :
    Calls Try.prog 90 #[.slice A 2 c] w fun e w' => e = .returned (.int .i64 d) ∧ ∃ q, w' = w.drewN q := by
  obtain ⟨h0, h1, h2, h3⟩ := small4 hs
  have p1 := mulb h0 h3 (by decide) (by decide)
  have p2 := mulb h2 h1 (by decide) (by decide)
  have e1 := IntWalk.i64_in (a0 * b1) ⟨by omega, by omega⟩
  have e2 := IntWalk.i64_in (b0 * a1) ⟨by omega, by omega⟩
  have e3 := IntWalk.i64_in (a0 * b1 - b0 * a1) ⟨by omega, by omega⟩
  obtain ⟨xb, xo, rfl, -, c0, c1, c2, c3⟩ := hx.four
  have HD := Lib.hid hd
  clear hx hd hs
  go_enter Try.func90, Try.ntmps90
  go_wp2
  go_quiet (fail)
  go_wp2
  go_ret
  exact ⟨by rw [← HD.out]; first | done | rfl, _, rfl⟩
set_option maxRecDepth 100000 in
theorem rcross_is (a0 a1 b0 b1 d : Int) (hd : a0 * b1 - a1 * b0 = d) (w : World) (h0 : -100000 ≤ a0 ∧ a0 ≤ 100000) (h1 : -100000 ≤ a1 ∧ a1 ≤ 100000) (h2 : -100000 ≤ b0 ∧ b0 ≤ 100000) (h3 : -100000 ≤ b1 ∧ b1 ≤ 100000) :
    Calls Try.prog 91 #[.agg #[.int .i64 a0, .int .i64 a1], .agg #[.int .i64 b0, .int .i64 b1]] w fun e w' => e = .returned (.int .i64 d) ∧ Below w.heap.size w w' := by
  have p1 := mulb h0 h3 (by decide) (by decide)
  have p2 := mulb h1 h2 (by decide) (by decide)
  have e1 := IntWalk.i64_in (a0 * b1) ⟨by omega, by omega⟩
  have e2 := IntWalk.i64_in (a1 * b0) ⟨by omega, by omega⟩
  have e3 := IntWalk.i64_in (a0 * b1 - a1 * b0) ⟨by omega, by omega⟩
  have HD := Lib.hid hd
  clear hd
  go_enter Try.func91, Try.ntmps91
  go_wp2
  go_ret
  exact ⟨by rw [← HD.out]; first | done | rfl, by repeat' (first | exact Below.refl _ _ | refine below_drewN ?_ _ | refine Below.drew ?_ | refine Below.alloc ?_ (by first | omega | (simp; done) | (simp; omega) | (simp [World.setCell]; omega)) _ | refine Below.setCell ?_ (by first | omega | (simp; done) | (simp; omega)) _)⟩
theorem isoff_is (x y : Int) (t : Bool) (ht : smallL 100000 [x, y] = t) (w : World) : Calls Try.prog 45 #[.agg #[.int .i64 x, .int .i64 y]] w fun e w' => e = .returned (.bool t) ∧ Below w.heap.size w w' := by
  have hs : smallL 100000 [x, y] = (withinB x (-100000) 100000 && withinB y (-100000) 100000) := by unfold smallL; simp
  rw [hs] at ht
  cases hx : withinB x (-100000) 100000
  · rw [hx] at ht
    obtain rfl : t = false := ht.symm
    have HX := Lib.hid hx
    clear hs ht hx
    go_enter Try.func45, Try.ntmps45
    go_wp2_with fail
    refine (withinref_is _ _ _ false HX.out _).mono ?_
    rintro e w' ⟨rfl, rfl⟩
    go_wp2
    go_ret
    exact ⟨rfl, by repeat' (first | exact Below.refl _ _ | refine below_drewN ?_ _ | refine Below.drew ?_ | refine Below.alloc ?_ (by first | omega | (simp; done) | (simp; omega) | (simp [World.setCell]; omega)) _ | refine Below.setCell ?_ (by first | omega | (simp; done) | (simp; omega)) _)⟩
  · rw [hx, Bool.true_and] at ht
    have HX := Lib.hid hx
    have HT := Lib.hid ht
    clear hs ht hx
    go_enter Try.func45, Try.ntmps45
    go_wp2_with fail
    refine (withinref_is _ _ _ true HX.out _).mono ?_
    rintro e w' ⟨rfl, rfl⟩
    go_wp2_with fail
    refine (withinref_is _ _ _ t HT.out _).mono ?_
    rintro e w' ⟨rfl, rfl⟩
    go_wp2
    go_ret
    exact ⟨rfl, by repeat' (first | exact Below.refl _ _ | refine below_drewN ?_ _ | refine Below.drew ?_ | refine Below.alloc ?_ (by first | omega | (simp; done) | (simp; omega) | (simp [World.setCell]; omega)) _ | refine Below.setCell ?_ (by first | omega | (simp; done) | (simp; omega)) _)⟩

/-- Lowest terms of a fraction whose denominator is not 0. -/
def lowF (a b : Int) : Int × Int := if b < 0 then (redN (-a) (-b), redD (-a) (-b)) else (redN a b, redD a b)
theorem red_spec {a b : Int} (hb : 0 < b) : redN a b * b = redD a b * a ∧ 0 < redD a b ∧ redD a b ≤ b ∧ (redN a b).natAbs ≤ a.natAbs := by
  unfold redN redD
  have hg : 0 < (Int.gcd a b : Int) := by have := Int.gcd_pos_of_ne_zero_right a (show b ≠ 0 by omega); omega
  obtain ⟨x, hx⟩ := Int.gcd_dvd_left a b
  obtain ⟨y, hy⟩ := Int.gcd_dvd_right a b
  obtain ⟨g, hgg⟩ : ∃ g : Int, (Int.gcd a b : Int) = g := ⟨_, rfl⟩
  rw [hgg] at hg hx hy ⊢
  have e1 : a / g = x := by rw [hx]; exact Int.mul_ediv_cancel_left x (by omega)
  have e2 : b / g = y := by rw [hy]; exact Int.mul_ediv_cancel_left y (by omega)
  have hy0 : 0 < y := by
    rcases Int.lt_or_le 0 y with h | h
    · exact h
    · have := Int.mul_nonpos_of_nonneg_of_nonpos (show 0 ≤ g by omega) h
      omega
  rw [e1, e2]
  clear hgg e1 e2
  refine ⟨?_, hy0, ?_, ?_⟩
  · have : g * x * y = y * (g * x) := Int.mul_comm _ _
    calc x * b = x * (g * y) := by rw [hy]
      _ = g * x * y := by rw [← Int.mul_assoc, Int.mul_comm x g]
      _ = y * (g * x) := this
      _ = y * a := by rw [hx]
  · rw [hy]
    have := Int.mul_le_mul_of_nonneg_right (show (1 : Int) ≤ g by omega) (show (0 : Int) ≤ y by omega)
    omega
  · rw [hx, Int.natAbs_mul]
    exact Nat.le_mul_of_pos_left _ (by omega)
end Go.Proofs.Ytgamepmipoociaa

end
