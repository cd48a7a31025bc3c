/- Loads about axes: their memory, their errors and moments, and the contracts of the functions on them. -/
import Derived.Test.YtmioamcgbihhjaaPeak
import Derived.Test.YtmioamcgbihhjaaMul
namespace Go.Proofs.Ytmioamcgbihhjaa
open Go.RowKit

def cells3 (l : List (Int × Int × Int)) : List Value := l.flatMap fun p => [.int .i64 p.1, .int .i64 p.2.1, .int .i64 p.2.2]
theorem cells3_length (l : List (Int × Int × Int)) : (cells3 l).length = l.length * 3 := by
  induction l with
  | nil => rfl
  | cons p l ih => simp only [cells3, List.flatMap_cons, List.length_append, List.length_cons, List.length_nil] at *; omega
theorem cells3_append (l m : List (Int × Int × Int)) : cells3 (l ++ m) = cells3 l ++ cells3 m := by simp [cells3]
theorem cells3_get : ∀ (l : List (Int × Int × Int)) (i : Nat) (p : Int × Int × Int), l[i]? = some p → (cells3 l)[i * 3]? = some (.int .i64 p.1) ∧ (cells3 l)[i * 3 + 1]? = some (.int .i64 p.2.1) ∧ (cells3 l)[i * 3 + 2]? = some (.int .i64 p.2.2)
  | q :: l, 0, p, h => by simp at h; subst h; simp [cells3]
  | q :: l, i + 1, p, h => by
    have ih := cells3_get l i p (by simpa using h)
    have e : cells3 (q :: l) = .int .i64 q.1 :: .int .i64 q.2.1 :: .int .i64 q.2.2 :: cells3 l := rfl
    rw [e, show (i + 1) * 3 = i * 3 + 1 + 1 + 1 by omega]
    simpa using ih
  | [], i, p, h => by simp at h
theorem Reads.len3 {w : World} {B n : Nat} {A : Option Addr} {l : List (Int × Int × Int)} (h : Reads w B 3 A n (cells3 l)) : l.length = n := by
  have := h.1; rw [cells3_length] at this; omega
theorem Reads.triple {w : World} {B n : Nat} {A : Option Addr} {l : List (Int × Int × Int)} (h : Reads w B 3 A n (cells3 l)) {i : Nat} (hi : i < n) :
    ∃ b o p, A = some ⟨b, o, none⟩ ∧ b < B ∧ l[i]? = some p ∧ w.cell? ⟨b, o + i * 3, none⟩ = some (.int .i64 p.1) ∧ w.cell? ⟨b, o + i * 3 + 1, none⟩ = some (.int .i64 p.2.1) ∧ w.cell? ⟨b, o + i * 3 + 2, none⟩ = some (.int .i64 p.2.2) := by
  obtain ⟨b, o, e, hb, hc⟩ := h.2 (by omega)
  have hl := h.len3
  have hp : l[i]? = some (l[i]'(by omega)) := List.getElem?_eq_getElem (by omega)
  obtain ⟨g1, g2, g3⟩ := cells3_get l i _ hp
  exact ⟨b, o, _, e, hb, hp, hc _ _ g1, hc _ _ g2, hc _ _ g3⟩

theorem one_cells3 (l : List (Int × Int × Int)) : ∀ u ∈ cells3 l, u.oneCell' = true := by
  intro u hu
  unfold cells3 at hu
  rw [List.mem_flatMap] at hu
  obtain ⟨p, -, hp⟩ := hu
  simp at hp
  rcases hp with rfl | rfl | rfl <;> rfl

/-- The error of a load. -/
def loadErr (p : Int × Int × Int) : Int := if 0 ≤ p.1 ∧ p.1 ≤ 10000000 ∧ -10000000 ≤ p.2.1 ∧ p.2.1 ≤ 10000000 ∧ -10000000 ≤ p.2.2 ∧ p.2.2 ≤ 10000000 then 0 else 2
theorem loadErr_zero {p : Int × Int × Int} (h : loadErr p = 0) : 0 ≤ p.1 ∧ p.1 ≤ 10000000 ∧ -10000000 ≤ p.2.1 ∧ p.2.1 ≤ 10000000 ∧ -10000000 ≤ p.2.2 ∧ p.2.2 ≤ 10000000 := by
  unfold loadErr at h
  split at h
  · assumption
  · cases h
theorem loadErr_two {p : Int × Int × Int} (h : loadErr p ≠ 0) : loadErr p = 2 := by
  unfold loadErr at *
  split at h
  · exact absurd rfl h
  · rw [if_neg (by assumption)]
def loadsErr (l : List (Int × Int × Int)) : Int := if 60 < l.length then 8 else firstErr loadErr l
theorem loadsErr_ok {l : List (Int × Int × Int)} (h : loadsErr l = 0) : l.length ≤ 60 ∧ ∀ p ∈ l, loadErr p = 0 := by
  unfold loadsErr at h
  split at h
  · cases h
  · exact ⟨by omega, firstErr_zero h⟩
/-- The moments of loads. -/
def momF (l : List (Int × Int × Int)) : Int × Int := l.foldl (fun m p => (m.1 + p.1 * p.2.1, m.2 + p.1 * p.2.2)) (0, 0)
theorem momF_snoc (l : List (Int × Int × Int)) (p : Int × Int × Int) : momF (l ++ [p]) = ((momF l).1 + p.1 * p.2.1, (momF l).2 + p.1 * p.2.2) := by
  unfold momF; rw [List.foldl_append]; rfl
theorem take_snoc {α : Type} {l : List α} {k : Nat} {p : α} (h : l[k]? = some p) : l.take (k + 1) = l.take k ++ [p] := by rw [List.take_add_one, h]; rfl
theorem load_prod {p : Int × Int × Int} (h : loadErr p = 0) : -100000000000000 ≤ p.1 * p.2.1 ∧ p.1 * p.2.1 ≤ 100000000000000 ∧ -100000000000000 ≤ p.1 * p.2.2 ∧ p.1 * p.2.2 ≤ 100000000000000 := by
  obtain ⟨a, b, c, d, e, f⟩ := loadErr_zero h
  have hp : ∀ y : Int, -10000000 ≤ y → y ≤ 10000000 → -100000000000000 ≤ p.1 * y ∧ p.1 * y ≤ 100000000000000 := by
    intro y h1 h2
    have m1 := Int.mul_le_mul_of_nonneg_left h2 a
    have m2 := Int.mul_le_mul_of_nonneg_left h1 a
    omega
  have := hp _ c d
  have := hp _ e f
  omega

set_option maxRecDepth 100000 in
set_option maxHeartbeats 1000000 in
theorem checkloads_any (A : Option Addr) (n c N : Nat) (l : List (Int × Int × Int)) (w : World) (hx : Reads w N 3 A n (cells3 l)) (hN : N ≤ w.heap.size) (hn : n ≤ 9223372036854775807) (E : Int) (hE : loadsErr l = E) :
    Calls Try.prog 44 #[.slice A n c] w fun e w' => e = .returned (.int .i64 E) ∧ Below w.heap.size w w' := by
  have hxl := Lib.hid hx.len3
  have HX := Lib.hid hx
  clear hx
  by_cases h12 : (60 : Int) < n
  · have HE : Hid (E = 8) := by show _ = _; rw [← hE]; unfold loadsErr; rw [if_pos (by rw [hxl.out]; omega)]
    clear hE
    go_enter Try.func44, Try.ntmps44
    go_wp2
    go_ret
    exact ⟨ret_int HE.out.symm, Below.refl _ _⟩
  have HE : Hid (E = firstErr loadErr l) := by show _ = _; rw [← hE]; unfold loadsErr; rw [if_neg (by rw [hxl.out]; omega)]
  clear hE
  go_enter Try.func44, Try.ntmps44
  go_wp2
  go_loopw [3] (fun i wr => ∃ k : Nat, k ≤ n ∧ i = .int .i64 k ∧ (∀ p ∈ l.take k, loadErr p = 0) ∧ Below w.heap.size w wr) (fun i _ => n - (intOf i).toNat)
  case atStart => exact ⟨0, by omega, rfl, by simp, Below.refl _ _⟩
  case round =>
    obtain ⟨k, hk, rfl, ht, hb⟩ := hrel
    have HT := Lib.hid ht
    have HB := Lib.hid hb
    clear ht hb
    by_cases hlt : k < n
    · obtain ⟨xb, xo, p, rfl, hxb, hp, c0, c1, c2⟩ := (HX.out.belowLe HB.out hN).triple hlt
      have HP := Lib.hid hp
      clear hp
      cases h1 : withinB p.1 0 10000000 with
      | false =>
        have hE1 : loadErr p = 2 := by unfold loadErr; rw [if_neg (by have := within_no h1; omega)]
        have hE2 := HE.out.trans (firstErr_at HP.out HT.out (by rw [hE1]; decide))
        rw [hE1] at hE2
        have HE2 := Lib.hid hE2
        clear hE1 hE2
        go_wp2_with (first | (go_at_call 31; refine (withinref_is _ _ _ _ (by assumption) _).mono ?_; rintro e w' ⟨rfl, rfl⟩))
        go_ret
        exact ⟨ret_int HE2.out.symm, HB.out⟩
      | true =>
        cases h2 : withinB p.2.1 (-10000000) 10000000 with
        | false =>
          have hE1 : loadErr p = 2 := by unfold loadErr; rw [if_neg (by have := within_no h2; omega)]
          have hE2 := HE.out.trans (firstErr_at HP.out HT.out (by rw [hE1]; decide))
          rw [hE1] at hE2
          have HE2 := Lib.hid hE2
          clear hE1 hE2
          go_wp2_with (first | (go_at_call 31; refine (withinref_is _ _ _ _ (by assumption) _).mono ?_; rintro e w' ⟨rfl, rfl⟩))
          go_ret
          exact ⟨ret_int HE2.out.symm, HB.out⟩
        | true =>
          cases h3 : withinB p.2.2 (-10000000) 10000000 with
          | false =>
            have hE1 : loadErr p = 2 := by unfold loadErr; rw [if_neg (by have := within_no h3; omega)]
            have hE2 := HE.out.trans (firstErr_at HP.out HT.out (by rw [hE1]; decide))
            rw [hE1] at hE2
            have HE2 := Lib.hid hE2
            clear hE1 hE2
            go_wp2_with (first | (go_at_call 31; refine (withinref_is _ _ _ _ (by assumption) _).mono ?_; rintro e w' ⟨rfl, rfl⟩))
            go_ret
            exact ⟨ret_int HE2.out.symm, HB.out⟩
          | true =>
            have hE1 : loadErr p = 0 := by unfold loadErr; rw [if_pos (by have := within_yes h1; have := within_yes h2; have := within_yes h3; omega)]
            have HE1 := Lib.hid hE1
            clear hE1
            go_wp2_with (first | (go_at_call 31; refine (withinref_is _ _ _ _ (by assumption) _).mono ?_; rintro e w' ⟨rfl, rfl⟩))
            go_roundw
            case rel => exact ⟨k + 1, by omega, by go_num, take_ok HP.out HT.out HE1.out, HB.out⟩
            case measure => simp [intOf]; omega
    · go_wp2
      go_ret
      have e : l.take k = l := List.take_of_length_le (by rw [hxl.out]; omega)
      have ht := HT.out
      rw [e] at ht
      exact ⟨ret_int (by rw [HE.out, firstErr_ok ht]), HB.out⟩

end Go.Proofs.Ytmioamcgbihhjaa
