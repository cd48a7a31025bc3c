import Derived.Test.YtgamepmipoociaaQ23

section
/- The least number of a list; the bound that potentials prove: plain law, and the contracts of the least number on both sides. -/
namespace Go.Proofs.Ytgamepmipoociaa
open Go Go.RowKit

def mn (a b : Int) : Int := if b < a then b else a
theorem mn_le (a b : Int) : mn a b ≤ a ∧ mn a b ≤ b := by unfold mn; split <;> omega
def minF : List Int → Int
  | [] => 0
  | x :: r => r.foldl mn x
theorem minF_snoc {l : List Int} (h : l ≠ []) (x : Int) : minF (l ++ [x]) = mn (minF l) x := by
  match l, h with
  | a :: r, _ => simp [minF, List.foldl_append]
theorem fold_le : ∀ (r : List Int) (a : Int), r.foldl mn a ≤ a ∧ ∀ x ∈ r, r.foldl mn a ≤ x
  | [], a => ⟨Int.le_refl a, fun _ h => absurd h (by simp)⟩
  | y :: r, a => by
    obtain ⟨h1, h2⟩ := fold_le r (mn a y)
    have h3 := mn_le a y
    refine ⟨by show r.foldl mn (mn a y) ≤ a; omega, fun x hx => ?_⟩
    show r.foldl mn (mn a y) ≤ x
    rcases List.mem_cons.1 hx with rfl | hx
    · omega
    · exact h2 x hx
theorem minF_le {l : List Int} {x : Int} (h : x ∈ l) : minF l ≤ x := by
  match l, h with
  | a :: r, h =>
    obtain ⟨h1, h2⟩ := fold_le r a
    rcases List.mem_cons.1 h with rfl | h
    · exact h1
    · exact h2 x h

set_option maxRecDepth 100000 in
theorem pmin_is (A : Option Addr) (n c N : Nat) (l : List Int) (v : Int) (hv : minF l = v) (hn0 : 0 < n) (w : World) (hx : Reads w N 1 A n (l.map (.int .i64))) (hn : n ≤ 9223372036854775807) :
    Calls Try.prog 100 #[.slice A n c] w fun e w' => e = .returned (.int .i64 v) ∧ w = w' := by
  have hl := hx.ilen
  obtain ⟨zb, zo, z0, rfl, hzb, hz0, c0⟩ := hx.int_ hn0
  simp only [Nat.add_zero] at c0
  have HX := Lib.hid hx
  have HV := Lib.hid hv
  have HL := Lib.hid hl
  have h1 : minF (l.take 1) = z0 := by
    match l, hz0 with
    | a :: r, hz0 => obtain rfl : a = z0 := by simpa using hz0
                     rfl
  have H1 := Lib.hid h1
  have hn1 : ¬ (n : Int) < 1 := by omega
  clear hx hv hl hz0 h1
  go_enter Try.func100, Try.ntmps100
  go_wp2
  go_loop [3, 4] (fun m i => ∃ q : Nat, 1 ≤ q ∧ q ≤ n ∧ m = .int .i64 (minF (l.take q)) ∧ i = .int .i64 q) (fun _ i => n - (intOf i).toNat)
  case atStart => exact ⟨1, by omega, by omega, by rw [H1.out], rfl⟩
  case round =>
    obtain ⟨q, hq1, hq, rfl, rfl⟩ := hrel
    by_cases hlt : q < n
    · obtain ⟨xb, xo, x, hA, -, hxq, c1⟩ := HX.out.int_ hlt
      cases hA
      have hs : minF (l.take (q + 1)) = mn (minF (l.take q)) x := by
        rw [List.take_add_one, hxq]
        exact minF_snoc (fun e => by have h1 := congrArg List.length e; have h2 := HL.out; rw [List.length_take, h2, List.length_nil] at h1; omega) x
      have HS := Lib.hid hs
      have hqq : (q : Int) < (n : Int) := by omega
      clear hs hxq
      go_wp2
      go_round
      case rel => exact ⟨q + 1, by omega, by omega, by rw [HS.out]; rfl, by go_num⟩
      case measure => simp [intOf]; omega
    · obtain rfl : n = q := by omega
      rw [List.take_of_length_le (by rw [HL.out]; exact Nat.le_refl _), HV.out]
      go_wp2
      go_ret
      exact ⟨rfl, rfl⟩
set_option maxRecDepth 100000 in
theorem rleast_is (A : Option Addr) (n c N : Nat) (l : List Int) (v : Int) (hv : minF l = v) (hn0 : 0 < n) (w : World) (hx : Reads w N 1 A n (l.map (.int .i64))) (hn : n ≤ 9223372036854775807) :
    Calls Try.prog 101 #[.slice A n c] w fun e w' => e = .returned (.int .i64 v) ∧ w = w' := by
  have hl := hx.ilen
  obtain ⟨zb, zo, z0, rfl, hzb, hz0, c0⟩ := hx.int_ hn0
  simp only [Nat.add_zero] at c0
  have HX := Lib.hid hx
  have HV := Lib.hid hv
  have HL := Lib.hid hl
  have h1 : minF (l.take 1) = z0 := by
    match l, hz0 with
    | a :: r, hz0 => obtain rfl : a = z0 := by simpa using hz0
                     rfl
  have H1 := Lib.hid h1
  clear hx hv hl hz0 h1
  go_enter Try.func101, Try.ntmps101
  go_wp2
  go_loop [3, 4] (fun m i => ∃ q : Nat, 1 ≤ q ∧ q ≤ n ∧ m = .int .i64 (minF (l.take q)) ∧ i = .int .i64 q) (fun _ i => n - (intOf i).toNat)
  case atStart => exact ⟨1, by omega, by omega, by rw [H1.out], rfl⟩
  case round =>
    obtain ⟨q, hq1, hq, rfl, rfl⟩ := hrel
    by_cases hlt : q < n
    · obtain ⟨xb, xo, x, hA, -, hxq, c1⟩ := HX.out.int_ hlt
      cases hA
      have hs : minF (l.take (q + 1)) = mn (minF (l.take q)) x := by
        rw [List.take_add_one, hxq]
        exact minF_snoc (fun e => by have h1 := congrArg List.length e; have h2 := HL.out; rw [List.length_take, h2, List.length_nil] at h1; omega) x
      have HS := Lib.hid hs
      have hqq : (q : Int) < (n : Int) := by omega
      clear hs hxq
      go_wp2
      go_round
      case rel => exact ⟨q + 1, by omega, by omega, by rw [HS.out]; rfl, by go_num⟩
      case measure => simp [intOf]; omega
    · obtain rfl : n = q := by omega
      rw [List.take_of_length_le (by rw [HL.out]; exact Nat.le_refl _), HV.out]
      go_wp2
      go_ret
      exact ⟨rfl, rfl⟩

/-- The potentials before, and the positions from which, target i is reached. -/
def befL (ps : List (List Int)) (i : Nat) : List Int := if i = 0 then [0] else (ps[i - 1]?).getD []
def froL (m : Mnt) (day pos : Int) (l : List Tgt) (i : Nat) : List Int := if i = 0 then [pos] else ((l[i - 1]?).map (posV m day)).getD []
theorem befL_succ {ps : List (List Int)} {i : Nat} {p : List Int} (h : ps[i]? = some p) : befL ps (i + 1) = p := by unfold befL; rw [if_neg (by omega), Nat.add_sub_cancel, h]; rfl
theorem froL_succ {m : Mnt} {day pos : Int} {l : List Tgt} {i : Nat} {t : Tgt} (h : l[i]? = some t) : froL m day pos l (i + 1) = posV m day t := by unfold froL; rw [if_neg (by omega), Nat.add_sub_cancel, h]; rfl
def ShapeOk (m : Mnt) (day : Int) (l : List Tgt) (ps : List (List Int)) : Prop := ps.length = l.length ∧ ∀ (i : Nat) (p : List Int) (t : Tgt), ps[i]? = some p → l[i]? = some t → p.length = (turnsV m day t).length
def RangeOk (ps : List (List Int)) : Prop := ∀ p ∈ ps, smallL 1000000000000 p = true
def ProofAt (m : Mnt) (day pos : Int) (l : List Tgt) (ps : List (List Int)) (i : Nat) : Prop :=
  ∀ (p : List Int) (t : Tgt), ps[i]? = some p → l[i]? = some t → ∀ (k : Nat) (z to : Int), p[k]? = some z → (posV m day t)[k]? = some to → ∀ (n : Nat) (b a : Int), (befL ps i)[n]? = some b → (froL m day pos l i)[n]? = some a → z ≤ b + costF a to
def ProofOk (m : Mnt) (day pos : Int) (l : List Tgt) (ps : List (List Int)) : Prop := ∀ i, ProofAt m day pos l ps i
/-- What the check of potentials answers. -/
def LeastRes (m : Mnt) (day pos : Int) (l : List Tgt) (ps : List (List Int)) (C E : Int) : Prop :=
  (¬ ShapeOk m day l ps ∧ C = 0 ∧ E = 10) ∨ (ShapeOk m day l ps ∧ ¬ RangeOk ps ∧ C = 0 ∧ E = 2) ∨ (ShapeOk m day l ps ∧ RangeOk ps ∧ ¬ ProofOk m day pos l ps ∧ C = 0 ∧ E = 22) ∨ (ShapeOk m day l ps ∧ RangeOk ps ∧ ProofOk m day pos l ps ∧ C = minF (befL ps l.length) ∧ E = 0)
theorem least_res (m : Mnt) (day pos : Int) (l : List Tgt) (ps : List (List Int)) : ∃ C E, LeastRes m day pos l ps C E := by
  by_cases h1 : ShapeOk m day l ps
  · by_cases h2 : RangeOk ps
    · by_cases h3 : ProofOk m day pos l ps
      · exact ⟨_, _, .inr (.inr (.inr ⟨h1, h2, h3, rfl, rfl⟩))⟩
      · exact ⟨_, _, .inr (.inr (.inl ⟨h1, h2, h3, rfl, rfl⟩))⟩
    · exact ⟨_, _, .inr (.inl ⟨h1, h2, rfl, rfl⟩)⟩
  · exact ⟨_, _, .inl ⟨h1, rfl, rfl⟩⟩
section
variable {m : Mnt} {day pos : Int} {l : List Tgt} {ps : List (List Int)} {C E : Int}
theorem LeastRes.shape (h : LeastRes m day pos l ps C E) (h1 : ¬ ShapeOk m day l ps) : C = 0 ∧ E = 10 := by
  rcases h with h | h | h | h
  · exact h.2
  · exact absurd h.1 h1
  · exact absurd h.1 h1
  · exact absurd h.1 h1
theorem LeastRes.range (h : LeastRes m day pos l ps C E) (h1 : ShapeOk m day l ps) (h2 : ¬ RangeOk ps) : C = 0 ∧ E = 2 := by
  rcases h with h | h | h | h
  · exact absurd h1 h.1
  · exact h.2.2
  · exact absurd h.2.1 h2
  · exact absurd h.2.1 h2
theorem LeastRes.proof (h : LeastRes m day pos l ps C E) (h1 : ShapeOk m day l ps) (h2 : RangeOk ps) (h3 : ¬ ProofOk m day pos l ps) : C = 0 ∧ E = 22 := by
  rcases h with h | h | h | h
  · exact absurd h1 h.1
  · exact absurd h2 h.2.1
  · exact h.2.2.2
  · exact absurd h.2.2.1 h3
theorem LeastRes.ok (h : LeastRes m day pos l ps C E) (h1 : ShapeOk m day l ps) (h2 : RangeOk ps) (h3 : ProofOk m day pos l ps) : C = minF (befL ps l.length) ∧ E = 0 := by
  rcases h with h | h | h | h
  · exact absurd h1 h.1
  · exact absurd h2 h.2.1
  · exact absurd h3 h.2.2.1
  · exact h.2.2.2
theorem LeastRes.zero (h : LeastRes m day pos l ps C 0) : ShapeOk m day l ps ∧ ProofOk m day pos l ps ∧ C = minF (befL ps l.length) := by
  rcases h with h | h | h | h
  · exact absurd h.2.2 (by decide)
  · exact absurd h.2.2.2 (by decide)
  · exact absurd h.2.2.2.2 (by decide)
  · exact ⟨h.1, h.2.2.1, h.2.2.2.1⟩
theorem bound_upto {ks : List Int} (hs : ShapeOk m day l ps) (hp : ProofOk m day pos l ps) (hk : pathErr m day l ks = 0) : ∀ i, i ≤ l.length → ∃ (n : Nat) (b : Int), (befL ps i)[n]? = some b ∧ (froL m day pos l i)[n]? = some (lastI pos ((pathL m day l ks).take i)) ∧ b ≤ costL pos ((pathL m day l ks).take i)
  | 0, _ => ⟨0, 0, rfl, rfl, by simp [costL]⟩
  | i + 1, hi => by
    obtain ⟨n, b, h1, h2, h3⟩ := bound_upto hs hp hk i (by omega)
    obtain ⟨hkl, hpo⟩ := pathErr_ok hk
    have ht : l[i]? = some l[i] := List.getElem?_eq_getElem (by omega)
    have hki : ks[i]? = some (ks[i]'(by omega)) := List.getElem?_eq_getElem (by omega)
    have hok := path_at hpo ht hki
    unfold turnOk at hok
    obtain ⟨j, hj⟩ := List.getElem?_of_mem (of_decide_eq_true hok)
    have hpi : ps[i]? = some (ps[i]'(by have := hs.1; omega)) := List.getElem?_eq_getElem (by have := hs.1; omega)
    have hlen := hs.2 i _ _ hpi ht
    have hjl := (List.getElem?_eq_some_iff.1 hj).1
    have hz : (ps[i]'(by have := hs.1; omega))[j]? = some ((ps[i]'(by have := hs.1; omega))[j]'(by omega)) := List.getElem?_eq_getElem (by omega)
    have hto : (posV m day l[i])[j]? = some (posK m day l[i] (ks[i]'(by omega))) := posL_get hj
    have hle := hp i _ _ hpi ht j _ _ hz hto n b _ h1 h2
    refine ⟨j, _, by rw [befL_succ hpi]; exact hz, ?_, ?_⟩
    · rw [froL_succ ht, pathL_snoc ht hki, lastI_snoc]; exact hto
    · rw [pathL_snoc ht hki, costL_snoc]; omega
theorem bound_le {ks : List Int} (hs : ShapeOk m day l ps) (hp : ProofOk m day pos l ps) (hk : pathErr m day l ks = 0) : minF (befL ps l.length) ≤ costL pos (pathL m day l ks) := by
  obtain ⟨n, b, h1, -, h3⟩ := bound_upto hs hp hk l.length (Nat.le_refl _)
  rw [List.take_of_length_le (by rw [pathL_len (pathErr_ok hk).1]; exact Nat.le_refl _)] at h3
  have := minF_le (List.mem_of_getElem? h1)
  omega
end
end Go.Proofs.Ytgamepmipoociaa

end
