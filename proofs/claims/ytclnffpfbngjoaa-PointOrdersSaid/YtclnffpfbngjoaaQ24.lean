import Derived.Test.YtclnffpfbngjoaaQ23
import Derived.Test.YtclnffpfbngjoaaQ14
import Derived.Test.YtclnffpfbngjoaaQ18
import Derived.Test.YtclnffpfbngjoaaQ21
import Derived.Test.YtclnffpfbngjoaaQ11
import Derived.Test.YtclnffpfbngjoaaQ16
import Derived.Test.YtclnffpfbngjoaaQ17

section
/- The choice with the least cost: plain law (least costs up to each turn, the way back, the potentials that prove it). -/
namespace Go.Proofs.Ytclnffpfbngjoaa
open Go Go.RowKit

/-- The cost of reaching `to` over the n-th place before. -/
def valC (B F : List Int) (to : Int) (n : Nat) : Int := (B[n]?).getD 0 + costF ((F[n]?).getD 0) to
/-- The best place among the first h. -/
def bestC (B F : List Int) (to : Int) : Nat → Nat
  | 0 => 0
  | h + 1 => if valC B F to h < valC B F to (bestC B F to h) then h else bestC B F to h
theorem bestC_lt (B F : List Int) (to : Int) : ∀ {h : Nat}, 0 < h → bestC B F to h < h
  | 0, h => absurd h (by omega)
  | h + 1, _ => by
    unfold bestC
    split
    · omega
    · by_cases h0 : 0 < h
      · have := bestC_lt B F to h0; omega
      · obtain rfl : h = 0 := by omega
        show (0 : Nat) < 0 + 1
        omega
def lowC (B F : List Int) (to : Int) : Nat := bestC B F to F.length
def rowC (B F Ps : List Int) : List Int := Ps.map fun to => valC B F to (lowC B F to)
def byC (B F Ps : List Int) : List Int := Ps.map fun to => (lowC B F to : Int)
section
variable (m : Mnt) (day pos : Int) (l : List Tgt)
/-- The least costs up to each place of target i - 1. -/
def dpB : Nat → List Int
  | 0 => [0]
  | i + 1 => rowC (dpB i) (froL m day pos l i) (froL m day pos l (i + 1))
def cameL (i : Nat) : List Int := byC (dpB m day pos l i) (froL m day pos l i) (froL m day pos l (i + 1))
def potL : List (List Int) := (List.range l.length).map fun i => dpB m day pos l (i + 1)
def leastC : Int := minF (dpB m day pos l l.length)
/-- The place on the way back: j steps behind the end. -/
def backC (k0 : Nat) : Nat → Nat
  | 0 => k0
  | j + 1 => lowC (dpB m day pos l (l.length - 1 - j)) (froL m day pos l (l.length - 1 - j)) (((froL m day pos l (l.length - j))[backC k0 j]?).getD 0)
def wayC (k0 j : Nat) : Nat := backC m day pos l k0 j
/-- The turns that are chosen. -/
def turnsC (k0 : Nat) : List Int := (List.range l.length).map fun i => (((l[i]?).map (turnsV m day)).getD [])[wayC m day pos l k0 (l.length - 1 - i)]?.getD 0
end
variable {m : Mnt} {day pos : Int} {l : List Tgt}
theorem dpB_len : ∀ i, i ≤ l.length → (dpB m day pos l i).length = (froL m day pos l i).length
  | 0, _ => rfl
  | i + 1, _ => by show (rowC _ _ _).length = _; unfold rowC; rw [List.length_map]
theorem minF_mem : ∀ {l : List Int}, l ≠ [] → minF l ∈ l := by
  have h : ∀ (r : List Int) (a : Int), r.foldl mn a = a ∨ r.foldl mn a ∈ r := by
    intro r
    induction r with
    | nil => exact fun a => .inl rfl
    | cons y r ih =>
      intro a
      show List.foldl mn (mn a y) r = a ∨ List.foldl mn (mn a y) r ∈ y :: r
      rcases ih (mn a y) with h | h
      · rw [h]
        unfold mn
        split
        · exact .inr (by simp)
        · exact .inl rfl
      · exact .inr (List.mem_cons_of_mem _ h)
  intro l hl
  match l, hl with
  | a :: r, _ =>
    rcases h r a with e | e
    · show List.foldl mn a r ∈ a :: r
      rw [e]; simp
    · exact List.mem_cons_of_mem _ e
theorem fro_some (hne : ∀ t ∈ l, 0 < (turnsV m day t).length) : ∀ i, i ≤ l.length → 0 < (froL m day pos l i).length := by
  intro i hi
  unfold froL
  by_cases h : i = 0
  · rw [if_pos h]; exact Nat.one_pos
  · have ht : l[i - 1]? = some l[i - 1] := List.getElem?_eq_getElem (by omega)
    rw [if_neg h, ht]
    show 0 < (posL _ _).length
    unfold posL
    rw [List.length_map]
    exact hne _ (List.getElem_mem _)
theorem lowC_lt (hne : ∀ t ∈ l, 0 < (turnsV m day t).length) {i : Nat} (hi : i ≤ l.length) (B : List Int) (to : Int) : lowC B (froL m day pos l i) to < (froL m day pos l i).length := bestC_lt _ _ _ (fro_some hne i hi)
def EndC (m : Mnt) (day pos : Int) (l : List Tgt) (k0 : Nat) : Prop := (dpB m day pos l l.length)[k0]? = some (leastC m day pos l)
theorem leastC_mem (hne : ∀ t ∈ l, 0 < (turnsV m day t).length) : leastC m day pos l ∈ dpB m day pos l l.length := by
  have h0 : dpB m day pos l l.length ≠ [] := fun e => by
    have h1 := dpB_len (m := m) (day := day) (pos := pos) l.length (Nat.le_refl _)
    have h2 := fro_some (pos := pos) hne l.length (Nat.le_refl _)
    rw [e] at h1
    simp at h1
    omega
  exact minF_mem h0
variable {k0 : Nat}
theorem wayC_lt (hk0 : EndC m day pos l k0) (hne : ∀ t ∈ l, 0 < (turnsV m day t).length) : ∀ j, j ≤ l.length → wayC m day pos l k0 j < (froL m day pos l (l.length - j)).length
  | 0, _ => by
    have h := (List.getElem?_eq_some_iff.1 hk0).1
    rw [dpB_len _ (Nat.le_refl _)] at h
    exact h
  | j + 1, h => by
    show lowC _ _ _ < _
    rw [show l.length - (j + 1) = l.length - 1 - j by omega]
    exact lowC_lt hne (by omega) _ _
theorem wayC_succ (j : Nat) : wayC m day pos l k0 (j + 1) = lowC (dpB m day pos l (l.length - 1 - j)) (froL m day pos l (l.length - 1 - j)) (((froL m day pos l (l.length - j))[wayC m day pos l k0 j]?).getD 0) := rfl
theorem came_at (hk0 : EndC m day pos l k0) (hne : ∀ t ∈ l, 0 < (turnsV m day t).length) {j : Nat} (hj : j < l.length) : (cameL m day pos l (l.length - 1 - j))[wayC m day pos l k0 j]? = some (wayC m day pos l k0 (j + 1) : Int) := by
  have h := wayC_lt hk0 hne j (by omega)
  have e : l.length - 1 - j + 1 = l.length - j := by omega
  unfold cameL byC
  rw [e, List.getElem?_map, List.getElem?_eq_getElem h, wayC_succ, List.getElem?_eq_getElem h]
  rfl
theorem turns_at (hk0 : EndC m day pos l k0) (hne : ∀ t ∈ l, 0 < (turnsV m day t).length) {i : Nat} {t : Tgt} (ht : l[i]? = some t) : (turnsV m day t)[wayC m day pos l k0 (l.length - 1 - i)]? = some ((turnsC m day pos l k0)[i]?.getD 0) := by
  have hi := (List.getElem?_eq_some_iff.1 ht).1
  have h := wayC_lt hk0 hne (l.length - 1 - i) (by omega)
  rw [show l.length - (l.length - 1 - i) = i + 1 by omega, froL_succ ht] at h
  have h2 : (posV m day t).length = (turnsV m day t).length := by unfold posV posL; rw [List.length_map]
  unfold turnsC
  rw [List.getElem?_map, List.getElem?_range hi, List.getElem?_eq_getElem (by omega)]
  simp only [Option.map_some, Option.getD_some, ht]
  rw [List.getElem?_eq_getElem (by omega)]
  rfl
theorem turnsC_len : (turnsC m day pos l k0).length = l.length := by unfold turnsC; rw [List.length_map, List.length_range]
theorem turnsC_ok (hk0 : EndC m day pos l k0) (hne : ∀ t ∈ l, 0 < (turnsV m day t).length) : pathErr m day l (turnsC m day pos l k0) = 0 := by
  unfold pathErr
  rw [if_neg (by rw [turnsC_len]; simp), path_good fun i t k ht hk => ?_, if_neg (by simp)]
  have h := turns_at hk0 hne ht
  rw [hk] at h
  exact decide_eq_true (List.mem_of_getElem? h)
theorem turnsC_upto (hk0 : EndC m day pos l k0) (hne : ∀ t ∈ l, 0 < (turnsV m day t).length) : ∀ i, i ≤ l.length →
    (dpB m day pos l i)[wayC m day pos l k0 (l.length - i)]? = some (costL pos ((pathL m day l (turnsC m day pos l k0)).take i)) ∧ (froL m day pos l i)[wayC m day pos l k0 (l.length - i)]? = some (lastI pos ((pathL m day l (turnsC m day pos l k0)).take i))
  | 0, _ => by
    have h := wayC_lt hk0 hne l.length (Nat.le_refl _)
    rw [Nat.sub_self] at h
    have h0 : wayC m day pos l k0 (l.length - 0) = 0 := by
      have : (froL m day pos l 0).length = 1 := rfl
      rw [Nat.sub_zero]
      omega
    rw [h0]
    exact ⟨rfl, rfl⟩
  | i + 1, hi => by
    obtain ⟨h1, h2⟩ := turnsC_upto hk0 hne i (by omega)
    have ht : l[i]? = some l[i] := List.getElem?_eq_getElem (by omega)
    have hk := turns_at hk0 hne ht
    have hki : (turnsC m day pos l k0)[i]? = some ((turnsC m day pos l k0)[i]?.getD 0) := by
      rw [List.getElem?_eq_getElem (by rw [turnsC_len]; omega)]; rfl
    have e1 : l.length - (i + 1) = l.length - 1 - i := by omega
    have hto : (froL m day pos l (i + 1))[wayC m day pos l k0 (l.length - (i + 1))]? = some (posK m day l[i] ((turnsC m day pos l k0)[i]?.getD 0)) := by
      rw [froL_succ ht, e1]; exact posL_get hk
    rw [pathL_snoc ht hki, lastI_snoc, costL_snoc]
    refine ⟨?_, hto⟩
    show (rowC _ _ _)[_]? = _
    unfold rowC
    rw [List.getElem?_map, hto]
    simp only [Option.map_some]
    congr 1
    have e2 : l.length - 1 - (l.length - (i + 1)) = i := by omega
    have e3 : l.length - (l.length - (i + 1)) = i + 1 := by omega
    have hw : lowC (dpB m day pos l i) (froL m day pos l i) (posK m day l[i] ((turnsC m day pos l k0)[i]?.getD 0)) = wayC m day pos l k0 (l.length - i) := by
      rw [show l.length - i = l.length - (i + 1) + 1 by omega, wayC_succ, e2, e3, hto]
      rfl
    rw [hw]
    unfold valC
    rw [h1, h2]
    rfl
/-- The choice costs the least cost. -/
theorem turnsC_cost (hk0 : EndC m day pos l k0) (hne : ∀ t ∈ l, 0 < (turnsV m day t).length) : costL pos (pathL m day l (turnsC m day pos l k0)) = leastC m day pos l := by
  have h := (turnsC_upto hk0 hne l.length (Nat.le_refl _)).1
  rw [Nat.sub_self, List.take_of_length_le (by rw [pathL_len turnsC_len]; exact Nat.le_refl _)] at h
  exact Option.some.inj (h.symm.trans hk0)
theorem fro_in2 {i : Nat} (hm : mntErr m = 0) (hp : m.ls ≤ pos ∧ pos ≤ m.ms) : ∀ z ∈ froL m day pos l i, -25920000 ≤ z ∧ z ≤ 25920000 := by
  obtain ⟨⟨a1, a2, a3, a4⟩, -⟩ := mnt_right hm
  intro z hz
  unfold froL at hz
  split at hz
  · obtain rfl : z = pos := by simpa using hz
    omega
  · cases h : l[i - 1]? with
    | none => rw [h] at hz; simp at hz
    | some t =>
      rw [h] at hz
      have := posV_in (show z ∈ posV m day t by simpa using hz)
      omega
theorem cost_bound2 {a b : Int} (ha : -25920000 ≤ a ∧ a ≤ 25920000) (hb : -25920000 ≤ b ∧ b ≤ 25920000) : 0 ≤ costF a b ∧ costF a b ≤ 10100000000 := by
  unfold costF wayF
  split <;> omega
theorem dpB_in (hm : mntErr m = 0) (hp : m.ls ≤ pos ∧ pos ≤ m.ms) (hne : ∀ t ∈ l, 0 < (turnsV m day t).length) : ∀ i, i ≤ l.length → ∀ z ∈ dpB m day pos l i, 0 ≤ z ∧ z ≤ 10100000000 * i
  | 0, _, z, hz => by
    obtain rfl : z = 0 := by simpa [dpB] using hz
    omega
  | i + 1, hi, z, hz => by
    have ih := dpB_in hm hp hne i (by omega)
    have hz : z ∈ rowC (dpB m day pos l i) (froL m day pos l i) (froL m day pos l (i + 1)) := hz
    unfold rowC at hz
    obtain ⟨to, hto, rfl⟩ := List.mem_map.1 hz
    have h1 := lowC_lt (pos := pos) hne (show i ≤ l.length by omega) (dpB m day pos l i) to
    have h2 := dpB_len (m := m) (day := day) (pos := pos) (l := l) i (by omega)
    unfold valC
    rw [List.getElem?_eq_getElem (by omega), List.getElem?_eq_getElem h1]
    have h3 := ih _ (List.getElem_mem (show lowC (dpB m day pos l i) (froL m day pos l i) to < (dpB m day pos l i).length by omega))
    have h4 := cost_bound2 (fro_in2 hm hp _ (List.getElem_mem h1)) (fro_in2 hm hp _ hto)
    simp only [Option.getD_some]
    omega
end Go.Proofs.Ytclnffpfbngjoaa

end

section
/- The class of worlds of a region whose order is left open: two lists are appended to, and both new lists are stored into cells: 'p.a, q.b = append(p.a, x), append(q.b, y)'. -/
namespace Go.Proofs.Ytclnffpfbngjoaa
open Go Go.RowKit

/-- AP: the class of the two lists; operations s1 and s2 store the new lists into the cells p1 and p2. -/
def ApS (AP : (Nat → Option Pick) → World → Prop) (s1 s2 : Nat) (p1 p2 : Addr) (v1 v2 : (Nat → Option Pick) → Value) (g : Nat → Option Pick) (f : Nat → Bool) (w' : World) : Prop :=
  ∃ w1, AP g w1 ∧ (f s1 = false → f s2 = false → w' = w1) ∧ (f s1 = true → f s2 = false → w' = w1.setCell p1 (v1 g)) ∧ (f s2 = true → w' = (w1.setCell p1 (v1 g)).setCell p2 (v2 g))
section
variable {AP : (Nat → Option Pick) → World → Prop} {s1 s2 k : Nat} {p1 p2 : Addr} {v1 v2 : (Nat → Option Pick) → Value} {g g' : Nat → Option Pick} {f : Nat → Bool} {w' w'' : World}
theorem ApS.start (h : AP g w') (h1 : f s1 = false) (h2 : f s2 = false) : ApS AP s1 s2 p1 p2 v1 v2 g f w' :=
  ⟨w', h, fun _ _ => rfl, fun e => (by rw [h1] at e; cases e), fun e => (by rw [h2] at e; cases e)⟩
theorem ApS.same (h : ApS AP s1 s2 p1 p2 v1 v2 g f w') (h1 : k ≠ s1) (h2 : k ≠ s2) : ApS AP s1 s2 p1 p2 v1 v2 g (Fx.add f k) w' := by
  obtain ⟨w1, a, b, c, d⟩ := h
  have e1 := add_ne' (f := f) h1
  have e2 := add_ne' (f := f) h2
  exact ⟨w1, a, by rw [e1, e2]; exact b, by rw [e1, e2]; exact c, by rw [e2]; exact d⟩
theorem ApS.early (h : ApS AP s1 s2 p1 p2 v1 v2 g f w') (h1 : f s1 = false) (h2 : f s2 = false) : AP g w' := by
  obtain ⟨w1, a, b, -, -⟩ := h
  rw [b h1 h2]
  exact a
theorem ApS.lift (h : AP g' w'') (h1 : f s1 = false) (h2 : f s2 = false) (k1 : k ≠ s1) (k2 : k ≠ s2) : ApS AP s1 s2 p1 p2 v1 v2 g' (Fx.add f k) w'' :=
  (ApS.start h h1 h2).same k1 k2
theorem ApS.store1 (h : ApS AP s1 s2 p1 p2 v1 v2 g f w') (h1 : f s1 = false) (h2 : f s2 = false) (h12 : s1 ≠ s2) : ApS AP s1 s2 p1 p2 v1 v2 g (Fx.add f s1) (w'.setCell p1 (v1 g)) := by
  have e2 := (add_ne' (f := f) h12).trans h2
  exact ⟨w', h.early h1 h2, fun e => (by rw [add_same] at e; cases e), fun _ _ => rfl, fun e => (by rw [e2] at e; cases e)⟩
theorem ApS.mid (h : ApS AP s1 s2 p1 p2 v1 v2 g f w') (h1 : f s1 = true) (h2 : f s2 = false) : ∃ w1, AP g w1 ∧ w' = w1.setCell p1 (v1 g) := by
  obtain ⟨w1, a, -, c, -⟩ := h
  exact ⟨w1, a, c h1 h2⟩
theorem ApS.store2 (h : ApS AP s1 s2 p1 p2 v1 v2 g f w') (h1 : f s1 = true) (h2 : f s2 = false) : ApS AP s1 s2 p1 p2 v1 v2 g (Fx.add f s2) (w'.setCell p2 (v2 g)) := by
  obtain ⟨w1, a, c⟩ := h.mid h1 h2
  subst c
  exact ⟨w1, a, fun _ e => (by rw [add_same] at e; cases e), fun _ e => (by rw [add_same] at e; cases e), fun _ => rfl⟩
theorem ApS.done (h : ApS AP s1 s2 p1 p2 v1 v2 g f w') (h2 : f s2 = true) : ∃ w1, AP g w1 ∧ w' = (w1.setCell p1 (v1 g)).setCell p2 (v2 g) := by
  obtain ⟨w1, a, -, -, d⟩ := h
  exact ⟨w1, a, d h2⟩
end
end Go.Proofs.Ytclnffpfbngjoaa

end

section
/- Contracts of models of pointing: the check, and the prediction times the denominator; both sides. -/
namespace Go.Proofs.Ytclnffpfbngjoaa
open Go Go.RowKit

/-- The error of a model. -/
def mdlErr (T : List Int) (D : Int) : Int := if withinB (T.length : Int) 1 3 = false then 10 else if withinB D 1 1000000000000 = false ∨ smallL 1000000000000 T = false then 2 else if gcdF D T ≠ 1 then 3 else 0
end Go.Proofs.Ytclnffpfbngjoaa

end

section
/- Contracts of models of pointing, of the reference; products of terms and shapes on both sides. -/
namespace Go.Proofs.Ytclnffpfbngjoaa
open Go Go.RowKit

/-- The sum of products of terms and shapes, of the first k. -/
def dotTo (T S : List Int) (k : Nat) : Int := (((T.zip S).take k).map fun p => p.1 * p.2).sum
end Go.Proofs.Ytclnffpfbngjoaa

end

section
/- Determinants by the first row: plain law. -/
namespace Go.Proofs.Ytclnffpfbngjoaa
open Go Go.RowKit

def sgn (c : Nat) : Int := if c % 2 = 0 then 1 else -1
def cut (c : Nat) (r : List Int) : List Int := r.take c ++ r.drop (c + 1)
def minorM (c : Nat) (M : List (List Int)) : List (List Int) := (M.drop 1).map (cut c)
def detR : Nat → List (List Int) → Int
  | 0, _ => 1
  | n + 1, M => ((List.range (n + 1)).map fun c => sgn c * (M.headD []).getD c 0 * detR n (minorM c M)).sum
def detTo (n : Nat) (M : List (List Int)) (k : Nat) : Int := ((List.range k).map fun c => sgn c * (M.headD []).getD c 0 * detR n (minorM c M)).sum
theorem detTo_zero (n : Nat) (M : List (List Int)) : detTo n M 0 = 0 := rfl
theorem detTo_succ (n : Nat) (M : List (List Int)) (k : Nat) : detTo n M (k + 1) = detTo n M k + sgn k * (M.headD []).getD k 0 * detR n (minorM k M) := by
  unfold detTo
  rw [List.range_succ, List.map_append, List.sum_append]
  simp
def InW (z : Int) : Prop := -9223372036854775808 ≤ z ∧ z ≤ 9223372036854775807
/-- No step of the computation leaves the numbers. -/
def DetOk : Nat → List (List Int) → Prop
  | 0, _ => True
  | n + 1, M => ∀ c, c < n + 1 → InW (sgn c * (M.headD []).getD c 0) ∧ InW (sgn c * (M.headD []).getD c 0 * detR n (minorM c M)) ∧ InW (detTo n M (c + 1)) ∧ DetOk n (minorM c M)
end Go.Proofs.Ytclnffpfbngjoaa

end

section
/- Contract of the reference's determinant. -/
namespace Go.Proofs.Ytclnffpfbngjoaa
open Go Go.RowKit

structure RowsOwn (B : Nat) (ts : List TRow) (u : Value) (k : Nat) (w : World) : Prop where
  row : w.ownsRow B 31 1 u k (ts.map TRow.val)
  each : ∀ r ∈ ts, w.ownsRow B 3 1 r.val r.n (r.xs.map (.int .i64))
theorem RowsOwn.below {B : Nat} {ts : List TRow} {u : Value} {k : Nat} {w w' : World} (h : RowsOwn B ts u k w) (hb : Below w.heap.size w w') : RowsOwn B ts u k w' :=
  ⟨own_below h.row hb (Nat.le_refl _), fun r hr => own_below (h.each r hr) hb (Nat.le_refl _)⟩
theorem RowsOwn.at_ {B : Nat} {ts : List TRow} {A : Option Addr} {k c : Nat} {w : World} (h : RowsOwn B ts (.slice A k c) k w) : ReadsT w w.heap.size A k ts :=
  ⟨own_reads2 h.row, fun r hr => ⟨own_cap (h.each r hr), own_reads2 (h.each r hr)⟩⟩
/-- The region that cuts a number out of a row and appends the rest. -/
structure CutD (B k p q : Nat) (u : Value) (ts : List TRow) (xs ys : List Int) (W : World) (g : Nat → Option Pick2) (f : Nat → Bool) (w' : World) : Prop where
  bel : Below B W w'
  pre : f 18 = false → Below W.heap.size W w'
  c1 : f 18 = false → ∀ x, g 1 = some x → g 8 = none → w'.ownsRow W.heap.size 3 1 (.slice x.1.1 0 0) 0 []
  c8 : f 18 = false → ∀ x, g 8 = some x → g 16 = none → w'.ownsRow W.heap.size 3 1 (.slice x.1.1 p x.1.2) p (xs.map (.int .i64))
  c16 : f 18 = false → ∀ y, g 16 = some y → w'.ownsRow W.heap.size 3 1 (.slice y.1.1 (p + q) y.1.2) (p + q) ((xs ++ ys).map (.int .i64))
  c17 : f 18 = false → ∀ y z, g 16 = some y → g 17 = some z → ∃ b, z.1.1 = some ⟨b, 0, none⟩ ∧ Blk w' b 31 #[.slice y.1.1 (p + q) y.1.2]
  post : ∀ y z, g 16 = some y → g 18 = some z → RowsOwn B (ts ++ [⟨y.1.1, p + q, y.1.2, xs ++ ys⟩]) (.slice z.1.1 (k + 1) z.1.2) (k + 1) w'
section
variable {B k p q i : Nat} {u : Value} {ts : List TRow} {xs ys : List Int} {W w' : World} {g : Nat → Option Pick2} {f : Nat → Bool}
theorem CutD.start : CutD B k p q u ts xs ys W (fun _ => none) f (W.drewN 1) :=
  ⟨below_drewN (Below.refl _ _) 1, fun _ => below_drewN (Below.refl _ _) 1, fun _ _ h => (nomatch h), fun _ _ h => (nomatch h), fun _ _ h => (nomatch h), fun _ _ _ h => (nomatch h), fun _ _ h => (nomatch h)⟩
theorem CutD.same (h : CutD B k p q u ts xs ys W g f w') (hi : i ≠ 18) : CutD B k p q u ts xs ys W g (Fx.add f i) w' :=
  ⟨h.bel, fun hf => h.pre (by rwa [add_ne' hi] at hf), fun hf => h.c1 (by rwa [add_ne' hi] at hf), fun hf => h.c8 (by rwa [add_ne' hi] at hf), fun hf => h.c16 (by rwa [add_ne' hi] at hf), fun hf => h.c17 (by rwa [add_ne' hi] at hf), h.post⟩
end

/-- The rows that are cut, of the first k behind the first. -/
def cutRows (c k : Nat) (t : List TRow) : List (List Int) := ((t.drop 1).take k).map fun r => cut c r.xs
end Go.Proofs.Ytclnffpfbngjoaa

end

section
/- A copy of lists of numbers in memory of its own, no two of them in one block. -/
namespace Go.Proofs.Ytclnffpfbngjoaa
open Go Go.RowKit

def RowsSep (ts : List TRow) : Prop := ts.Pairwise fun r s => ∀ q, r.val.ownBlock = some q → s.val.ownBlock ≠ some q
def OwnPost (t : List TRow) (n : Nat) (w : World) (e : Ending) (w' : World) : Prop :=
  Below w.heap.size w w' ∧ ∃ A' c' ts, e = .returned (.slice A' n c') ∧ ts.map TRow.xs = t.map TRow.xs ∧ RowsOwn w.heap.size ts (.slice A' n c') n w' ∧ RowsSep ts


end Go.Proofs.Ytclnffpfbngjoaa

end

section
/- Contract of the reference's check of stars. -/
namespace Go.Proofs.Ytclnffpfbngjoaa
open Go Go.RowKit

end Go.Proofs.Ytclnffpfbngjoaa

end

section
/- Contract of the reference's normal equations. -/
namespace Go.Proofs.Ytclnffpfbngjoaa
open Go Go.RowKit

theorem own_of_rb {w : World} {base g n : Nat} {t : TypeId} {f : Nat → Value} (h : RB w g t n f) (hb : base ≤ g) (hn : n ≤ maxLen) : w.ownsRow base t 1 (.slice (some ⟨g, 0, none⟩) n n) n ((List.range n).map f) := by
  refine ⟨by simp, .inr ⟨g, n, _, rfl, hb, h, Nat.le_refl _, hn, by simp, ?_⟩⟩
  rw [Nat.mul_one]
  exact List.take_of_length_le (by simp)
theorem RowsOwn.tch {X : Nat → Prop} {B k : Nat} {ts : List TRow} {u : Value} {w w' : World} (h : RowsOwn B ts u k w) (ht : Tch X w w') (hX : ∀ q, B ≤ q → q < w.heap.size → ¬ X q) : RowsOwn B ts u k w' :=
  ⟨ht.own h.row fun q hq => hX q (own_lt h.row hq).1 (own_lt h.row hq).2, fun r hr => ht.own (h.each r hr) fun q hq => hX q (own_lt (h.each r hr) hq).1 (own_lt (h.each r hr) hq).2⟩

end Go.Proofs.Ytclnffpfbngjoaa

end

section
/- The plain law of exact errors: Gram determinants, Cramer's rule, doubling. -/
namespace Go.Proofs.Ytclnffpfbngjoaa
open Go Go.RowKit

/-- Sums over all stars. -/
def nrm (l : List Star) (i k : Nat) : Int := (l.map fun s => shp s i * shp s k).sum
def rgt (l : List Star) (i : Nat) : Int := (l.map fun s => shp s i * s.er).sum
/-- The squares of the sums of shapes. -/
def quad (l : List Star) (u v w : Int) : Int := (l.map fun s => (u * shp s 0 + v * shp s 1 + w * shp s 2) * (u * shp s 0 + v * shp s 1 + w * shp s 2)).sum
def gr2 (l : List Star) : Int := nrm l 0 0 * nrm l 1 1 - nrm l 1 0 * nrm l 0 1
/-- What a model of whole terms predicts. -/
def dotS (t : List Int) (s : Star) : Int := t.getD 0 0 * shp s 0 + t.getD 1 0 * shp s 1 + t.getD 2 0 * shp s 2
/-- The first k products of terms and shapes. -/
def dotP (ts xs : List Int) (k : Nat) : Int := (((ts.zip xs).take k).map fun p => p.1 * p.2).sum
end Go.Proofs.Ytclnffpfbngjoaa

end

section
/- The check of a model as the best one of stars, and predictions: the package's contracts. -/
namespace Go.Proofs.Ytclnffpfbngjoaa
open Go Go.RowKit

/-- The part of a star in the check of term k. -/
def chkS (T : List Int) (D : Int) (k : Nat) (s : Star) : Int := shp s k * (s.er * D - dotTo T s.xs T.length)
def chkTo (l : List Star) (T : List Int) (D : Int) (k q : Nat) : Int := ((l.take q).map (chkS T D k)).sum
/-- The error of a right model as the best one of right stars. -/
def fitErr (l : List Star) (T : List Int) (D : Int) : Int := if T.length ≠ termsN l then 10 else if ∀ k, k < T.length → chkTo l T D k l.length = 0 then 0 else 22
/-- The error of a model as the best one of stars. -/
def chkErr (l : List Star) (T : List Int) (D : Int) : Int := if (starsF l).2 ≠ 0 then (starsF l).2 else if mdlErr T D ≠ 0 then mdlErr T D else fitErr l T D

end Go.Proofs.Ytclnffpfbngjoaa

end

section
/- Determinants by the first row are those of the package's; no step of them leaves the numbers; the best model is accepted. -/
namespace Go.Proofs.Ytclnffpfbngjoaa
open Go Go.RowKit

theorem ok_one {a : Int} (h : InB 1000000000000 a) : DetOk 1 [[a]] := by
  unfold InB at h
  intro c hc
  have hc : c < 1 := hc
  obtain rfl : c = 0 := by omega
  refine ⟨?_, ?_, ?_, trivial⟩
  · show InW (1 * a); unfold InW; omega
  · show InW (1 * a * 1); unfold InW; omega
  · rw [detTo_succ, detTo_zero]; show InW (0 + 1 * a * 1); unfold InW; omega
/-- Column k of a matrix is replaced. -/
def colSet (k : Nat) (M : List (List Int)) (R : List Int) : List (List Int) := M.mapIdx fun i r => r.set k (R.getD i 0)

end Go.Proofs.Ytclnffpfbngjoaa

end

section
/- Stars as arguments: the guard Few. -/
namespace Go.Proofs.Ytclnffpfbngjoaa
open Go Go.RowKit

/-- Few stars, or too many, with few shapes. -/
def fewStars (l : List Star) : Bool := l.all (fun s => decide (s.n ≤ 6)) && (decide (l.length ≤ 8) || (decide (20 < l.length) && decide (l.length ≤ 23)))
end Go.Proofs.Ytclnffpfbngjoaa

end

section
/- Copies of stars and of a model, each in memory of its own. -/
namespace Go.Proofs.Ytclnffpfbngjoaa
open Go Go.RowKit

def Star.own (B : Nat) (w : World) (r : Star) : Prop := w.ownsRow B 3 1 (.slice r.A r.n r.c) r.n (r.xs.map (.int .i64))
/-- Stars in memory of their own. -/
structure StarsOwn (B : Nat) (S : List Star) (u : Value) (k : Nat) (w : World) : Prop where
  row : w.ownsRow B 52 2 u k (starCells S)
  each : ∀ r ∈ S, r.own B w
theorem StarsOwn.nil (B : Nat) (w : World) : StarsOwn B [] (.slice none 0 0) 0 w := ⟨World.ownsRow_nil _ _ _ _, fun _ h => absurd h (by simp)⟩
theorem StarsOwn.below {B : Nat} {S : List Star} {u : Value} {k : Nat} {w w' : World} (h : StarsOwn B S u k w) (hb : Below w.heap.size w w') : StarsOwn B S u k w' :=
  ⟨own_below h.row hb (Nat.le_refl _), fun r hr => own_below (h.each r hr) hb (Nat.le_refl _)⟩
theorem StarsOwn.at_ {B : Nat} {S : List Star} {A : Option Addr} {k c : Nat} {w : World} (h : StarsOwn B S (.slice A k c) k w) : StarsAt S A k w :=
  ⟨own_reads2 h.row, fun r hr => ⟨own_cap (h.each r hr), own_reads2 (h.each r hr)⟩⟩
theorem starCells_snoc (S : List Star) (s : Star) : starCells (S ++ [s]) = starCells S ++ s.cells := by unfold starCells; simp

structure SrD (B k : Nat) (u : Value) (S : List Star) (xs : List Int) (er : Int) (sn : Nat) (W : World) (g : Nat → Option Pick2) (f : Nat → Bool) (w' : World) : Prop where
  bel : Below B W w'
  pre : f 14 = false → Below W.heap.size W w'
  c6 : f 14 = false → ∀ x, g 6 = some x → w'.ownsRow B 3 1 (.slice x.1.1 sn x.1.2) sn (xs.map (.int .i64))
  c13 : f 14 = false → ∀ x y, g 6 = some x → g 13 = some y → ∃ q, y.1.1 = some ⟨q, 0, none⟩ ∧ Blk w' q 52 #[.slice x.1.1 sn x.1.2, .int .i64 er]
  post : ∀ x z, g 6 = some x → g 14 = some z → StarsOwn B (S ++ [⟨x.1.1, sn, x.1.2, xs, er⟩]) (.slice z.1.1 (k + 1) z.1.2) (k + 1) w'
section
variable {B k sn i : Nat} {u : Value} {S : List Star} {xs : List Int} {er : Int} {W w' w'' : World} {g : Nat → Option Pick2} {f : Nat → Bool}
theorem SrD.start : SrD B k u S xs er sn W (fun _ => none) f (W.drewN 1) := ⟨below_drewN (Below.refl _ _) 1, fun _ => below_drewN (Below.refl _ _) 1, fun _ _ h => (nomatch h), fun _ _ _ h => (nomatch h), fun _ _ h => (nomatch h)⟩
theorem SrD.same (h : SrD B k u S xs er sn W g f w') (hi : i ≠ 14) : SrD B k u S xs er sn W g (Fx.add f i) w' :=
  ⟨h.bel, fun hf => h.pre (by rwa [add_ne' hi] at hf), fun hf => h.c6 (by rwa [add_ne' hi] at hf), fun hf => h.c13 (by rwa [add_ne' hi] at hf), h.post⟩
theorem SrD.copy (h : SrD B k u S xs er sn W g f w') (hB : B ≤ W.heap.size) (h14 : f 14 = false) (g13 : g 13 = none) (g14 : g 14 = none) (hb : Below w'.heap.size w' w'') (x : Pick2) (ho : w''.ownsRow w'.heap.size 3 1 (.slice x.1.1 sn x.1.2) sn (xs.map (.int .i64))) :
    SrD B k u S xs er sn W (Fx.upd g 6 x) (Fx.add f 6) w'' := by
  have hz := (h.pre h14).size
  refine ⟨h.bel.trans (hb.mono (by omega)), fun _ => step_below hb (h.pre h14), fun _ y hy => ?_, fun _ y z hy hz => ?_, fun y z hy hz => ?_⟩
  · rw [Fx.upd_same] at hy
    cases hy
    exact own_mono ho (by omega)
  · rw [upd_ne (by decide), g13] at hz
    cases hz
  · rw [upd_ne (by decide), g14] at hz
    cases hz
theorem SrD.lit (h : SrD B k u S xs er sn W g f w') (hB : B ≤ W.heap.size) (h14 : f 14 = false) (g14 : g 14 = none) {x : Pick2} (hx : g 6 = some x) :
    SrD B k u S xs er sn W (Fx.upd g 13 ((some ⟨w'.heap.size, 0, none⟩, 1), (none, 0))) (Fx.add f 13) (w'.alloc (.cells #[.slice x.1.1 sn x.1.2, .int .i64 er] 52)) := by
  have hb : Below w'.heap.size w' (w'.alloc (.cells #[.slice x.1.1 sn x.1.2, .int .i64 er] 52)) := (Below.refl _ _).alloc (Nat.le_refl _) _
  have hz := (h.pre h14).size
  refine ⟨h.bel.trans (hb.mono (by omega)), fun _ => step_below hb (h.pre h14), fun _ y hy => ?_, fun _ y z hy hz => ?_, fun y z hy hz => ?_⟩
  · rw [upd_ne (by decide)] at hy
    exact own_below (h.c6 h14 y hy) hb (Nat.le_refl _)
  · rw [upd_ne (by decide), hx] at hy
    cases hy
    rw [Fx.upd_same] at hz
    cases hz
    exact ⟨_, rfl, Blk.new _ _ _⟩
  · rw [upd_ne (by decide), g14] at hz
    cases hz
theorem info_star : (Try.prog.info? 52).map (fun i => (i.zero, i.size, i.bytes)) = some (some (.agg #[.slice none 0 0, .int .i64 0]), 2, 32) := by kernel_rfl
theorem SrD.app (h : SrD B k u S xs er sn W g f w') (hB : B ≤ W.heap.size) (hS : StarsOwn B S u k W) (hk : k ≤ 100000) (h14 : f 14 = false) {x y : Pick2} (hx : g 6 = some x) (hy : g 13 = some y) :
    ∃ (z : Pick2) (w'' : World), (Builtin.append_ #[53, 53] 53 #[u, .slice y.1.1 1 1]).run Try.prog w' = .ok (.slice z.1.1 (k + 1) z.1.2) w'' ∧ SrD B k u S xs er sn W (Fx.upd g 14 z) (Fx.add f 14) w'' := by
  obtain ⟨i0, hi0, hz0, hz1, hz2⟩ := info_parts info_star
  obtain ⟨q, hq, hblk⟩ := h.c13 h14 x y hx hy
  have hz := (h.pre h14).size
  have ho := (hS.below (h.pre h14))
  have hr : Reads w' w'.heap.size 2 (some ⟨q, 0, none⟩) 1 [.slice x.1.1 sn x.1.2, .int .i64 er] := Blk.reads hblk rfl
  rw [hq]
  obtain ⟨v', W2, hrun, o2', hg2, -⟩ := run_append_any (P := Try.prog) w' B 53 53 52 i0 _ 2 32 Try.underlying53 hi0 hz0 hz1 hz2 rfl (by omega) u k (starCells S) ho.row w'.heap.size (some ⟨q, 0, none⟩) 1 1 [.slice x.1.1 sn x.1.2, .int .i64 er] hr (by simp [Value.oneCell']) (by unfold maxLen; omega) (by omega) (by omega)
  obtain ⟨A2, c2, rfl, -⟩ := own_reads o2'
  refine ⟨((A2, c2), (none, 0)), W2, hrun, h.bel.grown hg2 (by omega) (fun q hq => (own_lt ho.row hq).1), fun hf => ?_, fun hf => ?_, fun hf => ?_, fun x' z hx' hz => ?_⟩
  · rw [add_same] at hf; cases hf
  · rw [add_same] at hf; cases hf
  · rw [add_same] at hf; cases hf
  · rw [upd_ne (by decide), hx] at hx'
    cases hx'
    rw [Fx.upd_same] at hz
    cases hz
    refine ⟨by rw [starCells_snoc]; exact o2', fun r hr => ?_⟩
    rcases List.mem_append.1 hr with hr | hr
    · exact own_apart (ho.each r hr) ho.row (by decide) hg2
    · obtain rfl : r = _ := by simpa using hr
      exact own_apart (h.c6 h14 x hx) ho.row (by decide) hg2
end

/-- The stars of a copy. -/
def StarsPost (l : List Star) (n : Nat) (w : World) (e : Ending) (w' : World) : Prop :=
  ∃ A c S, e = .returned (.slice A n c) ∧ Below w.heap.size w w' ∧ S.map (fun s => (s.xs, s.er)) = l.map (fun s => (s.xs, s.er)) ∧ StarsOwn w.heap.size S (.slice A n c) n w'

end Go.Proofs.Ytclnffpfbngjoaa

end

section
/- Stores into stars in memory of their own. -/
namespace Go.Proofs.Ytclnffpfbngjoaa
open Go Go.RowKit

theorem own_store {w : World} {base : Nat} {e : TypeId} {size n : Nat} {v : Value} {xs : List Value} (h : w.ownsRow base e size v n xs) (hn : 0 < n) (q : Nat) (u : Value) :
    ∃ g cap, v = .slice (some ⟨g, 0, none⟩) n cap ∧ base ≤ g ∧ g < w.heap.size ∧ w.frozen? ⟨g, q, none⟩ = false ∧ (w.setCell ⟨g, q, none⟩ u).ownsRow base e size v n (xs.set q u) := by
  obtain ⟨h1, h2⟩ := h
  rcases h2 with ⟨-, h0⟩ | ⟨g, cap, cur, hv, hg, hh, hc, hm, hs, ht⟩
  · omega
  have hb : Blk w g e cur := hh
  refine ⟨g, cap, hv, hg, hb.lt, hb.frozen q, by rw [List.length_set]; exact h1, .inr ⟨g, cap, cur.setIfInBounds q u, hv, hg, (hb.set_ q u), hc, hm, by simpa using hs, ?_⟩⟩
  rw [Array.toList_setIfInBounds, List.take_set, ht]
theorem own_other {w : World} {base base' : Nat} {e e' : TypeId} {size size' n n' g cap : Nat} {v : Value} {xs xs' : List Value} (h : w.ownsRow base e size v n xs) (h' : w.ownsRow base' e' size' (.slice (some ⟨g, 0, none⟩) n' cap) n' xs') (hne : e ≠ e') : v.ownBlock ≠ some g := by
  intro e1
  rcases h.2 with ⟨rfl, _⟩ | ⟨g1, cap, cur, rfl, hb, hh, _⟩
  · cases e1
  rcases h'.2 with ⟨h0, _⟩ | ⟨g2, cap', cur', h0, hb', hh', _⟩
  · cases h0
  have e2 : g1 = g := by simpa [Value.ownBlock] using e1
  cases h0
  subst e2
  rw [hh] at hh'
  injection hh' with h3
  injection h3 with _ h4
  exact hne h4
theorem starCells_set (z : Int) : ∀ (S : List Star) (i : Nat) (s : Star), S[i]? = some s → starCells (S.set i { s with er := z }) = (starCells S).set (i * 2 + 1) (.int .i64 z)
  | [], _, _, h => by simp at h
  | t :: S, 0, s, h => by
    obtain rfl : t = s := by simpa using h
    rfl
  | t :: S, i + 1, s, h => by
    have ih := starCells_set z S i s (by simpa using h)
    show t.cells ++ starCells (S.set i _) = (t.cells ++ starCells S).set _ _
    rw [ih, List.set_append_right _ _ (by show 2 ≤ _; omega)]
    congr 2
    show _ = (i + 1) * 2 + 1 - 2
    omega
/-- A store of an error. -/
theorem StarsOwn.store {B n i : Nat} {S : List Star} {v : Value} {w : World} {s : Star} (h : StarsOwn B S v n w) (hs : S[i]? = some s) (hn : 0 < n) (z : Int) :
    ∃ g cap, v = .slice (some ⟨g, 0, none⟩) n cap ∧ B ≤ g ∧ g < w.heap.size ∧ w.frozen? ⟨g, i * 2 + 1, none⟩ = false ∧ StarsOwn B (S.set i { s with er := z }) v n (w.setCell ⟨g, i * 2 + 1, none⟩ (.int .i64 z)) := by
  obtain ⟨g, cap, rfl, h1, h2, h3, h4⟩ := own_store h.row hn (i * 2 + 1) (.int .i64 z)
  refine ⟨g, cap, rfl, h1, h2, h3, by rw [starCells_set z S i s hs]; exact h4, fun r hr => ?_⟩
  have key : ∀ t ∈ S, t.own B (w.setCell ⟨g, i * 2 + 1, none⟩ (.int .i64 z)) := fun t ht => own_set (h.each t ht) (own_other (h.each t ht) h.row (by decide)) _
  rcases List.mem_or_eq_of_mem_set hr with hr | rfl
  · exact key r hr
  · exact key s (List.mem_of_getElem? hs)
/-- A store into another block of stars. -/
theorem StarsOwn.far {B n g q : Nat} {S : List Star} {A : Option Addr} {c : Nat} {w : World} (h : StarsOwn B S (.slice A n c) n w) (hA : ∀ b o, A = some ⟨b, o, none⟩ → b ≠ g) (ht : ∀ t ∈ S, (Value.slice t.A t.n t.c).ownBlock ≠ some g) (u : Value) : StarsOwn B S (.slice A n c) n (w.setCell ⟨g, q, none⟩ u) := by
  refine ⟨own_set h.row (fun e => ?_) _, fun t h' => own_set (h.each t h') (ht t h') _⟩
  rcases h.row.2 with ⟨h0, _⟩ | ⟨g1, cap, cur, h0, _⟩
  · cases h0; cases e
  · cases h0
    have : g1 = g := by simpa [Value.ownBlock] using e
    exact hA g1 0 rfl this
end Go.Proofs.Ytclnffpfbngjoaa

end

section
/- Contract of the reference's best model. -/
namespace Go.Proofs.Ytclnffpfbngjoaa
open Go Go.RowKit

def RFitPost (l : List Star) (w : World) (e : Ending) (w' : World) : Prop :=
  ∃ A c, e = .returned (.tuple #[.agg #[.slice A (fitF l).1.1.length c, .int .i64 (fitF l).1.2], .int .i64 (fitF l).2]) ∧ Below w.heap.size w w' ∧ Reads w' w'.heap.size 1 A (fitF l).1.1.length ((fitF l).1.1.map (.int .i64)) ∧ ∀ b o, A = some ⟨b, o, none⟩ → w.heap.size ≤ b
theorem RFitPost.mk' {l : List Star} {w w' : World} {e : Ending} {T : List Int} {D E : Int} {A : Option Addr} {c : Nat} (h : fitF l = ((T, D), E)) (he : e = .returned (.tuple #[.agg #[.slice A T.length c, .int .i64 D], .int .i64 E])) (hb : Below w.heap.size w w') (hr : Reads w' w'.heap.size 1 A T.length (T.map (.int .i64))) (hA : ∀ b o, A = some ⟨b, o, none⟩ → w.heap.size ≤ b) : RFitPost l w e w' := by
  unfold RFitPost
  rw [h]
  exact ⟨A, c, he, hb, hr, hA⟩
/-- The rows of a copy, with column k replaced in the first i of them. -/
def colTo (k i : Nat) (M : List (List Int)) (R : List Int) : List (List Int) := M.mapIdx fun j r => if j < i then r.set k (R.getD j 0) else r
theorem sep_at {ts : List TRow} (h : RowsSep ts) {i j : Nat} {r s : TRow} (hr : ts[i]? = some r) (hs : ts[j]? = some s) (hne : i ≠ j) : ∀ q, r.val.ownBlock = some q → s.val.ownBlock ≠ some q := by
  obtain ⟨hi, rfl⟩ := List.getElem?_eq_some_iff.1 hr
  obtain ⟨hj, rfl⟩ := List.getElem?_eq_some_iff.1 hs
  have hp := List.pairwise_iff_getElem.1 h
  intro q h1 h2
  rcases Nat.lt_or_ge i j with hlt | hge
  · exact hp i j hi hj hlt q h1 h2
  · exact hp j i hj hi (by omega) q h2 h1
theorem vals_set {ts : List TRow} {i : Nat} {r : TRow} (hr : ts[i]? = some r) (xs : List Int) : (ts.set i { r with xs := xs }).map TRow.val = ts.map TRow.val := by
  apply List.ext_getElem?
  intro j
  rw [List.getElem?_map, List.getElem?_map]
  by_cases hj : i = j
  · subst hj
    rw [List.getElem?_set_self (List.getElem?_eq_some_iff.1 hr).1, hr]
    rfl
  · rw [List.getElem?_set_ne hj]
theorem RowsOwn.store {B n i k : Nat} {ts : List TRow} {u : Value} {w : World} (h : RowsOwn B ts u n w) (hs : RowsSep ts) {r : TRow} (hr : ts[i]? = some r) (hN : 0 < r.n) (z : Int) :
    ∃ g cap, r.val = .slice (some ⟨g, 0, none⟩) r.n cap ∧ B ≤ g ∧ g < w.heap.size ∧ w.frozen? ⟨g, k, none⟩ = false ∧ RowsOwn B (ts.set i { r with xs := r.xs.set k z }) u n (w.setCell ⟨g, k, none⟩ (.int .i64 z)) := by
  have hm := h.each r (List.mem_of_getElem? hr)
  obtain ⟨g, cap, hv, h1, h2, h3, h4⟩ := own_store hm hN k (.int .i64 z)
  have hg : r.val.ownBlock = some g := by rw [hv]; rfl
  refine ⟨g, cap, hv, h1, h2, h3, ⟨by rw [vals_set hr]; exact own_set h.row (fun e => own_ne hm h.row (by decide) g hg e) _, fun r' hr' => ?_⟩⟩
  obtain ⟨j, hj⟩ := List.getElem?_of_mem hr'
  by_cases e : i = j
  · subst e
    rw [List.getElem?_set_self (List.getElem?_eq_some_iff.1 hr).1] at hj
    cases hj
    rw [List.map_set]
    exact h4
  · rw [List.getElem?_set_ne e] at hj
    exact own_set (h.each r' (List.mem_of_getElem? hj)) (sep_at hs hr hj e g hg) _

theorem RowsOwn.keep {B n : Nat} {ts : List TRow} {u : Value} {w w' : World} (h : RowsOwn B ts u n w) (hk : ∀ q, B ≤ q → q < w.heap.size → w'.heap[q]? = w.heap[q]?) : RowsOwn B ts u n w' :=
  ⟨own_same h.row fun q hq => hk q (own_lt h.row hq).1 (own_lt h.row hq).2, fun r hr => own_same (h.each r hr) fun q hq => hk q (own_lt (h.each r hr) hq).1 (own_lt (h.each r hr) hq).2⟩

end Go.Proofs.Ytclnffpfbngjoaa

end
