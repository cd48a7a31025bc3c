import Derived.Test.YtnepjgnnppfibaaQ2
import Derived.Maps.OwnOps
import Derived.Test.YtnepjgnnppfibaaQ1
import Derived.Maps.Own
import Derived.Maps.OwnSet
import Derived.StringKeys

section
/- Plain models of chapter 6: errors of heights, wear, enclosures and tolerances; pairs of zones. -/
namespace Go.Proofs.Ytnepjgnnppfibaa
open Go.RowKit

def hgtB (z : Int) : Bool := withinB z (-100000) 100000
theorem hgtB_iff {z : Int} : hgtB z = true ↔ -100000 ≤ z ∧ z ≤ 100000 := withinB_iff _ _ _
/-- The error of heights. -/
def heightsErr (l : List Int) : Int := if l.length < 1 ∨ 40 < l.length then 10 else if l.any (fun z => !(hgtB z)) then 2 else 0
/-- The error of heights, then that of wanted ones. -/
def twoErr (h v : List Int) : Int := if heightsErr h ≠ 0 then heightsErr h else if v.length ≠ h.length then 10 else heightsErr v
/-- The error of wear. -/
def wearErr (n : Nat) (l : List Int) : Int := if l.length ≠ n then 10 else if l.any (fun z => !(withinB z 0 100000)) then 2 else 0
def figErr (p : Int × Int) : Int := if (hgtB p.1 && hgtB p.2) = false then 2 else if p.2 < p.1 then 9 else 0
/-- The error of an enclosure. -/
def enclErr (l : List (Int × Int)) : Int := if l.length < 1 ∨ 40 < l.length then 10 else firstErr figErr l
/-- The error of a tolerance. -/
def tolErr (p s : Int) : Int := if (withinB p 0 200000 && withinB s 0 200000) = true then 0 else 2
def judgeErr (l : List (Int × Int)) (p s : Int) : Int := if enclErr l ≠ 0 then enclErr l else tolErr p s

theorem figErr_zero {p : Int × Int} (h : figErr p = 0) : -100000 ≤ p.1 ∧ p.1 ≤ p.2 ∧ p.2 ≤ 100000 := by
  unfold figErr at h
  by_cases h0 : (hgtB p.1 && hgtB p.2) = false
  · rw [if_pos h0] at h; cases h
  rw [if_neg h0] at h
  have h0 : (hgtB p.1 && hgtB p.2) = true := by simpa using h0
  rw [Bool.and_eq_true, hgtB_iff, hgtB_iff] at h0
  by_cases h1 : p.2 < p.1
  · rw [if_pos h1] at h; cases h
  · omega
theorem encl_ok {l : List (Int × Int)} (h : enclErr l = 0) : 1 ≤ l.length ∧ l.length ≤ 40 ∧ ∀ p ∈ l, -100000 ≤ p.1 ∧ p.1 ≤ p.2 ∧ p.2 ≤ 100000 := by
  unfold enclErr at h
  by_cases h0 : l.length < 1 ∨ 40 < l.length
  · rw [if_pos h0] at h; cases h
  rw [if_neg h0] at h
  exact ⟨by omega, by omega, fun p hp => figErr_zero (firstErr_zero h p hp)⟩
theorem tol_ok {p s : Int} (h : tolErr p s = 0) : 0 ≤ p ∧ p ≤ 200000 ∧ 0 ≤ s ∧ s ≤ 200000 := by
  unfold tolErr at h
  by_cases h0 : (withinB p 0 200000 && withinB s 0 200000) = true
  · rw [Bool.and_eq_true, withinB_iff, withinB_iff] at h0; omega
  · rw [if_neg h0] at h; cases h
theorem judgeErr_ok {l : List (Int × Int)} {p s : Int} (h : judgeErr l p s = 0) : enclErr l = 0 ∧ tolErr p s = 0 := by
  unfold judgeErr at h
  by_cases h0 : enclErr l ≠ 0
  · rw [if_pos h0] at h; exact absurd h h0
  · rw [if_neg h0] at h; exact ⟨Decidable.not_not.1 h0, h⟩

/-- The bound of two zones. -/
def bndF (p s : Int) (i k : Nat) : Int := min p (s * (((i : Int) - (k : Int)).natAbs : Int))
theorem bnd_in {p s : Int} {i k : Nat} (h0 : 0 ≤ p) (h1 : p ≤ 200000) (h2 : 0 ≤ s) : 0 ≤ bndF p s i k ∧ bndF p s i k ≤ 200000 := by
  unfold bndF
  have : 0 ≤ s * (((i : Int) - (k : Int)).natAbs : Int) := Int.mul_nonneg h2 (by omega)
  omega

/-! Pairs of different zones, lexicographically. -/
def rowP (i m : Nat) : List (Nat × Nat) := ((List.range m).filter fun k => k != i).map fun k => (i, k)
def pairsTo (n i : Nat) : List (Nat × Nat) := (List.range i).flatMap fun i => rowP i n
/-- The pairs ahead of (i, k). -/
def preP (n i k : Nat) : List (Nat × Nat) := pairsTo n i ++ rowP i k
def pairsL (n : Nat) : List (Nat × Nat) := pairsTo n n
theorem rowP_zero (i : Nat) : rowP i 0 = [] := rfl
theorem rowP_succ (i m : Nat) : rowP i (m + 1) = rowP i m ++ if m = i then [] else [(i, m)] := by
  unfold rowP
  rw [List.range_succ, List.filter_append, List.map_append]
  by_cases h : m = i <;> simp [h]
theorem pairsTo_succ (n i : Nat) : pairsTo n (i + 1) = pairsTo n i ++ rowP i n := by unfold pairsTo; rw [List.range_succ, List.flatMap_append]; simp
theorem preP_same (n i : Nat) : preP n i (i + 1) = preP n i i := by unfold preP; rw [rowP_succ, if_pos rfl, List.append_nil]
theorem preP_succ {n i k : Nat} (h : i ≠ k) : preP n i (k + 1) = preP n i k ++ [(i, k)] := by unfold preP; rw [rowP_succ, if_neg (fun e => h e.symm), List.append_assoc]
theorem preP_row (n i : Nat) : preP n (i + 1) 0 = preP n i n := by unfold preP; rw [pairsTo_succ, rowP_zero, List.append_nil]
theorem preP_all (n : Nat) : preP n n 0 = pairsL n := by unfold preP pairsL; rw [rowP_zero, List.append_nil]
theorem rowP_pre (i : Nat) {k m : Nat} (h : k ≤ m) : rowP i k <+: rowP i m := by
  induction h with
  | refl => exact List.prefix_refl _
  | step _ ih => rw [rowP_succ]; exact ih.trans (List.prefix_append _ _)
theorem preP_pre {n i k : Nat} (hi : i < n) (hk : k ≤ n) : preP n i k <+: pairsL n := by
  have h1 : preP n i k <+: pairsTo n (i + 1) := by rw [pairsTo_succ]; unfold preP; exact (List.prefix_append_right_inj _).2 (rowP_pre i hk)
  have h2 : ∀ j, i + 1 ≤ j → pairsTo n (i + 1) <+: pairsTo n j := by
    intro j hj
    induction hj with
    | refl => exact List.prefix_refl _
    | @step j _ ih => rw [pairsTo_succ n j]; exact ih.trans (List.prefix_append _ _)
  exact h1.trans (h2 n hi)
theorem mem_rowP {i m : Nat} {x : Nat × Nat} : x ∈ rowP i m ↔ x.1 = i ∧ x.2 < m ∧ x.2 ≠ i := by
  unfold rowP
  rw [List.mem_map]
  constructor
  · rintro ⟨k, hk, rfl⟩
    rw [List.mem_filter, List.mem_range] at hk
    exact ⟨rfl, hk.1, by simpa using hk.2⟩
  · rintro ⟨h1, h2, h3⟩
    exact ⟨x.2, by rw [List.mem_filter, List.mem_range]; exact ⟨h2, by simpa using h3⟩, by rw [← h1]⟩
theorem mem_pairs {n : Nat} {x : Nat × Nat} : x ∈ pairsL n ↔ x.1 < n ∧ x.2 < n ∧ x.1 ≠ x.2 := by
  unfold pairsL pairsTo
  rw [List.mem_flatMap]
  constructor
  · rintro ⟨i, hi, hx⟩
    rw [List.mem_range] at hi
    obtain ⟨h1, h2, h3⟩ := mem_rowP.1 hx
    exact ⟨by omega, h2, by omega⟩
  · rintro ⟨h1, h2, h3⟩
    exact ⟨x.1, List.mem_range.2 h1, mem_rowP.2 ⟨rfl, h2, fun e => h3 e.symm⟩⟩
theorem rowP_len (i m : Nat) : (rowP i m).length ≤ m := by
  unfold rowP
  rw [List.length_map]
  exact Nat.le_trans (List.length_filter_le _ _) (by simp)
theorem pairsTo_len (n : Nat) : ∀ i, (pairsTo n i).length ≤ i * n
  | 0 => Nat.zero_le _
  | i + 1 => by
    rw [pairsTo_succ, List.length_append, Nat.succ_mul]
    have := pairsTo_len n i
    have := rowP_len i n
    omega
theorem preP_len {n i k : Nat} (hi : i ≤ 100) (hn : n ≤ 100) (hk : k ≤ 100) : (preP n i k).length ≤ 10100 := by
  unfold preP
  rw [List.length_append]
  have h1 := pairsTo_len n i
  have h2 := rowP_len i k
  have h3 : i * n ≤ 100 * 100 := Nat.mul_le_mul hi hn
  omega

/-- The first pair of which P holds. -/
def firstP (n : Nat) (P : Nat → Nat → Bool) : Option (Nat × Nat) := (pairsL n).find? fun x => P x.1 x.2
theorem firstP_of {n : Nat} {P : Nat → Nat → Bool} {pre : List (Nat × Nat)} {x : Nat × Nat} (hp : pre ++ [x] <+: pairsL n) (hpre : ∀ x ∈ pre, P x.1 x.2 = false) (hx : P x.1 x.2 = true) : firstP n P = some x := by
  obtain ⟨r, hr⟩ := hp
  unfold firstP
  rw [← hr, List.append_assoc, List.find?_append, List.find?_eq_none.2 (fun x hx => by simp [hpre x hx])]
  simp [hx]
theorem firstP_at {n i k : Nat} {P : Nat → Nat → Bool} (hi : i < n) (hk : k < n) (h : i ≠ k) (hpre : ∀ x ∈ preP n i k, P x.1 x.2 = false) (hp : P i k = true) : firstP n P = some (i, k) :=
  firstP_of (by rw [← preP_succ h]; exact preP_pre hi hk) hpre hp
theorem firstP_none {n : Nat} {P : Nat → Nat → Bool} (h : ∀ x ∈ pairsL n, P x.1 x.2 = false) : firstP n P = none := by
  unfold firstP
  exact List.find?_eq_none.2 fun x hx => by simp [h x hx]
def lastP (xs : List (Nat × Nat)) : Nat × Nat := xs.getLast?.getD (0, 0)
theorem lastP_snoc (xs : List (Nat × Nat)) (x : Nat × Nat) : lastP (xs ++ [x]) = x := by unfold lastP; simp
/-- P holds of none of these pairs; it holds of the last one alone. -/
def NoP (P : Nat → Nat → Bool) (xs : List (Nat × Nat)) : Prop := ∀ x ∈ xs, P x.1 x.2 = false
def HitP (P : Nat → Nat → Bool) (xs : List (Nat × Nat)) (y : Nat × Nat) : Prop := ∃ ys, xs = ys ++ [y] ∧ NoP P ys ∧ P y.1 y.2 = true
theorem NoP.nil (P : Nat → Nat → Bool) : NoP P [] := by unfold NoP; simp
theorem NoP.snoc {P : Nat → Nat → Bool} {xs : List (Nat × Nat)} {x : Nat × Nat} (h : NoP P xs) (hx : P x.1 x.2 = false) : NoP P (xs ++ [x]) := fun y hy => by
  rcases List.mem_append.1 hy with hy | hy
  · exact h y hy
  · obtain rfl : y = x := by simpa using hy
    exact hx
theorem NoP.hit {P : Nat → Nat → Bool} {xs : List (Nat × Nat)} {x : Nat × Nat} (h : NoP P xs) (hx : P x.1 x.2 = true) : HitP P (xs ++ [x]) x := ⟨xs, rfl, h, hx⟩
theorem HitP.first {n : Nat} {P : Nat → Nat → Bool} {xs : List (Nat × Nat)} {x : Nat × Nat} (h : HitP P xs x) (hp : xs <+: pairsL n) : firstP n P = some x := by
  obtain ⟨ys, rfl, h1, h2⟩ := h
  exact firstP_of hp h1 h2

/-- A pair refuses an enclosure; it leaves it open. -/
def refB (l : List (Int × Int)) (p s : Int) (i k : Nat) : Bool := decide (bndF p s i k < (l.getD i (0, 0)).1 - (l.getD k (0, 0)).2)
def openB (l : List (Int × Int)) (p s : Int) (i k : Nat) : Bool := decide (bndF p s i k < (l.getD i (0, 0)).2 - (l.getD k (0, 0)).1)
/-- The answer, and the pair that refuses. -/
def judgeF (l : List (Int × Int)) (p s : Int) : Int × (Nat × Nat) := match firstP l.length (refB l p s) with
  | some x => (-1, x)
  | none => (if (pairsL l.length).any (fun x => openB l p s x.1 x.2) then 0 else 1, (0, 0))
/-- The lowest height of a zone. -/
def lowF (l : List (Int × Int)) (p s : Int) (i : Nat) (m : Nat) : Int := (List.range m).foldl (fun h k => max h ((l.getD k (0, 0)).1 - bndF p s i k)) (l.getD i (0, 0)).1
theorem lowF_succ (l : List (Int × Int)) (p s : Int) (i m : Nat) : lowF l p s i (m + 1) = max (lowF l p s i m) ((l.getD m (0, 0)).1 - bndF p s i m) := by unfold lowF; rw [List.range_succ, List.foldl_append]; rfl
theorem lowF_in {l : List (Int × Int)} {p s : Int} {i : Nat} (h : ∀ x ∈ l, -100000 ≤ x.1 ∧ x.1 ≤ x.2 ∧ x.2 ≤ 100000) (hp : 0 ≤ p) (hs : 0 ≤ s) : ∀ m, -100000 ≤ lowF l p s i m ∧ lowF l p s i m ≤ 100000 := by
  have hg : ∀ k, -100000 ≤ (l.getD k (0, 0)).1 ∧ (l.getD k (0, 0)).1 ≤ 100000 := fun k => by
    rw [List.getD_eq_getElem?_getD]
    cases hk : l[k]? with
    | none => exact ⟨by simp, by simp⟩
    | some x => have := h x (List.mem_of_getElem? hk); simp; omega
  intro m
  induction m with
  | zero => exact hg i
  | succ m ih =>
    rw [lowF_succ]
    have h1 := hg m
    have h2 : 0 ≤ bndF p s i m := by
      unfold bndF
      have : 0 ≤ s * (((i : Int) - (m : Int)).natAbs : Int) := Int.mul_nonneg hs (by omega)
      omega
    omega
def surfF (l : List (Int × Int)) (p s : Int) (m : Nat) : List Int := (List.range m).map fun i => lowF l p s i l.length
theorem surfF_succ (l : List (Int × Int)) (p s : Int) (m : Nat) : surfF l p s (m + 1) = surfF l p s m ++ [lowF l p s m l.length] := by unfold surfF; rw [List.range_succ, List.map_append]; rfl
end Go.Proofs.Ytnepjgnnppfibaa

end

section
/- What is owned, or a block of its own, reads as a list. -/
namespace Go.Proofs.Ytnepjgnnppfibaa
open Go.RowKit

theorem Blk.reads {w : World} {g n size : Nat} {t : TypeId} {xs : List Value} (h : Blk w g t xs.toArray) (hl : xs.length = n * size) : Reads w w.heap.size size (some ⟨g, 0, none⟩) n xs :=
  ⟨hl, fun _ => ⟨g, 0, rfl, h.lt, fun j u hu => by rw [Nat.zero_add, h.cell j]; simpa using hu⟩⟩

theorem Reads.of_adds' {w : World} {B n size : Nat} {g : Nat} {xs : List Value} (hl : xs.length = n * size) (hb : g < B) (hc : ∀ j u, xs[j]? = some u → w.cell? ((⟨g, 0, none⟩ : Addr).add j) = some u) : Reads w B size (some ⟨g, 0, none⟩) n xs :=
  ⟨hl, fun _ => ⟨g, 0, rfl, hb, fun j u hu => by have := hc j u hu; rwa [add_lit] at this⟩⟩

theorem own_reads {w : World} {base n size : Nat} {e : TypeId} {v : Value} {xs : List Value} (h : w.ownsRow base e size v n xs) : ∃ A c, v = .slice A n c ∧ Reads w w.heap.size size A n xs := by
  have hc := @World.ownsRow.cells _ _ _ _ _ _ _ h
  obtain ⟨h1, h2⟩ := h
  rcases h2 with ⟨rfl, rfl⟩ | ⟨g, cap, cur, rfl, hg, hh, _⟩
  · exact ⟨none, 0, rfl, h1, fun hn => absurd hn (by simp)⟩
  · refine ⟨some ⟨g, 0, none⟩, cap, rfl, Reads.of_adds' h1 (Array.getElem?_eq_some_iff.1 hh).1 (hc rfl)⟩

section
variable {P : Program} {ops : Array Oper} {Q : Exit → Act → World → Prop} {o : Oper} {rest : List Oper} {a : Act}
/-- A call of append whose run is known. -/
theorem wpList_app (w w' : World) (v' : Value) (hg : o.guard = none) (s x : Operand) (t : TypeId) (hop : o.op = .call { callee := .builtin .append, args := #[s, x], argTypes := #[t, t] }) (sv xv : Value) (hs : a.eval s = sv) (hx : a.eval x = xv)
    (hrun : (Builtin.append_ #[t, t] o.type #[sv, xv]).run P w = .ok v' w') (hK : wpList P ops Q rest (a.put o.dst v') w') : wpList P ops Q (o :: rest) a w := by
  refine wpList_plain hg fun K' hK' => ?_
  subst hs hx
  unfold Oper.wp
  rw [exec_append s x t hop hrun]
  exact hK' _ _ hK
end

end Go.Proofs.Ytnepjgnnppfibaa

end

section
/- Contracts of the functions that tell which texts are names. -/
namespace Go.Proofs.Ytnepjgnnppfibaa
open Go.RowKit

def letterB (c : Nat) : Bool := decide (97 ≤ c ∧ c ≤ 122 ∨ 65 ≤ c ∧ c ≤ 90)
def restB (c : Nat) : Bool := letterB c || decide (c = 45 ∨ 48 ≤ c ∧ c ≤ 57)
def byteAt (s : ByteArray) (j : Nat) : Nat := (s.data.toList.getD j 0).toNat
def okAt (s : ByteArray) (j : Nat) : Bool := if j = 0 then letterB (byteAt s j) else restB (byteAt s j)
/-- Whether a text is a name. -/
def nameB (s : ByteArray) : Bool := (List.range s.size).all (okAt s) && decide (s.size ≠ 0) && decide (s.size ≤ 12)



end Go.Proofs.Ytnepjgnnppfibaa

end

section
/- A map with strings as keys that the program has made, said as a function from strings to values. -/
namespace Go.Proofs.Ytnepjgnnppfibaa
open Go.RowKit Go.Maps Go.WideShapes Go.MapKept

/-- A value read as itself. -/
def heldR (v : Value) : Option (DataW Value × List MemPlace) := some (.held v, [])
def keyS (s : ByteArray) : Lit := .string s.data.toList

theorem keyS_inj {s t : ByteArray} (h : keyS s = keyS t) : s = t := by
  unfold keyS at h
  injection h with h
  cases s; cases t; congr; exact Array.toList_inj.1 h

/-- Block b is a map of at most n entries, with M's values at M's keys. -/
def MapIs (P : Program) (k : TypeId) (w : World) (b n : Nat) (M : ByteArray → Option Value) : Prop :=
  ∃ D : DataW Value, w.ownsMap P k heldR b n D ∧ ∀ s, match M s with
    | none => Maps.has D (keyS s) = false
    | some v => Maps.has D (keyS s) = true ∧ ∀ z, D.atKey (keyS s) z = .held v

section
variable {P : Program} {k t e : TypeId} {w w' : World} {b n : Nat} {M : ByteArray → Option Value}

theorem MapIs.made (w : World) (P : Program) (k : TypeId) : MapIs P k (w.alloc (.map #[] 0)) w.heap.size 0 (fun _ => none) :=
  ⟨.map [], World.ownsMap_made w P k heldR, fun s => rfl⟩
theorem MapIs.lt (h : MapIs P k w b n M) : b < w.heap.size := by obtain ⟨D, h, _⟩ := h; exact h.lt
theorem MapIs.mono (h : MapIs P k w b n M) {n' : Nat} (hn : n ≤ n') : MapIs P k w b n' M := by obtain ⟨D, h, hm⟩ := h; exact ⟨D, h.mono hn, hm⟩
theorem MapIs.alloc (h : MapIs P k w b n M) (o : Obj) : MapIs P k (w.alloc o) b n M := by obtain ⟨D, h, hm⟩ := h; exact ⟨D, h.alloc o, hm⟩
theorem MapIs.drew (h : MapIs P k w b n M) : MapIs P k w.drew b n M := h
theorem MapIs.drewN (h : MapIs P k w b n M) (m : Nat) : MapIs P k (w.drewN m) b n M := h
theorem MapIs.below {B : Nat} (h : MapIs P k w b n M) (hb : Below B w w') (hB : b < B) : MapIs P k w' b n M := by
  obtain ⟨D, ⟨es, clock, h1, h2⟩, hm⟩ := h
  exact ⟨D, ⟨es, clock, (hb.block b hB).trans h1, h2⟩, hm⟩
theorem MapIs.set_ (h : MapIs P k w b n M) {a : Addr} (ha : b ≠ a.block) (u : Value) : MapIs P k (w.setCell a u) b n M := by
  obtain ⟨D, h, hm⟩ := h; exact ⟨D, h.setCell ha u, hm⟩
/-- 'm[s] = v'. -/
theorem MapIs.put (h : MapIs P k w b n M) (hk : P.underlying k = some .string) (ht : P.underlying t = some (.map k e)) (s : ByteArray) (hs : s.size ≤ maxLen) (hn : n < maxLen) (v : Value) :
    ∃ w', (Instr.mapUpdate t (.map (some b)) (.string s) v).run P w = .ok () w' ∧ MapIs P k w' b (n + 1) (fun u => if u = s then some v else M u) ∧ w.grownBy w' (some b) := by
  obtain ⟨D, h, hm⟩ := h
  have hkey : keyOf P k (.string s) = some (keyS s) := WideMaps.keyOf_string_mk hk hs
  obtain ⟨w', hrun, hown, hg⟩ := h.update (string_keyed hk) ht hn (val := v) (d := .held v) (ps := []) hkey rfl
  refine ⟨w', hrun, ⟨_, hown, fun u => ?_⟩, hg⟩
  have hmap : IsMap D := h.isMap
  have hlit : WideAt.IsKeyLit (keyS s) := by unfold keyS; trivial
  by_cases hu : u = s
  · subst hu
    simp only [if_true]
    exact ⟨has_put_same hmap hlit _, fun z => atKey_put_same hmap hlit _ z⟩
  · simp only [if_neg hu]
    have hne : keyS u ≠ keyS s := fun e => hu (keyS_inj e)
    have := hm u
    rw [has_put_other hne]
    cases hM : M u with
    | none => rw [hM] at this; exact this
    | some x => rw [hM] at this; exact ⟨this.1, fun z => by rw [atKey_put_other hne]; exact this.2 z⟩
end

section
variable {P : Program} {k t e : TypeId} {b n : Nat} {M : ByteArray → Option Value} {ops : Array Oper} {rest : List Oper} {o : Oper} {a : Act} {Q : Exit → Act → World → Prop}
end
end Go.Proofs.Ytnepjgnnppfibaa

end

section
/- Rockers: their values, and the contract of the check of one rocker behind others. -/
namespace Go.Proofs.Ytnepjgnnppfibaa
open Go.RowKit

structure Rk where
  name : ByteArray
  left : ByteArray
  right : ByteArray
  al : Int
  ar : Int

def Rk.cells (r : Rk) : List Value := [.string r.name, .string r.left, .string r.right, .int .i64 r.al, .int .i64 r.ar]
def Rk.val (r : Rk) : Value := .agg #[.string r.name, .string r.left, .string r.right, .int .i64 r.al, .int .i64 r.ar]
/-- The texts are no longer than a text can be. -/
structure Rk.Fits (r : Rk) : Prop where
  name : r.name.size ≤ maxLen
  left : r.left.size ≤ maxLen
  right : r.right.size ≤ maxLen

def rkErr (ex : Bool) (r : Rk) : Int :=
  if nameB r.name = false then 4 else if ex then 5 else if nameB r.left = false ∨ nameB r.right = false then 4
  else if withinB r.al 1 10000 = false ∨ withinB r.ar 1 10000 = false then 2 else 0

end Go.Proofs.Ytnepjgnnppfibaa

end

section
/- The contract of the check of a whole tree. -/
namespace Go.Proofs.Ytnepjgnnppfibaa
open Go.RowKit

def rkCells (l : List Rk) : List Value := l.flatMap Rk.cells
theorem rkCells_length (l : List Rk) : (rkCells l).length = l.length * 5 := by
  induction l with
  | nil => rfl
  | cons p l ih => simp only [rkCells, List.flatMap_cons, List.length_append, List.length_cons, List.length_nil, Rk.cells] at *; omega
theorem rkCells_get (l : List Rk) : ∀ (i : Nat) (h : i < l.length) (j : Nat), j < 5 → (rkCells l)[i * 5 + j]? = (l[i]).cells[j]? := by
  induction l with
  | nil => intro i h; simp at h
  | cons p l ih =>
    intro i h j hj
    have e : rkCells (p :: l) = p.cells ++ rkCells l := rfl
    have e5 : p.cells.length = 5 := rfl
    rw [e]
    cases i with
    | zero => rw [List.getElem?_append_left (by omega)]; simp
    | succ i =>
      rw [List.getElem?_append_right (by omega), e5, show (i + 1) * 5 + j - 5 = i * 5 + j from by omega]
      simpa using ih i (by simpa using h) j hj

theorem Reads.len5 {w : World} {B n : Nat} {A : Option Addr} {l : List Rk} (h : Reads w B 5 A n (rkCells l)) : l.length = n := by
  have := h.1; rw [rkCells_length] at this; omega

theorem Reads.rk {w : World} {B n : Nat} {A : Option Addr} {l : List Rk} (h : Reads w B 5 A n (rkCells l)) {i : Nat} (hi : i < n) :
    ∃ b o r, A = some ⟨b, o, none⟩ ∧ b < B ∧ l[i]? = some r ∧ w.cell? ⟨b, o + i * 5, none⟩ = some (.string r.name) ∧ w.cell? ⟨b, o + i * 5 + 1, none⟩ = some (.string r.left) ∧
      w.cell? ⟨b, o + i * 5 + 2, none⟩ = some (.string r.right) ∧ w.cell? ⟨b, o + i * 5 + 3, none⟩ = some (.int .i64 r.al) ∧ w.cell? ⟨b, o + i * 5 + 4, none⟩ = some (.int .i64 r.ar) := by
  obtain ⟨b, o, e, hb, hc⟩ := h.2 (by omega)
  have hl := h.len5
  have hg := rkCells_get l i (by omega)
  exact ⟨b, o, l[i]'(by omega), e, hb, List.getElem?_eq_getElem (by omega), hc _ _ (hg 0 (by omega)), hc _ _ (hg 1 (by omega)), hc _ _ (hg 2 (by omega)), hc _ _ (hg 3 (by omega)), hc _ _ (hg 4 (by omega))⟩

def idxOf (l : List Rk) (s : ByteArray) : Option Nat := l.findIdx? fun r => decide (r.name = s)
def idxM (l : List Rk) (s : ByteArray) : Option Value := (idxOf l s).map fun (i : Nat) => .int .i64 (i : Int)

/-- The error of the first loop: the first rocker that is not right behind those before it. -/
def err1 : List Rk → List Rk → Int
  | _, [] => 0
  | seen, r :: l => if rkErr (idxM seen r.name).isSome r = 0 then err1 (seen ++ [r]) l else rkErr (idxM seen r.name).isSome r

def bearerOf (l : List Rk) (s : ByteArray) : Option Nat := l.findIdx? fun r => decide (r.left = s ∨ r.right = s)
def borneAll (l : List Rk) : List ByteArray := l.flatMap fun r => [r.left, r.right]
def climbs (l : List Rk) : Nat → ByteArray → Bool
  | 0, s => (bearerOf l s).isSome
  | f + 1, s => match bearerOf l s with
    | none => false
    | some i => climbs l f (((l[i]?).map (·.name)).getD s)
def isTop (l : List Rk) (i : Nat) : Bool := match l[i]? with
  | some r => (bearerOf l r.name).isNone
  | none => false
def topsTo (l : List Rk) (k : Nat) : List Nat := (List.range k).filter (isTop l)
def topsOf (l : List Rk) : List Nat := topsTo l l.length
def openErr (l : List Rk) : Int :=
  if l.length = 0 then 10 else if 40 < l.length then 8 else if err1 [] l ≠ 0 then err1 [] l else if ¬ (borneAll l).Nodup then 13
  else if l.any (fun r => climbs l (l.length + 1) r.name) then 21 else if 1 < (topsOf l).length then 25 else 0
def topOf (l : List Rk) : Nat := (topsOf l).getLast?.getD 0

def pairsFrom (k : Nat) : List Rk → List (ByteArray × Nat)
  | [] => []
  | r :: l => (r.left, k) :: (r.right, k) :: pairsFrom (k + 1) l
def bM (ps : List (ByteArray × Nat)) (s : ByteArray) : Option Value := (ps.find? fun p => decide (p.1 = s)).map fun p => .int .i64 (p.2 : Int)
def upM (l : List Rk) (s : ByteArray) : Option Value := (bearerOf l s).map fun (i : Nat) => .int .i64 (i : Int)
end Go.Proofs.Ytnepjgnnppfibaa

end

section
/- The contract of the shares of the points below a thing. -/
namespace Go.Proofs.Ytnepjgnnppfibaa
open Go.RowKit

/-- The points below a thing; none: not within so many steps. -/
def pts (l : List Rk) : Nat → ByteArray → Option (List ByteArray)
  | 0, s => match idxOf l s with
    | none => some [s]
    | some _ => none
  | f + 1, s => match idxOf l s with
    | none => some [s]
    | some i => match l[i]? with
      | none => none
      | some r => match pts l f r.left, pts l f r.right with
        | some a, some b => some (a ++ b)
        | _, _ => none

def redN (a b : Int) : Int := a / (Int.gcd a b : Int)
def redD (a b : Int) : Int := b / (Int.gcd a b : Int)

def join2 (a b : Option (List (Int × Int))) : Option (List (Int × Int)) := match a, b with
  | some x, some y => some (x ++ y)
  | _, _ => none

/-- The shares of the points below a thing; none: one is not small. -/
def sh (l : List Rk) : Nat → ByteArray → Int → Int → Option (List (Int × Int))
  | 0, _, n, d => some [(n, d)]
  | f + 1, s, n, d => match idxOf l s with
    | none => some [(n, d)]
    | some i => match l[i]? with
      | none => none
      | some r => if smallB (n * r.ar) (d * (r.al + r.ar)) && smallB (n * r.al) (d * (r.al + r.ar)) then
          join2 (sh l f r.left (redN (n * r.ar) (d * (r.al + r.ar))) (redD (n * r.ar) (d * (r.al + r.ar)))) (sh l f r.right (redN (n * r.al) (d * (r.al + r.ar))) (redD (n * r.al) (d * (r.al + r.ar))))
        else none

/-- Arms are from 1 to 10000. -/
def ArmsOK (l : List Rk) : Prop := ∀ r ∈ l, 1 ≤ r.al ∧ r.al ≤ 10000 ∧ 1 ≤ r.ar ∧ r.ar ≤ 10000
/-- A part of a fraction. -/
def Part (x : Int) : Prop := 1 ≤ x ∧ x ≤ 1000000000

end Go.Proofs.Ytnepjgnnppfibaa

end

section
/- Copies of lists: what append to an empty list of its own makes, and the contracts of the functions that copy. -/
namespace Go.Proofs.Ytnepjgnnppfibaa
open Go.RowKit

theorem copy_run {P : Program} (t ty e : TypeId) (z : Value) (size bytes : Nat) (ht : P.underlying t = some (.slice e)) (hi : (P.info? e).map (fun i => (i.zero, i.size, i.bytes)) = some (some z, size, bytes)) (hzs : z.cells.size = size) (hsz : 0 < size)
    (w : World) (N : Nat) (A : Option Addr) (n c : Nat) (xs : List Value) (hr : Reads w N size A n xs) (hN : N ≤ w.heap.size) (h1 : ∀ u ∈ xs, u.oneCell' = true) (hn : n ≤ maxLen) (hbytes : n * bytes ≤ 140737488355328) :
    ∃ v' W2, (Builtin.append_ #[t, t] ty #[.slice (some ⟨w.heap.size, 0, none⟩) 0 0, .slice A n c]).run P (w.alloc (.cells #[] e)) = .ok v' W2 ∧ W2.ownsRow w.heap.size e size v' n xs ∧ Below w.heap.size w W2 := by
  obtain ⟨i0, hi0, hz0, hz1, hz2⟩ := info_parts hi
  have ho : (w.alloc (.cells #[] e)).ownsRow w.heap.size e size (.slice (some ⟨w.heap.size, 0, none⟩) 0 0) 0 [] :=
    ⟨by simp, .inr ⟨w.heap.size, 0, #[], rfl, Nat.le_refl _, Blk.new _ _ _, by omega, by decide, by simp, by simp⟩⟩
  obtain ⟨v', W2, hrun, ho2, hg, -⟩ := run_append_any (P := P) (w.alloc (.cells #[] e)) w.heap.size t ty e i0 z size bytes ht hi0 hz0 hz1 hz2 hzs hsz _ 0 [] ho N A n c xs (hr.alloc hN _) h1 (by omega) (by rw [Nat.zero_add]; omega) (by simp)
  refine ⟨v', W2, hrun, by simpa using ho2, ?_⟩
  exact ((Below.refl _ _).alloc (Nat.le_refl _) _).grown hg (by simp) (fun k hk => (own_lt ho hk).1)

theorem one_cells2 (l : List (Int × Int)) : ∀ u ∈ cells2 l, u.oneCell' = true := by
  intro u hu
  unfold cells2 at hu
  rw [List.mem_flatMap] at hu
  obtain ⟨p, -, hp⟩ := hu
  simp at hp
  rcases hp with rfl | rfl <;> rfl
theorem info_range : (Try.prog.info? 50).map (fun i => (i.zero, i.size, i.bytes)) = some (some (.agg #[.int .i64 0, .int .i64 0]), 2, 16) := by kernel_rfl

theorem info_int : (Try.prog.info? 3).map (fun i => (i.zero, i.size, i.bytes)) = some (some (.int .i64 0), 1, 8) := by kernel_rfl

/-- A copy: the elements, in memory of its own. -/
def CopyPost (w : World) (e : TypeId) (size n : Nat) (xs : List Value) (en : Ending) (w' : World) : Prop :=
  ∃ A c, en = .returned (.slice A n c) ∧ Below w.heap.size w w' ∧ Reads w' w'.heap.size size A n xs ∧ w'.ownsRow w.heap.size e size (.slice A n c) n xs
theorem CopyPost.of {w w' : World} {e : TypeId} {size n : Nat} {xs : List Value} {v : Value} (ho : w'.ownsRow w.heap.size e size v n xs) (hb : Below w.heap.size w w') : CopyPost w e size n xs (.returned v) w' := by
  obtain ⟨A, c, rfl, hr⟩ := own_reads ho
  exact ⟨A, c, rfl, hb, hr, ho⟩


theorem copyranges_any (A : Option Addr) (n c N : Nat) (l : List (Int × Int)) (w : World) (hx : Reads w N 2 A n (cells2 l)) (hN : N ≤ w.heap.size) (hn : n ≤ 1000000) :
    Calls Try.prog 96 #[.slice A n c] w (CopyPost w 50 2 n (cells2 l)) := by
  obtain ⟨v', W2, hrun, ho, hb⟩ := copy_run (P := Try.prog) 36 36 50 _ 2 16 Try.underlying36 info_range rfl (by omega) w N A n c (cells2 l) hx hN (one_cells2 l) (by unfold maxLen; omega) (by omega)
  have HRUN := Lib.hid hrun
  have HO := Lib.hid ho
  have HB := Lib.hid hb
  clear hrun ho hb
  go_enter Try.func96, Try.ntmps96
  go_wp2_with (first | (at_builtin; refine wpList_app _ W2 v' rfl _ _ _ rfl _ _ rfl rfl HRUN.out ?_))
  go_ret
  exact CopyPost.of HO.out HB.out


end Go.Proofs.Ytnepjgnnppfibaa

end

section
/- The contracts of the check of a train of gears, of its products, and of Returns. -/
namespace Go.Proofs.Ytnepjgnnppfibaa
open Go.RowKit

/-- Both numbers are those of teeth. -/
def okP (p : Int × Int) : Bool := withinB p.1 1 500 && withinB p.2 1 500
def trainErr (l : List (Int × Int)) : Int := if 12 < l.length then 8 else if l.all okP then 0 else 2

/-- What a train does: each product is handed to a step; false: one is not small. -/
def trainF {σ : Type} (step : σ → Int × Int → σ) : σ → Int × Int → List (Int × Int) → σ × Bool
  | s, _, [] => (s, true)
  | s, f, g :: l => if smallB (f.1 * g.1) (f.2 * g.2) then trainF step (step s (redN (f.1 * g.1) (f.2 * g.2), redD (f.1 * g.1) (f.2 * g.2))) (redN (f.1 * g.1) (f.2 * g.2), redD (f.1 * g.1) (f.2 * g.2)) l else (s, false)

/-- What a function value that is called leaves as it was: all blocks from B on. -/
structure Keeps (B : Nat) (w w' : World) : Prop where
  size : w.heap.size ≤ w'.heap.size
  block : ∀ k, B ≤ k → k < w.heap.size → w'.heap[k]? = w.heap[k]?

theorem Keeps.blk {B : Nat} {w w' : World} (h : Keeps B w w') {g : Nat} {t : TypeId} {cs : Array Value} (hg : Blk w g t cs) (hB : B ≤ g) : Blk w' g t cs := (h.block g hB hg.lt).trans hg

/-- What a function value does with a state that lies below B. -/
structure Each (B : Nat) (k : FuncId) (caps : Array Value) {σ : Type} (Inv : σ → World → Prop) (step : σ → Int × Int → σ) : Prop where
  ent : ∀ (args : Array Value) (w : World), (callFunc k args).run Try.prog w = .ok (.enter k args) w
  call : ∀ (s : σ) (w : World) (f : Int × Int), B ≤ w.heap.size → Inv s w → Part f.1 → Part f.2 →
    Calls Try.prog k (#[.agg #[.int .i64 f.1, .int .i64 f.2]] ++ caps) w fun e w' => e = .returned (.tuple #[]) ∧ Inv (step s f) w' ∧ Keeps B w w'
  keep : ∀ (s : σ) (w w' : World), Inv s w → Below B w w' → Inv s w'

end Go.Proofs.Ytnepjgnnppfibaa

end

section
/- Contracts of the search of a list by a function value, and of the copy of a train. -/
namespace Go.Proofs.Ytnepjgnnppfibaa
open Go Go.RowKit

/-- A function value that asks something of a number, and changes nothing. -/
structure Asks (k : FuncId) (pr : Int → Bool) : Prop where
  ent : ∀ (args : Array Value) (w : World), (callFunc k args).run Try.prog w = .ok (.enter k args) w
  call : ∀ (z : Int) (w : World), Calls Try.prog k #[.int .i64 z] w fun e w' => e = .returned (.bool (pr z)) ∧ w = w'

theorem Asks.is {k : FuncId} {pr : Int → Bool} (h : Asks k pr) (z : Int) (t : Bool) (ht : pr z = t) (w : World) : Calls Try.prog k #[.int .i64 z] w fun e w' => e = .returned (.bool t) ∧ w = w' := ht ▸ h.call z w

end Go.Proofs.Ytnepjgnnppfibaa

end

section
/- Contracts of the reference's products of fractions, and of the ratio of a pair of gears. -/
namespace Go.Proofs.Ytnepjgnnppfibaa
open Go.RowKit

/-- What the reference's product answers. -/
def madeV (a b : Int) : Value := if smallB a b then .tuple #[.agg #[.int .i64 (redN a b), .int .i64 (redD a b)], .int .i64 0] else .tuple #[.agg #[.int .i64 0, .int .i64 0], .int .i64 8]




end Go.Proofs.Ytnepjgnnppfibaa

end

section
/- The contract of Returns: the function value that it hands to the train, then the whole. -/
namespace Go.Proofs.Ytnepjgnnppfibaa
open Go.RowKit

/-- The turns so far, and whether they were too many. -/
def stepR (s : Int × Bool) (f : Int × Int) : Int × Bool := if s.2 then s else (s.1 / (Int.gcd s.1 f.2 : Int) * f.2, decide (1000000000 < s.1 / (Int.gcd s.1 f.2 : Int) * f.2))


/-- What the function value of Returns finds: its two variables, and all below them as it was. -/
structure InvR (w0 : World) (lb tb : Nat) (s : Int × Bool) (w : World) : Prop where
  low : Below w0.heap.size w0 w
  large : Blk w lb 4 #[.bool s.2]
  turns : Blk w tb 3 #[.int .i64 s.1]
  pos : 1 ≤ s.1
  most : s.1 ≤ 1000000000000000000
  small : s.2 = false → s.1 ≤ 1000000000



def trainR (l : List (Int × Int)) : (Int × Bool) × Bool := trainF stepR (stepR (1, false) (1, 1)) (1, 1) l
/-- When all axes are back, or an error. -/
def returnsF (l : List (Int × Int)) : Int × Int := if trainErr l ≠ 0 then (0, trainErr l) else if (trainR l).2 = false ∨ (trainR l).1.2 = true then (0, 8) else ((trainR l).1.1, 0)

def ReturnsPost (l : List (Int × Int)) (w : World) (e : Ending) (w' : World) : Prop := e = .returned (.tuple #[.int .i64 (returnsF l).1, .int .i64 (returnsF l).2]) ∧ Below w.heap.size w w'


end Go.Proofs.Ytnepjgnnppfibaa

end

section
/- The reference's functions on trains of gears: the check, the products, the ratio and the turns. -/
namespace Go.Proofs.Ytnepjgnnppfibaa
open Go.RowKit



/-- All products from one on, and whether all are small. -/
def begF : Int × Int → List (Int × Int) → List (Int × Int) × Bool
  | f, [] => ([f], true)
  | f, g :: l => if smallB (f.1 * g.1) (f.2 * g.2) then (f :: (begF (redN (f.1 * g.1) (f.2 * g.2), redD (f.1 * g.1) (f.2 * g.2)) l).1, (begF (redN (f.1 * g.1) (f.2 * g.2), redD (f.1 * g.1) (f.2 * g.2)) l).2) else ([f], false)

def BegPost (l : List (Int × Int)) (w : World) (e : Ending) (w' : World) : Prop :=
  Below w.heap.size w w' ∧ ((begF (1, 1) l).2 = true → ∃ A c, e = .returned (.tuple #[.slice A (l.length + 1) c, .bool true]) ∧ Reads w' w'.heap.size 2 A (l.length + 1) (cells2 (begF (1, 1) l).1)) ∧
    ((begF (1, 1) l).2 = false → e = .returned (.tuple #[.slice none 0 0, .bool false]))

end Go.Proofs.Ytnepjgnnppfibaa

end

section
/- The contracts of Ratio and MeetAgain, of the program and of the reference, and of the reference's Returns. -/
namespace Go.Proofs.Ytnepjgnnppfibaa
open Go.RowKit

def lastF (L : List (Int × Int)) (s : Int × Int) : Int × Int := L.foldl (fun _ f => f) s
/-- What Ratio answers. -/
def ratioF (l : List (Int × Int)) : (Int × Int) × Int :=
  if trainErr l ≠ 0 then ((0, 0), trainErr l) else if (begF (1, 1) l).2 = false then ((0, 0), 8) else (lastF (begF (1, 1) l).1 (0, 0), 0)

/-- What the function value of Ratio finds: its variable, and all below it as it was. -/
structure InvL (w0 : World) (ob : Nat) (s : Int × Int) (w : World) : Prop where
  low : Below w0.heap.size w0 w
  out : Blk w ob 28 #[.int .i64 s.1, .int .i64 s.2]






end Go.Proofs.Ytnepjgnnppfibaa

end

section
/- The contracts of MeetAgain, of the program and of the reference, and of the reference's Returns. -/
namespace Go.Proofs.Ytnepjgnnppfibaa
open Go.RowKit

def meetF (d v : Int) : Int := v / (Int.gcd d v : Int)
/-- The turns by the reference. -/
def retF : Int → List (Int × Int) → Int × Int
  | n, [] => (n, 0)
  | n, f :: l => if 1000000000 < n / (Int.gcd n f.2 : Int) * f.2 then (0, 8) else retF (n / (Int.gcd n f.2 : Int) * f.2) l
end Go.Proofs.Ytnepjgnnppfibaa

end
