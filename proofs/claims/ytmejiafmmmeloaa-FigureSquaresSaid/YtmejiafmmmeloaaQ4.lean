import Derived.Test.YtmejiafmmmeloaaQ1
import Derived.Maps.Own
import Derived.Maps.OwnOps
import Derived.Maps.OwnSet
import Derived.StringKeys
import Derived.Test.YtmejiafmmmeloaaQ3
import Derived.Test.YtmejiafmmmeloaaQ2

section
/- A map with strings as keys that the program has made, said as a function from strings to values. -/
namespace Go.Proofs.Ytmejiafmmmeloaa
open Go.RowKit Go.Maps Go.WideShapes Go.MapKept

/-- A value read as itself. -/
def heldR (v : Value) : Option (DataW Value × List MemPlace) := some (.held v, [])
def keyS (s : ByteArray) : Lit := .string s.data.toList

theorem keyS_inj {s t : ByteArray} (h : keyS s = keyS t) : s = t := by
  unfold keyS at h
  injection h with h
  cases s; cases t; congr; exact Array.toList_inj.1 h

/-- Block b is a map of at most n entries, with M's values at M's keys. -/
def MapIs (P : Program) (k : TypeId) (w : World) (b n : Nat) (M : ByteArray → Option Value) : Prop :=
  ∃ D : DataW Value, w.ownsMap P k heldR b n D ∧ ∀ s, match M s with
    | none => Maps.has D (keyS s) = false
    | some v => Maps.has D (keyS s) = true ∧ ∀ z, D.atKey (keyS s) z = .held v

section
variable {P : Program} {k t e : TypeId} {w w' : World} {b n : Nat} {M : ByteArray → Option Value}

theorem MapIs.made (w : World) (P : Program) (k : TypeId) : MapIs P k (w.alloc (.map #[] 0)) w.heap.size 0 (fun _ => none) :=
  ⟨.map [], World.ownsMap_made w P k heldR, fun s => rfl⟩
theorem MapIs.lt (h : MapIs P k w b n M) : b < w.heap.size := by obtain ⟨D, h, _⟩ := h; exact h.lt
theorem MapIs.mono (h : MapIs P k w b n M) {n' : Nat} (hn : n ≤ n') : MapIs P k w b n' M := by obtain ⟨D, h, hm⟩ := h; exact ⟨D, h.mono hn, hm⟩
theorem MapIs.alloc (h : MapIs P k w b n M) (o : Obj) : MapIs P k (w.alloc o) b n M := by obtain ⟨D, h, hm⟩ := h; exact ⟨D, h.alloc o, hm⟩
theorem MapIs.drew (h : MapIs P k w b n M) : MapIs P k w.drew b n M := h
theorem MapIs.drewN (h : MapIs P k w b n M) (m : Nat) : MapIs P k (w.drewN m) b n M := h
theorem MapIs.below {B : Nat} (h : MapIs P k w b n M) (hb : Below B w w') (hB : b < B) : MapIs P k w' b n M := by
  obtain ⟨D, ⟨es, clock, h1, h2⟩, hm⟩ := h
  exact ⟨D, ⟨es, clock, (hb.block b hB).trans h1, h2⟩, hm⟩
theorem MapIs.set_ (h : MapIs P k w b n M) {a : Addr} (ha : b ≠ a.block) (u : Value) : MapIs P k (w.setCell a u) b n M := by
  obtain ⟨D, h, hm⟩ := h; exact ⟨D, h.setCell ha u, hm⟩
/-- 'm[s] = v'. -/
theorem MapIs.put (h : MapIs P k w b n M) (hk : P.underlying k = some .string) (ht : P.underlying t = some (.map k e)) (s : ByteArray) (hs : s.size ≤ maxLen) (hn : n < maxLen) (v : Value) :
    ∃ w', (Instr.mapUpdate t (.map (some b)) (.string s) v).run P w = .ok () w' ∧ MapIs P k w' b (n + 1) (fun u => if u = s then some v else M u) ∧ w.grownBy w' (some b) := by
  obtain ⟨D, h, hm⟩ := h
  have hkey : keyOf P k (.string s) = some (keyS s) := WideMaps.keyOf_string_mk hk hs
  obtain ⟨w', hrun, hown, hg⟩ := h.update (string_keyed hk) ht hn (val := v) (d := .held v) (ps := []) hkey rfl
  refine ⟨w', hrun, ⟨_, hown, fun u => ?_⟩, hg⟩
  have hmap : IsMap D := h.isMap
  have hlit : WideAt.IsKeyLit (keyS s) := by unfold keyS; trivial
  by_cases hu : u = s
  · subst hu
    simp only [if_true]
    exact ⟨has_put_same hmap hlit _, fun z => atKey_put_same hmap hlit _ z⟩
  · simp only [if_neg hu]
    have hne : keyS u ≠ keyS s := fun e => hu (keyS_inj e)
    have := hm u
    rw [has_put_other hne]
    cases hM : M u with
    | none => rw [hM] at this; exact this
    | some x => rw [hM] at this; exact ⟨this.1, fun z => by rw [atKey_put_other hne]; exact this.2 z⟩
end

section
variable {P : Program} {k t e : TypeId} {b n : Nat} {M : ByteArray → Option Value} {ops : Array Oper} {rest : List Oper} {o : Oper} {a : Act} {Q : Exit → Act → World → Prop}
end
end Go.Proofs.Ytmejiafmmmeloaa

end

section
/- Rockers: their values, and the contract of the check of one rocker behind others. -/
namespace Go.Proofs.Ytmejiafmmmeloaa
open Go.RowKit

structure Rk where
  name : ByteArray
  left : ByteArray
  right : ByteArray
  al : Int
  ar : Int

def Rk.cells (r : Rk) : List Value := [.string r.name, .string r.left, .string r.right, .int .i64 r.al, .int .i64 r.ar]
def Rk.val (r : Rk) : Value := .agg #[.string r.name, .string r.left, .string r.right, .int .i64 r.al, .int .i64 r.ar]
/-- The texts are no longer than a text can be. -/
structure Rk.Fits (r : Rk) : Prop where
  name : r.name.size ≤ maxLen
  left : r.left.size ≤ maxLen
  right : r.right.size ≤ maxLen

def rkErr (ex : Bool) (r : Rk) : Int :=
  if nameB r.name = false then 4 else if ex then 5 else if nameB r.left = false ∨ nameB r.right = false then 4
  else if withinB r.al 1 10000 = false ∨ withinB r.ar 1 10000 = false then 2 else 0

end Go.Proofs.Ytmejiafmmmeloaa

end

section
/- The contract of the check of a whole tree. -/
namespace Go.Proofs.Ytmejiafmmmeloaa
open Go.RowKit

def rkCells (l : List Rk) : List Value := l.flatMap Rk.cells
theorem rkCells_length (l : List Rk) : (rkCells l).length = l.length * 5 := by
  induction l with
  | nil => rfl
  | cons p l ih => simp only [rkCells, List.flatMap_cons, List.length_append, List.length_cons, List.length_nil, Rk.cells] at *; omega
theorem rkCells_get (l : List Rk) : ∀ (i : Nat) (h : i < l.length) (j : Nat), j < 5 → (rkCells l)[i * 5 + j]? = (l[i]).cells[j]? := by
  induction l with
  | nil => intro i h; simp at h
  | cons p l ih =>
    intro i h j hj
    have e : rkCells (p :: l) = p.cells ++ rkCells l := rfl
    have e5 : p.cells.length = 5 := rfl
    rw [e]
    cases i with
    | zero => rw [List.getElem?_append_left (by omega)]; simp
    | succ i =>
      rw [List.getElem?_append_right (by omega), e5, show (i + 1) * 5 + j - 5 = i * 5 + j from by omega]
      simpa using ih i (by simpa using h) j hj

theorem Reads.len5 {w : World} {B n : Nat} {A : Option Addr} {l : List Rk} (h : Reads w B 5 A n (rkCells l)) : l.length = n := by
  have := h.1; rw [rkCells_length] at this; omega

theorem Reads.rk {w : World} {B n : Nat} {A : Option Addr} {l : List Rk} (h : Reads w B 5 A n (rkCells l)) {i : Nat} (hi : i < n) :
    ∃ b o r, A = some ⟨b, o, none⟩ ∧ b < B ∧ l[i]? = some r ∧ w.cell? ⟨b, o + i * 5, none⟩ = some (.string r.name) ∧ w.cell? ⟨b, o + i * 5 + 1, none⟩ = some (.string r.left) ∧
      w.cell? ⟨b, o + i * 5 + 2, none⟩ = some (.string r.right) ∧ w.cell? ⟨b, o + i * 5 + 3, none⟩ = some (.int .i64 r.al) ∧ w.cell? ⟨b, o + i * 5 + 4, none⟩ = some (.int .i64 r.ar) := by
  obtain ⟨b, o, e, hb, hc⟩ := h.2 (by omega)
  have hl := h.len5
  have hg := rkCells_get l i (by omega)
  exact ⟨b, o, l[i]'(by omega), e, hb, List.getElem?_eq_getElem (by omega), hc _ _ (hg 0 (by omega)), hc _ _ (hg 1 (by omega)), hc _ _ (hg 2 (by omega)), hc _ _ (hg 3 (by omega)), hc _ _ (hg 4 (by omega))⟩

def idxOf (l : List Rk) (s : ByteArray) : Option Nat := l.findIdx? fun r => decide (r.name = s)
def idxM (l : List Rk) (s : ByteArray) : Option Value := (idxOf l s).map fun (i : Nat) => .int .i64 (i : Int)

/-- The error of the first loop: the first rocker that is not right behind those before it. -/
def err1 : List Rk → List Rk → Int
  | _, [] => 0
  | seen, r :: l => if rkErr (idxM seen r.name).isSome r = 0 then err1 (seen ++ [r]) l else rkErr (idxM seen r.name).isSome r

def bearerOf (l : List Rk) (s : ByteArray) : Option Nat := l.findIdx? fun r => decide (r.left = s ∨ r.right = s)
def borneAll (l : List Rk) : List ByteArray := l.flatMap fun r => [r.left, r.right]
def climbs (l : List Rk) : Nat → ByteArray → Bool
  | 0, s => (bearerOf l s).isSome
  | f + 1, s => match bearerOf l s with
    | none => false
    | some i => climbs l f (((l[i]?).map (·.name)).getD s)
def isTop (l : List Rk) (i : Nat) : Bool := match l[i]? with
  | some r => (bearerOf l r.name).isNone
  | none => false
def topsTo (l : List Rk) (k : Nat) : List Nat := (List.range k).filter (isTop l)
def topsOf (l : List Rk) : List Nat := topsTo l l.length
def openErr (l : List Rk) : Int :=
  if l.length = 0 then 10 else if 40 < l.length then 8 else if err1 [] l ≠ 0 then err1 [] l else if ¬ (borneAll l).Nodup then 13
  else if l.any (fun r => climbs l (l.length + 1) r.name) then 21 else if 1 < (topsOf l).length then 25 else 0
def topOf (l : List Rk) : Nat := (topsOf l).getLast?.getD 0

def pairsFrom (k : Nat) : List Rk → List (ByteArray × Nat)
  | [] => []
  | r :: l => (r.left, k) :: (r.right, k) :: pairsFrom (k + 1) l
def bM (ps : List (ByteArray × Nat)) (s : ByteArray) : Option Value := (ps.find? fun p => decide (p.1 = s)).map fun p => .int .i64 (p.2 : Int)
def upM (l : List Rk) (s : ByteArray) : Option Value := (bearerOf l s).map fun (i : Nat) => .int .i64 (i : Int)
end Go.Proofs.Ytmejiafmmmeloaa

end

section
/- The contract of the shares of the points below a thing. -/
namespace Go.Proofs.Ytmejiafmmmeloaa
open Go.RowKit

/-- The points below a thing; none: not within so many steps. -/
def pts (l : List Rk) : Nat → ByteArray → Option (List ByteArray)
  | 0, s => match idxOf l s with
    | none => some [s]
    | some _ => none
  | f + 1, s => match idxOf l s with
    | none => some [s]
    | some i => match l[i]? with
      | none => none
      | some r => match pts l f r.left, pts l f r.right with
        | some a, some b => some (a ++ b)
        | _, _ => none

def redN (a b : Int) : Int := a / (Int.gcd a b : Int)
def redD (a b : Int) : Int := b / (Int.gcd a b : Int)

def join2 (a b : Option (List (Int × Int))) : Option (List (Int × Int)) := match a, b with
  | some x, some y => some (x ++ y)
  | _, _ => none

/-- The shares of the points below a thing; none: one is not small. -/
def sh (l : List Rk) : Nat → ByteArray → Int → Int → Option (List (Int × Int))
  | 0, _, n, d => some [(n, d)]
  | f + 1, s, n, d => match idxOf l s with
    | none => some [(n, d)]
    | some i => match l[i]? with
      | none => none
      | some r => if smallB (n * r.ar) (d * (r.al + r.ar)) && smallB (n * r.al) (d * (r.al + r.ar)) then
          join2 (sh l f r.left (redN (n * r.ar) (d * (r.al + r.ar))) (redD (n * r.ar) (d * (r.al + r.ar)))) (sh l f r.right (redN (n * r.al) (d * (r.al + r.ar))) (redD (n * r.al) (d * (r.al + r.ar))))
        else none

/-- Arms are from 1 to 10000. -/
def ArmsOK (l : List Rk) : Prop := ∀ r ∈ l, 1 ≤ r.al ∧ r.al ≤ 10000 ∧ 1 ≤ r.ar ∧ r.ar ≤ 10000
/-- A part of a fraction. -/
def Part (x : Int) : Prop := 1 ≤ x ∧ x ≤ 1000000000

end Go.Proofs.Ytmejiafmmmeloaa

end

section
/- Copies of lists: what append to an empty list of its own makes, and the contracts of the functions that copy. -/
namespace Go.Proofs.Ytmejiafmmmeloaa
open Go.RowKit

theorem copy_run {P : Program} (t ty e : TypeId) (z : Value) (size bytes : Nat) (ht : P.underlying t = some (.slice e)) (hi : (P.info? e).map (fun i => (i.zero, i.size, i.bytes)) = some (some z, size, bytes)) (hzs : z.cells.size = size) (hsz : 0 < size)
    (w : World) (N : Nat) (A : Option Addr) (n c : Nat) (xs : List Value) (hr : Reads w N size A n xs) (hN : N ≤ w.heap.size) (h1 : ∀ u ∈ xs, u.oneCell' = true) (hn : n ≤ maxLen) (hbytes : n * bytes ≤ 140737488355328) :
    ∃ v' W2, (Builtin.append_ #[t, t] ty #[.slice (some ⟨w.heap.size, 0, none⟩) 0 0, .slice A n c]).run P (w.alloc (.cells #[] e)) = .ok v' W2 ∧ W2.ownsRow w.heap.size e size v' n xs ∧ Below w.heap.size w W2 := by
  obtain ⟨i0, hi0, hz0, hz1, hz2⟩ := info_parts hi
  have ho : (w.alloc (.cells #[] e)).ownsRow w.heap.size e size (.slice (some ⟨w.heap.size, 0, none⟩) 0 0) 0 [] :=
    ⟨by simp, .inr ⟨w.heap.size, 0, #[], rfl, Nat.le_refl _, Blk.new _ _ _, by omega, by decide, by simp, by simp⟩⟩
  obtain ⟨v', W2, hrun, ho2, hg, -⟩ := run_append_any (P := P) (w.alloc (.cells #[] e)) w.heap.size t ty e i0 z size bytes ht hi0 hz0 hz1 hz2 hzs hsz _ 0 [] ho N A n c xs (hr.alloc hN _) h1 (by omega) (by rw [Nat.zero_add]; omega) (by simp)
  refine ⟨v', W2, hrun, by simpa using ho2, ?_⟩
  exact ((Below.refl _ _).alloc (Nat.le_refl _) _).grown hg (by simp) (fun k hk => (own_lt ho hk).1)

theorem one_cells2 (l : List (Int × Int)) : ∀ u ∈ cells2 l, u.oneCell' = true := by
  intro u hu
  unfold cells2 at hu
  rw [List.mem_flatMap] at hu
  obtain ⟨p, -, hp⟩ := hu
  simp at hp
  rcases hp with rfl | rfl <;> rfl
theorem info_range : (Try.prog.info? 54).map (fun i => (i.zero, i.size, i.bytes)) = some (some (.agg #[.int .i64 0, .int .i64 0]), 2, 16) := by kernel_rfl

theorem info_int : (Try.prog.info? 3).map (fun i => (i.zero, i.size, i.bytes)) = some (some (.int .i64 0), 1, 8) := by kernel_rfl

/-- A copy: the elements, in memory of its own. -/
def CopyPost (w : World) (e : TypeId) (size n : Nat) (xs : List Value) (en : Ending) (w' : World) : Prop :=
  ∃ A c, en = .returned (.slice A n c) ∧ Below w.heap.size w w' ∧ Reads w' w'.heap.size size A n xs ∧ w'.ownsRow w.heap.size e size (.slice A n c) n xs
theorem CopyPost.of {w w' : World} {e : TypeId} {size n : Nat} {xs : List Value} {v : Value} (ho : w'.ownsRow w.heap.size e size v n xs) (hb : Below w.heap.size w w') : CopyPost w e size n xs (.returned v) w' := by
  obtain ⟨A, c, rfl, hr⟩ := own_reads ho
  exact ⟨A, c, rfl, hb, hr, ho⟩





end Go.Proofs.Ytmejiafmmmeloaa

end

section
/- The contracts of the check of a train of gears, of its products, and of Returns. -/
namespace Go.Proofs.Ytmejiafmmmeloaa
open Go.RowKit

/-- Both numbers are those of teeth. -/
def okP (p : Int × Int) : Bool := withinB p.1 1 500 && withinB p.2 1 500
def trainErr (l : List (Int × Int)) : Int := if 12 < l.length then 8 else if l.all okP then 0 else 2

/-- What a train does: each product is handed to a step; false: one is not small. -/
def trainF {σ : Type} (step : σ → Int × Int → σ) : σ → Int × Int → List (Int × Int) → σ × Bool
  | s, _, [] => (s, true)
  | s, f, g :: l => if smallB (f.1 * g.1) (f.2 * g.2) then trainF step (step s (redN (f.1 * g.1) (f.2 * g.2), redD (f.1 * g.1) (f.2 * g.2))) (redN (f.1 * g.1) (f.2 * g.2), redD (f.1 * g.1) (f.2 * g.2)) l else (s, false)

/-- What a function value that is called leaves as it was: all blocks from B on. -/
structure Keeps (B : Nat) (w w' : World) : Prop where
  size : w.heap.size ≤ w'.heap.size
  block : ∀ k, B ≤ k → k < w.heap.size → w'.heap[k]? = w.heap[k]?

theorem Keeps.blk {B : Nat} {w w' : World} (h : Keeps B w w') {g : Nat} {t : TypeId} {cs : Array Value} (hg : Blk w g t cs) (hB : B ≤ g) : Blk w' g t cs := (h.block g hB hg.lt).trans hg

/-- What a function value does with a state that lies below B. -/
structure Each (B : Nat) (k : FuncId) (caps : Array Value) {σ : Type} (Inv : σ → World → Prop) (step : σ → Int × Int → σ) : Prop where
  ent : ∀ (args : Array Value) (w : World), (callFunc k args).run Try.prog w = .ok (.enter k args) w
  call : ∀ (s : σ) (w : World) (f : Int × Int), B ≤ w.heap.size → Inv s w → Part f.1 → Part f.2 →
    Calls Try.prog k (#[.agg #[.int .i64 f.1, .int .i64 f.2]] ++ caps) w fun e w' => e = .returned (.tuple #[]) ∧ Inv (step s f) w' ∧ Keeps B w w'
  keep : ∀ (s : σ) (w w' : World), Inv s w → Below B w w' → Inv s w'

end Go.Proofs.Ytmejiafmmmeloaa

end

section
/- Contracts of the search of a list by a function value, and of the copy of a train. -/
namespace Go.Proofs.Ytmejiafmmmeloaa
open Go Go.RowKit

/-- A function value that asks something of a number, and changes nothing. -/
structure Asks (k : FuncId) (pr : Int → Bool) : Prop where
  ent : ∀ (args : Array Value) (w : World), (callFunc k args).run Try.prog w = .ok (.enter k args) w
  call : ∀ (z : Int) (w : World), Calls Try.prog k #[.int .i64 z] w fun e w' => e = .returned (.bool (pr z)) ∧ w = w'

theorem Asks.is {k : FuncId} {pr : Int → Bool} (h : Asks k pr) (z : Int) (t : Bool) (ht : pr z = t) (w : World) : Calls Try.prog k #[.int .i64 z] w fun e w' => e = .returned (.bool t) ∧ w = w' := ht ▸ h.call z w

end Go.Proofs.Ytmejiafmmmeloaa

end

section
/- Contracts of the reference's products of fractions, and of the ratio of a pair of gears. -/
namespace Go.Proofs.Ytmejiafmmmeloaa
open Go.RowKit

/-- A common factor goes away. -/
theorem red_scale {k : Int} (hk : 0 < k) (a b : Int) : redN (k * a) (k * b) = redN a b ∧ redD (k * a) (k * b) = redD a b ∧ smallB (k * a) (k * b) = smallB a b := by
  have hg : (Int.gcd (k * a) (k * b) : Int) = k * (Int.gcd a b : Int) := by
    rw [Int.gcd_mul_left]
    push_cast
    rw [Int.natAbs_of_nonneg (by omega)]
  have h1 : redN (k * a) (k * b) = redN a b := by unfold redN; rw [hg, Int.mul_ediv_mul_of_pos _ _ hk]
  have h2 : redD (k * a) (k * b) = redD a b := by unfold redD; rw [hg, Int.mul_ediv_mul_of_pos _ _ hk]
  refine ⟨h1, h2, ?_⟩
  unfold redN at h1
  unfold redD at h2
  unfold smallB
  rw [h1, h2]

theorem lowest_red (a b x y : Int) (hx : redN a b = x) (hy : redD a b = y) (w : World) (h1 : -9223372036854775808 < a) (h2 : a ≤ 9223372036854775807) (h3 : 1 ≤ b) (h4 : b ≤ 9223372036854775807) :
    Calls Try.prog 20 #[.int .i64 a, .int .i64 b] w fun e w' => e = .returned (.agg #[.int .i64 x, .int .i64 y]) ∧ Below w.heap.size w w' :=
  hx ▸ hy ▸ lowest_any a b w h1 h2 h3 h4




/-- What the reference's product answers. -/
def madeV (a b : Int) : Value := if smallB a b then .tuple #[.agg #[.int .i64 (redN a b), .int .i64 (redD a b)], .int .i64 0] else .tuple #[.agg #[.int .i64 0, .int .i64 0], .int .i64 8]




end Go.Proofs.Ytmejiafmmmeloaa

end

section
/- The contract of Returns: the function value that it hands to the train, then the whole. -/
namespace Go.Proofs.Ytmejiafmmmeloaa
open Go.RowKit

/-- The turns so far, and whether they were too many. -/
def stepR (s : Int × Bool) (f : Int × Int) : Int × Bool := if s.2 then s else (s.1 / (Int.gcd s.1 f.2 : Int) * f.2, decide (1000000000 < s.1 / (Int.gcd s.1 f.2 : Int) * f.2))


/-- What the function value of Returns finds: its two variables, and all below them as it was. -/
structure InvR (w0 : World) (lb tb : Nat) (s : Int × Bool) (w : World) : Prop where
  low : Below w0.heap.size w0 w
  large : Blk w lb 4 #[.bool s.2]
  turns : Blk w tb 3 #[.int .i64 s.1]
  pos : 1 ≤ s.1
  most : s.1 ≤ 1000000000000000000
  small : s.2 = false → s.1 ≤ 1000000000



def trainR (l : List (Int × Int)) : (Int × Bool) × Bool := trainF stepR (stepR (1, false) (1, 1)) (1, 1) l
/-- When all axes are back, or an error. -/
def returnsF (l : List (Int × Int)) : Int × Int := if trainErr l ≠ 0 then (0, trainErr l) else if (trainR l).2 = false ∨ (trainR l).1.2 = true then (0, 8) else ((trainR l).1.1, 0)

def ReturnsPost (l : List (Int × Int)) (w : World) (e : Ending) (w' : World) : Prop := e = .returned (.tuple #[.int .i64 (returnsF l).1, .int .i64 (returnsF l).2]) ∧ Below w.heap.size w w'


end Go.Proofs.Ytmejiafmmmeloaa

end

section
/- The reference's functions on trains of gears: the check, the products, the ratio and the turns. -/
namespace Go.Proofs.Ytmejiafmmmeloaa
open Go.RowKit



/-- All products from one on, and whether all are small. -/
def begF : Int × Int → List (Int × Int) → List (Int × Int) × Bool
  | f, [] => ([f], true)
  | f, g :: l => if smallB (f.1 * g.1) (f.2 * g.2) then (f :: (begF (redN (f.1 * g.1) (f.2 * g.2), redD (f.1 * g.1) (f.2 * g.2)) l).1, (begF (redN (f.1 * g.1) (f.2 * g.2), redD (f.1 * g.1) (f.2 * g.2)) l).2) else ([f], false)

def BegPost (l : List (Int × Int)) (w : World) (e : Ending) (w' : World) : Prop :=
  Below w.heap.size w w' ∧ ((begF (1, 1) l).2 = true → ∃ A c, e = .returned (.tuple #[.slice A (l.length + 1) c, .bool true]) ∧ Reads w' w'.heap.size 2 A (l.length + 1) (cells2 (begF (1, 1) l).1)) ∧
    ((begF (1, 1) l).2 = false → e = .returned (.tuple #[.slice none 0 0, .bool false]))

end Go.Proofs.Ytmejiafmmmeloaa

end

section
/- The contracts of Ratio and MeetAgain, of the program and of the reference, and of the reference's Returns. -/
namespace Go.Proofs.Ytmejiafmmmeloaa
open Go.RowKit

def lastF (L : List (Int × Int)) (s : Int × Int) : Int × Int := L.foldl (fun _ f => f) s
/-- What Ratio answers. -/
def ratioF (l : List (Int × Int)) : (Int × Int) × Int :=
  if trainErr l ≠ 0 then ((0, 0), trainErr l) else if (begF (1, 1) l).2 = false then ((0, 0), 8) else (lastF (begF (1, 1) l).1 (0, 0), 0)

/-- What the function value of Ratio finds: its variable, and all below it as it was. -/
structure InvL (w0 : World) (ob : Nat) (s : Int × Int) (w : World) : Prop where
  low : Below w0.heap.size w0 w
  out : Blk w ob 25 #[.int .i64 s.1, .int .i64 s.2]






end Go.Proofs.Ytmejiafmmmeloaa

end

section
/- The contracts of MeetAgain, of the program and of the reference, and of the reference's Returns. -/
namespace Go.Proofs.Ytmejiafmmmeloaa
open Go.RowKit

def meetF (d v : Int) : Int := v / (Int.gcd d v : Int)
/-- The turns by the reference. -/
def retF : Int → List (Int × Int) → Int × Int
  | n, [] => (n, 0)
  | n, f :: l => if 1000000000 < n / (Int.gcd n f.2 : Int) * f.2 then (0, 8) else retF (n / (Int.gcd n f.2 : Int) * f.2) l
end Go.Proofs.Ytmejiafmmmeloaa

end

section
/- A rule for a region whose order is left open and in which several operations choose: a call whose result is only known to exist, memory that is made at a place that is not known ahead. The walk goes in an order of one's own. -/
namespace Go.Proofs.Ytmejiafmmmeloaa.Fx
open Go Go.RowKit

section
variable {P : Program} {ops : Array Oper} {md : Region.Mode} {X : Type}

/-- What has been chosen, by the number of the operation. -/
def upd (g : Nat → Option X) (i : Nat) (x : X) : Nat → Option X := fun j => if Nat.beq j i then some x else g j
def Ext (g g' : Nat → Option X) : Prop := ∀ c x, g c = some x → g' c = some x
theorem Ext.refl (g : Nat → Option X) : Ext g g := fun _ _ h => h
theorem Ext.trans {g g' g'' : Nat → Option X} (h : Ext g g') (k : Ext g' g'') : Ext g g'' := fun c x e => k c x (h c x e)
theorem Ext.upd {g : Nat → Option X} {i : Nat} (hi : g i = none) (x : X) : Ext g (upd g i x) := fun c y e => by
  unfold Fx.upd
  cases h : Nat.beq c i with
  | false => simpa using e
  | true => rw [Nat.eq_of_beq_eq_true h] at e; rw [hi] at e; cases e
theorem upd_same {g : Nat → Option X} {i : Nat} {x : X} : upd g i x i = some x := by
  unfold upd
  rw [show Nat.beq i i = true from Nat.beq_refl i]
  rfl

def SureM (P : Program) (md : Region.Mode) (ops : Array Oper) (C : (Nat → Option X) → Array Bool → World → Prop) (val : Nat → X → Value) (g : Nat → Option X) (i : Nat) (o : Oper) (a : Act) : Prop :=
  Region.wanted o (yielded ops a.tmps) = true ∧ ∀ L w, C g L w → i ∈ Region.ready md ops L → GivesX P o a w fun v w' => ∃ x, v = val i x ∧ C (upd g i x) (L.setIfInBounds i true) w'

theorem SureM.same {C : (Nat → Option X) → Array Bool → World → Prop} {val : Nat → X → Value} {g : Nat → Option X} {i : Nat} {o : Oper} {a a' : Act} (h : SureM P md ops C val g i o a) (he : execOp a'.eval o = execOp a.eval o)
    (hw : Region.wanted o (yielded ops a'.tmps) = Region.wanted o (yielded ops a.tmps)) : SureM P md ops C val g i o a' :=
  ⟨hw.trans h.1, fun L w hc hr => (h.2 L w hc hr).congr he⟩

def anyM (P : Program) (md : Region.Mode) (ops : Array Oper) (C : (Nat → Option X) → Array Bool → World → Prop) (val : Nat → X → Value) (Q : (Nat → Option X) → Array Bool → Act → Prop) : Nat → (Nat → Option X) → Array Bool → Act → Prop
  | 0, g, L, a => Region.ready md ops L = [] ∧ Q g L a
  | n + 1, g, L, a => (Region.ready md ops L = [] → Q g L a) ∧
      ∀ i ∈ Region.ready md ops L, ∃ o, ops[i]? = some o ∧ ((∃ v, Sure P md ops (C g) i o v a ∧ anyM P md ops C val Q n g (L.setIfInBounds i true) (a.put o.dst v)) ∨
        (g i = none ∧ SureM P md ops C val g i o a ∧ ∀ x, anyM P md ops C val Q n (upd g i x) (L.setIfInBounds i true) (a.put o.dst (val i x))))

theorem wpAny_of_anyM {C : (Nat → Option X) → Array Bool → World → Prop} {val : Nat → X → Value} {Q : (Nat → Option X) → Array Bool → Act → Prop} {Q' : Exit → Act → World → Prop} (hQ : ∀ g L a w, C g L w → Q g L a → Q' .normal a w) :
    ∀ (n : Nat) (g : Nat → Option X) (L : Array Bool) (a : Act) (w : World), C g L w → anyM P md ops C val Q n g L a → wpAny P md ops Q' n L a w
  | 0, _, _, _, _, hc, h => ⟨h.1, hQ _ _ _ _ hc h.2⟩
  | n + 1, g, L, a, w, hc, h => ⟨fun h0 => hQ _ _ _ _ hc (h.1 h0), fun i hi => by
      obtain ⟨o, ho, hcs⟩ := h.2 i hi
      unfold wpOp
      simp only [ho]
      rcases hcs with ⟨v, hs, hn⟩ | ⟨-, hs, hn⟩
      · rcases hs with ⟨h1, h2⟩ | ⟨h1, h2, h3⟩
        · rw [if_pos h1]
          exact .inl ((h2 L w hc hi).wp fun w' hw' => wpAny_of_anyM hQ n _ _ _ w' hw' hn)
        · rw [if_neg (by rw [h1]; exact Bool.false_ne_true)]
          subst h2
          exact wpAny_of_anyM hQ n _ _ _ w (h3 L w hc hi) hn
      · rw [if_pos hs.1]
        exact .inl ((hs.2 L w hc hi).wp fun v w' ⟨x, hv, hw'⟩ => by subst hv; exact wpAny_of_anyM hQ n _ _ _ w' hw' (hn x))⟩

/-- What may come up may be taken first, if all that could come before it is apart from it. -/
theorem anyM_first {C : (Nat → Option X) → Array Bool → World → Prop} {val : Nat → X → Value} {Q : (Nat → Option X) → Array Bool → Act → Prop} {i : Nat} {oi : Oper} {v : Value} (hi : ops[i]? = some oi) (hsel : ∀ (j : Nat) (o : Oper) cs b, ops[j]? = some o → o.op ≠ .select cs b) :
    ∀ (n : Nat) (g : Nat → Option X) (L : Array Bool) (a : Act),
      (∀ j oj, ops[j]? = some oj → j ≠ i → L.getD j true = false → (∀ e ∈ oj.after, Region.binds md e = true → e.on ≠ i) → oi.apart ops oj = true) →
      i ∈ Region.ready md ops L → (∀ g', Ext g g' → Sure P md ops (C g') i oi v a) →
      anyM P md ops C val Q n g (L.setIfInBounds i true) (a.put oi.dst v) → anyM P md ops C val Q (n + 1) g L a := by
  intro n
  induction n with
  | zero =>
    intro g L a _ hr hs H
    refine ⟨fun h => (by rw [h] at hr; cases hr), fun j hj => ?_⟩
    by_cases hji : j = i
    · subst hji; exact ⟨oi, hi, .inl ⟨v, hs g (Ext.refl g), H⟩⟩
    · have := ready_mono hj hji
      rw [H.1] at this
      cases this
  | succ n ih =>
    intro g L a hfree hr hs H
    refine ⟨fun h => (by rw [h] at hr; cases hr), fun j hj => ?_⟩
    by_cases hji : j = i
    · subst hji; exact ⟨oi, hi, .inl ⟨v, hs g (Ext.refl g), H⟩⟩
    · obtain ⟨oj, hoj, hcs⟩ := H.2 j (ready_mono hj hji)
      obtain ⟨hjun, oj', hoj', hall⟩ := mem_ready.1 hj
      obtain rfl : oj' = oj := Option.some.inj (hoj'.symm.trans hoj)
      have hnot : ∀ e ∈ oj'.after, Region.binds md e = true → e.on ≠ i := fun e he hb heq => by
        have h1 := hall e he hb
        have h0 := (mem_ready.1 hr).1
        rw [heq] at h1
        rcases Nat.lt_or_ge i L.size with h' | h'
        · simp [h'] at h0 h1; rw [h0] at h1; cases h1
        · simp [Array.getElem?_eq_none h'] at h1
      obtain ⟨a1, a2, a3⟩ := Oper.apart_spec (hfree j oj' hoj hji hjun hnot)
      have key : ∀ (g' : Nat → Option X) (u : Value), Ext g g' → anyM P md ops C val Q n g' ((L.setIfInBounds i true).setIfInBounds j true) ((a.put oi.dst v).put oj'.dst u) → anyM P md ops C val Q (n + 1) g' (L.setIfInBounds j true) (a.put oj'.dst u) := fun g' u hx hn => by
        refine ih g' _ _ (fun k ok hk hki hun hno => hfree k ok hk hki ?_ hno) (ready_mono hr (Ne.symm hji))
          (fun g'' hg'' => (hs g'' (hx.trans hg'')).same (execOp_put oi (fun cs b => hsel i oi cs b hi) a oj'.dst u a3) (wanted_put oi a oj'.dst u a3)) ?_
        · by_cases hjk : j = k
          · subst hjk; exact hjun
          · rw [getD_set_ne true hjk] at hun; exact hun
        · rw [Array.setIfInBounds_comm _ _ hji, ← Act.put_comm a v u a2]
          exact hn
      refine ⟨oj', hoj, ?_⟩
      rcases hcs with ⟨u, hsj, hn⟩ | ⟨hg, hsj, hn⟩
      · exact .inl ⟨u, hsj.same (execOp_put oj' (fun cs b => hsel j oj' cs b hoj) a oi.dst v a1).symm (wanted_put oj' a oi.dst v a1).symm, key g u (Ext.refl g) hn⟩
      · exact .inr ⟨hg, hsj.same (execOp_put oj' (fun cs b => hsel j oj' cs b hoj) a oi.dst v a1).symm (wanted_put oj' a oi.dst v a1).symm, fun x => key (upd g j x) (val j x) (Ext.upd hg x) (hn x)⟩

/-- The walk: n operations are left, g has been chosen, L has come. -/
def WM (P : Program) (md : Region.Mode) (ops : Array Oper) (D : (Nat → Option X) → (Nat → Bool) → World → Prop) (val : Nat → X → Value) (Q : Act → World → Prop) (n : Nat) (g : Nat → Option X) (L : Array Bool) (a : Act) : Prop :=
  anyM P md ops (fun g L w => Closed md ops L ∧ D g (fun j => L.getD j false) w) val (fun g L a' => ∀ w', D g (fun j => L.getD j false) w' → Q a' w') n g L a

variable {D : (Nat → Option X) → (Nat → Bool) → World → Prop} {val : Nat → X → Value} {Q : Act → World → Prop} {n : Nat} {g : Nat → Option X} {L : Array Bool} {a : Act}

theorem WM.nil (hr : Region.ready md ops L = []) (h : ∀ w', D g (fun j => L.getD j false) w' → Q a w') : WM P md ops D val Q 0 g L a := ⟨hr, h⟩

theorem WM.plain (i : Nat) {o : Oper} (v : Value) (ho : ops[i]? = some o) (hs : Region.noSelect ops = true) (hr : (Region.ready md ops L).contains i = true) (hf : Region.free md ops L i = true)
    (h1 : (Region.wanted o (yielded ops a.tmps) = true ∧ ∀ g' f w, Ext g g' → D g' f w → When md ops i f → Gives P o a w v (D g' (add f i))) ∨ (Region.wanted o (yielded ops a.tmps) = false ∧ v = undef ∧ ∀ g' f w, Ext g g' → D g' f w → When md ops i f → D g' (add f i) w))
    (h : WM P md ops D val Q n g (L.setIfInBounds i true) (a.put o.dst v)) : WM P md ops D val Q (n + 1) g L a := by
  have hi : i < ops.size := (Array.getElem?_eq_some_iff.1 ho).1
  refine anyM_first ho (Region.noSelect_spec hs) n g L a (Region.free_spec ho hf) (by simpa using hr) (fun g' hg' => ?_) h
  rcases h1 with ⟨h1, h2⟩ | ⟨h1, h2, h3⟩
  · refine .inl ⟨h1, fun L' w hc hrd => (h2 g' _ w hg' hc.2 (when_of_ready hc.1 hrd)).mono fun w' hw' => ⟨hc.1.set_ hrd, ?_⟩⟩
    rw [add_set (by rw [hc.1.1]; exact hi)]; exact hw'
  · refine .inr ⟨h1, h2, fun L' w hc hrd => ⟨hc.1.set_ hrd, ?_⟩⟩
    rw [add_set (by rw [hc.1.1]; exact hi)]; exact h3 g' _ w hg' hc.2 (when_of_ready hc.1 hrd)

variable {l : List Oper}
theorem WM.skip (i : Nat) {o : Oper} (ho : l[i]? = some o) (hs : Region.noSelect l.toArray = true) (hr : (Region.ready md l.toArray L).contains i = true) (hf : Region.free md l.toArray L i = true) (hw : Region.wanted o (yielded l.toArray a.tmps) = false) (hD : ∀ g' f w, D g' f w → D g' (add f i) w)
    (h : WM P md l.toArray D val Q n g (L.setIfInBounds i true) (a.put o.dst undef)) : WM P md l.toArray D val Q (n + 1) g L a :=
  WM.plain i undef (by simpa using ho) hs hr hf (.inr ⟨hw, rfl, fun g' f w _ hd _ => hD g' f w hd⟩) h

theorem WM.val_ (i : Nat) {o : Oper} (v : Value) (ho : l[i]? = some o) (hs : Region.noSelect l.toArray = true) (hr : (Region.ready md l.toArray L).contains i = true) (hf : Region.free md l.toArray L i = true) (hw : Region.wanted o (yielded l.toArray a.tmps) = true)
    (hrun : ∀ g' f w, Ext g g' → D g' f w → When md l.toArray i f → (execOp a.eval o).run P w = .ok (.value v) w) (hD : ∀ g' f w, D g' f w → D g' (add f i) w)
    (h : WM P md l.toArray D val Q n g (L.setIfInBounds i true) (a.put o.dst v)) : WM P md l.toArray D val Q (n + 1) g L a :=
  WM.plain i v (by simpa using ho) hs hr hf (.inl ⟨hw, fun g' f w hx hd hk => by unfold Gives; rw [hrun g' f w hx hd hk]; exact ⟨rfl, hD g' f w hd⟩⟩) h

theorem WM.call (i : Nat) {o : Oper} (v : Value) (m : FuncId) (args : Array Value) (ho : l[i]? = some o) (hs : Region.noSelect l.toArray = true) (hr : (Region.ready md l.toArray L).contains i = true) (hf : Region.free md l.toArray L i = true) (hw : Region.wanted o (yielded l.toArray a.tmps) = true)
    (hrun : ∀ w, (execOp a.eval o).run P w = .ok (.enter m args) w) (hc : ∀ g' f w, Ext g g' → D g' f w → When md l.toArray i f → Calls P m args w fun e w'' => e = .returned v ∧ D g' (add f i) w'')
    (h : WM P md l.toArray D val Q n g (L.setIfInBounds i true) (a.put o.dst v)) : WM P md l.toArray D val Q (n + 1) g L a :=
  WM.plain i v (by simpa using ho) hs hr hf (.inl ⟨hw, fun g' f w hx hd hk => by unfold Gives; rw [hrun w]; exact hc g' f w hx hd hk⟩) h

/-- A value of fixed form behind which the world is another one. -/
theorem WM.eff (i : Nat) {o : Oper} (v : Value) (ho : l[i]? = some o) (hs : Region.noSelect l.toArray = true) (hr : (Region.ready md l.toArray L).contains i = true) (hf : Region.free md l.toArray L i = true) (hw : Region.wanted o (yielded l.toArray a.tmps) = true)
    (hrun : ∀ g' f w, Ext g g' → D g' f w → When md l.toArray i f → Gives P o a w v (D g' (add f i)))
    (h : WM P md l.toArray D val Q n g (L.setIfInBounds i true) (a.put o.dst v)) : WM P md l.toArray D val Q (n + 1) g L a :=
  WM.plain i v (by simpa using ho) hs hr hf (.inl ⟨hw, hrun⟩) h

theorem gives_skip {o : Oper} {w w' : World} {R : World → Prop} (h : (execOp a.eval o).run P w = .ok .skip w') (hr : R w') : Gives P o a w undef R := by unfold Gives; rw [h]; exact ⟨rfl, hr⟩

/-- One that chooses. -/
def Chooses (P : Program) (md : Region.Mode) (ops : Array Oper) (D : (Nat → Option X) → (Nat → Bool) → World → Prop) (val : Nat → X → Value) (g : Nat → Option X) (a : Act) (i : Nat) (o : Oper) : Prop :=
  Region.wanted o (yielded ops a.tmps) = true ∧ ∀ f w, D g f w → When md ops i f → GivesX P o a w fun v w' => ∃ x, v = val i x ∧ D (upd g i x) (add f i) w'

theorem Chooses.call {i : Nat} {o : Oper} (m : FuncId) (args : Array Value) (hw : Region.wanted o (yielded ops a.tmps) = true) (hrun : ∀ w, (execOp a.eval o).run P w = .ok (.enter m args) w)
    (hc : ∀ f w, D g f w → When md ops i f → Calls P m args w fun e w'' => ∃ x, e = .returned (val i x) ∧ D (upd g i x) (add f i) w'') : Chooses P md ops D val g a i o :=
  ⟨hw, fun f w hd hk => by unfold GivesX; rw [hrun w]; exact (hc f w hd hk).mono fun e w'' ⟨x, he, hx⟩ => ⟨_, he, x, rfl, hx⟩⟩
theorem Chooses.make {i : Nat} {o : Oper} (hw : Region.wanted o (yielded ops a.tmps) = true) (hrun : ∀ f w, D g f w → When md ops i f → ∃ x w', (execOp a.eval o).run P w = .ok (.value (val i x)) w' ∧ D (upd g i x) (add f i) w') : Chooses P md ops D val g a i o :=
  ⟨hw, fun f w hd hk => by
    obtain ⟨x, w', e, hx⟩ := hrun f w hd hk
    unfold GivesX
    rw [e]
    exact ⟨x, rfl, hx⟩⟩

theorem Chooses.sure {i : Nat} {o : Oper} (ho : ops[i]? = some o) (h : Chooses P md ops D val g a i o) : SureM P md ops (fun g L w => Closed md ops L ∧ D g (fun j => L.getD j false) w) val g i o a := by
  have hi : i < ops.size := (Array.getElem?_eq_some_iff.1 ho).1
  refine ⟨h.1, fun L w hc hrd => (h.2 _ w hc.2 (when_of_ready hc.1 hrd)).mono fun v w' ⟨x, hx, hw'⟩ => ⟨x, hx, hc.1.set_ hrd, ?_⟩⟩
  rw [add_set (by rw [hc.1.1]; exact hi)]; exact hw'

/-- Only i may come up, and it chooses. -/
theorem WM.choose (i : Nat) {o : Oper} (ho : l[i]? = some o) (hr : Region.ready md l.toArray L = [i]) (hg : g i = none) (hc : Chooses P md l.toArray D val g a i o)
    (h : ∀ x, WM P md l.toArray D val Q n (upd g i x) (L.setIfInBounds i true) (a.put o.dst (val i x))) : WM P md l.toArray D val Q (n + 1) g L a := by
  refine ⟨fun e => (by rw [hr] at e; cases e), fun k hk => ?_⟩
  rw [hr] at hk
  obtain rfl : k = i := by simpa using hk
  exact ⟨o, by simpa using ho, .inr ⟨hg, hc.sure (by simpa using ho), h⟩⟩

/-- Two may come up, and both choose. -/
theorem WM.choose2 (i j : Nat) {oi oj : Oper} (hoi : l[i]? = some oi) (hoj : l[j]? = some oj) (hr : Region.ready md l.toArray L = [i, j]) (hgi : g i = none) (hgj : g j = none) (hci : Chooses P md l.toArray D val g a i oi) (hcj : Chooses P md l.toArray D val g a j oj)
    (h : ∀ x, WM P md l.toArray D val Q n (upd g i x) (L.setIfInBounds i true) (a.put oi.dst (val i x))) (k : ∀ x, WM P md l.toArray D val Q n (upd g j x) (L.setIfInBounds j true) (a.put oj.dst (val j x))) : WM P md l.toArray D val Q (n + 1) g L a := by
  refine ⟨fun e => (by rw [hr] at e; cases e), fun m hm => ?_⟩
  rw [hr] at hm
  rcases (show m = i ∨ m = j by simpa using hm) with rfl | rfl
  · exact ⟨oi, by simpa using hoi, .inr ⟨hgi, hci.sure (by simpa using hoi), h⟩⟩
  · exact ⟨oj, by simpa using hoj, .inr ⟨hgj, hcj.sure (by simpa using hoj), k⟩⟩

/-- THE RULE. -/
theorem regionM {id : Nat} {Q : Exit → Act → World → Prop} {a : Act} {w : World} {l : List Oper} (D : World → (Nat → Option X) → (Nat → Bool) → World → Prop) (val : Nat → X → Value) (hm : P.follows .mixedOrders = true)
    (h0 : ∀ f, (∀ j, f j = false) → D w (fun _ => none) f (w.drewN 1))
    (h : WM P .any l.toArray (D w) val (Q .normal) l.length (fun _ => none) (Array.replicate l.length false) a) : (Code.region id l.toArray true).wp P Q a w := by
  have hz : Array.replicate l.length false = Array.replicate l.toArray.size false := by simp
  unfold WM at h
  rw [hz] at h
  refine wp_region_any hm (wpAny_of_anyM (C := fun g L w' => Closed .any l.toArray L ∧ D w g (fun j => L.getD j false) w') (val := val)
    (Q := fun g L a' => ∀ w', D w g (fun j => L.getD j false) w' → Q .normal a' w') (fun g L a w hc hq => hq w hc.2) _ (fun _ => none) _ _ _ ⟨Closed.start _ _, h0 _ (fun j => ?_)⟩ (by simpa using h))
  simp only [Array.getD_eq_getD_getElem?, Array.getElem?_replicate]; split <;> rfl
end
end Go.Proofs.Ytmejiafmmmeloaa.Fx

end
