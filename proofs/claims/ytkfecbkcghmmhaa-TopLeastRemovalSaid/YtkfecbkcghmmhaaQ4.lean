import Derived.Test.YtkfecbkcghmmhaaQ1
import Derived.Maps.Own
import Derived.Maps.OwnOps
import Derived.Maps.OwnSet
import Derived.StringKeys
import Derived.Test.YtkfecbkcghmmhaaQ3
import Derived.Test.YtkfecbkcghmmhaaQ2

section
/- A map with strings as keys that the program has made, said as a function from strings to values. -/
namespace Go.Proofs.Ytkfecbkcghmmhaa
open Go.RowKit Go.Maps Go.WideShapes Go.MapKept

/-- A value read as itself. -/
def heldR (v : Value) : Option (DataW Value × List MemPlace) := some (.held v, [])
def keyS (s : ByteArray) : Lit := .string s.data.toList

theorem keyS_inj {s t : ByteArray} (h : keyS s = keyS t) : s = t := by
  unfold keyS at h
  injection h with h
  cases s; cases t; congr; exact Array.toList_inj.1 h

/-- Block b is a map of at most n entries, with M's values at M's keys. -/
def MapIs (P : Program) (k : TypeId) (w : World) (b n : Nat) (M : ByteArray → Option Value) : Prop :=
  ∃ D : DataW Value, w.ownsMap P k heldR b n D ∧ ∀ s, match M s with
    | none => Maps.has D (keyS s) = false
    | some v => Maps.has D (keyS s) = true ∧ ∀ z, D.atKey (keyS s) z = .held v

section
variable {P : Program} {k t e : TypeId} {w w' : World} {b n : Nat} {M : ByteArray → Option Value}

theorem MapIs.made (w : World) (P : Program) (k : TypeId) : MapIs P k (w.alloc (.map #[] 0)) w.heap.size 0 (fun _ => none) :=
  ⟨.map [], World.ownsMap_made w P k heldR, fun s => rfl⟩
theorem MapIs.lt (h : MapIs P k w b n M) : b < w.heap.size := by obtain ⟨D, h, _⟩ := h; exact h.lt
theorem MapIs.mono (h : MapIs P k w b n M) {n' : Nat} (hn : n ≤ n') : MapIs P k w b n' M := by obtain ⟨D, h, hm⟩ := h; exact ⟨D, h.mono hn, hm⟩
theorem MapIs.alloc (h : MapIs P k w b n M) (o : Obj) : MapIs P k (w.alloc o) b n M := by obtain ⟨D, h, hm⟩ := h; exact ⟨D, h.alloc o, hm⟩
theorem MapIs.drew (h : MapIs P k w b n M) : MapIs P k w.drew b n M := h
theorem MapIs.drewN (h : MapIs P k w b n M) (m : Nat) : MapIs P k (w.drewN m) b n M := h
theorem MapIs.below {B : Nat} (h : MapIs P k w b n M) (hb : Below B w w') (hB : b < B) : MapIs P k w' b n M := by
  obtain ⟨D, ⟨es, clock, h1, h2⟩, hm⟩ := h
  exact ⟨D, ⟨es, clock, (hb.block b hB).trans h1, h2⟩, hm⟩
theorem MapIs.set_ (h : MapIs P k w b n M) {a : Addr} (ha : b ≠ a.block) (u : Value) : MapIs P k (w.setCell a u) b n M := by
  obtain ⟨D, h, hm⟩ := h; exact ⟨D, h.setCell ha u, hm⟩
/-- 'm[s] = v'. -/
theorem MapIs.put (h : MapIs P k w b n M) (hk : P.underlying k = some .string) (ht : P.underlying t = some (.map k e)) (s : ByteArray) (hs : s.size ≤ maxLen) (hn : n < maxLen) (v : Value) :
    ∃ w', (Instr.mapUpdate t (.map (some b)) (.string s) v).run P w = .ok () w' ∧ MapIs P k w' b (n + 1) (fun u => if u = s then some v else M u) ∧ w.grownBy w' (some b) := by
  obtain ⟨D, h, hm⟩ := h
  have hkey : keyOf P k (.string s) = some (keyS s) := WideMaps.keyOf_string_mk hk hs
  obtain ⟨w', hrun, hown, hg⟩ := h.update (string_keyed hk) ht hn (val := v) (d := .held v) (ps := []) hkey rfl
  refine ⟨w', hrun, ⟨_, hown, fun u => ?_⟩, hg⟩
  have hmap : IsMap D := h.isMap
  have hlit : WideAt.IsKeyLit (keyS s) := by unfold keyS; trivial
  by_cases hu : u = s
  · subst hu
    simp only [if_true]
    exact ⟨has_put_same hmap hlit _, fun z => atKey_put_same hmap hlit _ z⟩
  · simp only [if_neg hu]
    have hne : keyS u ≠ keyS s := fun e => hu (keyS_inj e)
    have := hm u
    rw [has_put_other hne]
    cases hM : M u with
    | none => rw [hM] at this; exact this
    | some x => rw [hM] at this; exact ⟨this.1, fun z => by rw [atKey_put_other hne]; exact this.2 z⟩
end

section
variable {P : Program} {k t e : TypeId} {b n : Nat} {M : ByteArray → Option Value} {ops : Array Oper} {rest : List Oper} {o : Oper} {a : Act} {Q : Exit → Act → World → Prop}
end
end Go.Proofs.Ytkfecbkcghmmhaa

end

section
/- Rockers: their values, and the contract of the check of one rocker behind others. -/
namespace Go.Proofs.Ytkfecbkcghmmhaa
open Go.RowKit

structure Rk where
  name : ByteArray
  left : ByteArray
  right : ByteArray
  al : Int
  ar : Int

def Rk.cells (r : Rk) : List Value := [.string r.name, .string r.left, .string r.right, .int .i64 r.al, .int .i64 r.ar]
def Rk.val (r : Rk) : Value := .agg #[.string r.name, .string r.left, .string r.right, .int .i64 r.al, .int .i64 r.ar]
/-- The texts are no longer than a text can be. -/
structure Rk.Fits (r : Rk) : Prop where
  name : r.name.size ≤ maxLen
  left : r.left.size ≤ maxLen
  right : r.right.size ≤ maxLen

def rkErr (ex : Bool) (r : Rk) : Int :=
  if nameB r.name = false then 4 else if ex then 5 else if nameB r.left = false ∨ nameB r.right = false then 4
  else if withinB r.al 1 10000 = false ∨ withinB r.ar 1 10000 = false then 2 else 0

end Go.Proofs.Ytkfecbkcghmmhaa

end

section
/- The contract of the check of a whole tree. -/
namespace Go.Proofs.Ytkfecbkcghmmhaa
open Go.RowKit

def rkCells (l : List Rk) : List Value := l.flatMap Rk.cells
theorem rkCells_length (l : List Rk) : (rkCells l).length = l.length * 5 := by
  induction l with
  | nil => rfl
  | cons p l ih => simp only [rkCells, List.flatMap_cons, List.length_append, List.length_cons, List.length_nil, Rk.cells] at *; omega
theorem rkCells_get (l : List Rk) : ∀ (i : Nat) (h : i < l.length) (j : Nat), j < 5 → (rkCells l)[i * 5 + j]? = (l[i]).cells[j]? := by
  induction l with
  | nil => intro i h; simp at h
  | cons p l ih =>
    intro i h j hj
    have e : rkCells (p :: l) = p.cells ++ rkCells l := rfl
    have e5 : p.cells.length = 5 := rfl
    rw [e]
    cases i with
    | zero => rw [List.getElem?_append_left (by omega)]; simp
    | succ i =>
      rw [List.getElem?_append_right (by omega), e5, show (i + 1) * 5 + j - 5 = i * 5 + j from by omega]
      simpa using ih i (by simpa using h) j hj

theorem Reads.len5 {w : World} {B n : Nat} {A : Option Addr} {l : List Rk} (h : Reads w B 5 A n (rkCells l)) : l.length = n := by
  have := h.1; rw [rkCells_length] at this; omega

theorem Reads.rk {w : World} {B n : Nat} {A : Option Addr} {l : List Rk} (h : Reads w B 5 A n (rkCells l)) {i : Nat} (hi : i < n) :
    ∃ b o r, A = some ⟨b, o, none⟩ ∧ b < B ∧ l[i]? = some r ∧ w.cell? ⟨b, o + i * 5, none⟩ = some (.string r.name) ∧ w.cell? ⟨b, o + i * 5 + 1, none⟩ = some (.string r.left) ∧
      w.cell? ⟨b, o + i * 5 + 2, none⟩ = some (.string r.right) ∧ w.cell? ⟨b, o + i * 5 + 3, none⟩ = some (.int .i64 r.al) ∧ w.cell? ⟨b, o + i * 5 + 4, none⟩ = some (.int .i64 r.ar) := by
  obtain ⟨b, o, e, hb, hc⟩ := h.2 (by omega)
  have hl := h.len5
  have hg := rkCells_get l i (by omega)
  exact ⟨b, o, l[i]'(by omega), e, hb, List.getElem?_eq_getElem (by omega), hc _ _ (hg 0 (by omega)), hc _ _ (hg 1 (by omega)), hc _ _ (hg 2 (by omega)), hc _ _ (hg 3 (by omega)), hc _ _ (hg 4 (by omega))⟩

def idxOf (l : List Rk) (s : ByteArray) : Option Nat := l.findIdx? fun r => decide (r.name = s)
def idxM (l : List Rk) (s : ByteArray) : Option Value := (idxOf l s).map fun (i : Nat) => .int .i64 (i : Int)

/-- The error of the first loop: the first rocker that is not right behind those before it. -/
def err1 : List Rk → List Rk → Int
  | _, [] => 0
  | seen, r :: l => if rkErr (idxM seen r.name).isSome r = 0 then err1 (seen ++ [r]) l else rkErr (idxM seen r.name).isSome r

def bearerOf (l : List Rk) (s : ByteArray) : Option Nat := l.findIdx? fun r => decide (r.left = s ∨ r.right = s)
def borneAll (l : List Rk) : List ByteArray := l.flatMap fun r => [r.left, r.right]
def climbs (l : List Rk) : Nat → ByteArray → Bool
  | 0, s => (bearerOf l s).isSome
  | f + 1, s => match bearerOf l s with
    | none => false
    | some i => climbs l f (((l[i]?).map (·.name)).getD s)
def isTop (l : List Rk) (i : Nat) : Bool := match l[i]? with
  | some r => (bearerOf l r.name).isNone
  | none => false
def topsTo (l : List Rk) (k : Nat) : List Nat := (List.range k).filter (isTop l)
def topsOf (l : List Rk) : List Nat := topsTo l l.length
def openErr (l : List Rk) : Int :=
  if l.length = 0 then 10 else if 40 < l.length then 8 else if err1 [] l ≠ 0 then err1 [] l else if ¬ (borneAll l).Nodup then 13
  else if l.any (fun r => climbs l (l.length + 1) r.name) then 21 else if 1 < (topsOf l).length then 25 else 0
def topOf (l : List Rk) : Nat := (topsOf l).getLast?.getD 0

def pairsFrom (k : Nat) : List Rk → List (ByteArray × Nat)
  | [] => []
  | r :: l => (r.left, k) :: (r.right, k) :: pairsFrom (k + 1) l
def bM (ps : List (ByteArray × Nat)) (s : ByteArray) : Option Value := (ps.find? fun p => decide (p.1 = s)).map fun p => .int .i64 (p.2 : Int)
def upM (l : List Rk) (s : ByteArray) : Option Value := (bearerOf l s).map fun (i : Nat) => .int .i64 (i : Int)
end Go.Proofs.Ytkfecbkcghmmhaa

end

section
/- The contract of the shares of the points below a thing. -/
namespace Go.Proofs.Ytkfecbkcghmmhaa
open Go.RowKit

/-- The points below a thing; none: not within so many steps. -/
def pts (l : List Rk) : Nat → ByteArray → Option (List ByteArray)
  | 0, s => match idxOf l s with
    | none => some [s]
    | some _ => none
  | f + 1, s => match idxOf l s with
    | none => some [s]
    | some i => match l[i]? with
      | none => none
      | some r => match pts l f r.left, pts l f r.right with
        | some a, some b => some (a ++ b)
        | _, _ => none

def redN (a b : Int) : Int := a / (Int.gcd a b : Int)
def redD (a b : Int) : Int := b / (Int.gcd a b : Int)

def join2 (a b : Option (List (Int × Int))) : Option (List (Int × Int)) := match a, b with
  | some x, some y => some (x ++ y)
  | _, _ => none

/-- The shares of the points below a thing; none: one is not small. -/
def sh (l : List Rk) : Nat → ByteArray → Int → Int → Option (List (Int × Int))
  | 0, _, n, d => some [(n, d)]
  | f + 1, s, n, d => match idxOf l s with
    | none => some [(n, d)]
    | some i => match l[i]? with
      | none => none
      | some r => if smallB (n * r.ar) (d * (r.al + r.ar)) && smallB (n * r.al) (d * (r.al + r.ar)) then
          join2 (sh l f r.left (redN (n * r.ar) (d * (r.al + r.ar))) (redD (n * r.ar) (d * (r.al + r.ar)))) (sh l f r.right (redN (n * r.al) (d * (r.al + r.ar))) (redD (n * r.al) (d * (r.al + r.ar))))
        else none

/-- Arms are from 1 to 10000. -/
def ArmsOK (l : List Rk) : Prop := ∀ r ∈ l, 1 ≤ r.al ∧ r.al ≤ 10000 ∧ 1 ≤ r.ar ∧ r.ar ≤ 10000
/-- A part of a fraction. -/
def Part (x : Int) : Prop := 1 ≤ x ∧ x ≤ 1000000000

end Go.Proofs.Ytkfecbkcghmmhaa

end

section
/- Copies of lists: what append to an empty list of its own makes, and the contracts of the functions that copy. -/
namespace Go.Proofs.Ytkfecbkcghmmhaa
open Go.RowKit

theorem copy_run {P : Program} (t ty e : TypeId) (z : Value) (size bytes : Nat) (ht : P.underlying t = some (.slice e)) (hi : (P.info? e).map (fun i => (i.zero, i.size, i.bytes)) = some (some z, size, bytes)) (hzs : z.cells.size = size) (hsz : 0 < size)
    (w : World) (N : Nat) (A : Option Addr) (n c : Nat) (xs : List Value) (hr : Reads w N size A n xs) (hN : N ≤ w.heap.size) (h1 : ∀ u ∈ xs, u.oneCell' = true) (hn : n ≤ maxLen) (hbytes : n * bytes ≤ 140737488355328) :
    ∃ v' W2, (Builtin.append_ #[t, t] ty #[.slice (some ⟨w.heap.size, 0, none⟩) 0 0, .slice A n c]).run P (w.alloc (.cells #[] e)) = .ok v' W2 ∧ W2.ownsRow w.heap.size e size v' n xs ∧ Below w.heap.size w W2 := by
  obtain ⟨i0, hi0, hz0, hz1, hz2⟩ := info_parts hi
  have ho : (w.alloc (.cells #[] e)).ownsRow w.heap.size e size (.slice (some ⟨w.heap.size, 0, none⟩) 0 0) 0 [] :=
    ⟨by simp, .inr ⟨w.heap.size, 0, #[], rfl, Nat.le_refl _, Blk.new _ _ _, by omega, by decide, by simp, by simp⟩⟩
  obtain ⟨v', W2, hrun, ho2, hg, -⟩ := run_append_any (P := P) (w.alloc (.cells #[] e)) w.heap.size t ty e i0 z size bytes ht hi0 hz0 hz1 hz2 hzs hsz _ 0 [] ho N A n c xs (hr.alloc hN _) h1 (by omega) (by rw [Nat.zero_add]; omega) (by simp)
  refine ⟨v', W2, hrun, by simpa using ho2, ?_⟩
  exact ((Below.refl _ _).alloc (Nat.le_refl _) _).grown hg (by simp) (fun k hk => (own_lt ho hk).1)

theorem one_ints (l : List Int) : ∀ u ∈ l.map (Value.int .i64), u.oneCell' = true := by
  intro u hu
  obtain ⟨p, -, rfl⟩ := List.mem_map.1 hu
  rfl


theorem info_range : (Try.prog.info? 39).map (fun i => (i.zero, i.size, i.bytes)) = some (some (.agg #[.int .i64 0, .int .i64 0]), 2, 16) := by kernel_rfl

theorem info_int : (Try.prog.info? 3).map (fun i => (i.zero, i.size, i.bytes)) = some (some (.int .i64 0), 1, 8) := by kernel_rfl

/-- A copy: the elements, in memory of its own. -/
def CopyPost (w : World) (e : TypeId) (size n : Nat) (xs : List Value) (en : Ending) (w' : World) : Prop :=
  ∃ A c, en = .returned (.slice A n c) ∧ Below w.heap.size w w' ∧ Reads w' w'.heap.size size A n xs ∧ w'.ownsRow w.heap.size e size (.slice A n c) n xs
theorem CopyPost.of {w w' : World} {e : TypeId} {size n : Nat} {xs : List Value} {v : Value} (ho : w'.ownsRow w.heap.size e size v n xs) (hb : Below w.heap.size w w') : CopyPost w e size n xs (.returned v) w' := by
  obtain ⟨A, c, rfl, hr⟩ := own_reads ho
  exact ⟨A, c, rfl, hb, hr, ho⟩




theorem copyints_any (A : Option Addr) (n c N : Nat) (l : List Int) (w : World) (hx : Reads w N 1 A n (l.map (.int .i64))) (hN : N ≤ w.heap.size) (hn : n ≤ 1000000) :
    Calls Try.prog 7 #[.slice A n c] w (CopyPost w 3 1 n (l.map (.int .i64))) := by
  obtain ⟨v', W2, hrun, ho, hb⟩ := copy_run (P := Try.prog) 22 22 3 _ 1 8 Try.underlying22 info_int rfl (by omega) w N A n c (l.map (.int .i64)) hx hN (one_ints l) (by unfold maxLen; omega) (by omega)
  have HRUN := Lib.hid hrun
  have HO := Lib.hid ho
  have HB := Lib.hid hb
  clear hrun ho hb
  go_enter Try.func7, Try.ntmps7
  go_wp2_with (first | (at_builtin; refine wpList_app _ W2 v' rfl _ _ _ rfl _ _ rfl rfl HRUN.out ?_))
  go_ret
  exact CopyPost.of HO.out HB.out

end Go.Proofs.Ytkfecbkcghmmhaa

end

section
/- The contracts of the check of a train of gears, of its products, and of Returns. -/
namespace Go.Proofs.Ytkfecbkcghmmhaa
open Go.RowKit

/-- Both numbers are those of teeth. -/
def okP (p : Int × Int) : Bool := withinB p.1 1 500 && withinB p.2 1 500
def trainErr (l : List (Int × Int)) : Int := if 12 < l.length then 8 else if l.all okP then 0 else 2

/-- What a train does: each product is handed to a step; false: one is not small. -/
def trainF {σ : Type} (step : σ → Int × Int → σ) : σ → Int × Int → List (Int × Int) → σ × Bool
  | s, _, [] => (s, true)
  | s, f, g :: l => if smallB (f.1 * g.1) (f.2 * g.2) then trainF step (step s (redN (f.1 * g.1) (f.2 * g.2), redD (f.1 * g.1) (f.2 * g.2))) (redN (f.1 * g.1) (f.2 * g.2), redD (f.1 * g.1) (f.2 * g.2)) l else (s, false)

/-- What a function value that is called leaves as it was: all blocks from B on. -/
structure Keeps (B : Nat) (w w' : World) : Prop where
  size : w.heap.size ≤ w'.heap.size
  block : ∀ k, B ≤ k → k < w.heap.size → w'.heap[k]? = w.heap[k]?

theorem Keeps.blk {B : Nat} {w w' : World} (h : Keeps B w w') {g : Nat} {t : TypeId} {cs : Array Value} (hg : Blk w g t cs) (hB : B ≤ g) : Blk w' g t cs := (h.block g hB hg.lt).trans hg

/-- What a function value does with a state that lies below B. -/
structure Each (B : Nat) (k : FuncId) (caps : Array Value) {σ : Type} (Inv : σ → World → Prop) (step : σ → Int × Int → σ) : Prop where
  ent : ∀ (args : Array Value) (w : World), (callFunc k args).run Try.prog w = .ok (.enter k args) w
  call : ∀ (s : σ) (w : World) (f : Int × Int), B ≤ w.heap.size → Inv s w → Part f.1 → Part f.2 →
    Calls Try.prog k (#[.agg #[.int .i64 f.1, .int .i64 f.2]] ++ caps) w fun e w' => e = .returned (.tuple #[]) ∧ Inv (step s f) w' ∧ Keeps B w w'
  keep : ∀ (s : σ) (w w' : World), Inv s w → Below B w w' → Inv s w'

end Go.Proofs.Ytkfecbkcghmmhaa

end

section
/- Contracts of the search of a list by a function value, and of the copy of a train. -/
namespace Go.Proofs.Ytkfecbkcghmmhaa
open Go Go.RowKit

/-- A function value that asks something of a number, and changes nothing. -/
structure Asks (k : FuncId) (pr : Int → Bool) : Prop where
  ent : ∀ (args : Array Value) (w : World), (callFunc k args).run Try.prog w = .ok (.enter k args) w
  call : ∀ (z : Int) (w : World), Calls Try.prog k #[.int .i64 z] w fun e w' => e = .returned (.bool (pr z)) ∧ w = w'

theorem Asks.is {k : FuncId} {pr : Int → Bool} (h : Asks k pr) (z : Int) (t : Bool) (ht : pr z = t) (w : World) : Calls Try.prog k #[.int .i64 z] w fun e w' => e = .returned (.bool t) ∧ w = w' := ht ▸ h.call z w

theorem any_take {pr : Int → Bool} {l : List Int} {k : Nat} {z : Int} (hz : l[k]? = some z) (h : (l.take k).any pr = false) (hp : pr z = false) : (l.take (k + 1)).any pr = false := by
  rw [List.take_add_one, hz]
  simp [List.any_append, h, hp]

set_option maxRecDepth 100000 in
theorem indexfunc_any (k : FuncId) (pr : Int → Bool) (hk : Asks k pr) (A : Option Addr) (n c N : Nat) (l : List Int) (w : World) (hx : Reads w N 1 A n (l.map (.int .i64))) (hN : N ≤ w.heap.size) (hn : n ≤ 9223372036854775807) :
    Calls Try.prog 39 #[.slice A n c, .func (.func k) #[] #[]] w fun e w' => (∃ r : Int, e = .returned (.int .i64 r) ∧ (0 ≤ r ↔ l.any pr = true)) ∧ Below w.heap.size w w' := by
  have hxl : l.length = n := by have := hx.1; simpa using this
  have HX := Lib.hid hx
  have HXL := Lib.hid hxl
  have hent := hk.ent
  have HK := Lib.hid hk
  clear hx hxl hk
  go_enter Try.func39, Try.ntmps39
  go_wp2
  go_loopw [8] (fun i wr => ∃ q : Nat, q ≤ n ∧ i = .int .i64 q ∧ (l.take q).any pr = false ∧ Below w.heap.size w wr) (fun i _ => n - (intOf i).toNat)
  case atStart => exact ⟨0, by omega, rfl, by simp, Below.refl _ _⟩
  case round =>
    obtain ⟨q, hq, rfl, ht, hb⟩ := hrel
    have HT := Lib.hid ht
    have HB := Lib.hid hb
    clear ht hb
    by_cases hlt : q < n
    · obtain ⟨xb, xo, u, rfl, hxb, hu, c0⟩ := (HX.out.belowLe HB.out hN).at_ hlt
      obtain ⟨z, hz, rfl⟩ : ∃ z, l[q]? = some z ∧ .int .i64 z = u := by
        rw [List.getElem?_map] at hu
        cases h : l[q]? with
        | none => rw [h] at hu; cases hu
        | some t => rw [h] at hu; exact ⟨t, rfl, Option.some.inj hu⟩
      have HZ := Lib.hid hz
      clear hu hz
      cases hp : pr z with
      | false =>
        have HP := Lib.hid hp
        clear hp
        go_wp2
        refine (HK.out.is z false HP.out _).mono ?_
        rintro e w' ⟨rfl, rfl⟩
        go_wp2
        go_roundw
        case rel => exact ⟨q + 1, by omega, by go_num, any_take HZ.out HT.out HP.out, HB.out⟩
        case measure => simp [intOf]; omega
      | true =>
        have HP := Lib.hid hp
        clear hp
        go_wp2
        refine (HK.out.is z true HP.out _).mono ?_
        rintro e w' ⟨rfl, rfl⟩
        go_wp2
        go_ret
        refine ⟨⟨_, rfl, ?_⟩, HB.out⟩
        have : l.any pr = true := List.any_eq_true.2 ⟨z, List.mem_of_getElem? HZ.out, HP.out⟩
        simp [this]
    · go_wp2
      go_ret
      refine ⟨⟨_, rfl, ?_⟩, HB.out⟩
      have ht := HT.out
      rw [List.take_of_length_le (by rw [HXL.out]; omega)] at ht
      rw [ht]
      simp

theorem containsfunc_any (k : FuncId) (pr : Int → Bool) (hk : Asks k pr) (A : Option Addr) (n c N : Nat) (l : List Int) (w : World) (hx : Reads w N 1 A n (l.map (.int .i64))) (hN : N ≤ w.heap.size) (hn : n ≤ 9223372036854775807) (t : Bool) (ht : l.any pr = t) :
    Calls Try.prog 34 #[.slice A n c, .func (.func k) #[] #[]] w fun e w' => e = .returned (.bool t) ∧ Below w.heap.size w w' := by
  have HX := Lib.hid hx
  have HT := Lib.hid ht
  have HI := Lib.hid (indexfunc_any k pr hk A n c N l)
  clear hx ht
  go_enter Try.func34, Try.ntmps34
  go_wp2_with fail
  refine (HI.out w HX.out hN hn).mono ?_
  rintro e w1 ⟨⟨r, rfl, hr⟩, hb⟩
  have HR := Lib.hid hr
  have HB := Lib.hid hb
  clear hr hb
  cases t with
  | false =>
    have h : ¬ 0 ≤ r := fun h => by have := HR.out.1 h; rw [HT.out] at this; cases this
    have h' : r < 0 := by omega
    go_wp2
    go_ret
    exact ⟨by first | rfl | (simp; done) | (simp; omega), HB.out⟩
  | true =>
    have h := HR.out.2 HT.out
    go_wp2
    go_ret
    exact ⟨by first | rfl | (simp; done) | (simp; omega), HB.out⟩






end Go.Proofs.Ytkfecbkcghmmhaa

end

section
/- Contracts of the reference's products of fractions, and of the ratio of a pair of gears. -/
namespace Go.Proofs.Ytkfecbkcghmmhaa
open Go.RowKit

/-- What the reference's product answers. -/
def madeV (a b : Int) : Value := if smallB a b then .tuple #[.agg #[.int .i64 (redN a b), .int .i64 (redD a b)], .int .i64 0] else .tuple #[.agg #[.int .i64 0, .int .i64 0], .int .i64 8]




end Go.Proofs.Ytkfecbkcghmmhaa

end

section
/- The contract of Returns: the function value that it hands to the train, then the whole. -/
namespace Go.Proofs.Ytkfecbkcghmmhaa
open Go.RowKit

/-- The turns so far, and whether they were too many. -/
def stepR (s : Int × Bool) (f : Int × Int) : Int × Bool := if s.2 then s else (s.1 / (Int.gcd s.1 f.2 : Int) * f.2, decide (1000000000 < s.1 / (Int.gcd s.1 f.2 : Int) * f.2))


/-- What the function value of Returns finds: its two variables, and all below them as it was. -/
structure InvR (w0 : World) (lb tb : Nat) (s : Int × Bool) (w : World) : Prop where
  low : Below w0.heap.size w0 w
  large : Blk w lb 4 #[.bool s.2]
  turns : Blk w tb 3 #[.int .i64 s.1]
  pos : 1 ≤ s.1
  most : s.1 ≤ 1000000000000000000
  small : s.2 = false → s.1 ≤ 1000000000



def trainR (l : List (Int × Int)) : (Int × Bool) × Bool := trainF stepR (stepR (1, false) (1, 1)) (1, 1) l
/-- When all axes are back, or an error. -/
def returnsF (l : List (Int × Int)) : Int × Int := if trainErr l ≠ 0 then (0, trainErr l) else if (trainR l).2 = false ∨ (trainR l).1.2 = true then (0, 8) else ((trainR l).1.1, 0)

def ReturnsPost (l : List (Int × Int)) (w : World) (e : Ending) (w' : World) : Prop := e = .returned (.tuple #[.int .i64 (returnsF l).1, .int .i64 (returnsF l).2]) ∧ Below w.heap.size w w'


end Go.Proofs.Ytkfecbkcghmmhaa

end

section
/- The reference's functions on trains of gears: the check, the products, the ratio and the turns. -/
namespace Go.Proofs.Ytkfecbkcghmmhaa
open Go.RowKit



/-- All products from one on, and whether all are small. -/
def begF : Int × Int → List (Int × Int) → List (Int × Int) × Bool
  | f, [] => ([f], true)
  | f, g :: l => if smallB (f.1 * g.1) (f.2 * g.2) then (f :: (begF (redN (f.1 * g.1) (f.2 * g.2), redD (f.1 * g.1) (f.2 * g.2)) l).1, (begF (redN (f.1 * g.1) (f.2 * g.2), redD (f.1 * g.1) (f.2 * g.2)) l).2) else ([f], false)

def BegPost (l : List (Int × Int)) (w : World) (e : Ending) (w' : World) : Prop :=
  Below w.heap.size w w' ∧ ((begF (1, 1) l).2 = true → ∃ A c, e = .returned (.tuple #[.slice A (l.length + 1) c, .bool true]) ∧ Reads w' w'.heap.size 2 A (l.length + 1) (cells2 (begF (1, 1) l).1)) ∧
    ((begF (1, 1) l).2 = false → e = .returned (.tuple #[.slice none 0 0, .bool false]))

end Go.Proofs.Ytkfecbkcghmmhaa

end

section
/- The contracts of Ratio and MeetAgain, of the program and of the reference, and of the reference's Returns. -/
namespace Go.Proofs.Ytkfecbkcghmmhaa
open Go.RowKit

def lastF (L : List (Int × Int)) (s : Int × Int) : Int × Int := L.foldl (fun _ f => f) s
/-- What Ratio answers. -/
def ratioF (l : List (Int × Int)) : (Int × Int) × Int :=
  if trainErr l ≠ 0 then ((0, 0), trainErr l) else if (begF (1, 1) l).2 = false then ((0, 0), 8) else (lastF (begF (1, 1) l).1 (0, 0), 0)

/-- What the function value of Ratio finds: its variable, and all below it as it was. -/
structure InvL (w0 : World) (ob : Nat) (s : Int × Int) (w : World) : Prop where
  low : Below w0.heap.size w0 w
  out : Blk w ob 42 #[.int .i64 s.1, .int .i64 s.2]






end Go.Proofs.Ytkfecbkcghmmhaa

end

section
/- The contracts of MeetAgain, of the program and of the reference, and of the reference's Returns. -/
namespace Go.Proofs.Ytkfecbkcghmmhaa
open Go.RowKit

def meetF (d v : Int) : Int := v / (Int.gcd d v : Int)
/-- The turns by the reference. -/
def retF : Int → List (Int × Int) → Int × Int
  | n, [] => (n, 0)
  | n, f :: l => if 1000000000 < n / (Int.gcd n f.2 : Int) * f.2 then (0, 8) else retF (n / (Int.gcd n f.2 : Int) * f.2) l
end Go.Proofs.Ytkfecbkcghmmhaa

end
