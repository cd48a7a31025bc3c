import Derived.Test.YtgamepmipoociaaQ2
import Derived.Test.YtgamepmipoociaaQ1
import Derived.Maps.Own
import Derived.Maps.OwnOps
import Derived.Maps.OwnSet
import Derived.StringKeys

section
/- Contracts of the functions that tell which texts are names. -/
namespace Go.Proofs.Ytgamepmipoociaa
open Go.RowKit

def letterB (c : Nat) : Bool := decide (97 ≤ c ∧ c ≤ 122 ∨ 65 ≤ c ∧ c ≤ 90)
def restB (c : Nat) : Bool := letterB c || decide (c = 45 ∨ 48 ≤ c ∧ c ≤ 57)
def byteAt (s : ByteArray) (j : Nat) : Nat := (s.data.toList.getD j 0).toNat
def okAt (s : ByteArray) (j : Nat) : Bool := if j = 0 then letterB (byteAt s j) else restB (byteAt s j)
/-- Whether a text is a name. -/
def nameB (s : ByteArray) : Bool := (List.range s.size).all (okAt s) && decide (s.size ≠ 0) && decide (s.size ≤ 12)

theorem byteAt_get (s : ByteArray) (j : Nat) (h : j < s.size) : byteAt s j = (s[j]).toNat := by
  have h' : j < s.data.size := h
  unfold byteAt
  simp only [List.getD_eq_getElem?_getD, Array.getElem?_toList, h', Array.getElem?_eq_getElem, Option.getD_some]
  rfl

theorem byteAt_lt (s : ByteArray) (j : Nat) : byteAt s j < 256 := by unfold byteAt; exact UInt8.toNat_lt _

theorem range_split (c : Int) : c < 45 ∨ c = 45 ∨ (46 ≤ c ∧ c ≤ 47) ∨ (48 ≤ c ∧ c ≤ 57) ∨ (58 ≤ c ∧ c ≤ 64) ∨ (65 ≤ c ∧ c ≤ 90) ∨ (91 ≤ c ∧ c ≤ 96) ∨ (97 ≤ c ∧ c ≤ 122) ∨ 123 ≤ c := by omega



theorem name_bad {s : ByteArray} {k : Nat} (h : k < s.size) (ho : okAt s k = false) : nameB s = false := by
  have : (List.range s.size).all (okAt s) = false := List.all_eq_false.2 ⟨k, List.mem_range.2 h, by rw [ho]; simp⟩
  unfold nameB
  rw [this]; rfl

theorem name_step {s : ByteArray} {k : Nat} (ha : (List.range k).all (okAt s) = true) (ho : okAt s k = true) : (List.range (k + 1)).all (okAt s) = true := by
  rw [List.range_succ, List.all_append, ha]
  simp [ho]

theorem empty_iff (s : ByteArray) : s.toList = [] ↔ s.size = 0 := by
  rw [ByteArray.toList_eq]
  constructor
  · intro h
    have := congrArg List.length h
    simpa using this
  · intro h
    apply List.eq_nil_of_length_eq_zero
    simpa using h

theorem name_end (s : ByteArray) (ha : (List.range s.size).all (okAt s) = true) : nameB s = (!s.toList.isEmpty && decide ((s.size : Int) ≤ 12)) := by
  have e : s.toList.isEmpty = decide (s.size = 0) := by
    rw [Bool.eq_iff_iff, List.isEmpty_iff, decide_eq_true_iff]; exact empty_iff s
  unfold nameB
  rw [ha, e]
  by_cases h : s.size = 0
  · simp [h]
  · simp [h]; omega

set_option maxHeartbeats 4000000 in
theorem isnamept_any (s : ByteArray) (w : World) (hs : s.size ≤ maxLen) :
    Calls Try.prog 86 #[.string s] w fun e w' => e = .returned (.bool (nameB s)) ∧ w = w' := by
  unfold maxLen at hs
  go_enter Try.func86, Try.ntmps86
  go_wp2
  go_loop [7] (fun i => ∃ k : Nat, k ≤ s.size ∧ i = .int .i64 k ∧ (List.range k).all (okAt s) = true) (fun i => s.size - (intOf i).toNat)
  case atStart => exact ⟨0, Nat.zero_le _, rfl, rfl⟩
  case round =>
    obtain ⟨k, hk, rfl, ha⟩ := hrel
    have HA := Lib.hid ha
    clear ha
    by_cases hlt : k < s.size
    · have hb := byteAt_get s k hlt
      have HB := Lib.hid hb
      clear hb
      have hcs : (((97 : Int) ≤ ((s[k]).toNat : Int) ∧ ((s[k]).toNat : Int) ≤ 122) ∨ (¬ (97 : Int) ≤ ((s[k]).toNat : Int) ∧ (65 : Int) ≤ ((s[k]).toNat : Int) ∧ ((s[k]).toNat : Int) ≤ 90) ∨ (¬ (97 : Int) ≤ ((s[k]).toNat : Int) ∧ ¬ (65 : Int) ≤ ((s[k]).toNat : Int) ∧ ¬ k = 0 ∧ ((s[k]).toNat : Int) = 45) ∨ (¬ (97 : Int) ≤ ((s[k]).toNat : Int) ∧ ¬ (65 : Int) ≤ ((s[k]).toNat : Int) ∧ ¬ k = 0 ∧ ¬ ((s[k]).toNat : Int) = 45 ∧ ¬ ((s[k]).toNat : Int) < 48 ∧ ¬ 57 < ((s[k]).toNat : Int))) ∨ (((97 : Int) ≤ ((s[k]).toNat : Int) ∧ ¬ ((s[k]).toNat : Int) ≤ 122 ∧ (65 : Int) ≤ ((s[k]).toNat : Int) ∧ ¬ ((s[k]).toNat : Int) ≤ 90 ∧ k = 0) ∨ (¬ (97 : Int) ≤ ((s[k]).toNat : Int) ∧ ¬ (65 : Int) ≤ ((s[k]).toNat : Int) ∧ k = 0) ∨ (¬ (97 : Int) ≤ ((s[k]).toNat : Int) ∧ (65 : Int) ≤ ((s[k]).toNat : Int) ∧ ¬ ((s[k]).toNat : Int) ≤ 90 ∧ k = 0) ∨ ((97 : Int) ≤ ((s[k]).toNat : Int) ∧ ¬ ((s[k]).toNat : Int) ≤ 122 ∧ (65 : Int) ≤ ((s[k]).toNat : Int) ∧ ¬ ((s[k]).toNat : Int) ≤ 90 ∧ ¬ k = 0 ∧ ¬ ((s[k]).toNat : Int) = 45 ∧ ¬ ((s[k]).toNat : Int) < 48 ∧ 57 < ((s[k]).toNat : Int)) ∨ (¬ (97 : Int) ≤ ((s[k]).toNat : Int) ∧ (65 : Int) ≤ ((s[k]).toNat : Int) ∧ ¬ ((s[k]).toNat : Int) ≤ 90 ∧ ¬ k = 0 ∧ ¬ ((s[k]).toNat : Int) = 45 ∧ ¬ ((s[k]).toNat : Int) < 48 ∧ 57 < ((s[k]).toNat : Int)) ∨ (¬ (97 : Int) ≤ ((s[k]).toNat : Int) ∧ ¬ (65 : Int) ≤ ((s[k]).toNat : Int) ∧ ¬ k = 0 ∧ ¬ ((s[k]).toNat : Int) = 45 ∧ ((s[k]).toNat : Int) < 48) ∨ (¬ (97 : Int) ≤ ((s[k]).toNat : Int) ∧ ¬ (65 : Int) ≤ ((s[k]).toNat : Int) ∧ ¬ k = 0 ∧ ¬ ((s[k]).toNat : Int) = 45 ∧ ¬ ((s[k]).toNat : Int) < 48 ∧ 57 < ((s[k]).toNat : Int))) := by omega
      rcases hcs with hcs | hcs
      · have HX := Lib.hid (show okAt s k = true from by unfold okAt letterB restB letterB; rw [HB.out]; split <;> simp <;> omega)
        rcases hcs with ⟨h0, h1⟩ | ⟨h0, h1, h2⟩ | ⟨h0, h1, h2, h3⟩ | ⟨h0, h1, h2, h3, h4, h5⟩
        all_goals
          go_wp2
          go_round
          case rel => exact ⟨k + 1, by omega, by go_num, name_step HA.out HX.out⟩
          case measure => simp [intOf]; omega
      · have HX := Lib.hid (name_bad hlt (show okAt s k = false from by unfold okAt letterB restB letterB; rw [HB.out]; split <;> simp <;> omega))
        rcases hcs with ⟨h0, h1, h2, h3, h4⟩ | ⟨h0, h1, h2⟩ | ⟨h0, h1, h2, h3⟩ | ⟨h0, h1, h2, h3, h4, h5, h6, h7⟩ | ⟨h0, h1, h2, h3, h4, h5, h6⟩ | ⟨h0, h1, h2, h3, h4⟩ | ⟨h0, h1, h2, h3, h4, h5⟩
        all_goals
          try subst_vars
          try have e45 : (((s[k]).toNat : Int) != 45) = true := bne_iff_ne.2 (by assumption)
          go_wp2
          go_ret
          exact ⟨ret_bool HX.out.symm, rfl⟩
    · have hkn : k = s.size := by omega
      have HE := Lib.hid (name_end s (hkn ▸ HA.out))
      clear hkn
      go_wp2
      all_goals go_ret
      · have hn : s.toList = [] := by assumption
        exact ⟨ret_bool (by rw [HE.out]; simp [hn]), rfl⟩
      · exact ⟨ret_bool HE.out.symm, rfl⟩

end Go.Proofs.Ytgamepmipoociaa

end

section
/- A map with strings as keys that the program has made, said as a function from strings to values. -/
namespace Go.Proofs.Ytgamepmipoociaa
open Go.RowKit Go.Maps Go.WideShapes Go.MapKept

/-- A value read as itself. -/
def heldR (v : Value) : Option (DataW Value × List MemPlace) := some (.held v, [])
def keyS (s : ByteArray) : Lit := .string s.data.toList

theorem keyS_inj {s t : ByteArray} (h : keyS s = keyS t) : s = t := by
  unfold keyS at h
  injection h with h
  cases s; cases t; congr; exact Array.toList_inj.1 h

/-- Block b is a map of at most n entries, with M's values at M's keys. -/
def MapIs (P : Program) (k : TypeId) (w : World) (b n : Nat) (M : ByteArray → Option Value) : Prop :=
  ∃ D : DataW Value, w.ownsMap P k heldR b n D ∧ ∀ s, match M s with
    | none => Maps.has D (keyS s) = false
    | some v => Maps.has D (keyS s) = true ∧ ∀ z, D.atKey (keyS s) z = .held v

section
variable {P : Program} {k t e : TypeId} {w w' : World} {b n : Nat} {M : ByteArray → Option Value}

theorem MapIs.made (w : World) (P : Program) (k : TypeId) : MapIs P k (w.alloc (.map #[] 0)) w.heap.size 0 (fun _ => none) :=
  ⟨.map [], World.ownsMap_made w P k heldR, fun s => rfl⟩
theorem MapIs.made_ {W : World} {g : Nat} (h : W.heap.size = g) (P : Program) (k : TypeId) : MapIs P k (W.alloc (.map #[] 0)) g 0 (fun _ => none) := h ▸ MapIs.made W P k
theorem MapIs.lt (h : MapIs P k w b n M) : b < w.heap.size := by obtain ⟨D, h, _⟩ := h; exact h.lt
theorem MapIs.mono (h : MapIs P k w b n M) {n' : Nat} (hn : n ≤ n') : MapIs P k w b n' M := by obtain ⟨D, h, hm⟩ := h; exact ⟨D, h.mono hn, hm⟩
theorem MapIs.kept {row : Option Nat} (h : MapIs P k w b n M) (hg : w.grownBy w' row) (hne : some b ≠ row) : MapIs P k w' b n M := by obtain ⟨D, h, hm⟩ := h; exact ⟨D, h.kept hg hne, hm⟩
theorem MapIs.alloc (h : MapIs P k w b n M) (o : Obj) : MapIs P k (w.alloc o) b n M := by obtain ⟨D, h, hm⟩ := h; exact ⟨D, h.alloc o, hm⟩
theorem MapIs.drew (h : MapIs P k w b n M) : MapIs P k w.drew b n M := h
theorem MapIs.drewN (h : MapIs P k w b n M) (m : Nat) : MapIs P k (w.drewN m) b n M := h
theorem MapIs.below {B : Nat} (h : MapIs P k w b n M) (hb : Below B w w') (hB : b < B) : MapIs P k w' b n M := by
  obtain ⟨D, ⟨es, clock, h1, h2⟩, hm⟩ := h
  exact ⟨D, ⟨es, clock, (hb.block b hB).trans h1, h2⟩, hm⟩
theorem MapIs.set_ (h : MapIs P k w b n M) {a : Addr} (ha : b ≠ a.block) (u : Value) : MapIs P k (w.setCell a u) b n M := by
  obtain ⟨D, h, hm⟩ := h; exact ⟨D, h.setCell ha u, hm⟩
theorem MapIs.ne_blk (h : MapIs P k w b n M) {g : Nat} {ty : TypeId} {cs : Array Value} (hg : Blk w g ty cs) : b ≠ g := by
  rintro rfl
  obtain ⟨D, ⟨es, clock, h1, _⟩, _⟩ := h
  unfold Blk at hg
  rw [hg] at h1
  injection h1 with h1
  cases h1
theorem MapIs.ne_own (h : MapIs P k w b n M) {base : Nat} {e : TypeId} {size m : Nat} {v : Value} {xs : List Value} (hv : w.ownsRow base e size v m xs) : v.ownBlock ≠ some b := by
  rcases hv.2 with ⟨rfl, _⟩ | ⟨g', cap, cur, rfl, _, hh, _⟩
  · simp [Value.ownBlock]
  · intro he
    have : g' = b := by simpa [Value.ownBlock] using he
    subst this
    obtain ⟨D, ⟨es, clock, h1, _⟩, _⟩ := h
    rw [h1] at hh
    injection hh with hh
    cases hh

/-- 'v, ok := m[s]'. -/
theorem MapIs.look (h : MapIs P k w b n M) (hk : P.underlying k = some .string) (ht : P.underlying t = some (.map k e)) {z : Value} (hz : (zeroValue e).run P w = .ok z w) (s : ByteArray) (hs : s.size ≤ maxLen) :
    (Instr.lookup t (.map (some b)) (.string s) true).run P w = .ok (.tuple #[(M s).getD z, .bool (M s).isSome]) w := by
  obtain ⟨D, h, hm⟩ := h
  have hkey : keyOf P k (.string s) = some (keyS s) := WideMaps.keyOf_string_mk hk hs
  obtain ⟨v, ps, hrun, hv⟩ := h.look_ok (string_keyed hk) ht hz (zd := .held z) (zp := []) rfl hkey
  rw [hrun]
  have := hm s
  cases hM : M s with
  | none =>
    rw [hM] at this
    rw [this]
    rw [Maps.atKey_of_not_has this] at hv
    simp only [heldR, Option.some.injEq, Prod.mk.injEq, DataW.held.injEq] at hv
    rw [hv.1]; rfl
  | some u =>
    rw [hM] at this
    rw [this.1]
    rw [this.2] at hv
    simp only [heldR, Option.some.injEq, Prod.mk.injEq, DataW.held.injEq] at hv
    rw [hv.1]; rfl

/-- 'm[s]'. -/
theorem MapIs.get (h : MapIs P k w b n M) (hk : P.underlying k = some .string) (ht : P.underlying t = some (.map k e)) {z : Value} (hz : (zeroValue e).run P w = .ok z w) (s : ByteArray) (hs : s.size ≤ maxLen) :
    (Instr.lookup t (.map (some b)) (.string s) false).run P w = .ok ((M s).getD z) w := by
  obtain ⟨D, h, hm⟩ := h
  have hkey : keyOf P k (.string s) = some (keyS s) := WideMaps.keyOf_string_mk hk hs
  obtain ⟨v, ps, hrun, hv⟩ := h.lookup (string_keyed hk) ht hz (zd := .held z) (zp := []) rfl hkey
  rw [hrun]
  have := hm s
  cases hM : M s with
  | none =>
    rw [hM] at this
    rw [Maps.atKey_of_not_has this] at hv
    simp only [heldR, Option.some.injEq, Prod.mk.injEq, DataW.held.injEq] at hv
    rw [hv.1]; rfl
  | some u =>
    rw [hM] at this
    rw [this.2] at hv
    simp only [heldR, Option.some.injEq, Prod.mk.injEq, DataW.held.injEq] at hv
    rw [hv.1]; rfl

/-- 'm[s] = v'. -/
theorem MapIs.put (h : MapIs P k w b n M) (hk : P.underlying k = some .string) (ht : P.underlying t = some (.map k e)) (s : ByteArray) (hs : s.size ≤ maxLen) (hn : n < maxLen) (v : Value) :
    ∃ w', (Instr.mapUpdate t (.map (some b)) (.string s) v).run P w = .ok () w' ∧ MapIs P k w' b (n + 1) (fun u => if u = s then some v else M u) ∧ w.grownBy w' (some b) := by
  obtain ⟨D, h, hm⟩ := h
  have hkey : keyOf P k (.string s) = some (keyS s) := WideMaps.keyOf_string_mk hk hs
  obtain ⟨w', hrun, hown, hg⟩ := h.update (string_keyed hk) ht hn (val := v) (d := .held v) (ps := []) hkey rfl
  refine ⟨w', hrun, ⟨_, hown, fun u => ?_⟩, hg⟩
  have hmap : IsMap D := h.isMap
  have hlit : WideAt.IsKeyLit (keyS s) := by unfold keyS; trivial
  by_cases hu : u = s
  · subst hu
    simp only [if_true]
    exact ⟨has_put_same hmap hlit _, fun z => atKey_put_same hmap hlit _ z⟩
  · simp only [if_neg hu]
    have hne : keyS u ≠ keyS s := fun e => hu (keyS_inj e)
    have := hm u
    rw [has_put_other hne]
    cases hM : M u with
    | none => rw [hM] at this; exact this
    | some x => rw [hM] at this; exact ⟨this.1, fun z => by rw [atKey_put_other hne]; exact this.2 z⟩
end

section
variable {P : Program} {k t e : TypeId} {b n : Nat} {M : ByteArray → Option Value} {ops : Array Oper} {rest : List Oper} {o : Oper} {a : Act} {Q : Exit → Act → World → Prop}
theorem wpList_look (w : World) (hg : o.guard = none) (m x : Operand) (t : TypeId) (hop : o.op = Op.lookup t m x true) (hk : P.underlying k = some .string) (ht : P.underlying t = some (.map k e)) {z : Value} (hz : (zeroValue e).run P w = .ok z w)
    (hM : MapIs P k w b n M) (hm : a.eval m = .map (some b)) (s : ByteArray) (hx : a.eval x = .string s) (hs : s.size ≤ maxLen)
    (hK : wpList P ops Q rest (a.put o.dst (.tuple #[(M s).getD z, .bool (M s).isSome])) w) : wpList P ops Q (o :: rest) a w := by
  refine wpList_plain hg fun K' hK' => ?_
  have hrun := hM.look hk ht hz s hs
  unfold Oper.wp
  simp [execOp, hop, hm, hx, hrun, Result.andThen]
  exact hK' _ _ hK

theorem wpList_get (w : World) (hg : o.guard = none) (m x : Operand) (t : TypeId) (hop : o.op = Op.lookup t m x false) (hk : P.underlying k = some .string) (ht : P.underlying t = some (.map k e)) {z : Value} (hz : (zeroValue e).run P w = .ok z w)
    (hM : MapIs P k w b n M) (hm : a.eval m = .map (some b)) (s : ByteArray) (hx : a.eval x = .string s) (hs : s.size ≤ maxLen)
    (hK : wpList P ops Q rest (a.put o.dst ((M s).getD z)) w) : wpList P ops Q (o :: rest) a w := by
  refine wpList_plain hg fun K' hK' => ?_
  have hrun := hM.get hk ht hz s hs
  unfold Oper.wp
  simp [execOp, hop, hm, hx, hrun, Result.andThen]
  exact hK' _ _ hK

theorem wpList_put (w : World) (hg : o.guard = none) (m x v : Operand) (t : TypeId) (hop : o.op = Op.mapUpdate t m x v) (hk : P.underlying k = some .string) (ht : P.underlying t = some (.map k e))
    (hM : MapIs P k w b n M) (hm : a.eval m = .map (some b)) (s : ByteArray) (hx : a.eval x = .string s) (hs : s.size ≤ maxLen) (hn : n < maxLen) (u : Value) (hv : a.eval v = u)
    (hK : ∀ w', MapIs P k w' b (n + 1) (fun y => if y = s then some u else M y) → w.grownBy w' (some b) → wpList P ops Q rest (a.put o.dst undef) w') : wpList P ops Q (o :: rest) a w := by
  refine wpList_plain hg fun K' hK' => ?_
  obtain ⟨w', hrun, h1, h2⟩ := hM.put hk ht s hs hn u
  unfold Oper.wp
  simp [execOp, hop, hm, hx, hv, hrun, Result.andThen]
  exact hK' _ _ (hK w' h1 h2)
end
end Go.Proofs.Ytgamepmipoociaa

end

section
/- Rockers: their values, and the contract of the check of one rocker behind others. -/
namespace Go.Proofs.Ytgamepmipoociaa
open Go.RowKit

structure Rk where
  name : ByteArray
  left : ByteArray
  right : ByteArray
  al : Int
  ar : Int

def Rk.cells (r : Rk) : List Value := [.string r.name, .string r.left, .string r.right, .int .i64 r.al, .int .i64 r.ar]
def Rk.val (r : Rk) : Value := .agg #[.string r.name, .string r.left, .string r.right, .int .i64 r.al, .int .i64 r.ar]
/-- The texts are no longer than a text can be. -/
structure Rk.Fits (r : Rk) : Prop where
  name : r.name.size ≤ maxLen
  left : r.left.size ≤ maxLen
  right : r.right.size ≤ maxLen

def rkErr (ex : Bool) (r : Rk) : Int :=
  if nameB r.name = false then 4 else if ex then 5 else if nameB r.left = false ∨ nameB r.right = false then 4
  else if withinB r.al 1 10000 = false ∨ withinB r.ar 1 10000 = false then 2 else 0

theorem zero_int (w : World) : (zeroValue 3).run Try.prog w = .ok (.int .i64 0) w := by kernel_rfl



end Go.Proofs.Ytgamepmipoociaa

end

section
/- The contract of the check of a whole tree. -/
namespace Go.Proofs.Ytgamepmipoociaa
open Go.RowKit

def rkCells (l : List Rk) : List Value := l.flatMap Rk.cells
theorem rkCells_length (l : List Rk) : (rkCells l).length = l.length * 5 := by
  induction l with
  | nil => rfl
  | cons p l ih => simp only [rkCells, List.flatMap_cons, List.length_append, List.length_cons, List.length_nil, Rk.cells] at *; omega
theorem rkCells_get (l : List Rk) : ∀ (i : Nat) (h : i < l.length) (j : Nat), j < 5 → (rkCells l)[i * 5 + j]? = (l[i]).cells[j]? := by
  induction l with
  | nil => intro i h; simp at h
  | cons p l ih =>
    intro i h j hj
    have e : rkCells (p :: l) = p.cells ++ rkCells l := rfl
    have e5 : p.cells.length = 5 := rfl
    rw [e]
    cases i with
    | zero => rw [List.getElem?_append_left (by omega)]; simp
    | succ i =>
      rw [List.getElem?_append_right (by omega), e5, show (i + 1) * 5 + j - 5 = i * 5 + j from by omega]
      simpa using ih i (by simpa using h) j hj

theorem Reads.len5 {w : World} {B n : Nat} {A : Option Addr} {l : List Rk} (h : Reads w B 5 A n (rkCells l)) : l.length = n := by
  have := h.1; rw [rkCells_length] at this; omega

theorem Reads.rk {w : World} {B n : Nat} {A : Option Addr} {l : List Rk} (h : Reads w B 5 A n (rkCells l)) {i : Nat} (hi : i < n) :
    ∃ b o r, A = some ⟨b, o, none⟩ ∧ b < B ∧ l[i]? = some r ∧ w.cell? ⟨b, o + i * 5, none⟩ = some (.string r.name) ∧ w.cell? ⟨b, o + i * 5 + 1, none⟩ = some (.string r.left) ∧
      w.cell? ⟨b, o + i * 5 + 2, none⟩ = some (.string r.right) ∧ w.cell? ⟨b, o + i * 5 + 3, none⟩ = some (.int .i64 r.al) ∧ w.cell? ⟨b, o + i * 5 + 4, none⟩ = some (.int .i64 r.ar) := by
  obtain ⟨b, o, e, hb, hc⟩ := h.2 (by omega)
  have hl := h.len5
  have hg := rkCells_get l i (by omega)
  exact ⟨b, o, l[i]'(by omega), e, hb, List.getElem?_eq_getElem (by omega), hc _ _ (hg 0 (by omega)), hc _ _ (hg 1 (by omega)), hc _ _ (hg 2 (by omega)), hc _ _ (hg 3 (by omega)), hc _ _ (hg 4 (by omega))⟩

def idxOf (l : List Rk) (s : ByteArray) : Option Nat := l.findIdx? fun r => decide (r.name = s)
def idxM (l : List Rk) (s : ByteArray) : Option Value := (idxOf l s).map fun (i : Nat) => .int .i64 (i : Int)

/-- The error of the first loop: the first rocker that is not right behind those before it. -/
def err1 : List Rk → List Rk → Int
  | _, [] => 0
  | seen, r :: l => if rkErr (idxM seen r.name).isSome r = 0 then err1 (seen ++ [r]) l else rkErr (idxM seen r.name).isSome r

theorem idxOf_append (l m : List Rk) (s : ByteArray) : idxOf (l ++ m) s = match idxOf l s with | some i => some i | none => (idxOf m s).map (· + l.length) := by
  unfold idxOf
  rw [List.findIdx?_append]
  cases l.findIdx? (fun r => decide (r.name = s)) <;> simp

theorem idxM_step {l : List Rk} {k : Nat} {r : Rk} (h : l[k]? = some r) (hn : (idxM (l.take k) r.name).isSome = false) :
    (fun u => if u = r.name then some (Value.int .i64 (k : Int)) else idxM (l.take k) u) = idxM (l.take (k + 1)) := by
  funext u
  have hk : k < l.length := (List.getElem?_eq_some_iff.1 h).1
  have e : l.take (k + 1) = l.take k ++ [r] := by rw [List.take_add_one, h]; rfl
  unfold idxM
  rw [e, idxOf_append]
  have hl : (l.take k).length = k := by rw [List.length_take]; omega
  by_cases hu : u = r.name
  · subst hu
    have : idxOf (l.take k) r.name = none := by
      unfold idxM at hn
      cases hx : idxOf (l.take k) r.name with
      | none => rfl
      | some i => rw [hx] at hn; simp at hn
    have h2 : idxOf [r] r.name = some 0 := by simp [idxOf]
    rw [this, h2, hl]
    simp
  · simp only [if_neg hu]
    cases hx : idxOf (l.take k) u with
    | some i => rfl
    | none =>
      have : idxOf [r] u = none := by
        have : ¬ r.name = u := fun e => hu e.symm
        simp [idxOf, this]
      simp [this]

theorem err1_at {l : List Rk} {k : Nat} (h : ∀ j, j < k → ∀ r, l[j]? = some r → rkErr (idxM (l.take j) r.name).isSome r = 0) : err1 [] l = err1 (l.take k) (l.drop k) := by
  induction k with
  | zero => simp
  | succ k ih =>
    rw [ih (fun j hj => h j (by omega))]
    by_cases hk : k < l.length
    · have hr : l[k]? = some l[k] := List.getElem?_eq_getElem hk
      rw [List.drop_eq_getElem_cons hk, err1, if_pos (h k (by omega) _ hr), List.take_add_one, hr]
      rfl
    · rw [List.drop_of_length_le (by omega), List.drop_of_length_le (by omega), List.take_of_length_le (by omega), List.take_of_length_le (by omega)]

theorem err1_stop {l : List Rk} {k : Nat} {r : Rk} (h : ∀ j, j < k → ∀ r, l[j]? = some r → rkErr (idxM (l.take j) r.name).isSome r = 0) (hr : l[k]? = some r)
    (he : rkErr (idxM (l.take k) r.name).isSome r ≠ 0) : err1 [] l = rkErr (idxM (l.take k) r.name).isSome r := by
  obtain ⟨hk, rfl⟩ := List.getElem?_eq_some_iff.1 hr
  rw [err1_at h, List.drop_eq_getElem_cons hk, err1, if_neg he]

def bearerOf (l : List Rk) (s : ByteArray) : Option Nat := l.findIdx? fun r => decide (r.left = s ∨ r.right = s)
def borneAll (l : List Rk) : List ByteArray := l.flatMap fun r => [r.left, r.right]
def climbs (l : List Rk) : Nat → ByteArray → Bool
  | 0, s => (bearerOf l s).isSome
  | f + 1, s => match bearerOf l s with
    | none => false
    | some i => climbs l f (((l[i]?).map (·.name)).getD s)
def isTop (l : List Rk) (i : Nat) : Bool := match l[i]? with
  | some r => (bearerOf l r.name).isNone
  | none => false
def topsTo (l : List Rk) (k : Nat) : List Nat := (List.range k).filter (isTop l)
def topsOf (l : List Rk) : List Nat := topsTo l l.length
theorem topsTo_succ (l : List Rk) (k : Nat) : topsTo l (k + 1) = topsTo l k ++ if isTop l k then [k] else [] := by
  unfold topsTo
  rw [List.range_succ, List.filter_append]
  congr 1
  cases h : isTop l k <;> simp [h]
theorem topsTo_le (l : List Rk) (k : Nat) : (topsTo l k).length ≤ k := by
  unfold topsTo
  exact Nat.le_trans (List.length_filter_le _ _) (by simp)
def openErr (l : List Rk) : Int :=
  if l.length = 0 then 10 else if 40 < l.length then 8 else if err1 [] l ≠ 0 then err1 [] l else if ¬ (borneAll l).Nodup then 13
  else if l.any (fun r => climbs l (l.length + 1) r.name) then 21 else if 1 < (topsOf l).length then 25 else 0
def topOf (l : List Rk) : Nat := (topsOf l).getLast?.getD 0

def pairsFrom (k : Nat) : List Rk → List (ByteArray × Nat)
  | [] => []
  | r :: l => (r.left, k) :: (r.right, k) :: pairsFrom (k + 1) l
theorem pairsFrom_length (k : Nat) (l : List Rk) : (pairsFrom k l).length = 2 * l.length := by
  induction l generalizing k with
  | nil => rfl
  | cons r l ih => simp only [pairsFrom, List.length_cons, ih]; omega
theorem pairsFrom_get (l : List Rk) : ∀ (k i : Nat) (r : Rk), l[i]? = some r → (pairsFrom k l)[2 * i]? = some (r.left, k + i) ∧ (pairsFrom k l)[2 * i + 1]? = some (r.right, k + i) := by
  induction l with
  | nil => intro k i r h; simp at h
  | cons x l ih =>
    intro k i r h
    cases i with
    | zero => simp at h; subst h; simp [pairsFrom]
    | succ i =>
      have := ih (k + 1) i r (by simpa using h)
      rw [show 2 * (i + 1) = 2 * i + 1 + 1 from by omega, show k + (i + 1) = k + 1 + i from by omega]
      simpa [pairsFrom] using this
theorem pairsFrom_fst (k : Nat) (l : List Rk) : (pairsFrom k l).map (·.1) = borneAll l := by
  induction l generalizing k with
  | nil => rfl
  | cons r l ih => simp [pairsFrom, borneAll] at *; exact ih (k + 1)
def bM (ps : List (ByteArray × Nat)) (s : ByteArray) : Option Value := (ps.find? fun p => decide (p.1 = s)).map fun p => .int .i64 (p.2 : Int)
theorem bM_all (l : List Rk) : ∀ (k : Nat) (s : ByteArray), bM (pairsFrom k l) s = (bearerOf l s).map fun (i : Nat) => .int .i64 ((k + i : Nat) : Int) := by
  induction l with
  | nil => intro k s; rfl
  | cons r l ih =>
    intro k s
    have := ih (k + 1) s
    unfold bM bearerOf at *
    rw [List.findIdx?_cons]
    by_cases h1 : r.left = s
    · simp [pairsFrom, h1]
    · by_cases h2 : r.right = s
      · simp [pairsFrom, h1, h2]
      · simp only [pairsFrom, List.find?_cons, h1, h2, decide_false, decide_true, Bool.false_eq_true, or_self, if_false]
        rw [this]
        cases List.findIdx? (fun r => decide (r.left = s ∨ r.right = s)) l with
        | none => rfl
        | some i => simp; omega
theorem bM_step {ps : List (ByteArray × Nat)} {m : Nat} {s : ByteArray} {i : Nat} (h : ps[m]? = some (s, i)) (hn : (bM (ps.take m) s).isSome = false) :
    (fun u => if u = s then some (Value.int .i64 (i : Int)) else bM (ps.take m) u) = bM (ps.take (m + 1)) := by
  funext u
  have e : ps.take (m + 1) = ps.take m ++ [(s, i)] := by rw [List.take_add_one, h]; rfl
  unfold bM at *
  rw [e, List.find?_append]
  by_cases hu : u = s
  · subst hu
    have : (ps.take m).find? (fun p => decide (p.1 = u)) = none := by
      cases hx : (ps.take m).find? (fun p => decide (p.1 = u)) with
      | none => rfl
      | some p => rw [hx] at hn; simp at hn
    rw [this]; simp
  · have hu' : ¬ s = u := fun e => hu e.symm
    simp only [if_neg hu]
    have : List.find? (fun p => decide (p.1 = u)) [(s, i)] = none := by simp [hu']
    rw [this]; simp
theorem bM_clash {ps : List (ByteArray × Nat)} {m : Nat} {s : ByteArray} {i : Nat} (h : ps[m]? = some (s, i)) (hn : (bM (ps.take m) s).isSome = true) : ¬ (ps.map (·.1)).Nodup := by
  intro hnd
  unfold bM at hn
  cases hx : (ps.take m).find? (fun p => decide (p.1 = s)) with
  | none => rw [hx] at hn; simp at hn
  | some p =>
    have hp := List.find?_some hx
    have hmem := List.mem_of_find?_eq_some hx
    obtain ⟨j, hj, he⟩ := List.getElem_of_mem hmem
    have hjm : j < m := by rw [List.length_take] at hj; omega
    obtain ⟨hm, hms⟩ := List.getElem?_eq_some_iff.1 h
    rw [List.getElem_take] at he
    have hpe : p.1 = s := by simpa using hp
    have := (List.pairwise_iff_getElem.1 hnd) j m (by rw [List.length_map]; omega) (by rw [List.length_map]; omega) hjm
    rw [List.getElem_map, List.getElem_map, he, hms] at this
    exact this hpe
theorem bM_nodup {ps : List (ByteArray × Nat)} {m : Nat} {s : ByteArray} {i : Nat} (h : ps[m]? = some (s, i)) (hn : (bM (ps.take m) s).isSome = false) (hd : ((ps.take m).map (·.1)).Nodup) : ((ps.take (m + 1)).map (·.1)).Nodup := by
  have e : ps.take (m + 1) = ps.take m ++ [(s, i)] := by rw [List.take_add_one, h]; rfl
  rw [e, List.map_append]
  refine List.nodup_append.2 ⟨hd, by simp, fun x hx y hy => ?_⟩
  simp only [List.map_cons, List.map_nil, List.mem_singleton] at hy
  subst hy
  rintro rfl
  obtain ⟨p, hp, rfl⟩ := List.mem_map.1 hx
  unfold bM at hn
  cases hf : (ps.take m).find? (fun q => decide (q.1 = p.1)) with
  | some q => rw [hf] at hn; simp at hn
  | none => have := List.find?_eq_none.1 hf p hp; simp at this

def upM (l : List Rk) (s : ByteArray) : Option Value := (bearerOf l s).map fun (i : Nat) => .int .i64 (i : Int)
theorem bM_up (l : List Rk) : bM (pairsFrom 0 l) = upM l := by
  funext s
  rw [bM_all]
  simp only [Nat.zero_add]
  rfl
theorem bearer_lt {l : List Rk} {s : ByteArray} {i : Nat} (h : bearerOf l s = some i) : i < l.length := by
  unfold bearerOf at h
  exact (List.findIdx?_eq_some_iff_getElem.1 h).1
theorem climbs_none {l : List Rk} {f : Nat} {s : ByteArray} (h : bearerOf l s = none) : climbs l f s = false := by
  cases f <;> simp [climbs, h]
theorem climbs_zero {l : List Rk} {s : ByteArray} {i : Nat} (h : bearerOf l s = some i) : climbs l 0 s = true := by
  simp [climbs, h]
theorem climbs_succ {l : List Rk} {f i : Nat} {s : ByteArray} {r : Rk} (h : bearerOf l s = some i) (hr : l[i]? = some r) : climbs l (f + 1) s = climbs l f r.name := by
  simp [climbs, h, hr]



end Go.Proofs.Ytgamepmipoociaa

end

section
/- Contracts of the comparisons of lists. -/
namespace Go.Proofs.Ytgamepmipoociaa
open Go.RowKit

/-- The cells of pairs of numbers. -/
def cells2 (l : List (Int × Int)) : List Value := l.flatMap fun p => [.int .i64 p.1, .int .i64 p.2]
theorem cells2_length (l : List (Int × Int)) : (cells2 l).length = l.length * 2 := by
  induction l with
  | nil => rfl
  | cons p l ih => simp only [cells2, List.flatMap_cons, List.length_append, List.length_cons, List.length_nil] at *; omega
theorem cells2_append (l m : List (Int × Int)) : cells2 (l ++ m) = cells2 l ++ cells2 m := by simp [cells2]
theorem cells2_get (l : List (Int × Int)) : ∀ (i : Nat) (h : i < l.length), (cells2 l)[i * 2]? = some (.int .i64 (l[i]).1) ∧ (cells2 l)[i * 2 + 1]? = some (.int .i64 (l[i]).2) := by
  induction l with
  | nil => intro i h; simp at h
  | cons p l ih =>
    intro i h
    cases i with
    | zero => simp [cells2]
    | succ i =>
      have := ih i (by simpa using h)
      have e : cells2 (p :: l) = .int .i64 p.1 :: .int .i64 p.2 :: cells2 l := rfl
      rw [e, show (i + 1) * 2 = i * 2 + 1 + 1 from by omega]
      simpa using this

theorem Reads.pair {w : World} {B n : Nat} {A : Option Addr} {l : List (Int × Int)} (h : Reads w B 2 A n (cells2 l)) {i : Nat} (hi : i < n) :
    ∃ b o p, A = some ⟨b, o, none⟩ ∧ b < B ∧ l[i]? = some p ∧ w.cell? ⟨b, o + i * 2, none⟩ = some (.int .i64 p.1) ∧ w.cell? ⟨b, o + i * 2 + 1, none⟩ = some (.int .i64 p.2) := by
  obtain ⟨b, o, e, hb, hc⟩ := h.2 (by omega)
  have hl : l.length = n := by have := h.1; rw [cells2_length] at this; omega
  have hg := cells2_get l i (by omega)
  exact ⟨b, o, l[i]'(by omega), e, hb, List.getElem?_eq_getElem (by omega), hc _ _ hg.1, hc _ _ hg.2⟩

theorem Reads.len2 {w : World} {B n : Nat} {A : Option Addr} {l : List (Int × Int)} (h : Reads w B 2 A n (cells2 l)) : l.length = n := by
  have := h.1; rw [cells2_length] at this; omega

theorem take_succ_eq {α : Type} {xs ys : List α} {k : Nat} {p : α} (h : xs.take k = ys.take k) (hx : xs[k]? = some p) (hy : ys[k]? = some p) : xs.take (k + 1) = ys.take (k + 1) := by
  rw [List.take_add_one, List.take_add_one, h, hx, hy]

@[go_sem] theorem held_frac : Try.prog.stoodInHeld 72 = false := by kernel_rfl

@[go_sem] theorem guard_frac : Try.prog.eqGuardType Try.prog.depth 72 = false := by kernel_rfl

theorem eq_frac (a b c d : Int) (w : World) : (Op.equalIn 10000 72 (.agg #[.int .i64 a, .int .i64 b]) (.agg #[.int .i64 c, .int .i64 d])).run Try.prog w = .ok (decide ((a, b) = (c, d))) w := by
  simp [go_sem]
  by_cases h1 : a = c <;> by_cases h2 : b = d <;> simp [h1, h2]

@[go_sem ↓ high] theorem eql_frac (a b c d : Int) (w : World) : (binOp .eql 72 (.agg #[.int .i64 a, .int .i64 b]) (.agg #[.int .i64 c, .int .i64 d])).run Try.prog w = .ok (.bool (decide ((a, b) = (c, d)))) w := by
  rw [run_eql_struct, eq_frac]; rfl

@[go_sem ↓ high] theorem neq_frac (a b c d : Int) (w : World) : (binOp .neq 72 (.agg #[.int .i64 a, .int .i64 b]) (.agg #[.int .i64 c, .int .i64 d])).run Try.prog w = .ok (.bool (!decide ((a, b) = (c, d)))) w := by
  rw [run_neq_struct, eq_frac]; rfl


end Go.Proofs.Ytgamepmipoociaa

end

section
/- The contract of the shares of the points below a thing. -/
namespace Go.Proofs.Ytgamepmipoociaa
open Go.RowKit

/-- The points below a thing; none: not within so many steps. -/
def pts (l : List Rk) : Nat → ByteArray → Option (List ByteArray)
  | 0, s => match idxOf l s with
    | none => some [s]
    | some _ => none
  | f + 1, s => match idxOf l s with
    | none => some [s]
    | some i => match l[i]? with
      | none => none
      | some r => match pts l f r.left, pts l f r.right with
        | some a, some b => some (a ++ b)
        | _, _ => none

def redN (a b : Int) : Int := a / (Int.gcd a b : Int)
def redD (a b : Int) : Int := b / (Int.gcd a b : Int)

def join2 (a b : Option (List (Int × Int))) : Option (List (Int × Int)) := match a, b with
  | some x, some y => some (x ++ y)
  | _, _ => none

/-- The shares of the points below a thing; none: one is not small. -/
def sh (l : List Rk) : Nat → ByteArray → Int → Int → Option (List (Int × Int))
  | 0, _, n, d => some [(n, d)]
  | f + 1, s, n, d => match idxOf l s with
    | none => some [(n, d)]
    | some i => match l[i]? with
      | none => none
      | some r => if smallB (n * r.ar) (d * (r.al + r.ar)) && smallB (n * r.al) (d * (r.al + r.ar)) then
          join2 (sh l f r.left (redN (n * r.ar) (d * (r.al + r.ar))) (redD (n * r.ar) (d * (r.al + r.ar)))) (sh l f r.right (redN (n * r.al) (d * (r.al + r.ar))) (redD (n * r.al) (d * (r.al + r.ar))))
        else none

theorem sh_length (l : List Rk) : ∀ (f : Nat) (s : ByteArray) (n d : Int) (ps : List ByteArray) (ys : List (Int × Int)), pts l f s = some ps → sh l f s n d = some ys → ys.length = ps.length := by
  intro f
  induction f with
  | zero =>
    intro s n d ps ys hp hs
    unfold pts at hp
    unfold sh at hs
    obtain rfl := Option.some.inj hs
    cases hx : idxOf l s with
    | none => rw [hx] at hp; obtain rfl := Option.some.inj hp; rfl
    | some i => rw [hx] at hp; cases hp
  | succ f ih =>
    intro s n d ps ys hp hs
    unfold pts at hp
    unfold sh at hs
    cases hx : idxOf l s with
    | none => rw [hx] at hp hs; obtain rfl := Option.some.inj hp; obtain rfl := Option.some.inj hs; rfl
    | some i =>
      rw [hx] at hp hs
      simp only at hp hs
      cases hr : l[i]? with
      | none => rw [hr] at hp; cases hp
      | some r =>
        rw [hr] at hp hs
        simp only at hp hs
        cases ha : pts l f r.left with
        | none => rw [ha] at hp; cases hp
        | some pa =>
          cases hb : pts l f r.right with
          | none => rw [ha, hb] at hp; cases hp
          | some pb =>
            rw [ha, hb] at hp
            obtain rfl := Option.some.inj hp
            split at hs
            · unfold join2 at hs
              split at hs
              · rename_i x y h1 h2
                obtain rfl := Option.some.inj hs
                rw [List.length_append, List.length_append, ih _ _ _ _ _ ha h1, ih _ _ _ _ _ hb h2]
              · cases hs
            · cases hs

theorem info_frac : (Try.prog.info? 72).map (fun i => (i.zero, i.size, i.bytes)) = some (some (.agg #[.int .i64 0, .int .i64 0]), 2, 16) := by kernel_rfl


/-- Arms are from 1 to 10000. -/
def ArmsOK (l : List Rk) : Prop := ∀ r ∈ l, 1 ≤ r.al ∧ r.al ≤ 10000 ∧ 1 ≤ r.ar ∧ r.ar ≤ 10000
/-- A part of a fraction. -/
def Part (x : Int) : Prop := 1 ≤ x ∧ x ≤ 1000000000

theorem red_part {a b : Int} (ha : 1 ≤ a) (hb : 1 ≤ b) (h : smallB a b = true) : Part (redN a b) ∧ Part (redD a b) := by
  unfold smallB at h
  rw [Bool.and_eq_true, withinB_iff, decide_eq_true_iff] at h
  have hg : 0 < Int.gcd a b := Int.gcd_pos_of_ne_zero_left b (by omega)
  have d1 : (Int.gcd a b : Int) ∣ a := Int.gcd_dvd_left a b
  have d2 : (Int.gcd a b : Int) ∣ b := Int.gcd_dvd_right a b
  have p1 : 0 < a / (Int.gcd a b : Int) := Int.ediv_pos_of_pos_of_dvd (by omega) (by omega) d1
  have p2 : 0 < b / (Int.gcd a b : Int) := Int.ediv_pos_of_pos_of_dvd (by omega) (by omega) d2
  exact ⟨⟨by unfold redN; omega, h.1.2⟩, ⟨by unfold redD; omega, h.2⟩⟩


theorem ret_bool' {a b : Bool} (h : a = b) : Ending.returned (.bool a) = .returned (.bool b) := by rw [h]


end Go.Proofs.Ytgamepmipoociaa

end

section
/- The contracts of the check of a train of gears, of its products, and of Returns. -/
namespace Go.Proofs.Ytgamepmipoociaa
open Go.RowKit

/-- Both numbers are those of teeth. -/
def okP (p : Int × Int) : Bool := withinB p.1 1 500 && withinB p.2 1 500
def trainErr (l : List (Int × Int)) : Int := if 12 < l.length then 8 else if l.all okP then 0 else 2

theorem okP_yes {p : Int × Int} (h1 : withinB p.1 1 500 = true) (h2 : withinB p.2 1 500 = true) : okP p = true := by unfold okP; rw [h1, h2]; rfl
theorem okP_no1 {p : Int × Int} (h1 : withinB p.1 1 500 = false) : okP p = false := by unfold okP; rw [h1]; rfl
theorem okP_no2 {p : Int × Int} (h1 : withinB p.2 1 500 = false) : okP p = false := by unfold okP; rw [h1]; simp
theorem okP_part {p : Int × Int} (h : okP p = true) : 1 ≤ p.1 ∧ p.1 ≤ 500 ∧ 1 ≤ p.2 ∧ p.2 ≤ 500 := by
  unfold okP at h
  rw [Bool.and_eq_true, withinB_iff, withinB_iff] at h
  exact ⟨h.1.1, h.1.2, h.2.1, h.2.2⟩
theorem all_take_succ {l : List (Int × Int)} {k : Nat} {p : Int × Int} (h : (l.take k).all okP = true) (hp : l[k]? = some p) (ho : okP p = true) : (l.take (k + 1)).all okP = true := by
  rw [List.take_add_one, hp, List.all_append, h]; simp [ho]
theorem all_no {l : List (Int × Int)} {k : Nat} {p : Int × Int} (hp : l[k]? = some p) (ho : okP p = false) : l.all okP = false := by
  rw [List.all_eq_false]
  exact ⟨p, List.mem_of_getElem? hp, by rw [ho]; exact Bool.false_ne_true⟩



/-- What a train does: each product is handed to a step; false: one is not small. -/
def trainF {σ : Type} (step : σ → Int × Int → σ) : σ → Int × Int → List (Int × Int) → σ × Bool
  | s, _, [] => (s, true)
  | s, f, g :: l => if smallB (f.1 * g.1) (f.2 * g.2) then trainF step (step s (redN (f.1 * g.1) (f.2 * g.2), redD (f.1 * g.1) (f.2 * g.2))) (redN (f.1 * g.1) (f.2 * g.2), redD (f.1 * g.1) (f.2 * g.2)) l else (s, false)

/-- What a function value that is called leaves as it was: all blocks from B on. -/
structure Keeps (B : Nat) (w w' : World) : Prop where
  size : w.heap.size ≤ w'.heap.size
  block : ∀ k, B ≤ k → k < w.heap.size → w'.heap[k]? = w.heap[k]?

theorem Keeps.blk {B : Nat} {w w' : World} (h : Keeps B w w') {g : Nat} {t : TypeId} {cs : Array Value} (hg : Blk w g t cs) (hB : B ≤ g) : Blk w' g t cs := (h.block g hB hg.lt).trans hg

/-- What a function value does with a state that lies below B. -/
structure Each (B : Nat) (k : FuncId) (caps : Array Value) {σ : Type} (Inv : σ → World → Prop) (step : σ → Int × Int → σ) : Prop where
  ent : ∀ (args : Array Value) (w : World), (callFunc k args).run Try.prog w = .ok (.enter k args) w
  call : ∀ (s : σ) (w : World) (f : Int × Int), B ≤ w.heap.size → Inv s w → Part f.1 → Part f.2 →
    Calls Try.prog k (#[.agg #[.int .i64 f.1, .int .i64 f.2]] ++ caps) w fun e w' => e = .returned (.tuple #[]) ∧ Inv (step s f) w' ∧ Keeps B w w'
  keep : ∀ (s : σ) (w w' : World), Inv s w → Below B w w' → Inv s w'

theorem part_bound {a b : Int} (h : Part a) (h1 : 1 ≤ b) (h2 : b ≤ 500) : 1 ≤ a * b ∧ a * b ≤ 500000000000 := by
  obtain ⟨p1, p2⟩ := h
  have m1 := Int.mul_le_mul p1 h1 (by omega) (by omega)
  have m2 := Int.mul_le_mul p2 h2 (by omega) (by omega)
  omega



end Go.Proofs.Ytgamepmipoociaa

end
