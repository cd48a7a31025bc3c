import Derived.Test.YtclnffpfbngjoaaQ1
import Derived.Maps.Own
import Derived.Maps.OwnOps
import Derived.Maps.OwnSet
import Derived.StringKeys

section
/- More lemmas on memory: what is owned, a call of append, the frame of a function that appends through a pointer. -/
namespace Go.Proofs.Ytclnffpfbngjoaa
open Go.RowKit

/-- What is owned stays owned where its block is as it was. -/
theorem own_same {w w' : World} {base : Nat} {e : TypeId} {size n : Nat} {v : Value} {xs : List Value} (h : w.ownsRow base e size v n xs) (hb : ∀ g, v.ownBlock = some g → w'.heap[g]? = w.heap[g]?) : w'.ownsRow base e size v n xs := by
  obtain ⟨h1, h2⟩ := h
  refine ⟨h1, h2.imp id fun ⟨g, cap, cur, hv, hg, hh, r⟩ => ⟨g, cap, cur, hv, hg, ?_, r⟩⟩
  rw [hb g (by rw [hv]; rfl)]; exact hh
theorem own_lt {w : World} {base : Nat} {e : TypeId} {size n : Nat} {v : Value} {xs : List Value} (h : w.ownsRow base e size v n xs) {g : Nat} (hg : v.ownBlock = some g) : base ≤ g ∧ g < w.heap.size := by
  rcases h.2 with ⟨rfl, _⟩ | ⟨g', cap, cur, rfl, hb, hh, _⟩
  · simp [Value.ownBlock] at hg
  · have : g' = g := by simpa [Value.ownBlock] using hg
    subst this
    exact ⟨hb, (Array.getElem?_eq_some_iff.1 hh).1⟩
theorem own_below {w w' : World} {base B : Nat} {e : TypeId} {size n : Nat} {v : Value} {xs : List Value} (h : w.ownsRow base e size v n xs) (hb : Below B w w') (hB : w.heap.size ≤ B) : w'.ownsRow base e size v n xs :=
  own_same h fun g hg => hb.block g (by have := (own_lt h hg).2; omega)
theorem own_set {w : World} {base : Nat} {e : TypeId} {size n : Nat} {v : Value} {xs : List Value} (h : w.ownsRow base e size v n xs) {p : Addr} (hp : v.ownBlock ≠ some p.block) (u : Value) : (w.setCell p u).ownsRow base e size v n xs :=
  own_same h fun g hg => Below.heap_setCell _ _ _ _ (fun e => hp (by rw [hg, e]))
theorem own_drewN {w : World} {base : Nat} {e : TypeId} {size n : Nat} {v : Value} {xs : List Value} (h : w.ownsRow base e size v n xs) (k : Nat) : (w.drewN k).ownsRow base e size v n xs := h

/-- A call of append, run. -/
theorem exec_append {P : Program} {o : Oper} {a : Act} {w w' : World} {v' : Value} (s x : Operand) (t : TypeId) (ho : o.op = .call { callee := .builtin .append, args := #[s, x], argTypes := #[t, t] })
    (hrun : (Builtin.append_ #[t, t] o.type #[a.eval s, a.eval x]).run P w = .ok v' w') : (execOp a.eval o).run P w = .ok (.value v') w' := by
  unfold execOp
  simp only [ho, resolve, invoke, builtin, Sem.run_bind, Sem.run_pure, Result.andThen_ok, List.map_toArray, List.map_cons, List.map_nil, hrun]

/-- The frame of a function that appends to a slice in the cell of block ob, and writes nothing else that was there. -/
structure Fr (ob : Nat) (v v' : Value) (w w' : World) : Prop where
  os : w'.os = w.os
  tape : w'.tape = w.tape
  output : w'.output = w.output
  size : w.heap.size ≤ w'.heap.size
  block : ∀ k, k < w.heap.size → k ≠ ob → v.ownBlock ≠ some k → w'.heap[k]? = w.heap[k]?
  row : v'.ownBlock = v.ownBlock ∨ ∃ g, v'.ownBlock = some g ∧ w.heap.size ≤ g

theorem Fr.of_below {ob : Nat} {v : Value} {w w' : World} (h : Below w.heap.size w w') : Fr ob v v w w' := ⟨h.os, h.tape, h.output, h.size, fun k hk _ _ => h.block k hk, .inl rfl⟩
theorem Fr.trans {ob : Nat} {v v1 v2 : Value} {w w1 w2 : World} (h : Fr ob v v1 w w1) (k : Fr ob v1 v2 w1 w2) : Fr ob v v2 w w2 := by
  refine ⟨k.os.trans h.os, k.tape.trans h.tape, k.output.trans h.output, Nat.le_trans h.size k.size, fun i hi hne hv => ?_, ?_⟩
  · refine (k.block i (Nat.lt_of_lt_of_le hi h.size) hne ?_).trans (h.block i hi hne hv)
    rcases h.row with e | ⟨g, e, hg⟩
    · rw [e]; exact hv
    · rw [e]; intro hx; have : g = i := Option.some.inj hx; omega
  · rcases k.row with e | ⟨g, e, hg⟩
    · rw [e]; exact h.row
    · exact .inr ⟨g, e, Nat.le_trans h.size hg⟩
theorem Fr.below {ob B : Nat} {v v' : Value} {w w' : World} (h : Fr ob v v' w w') (hB : B ≤ ob) (hs : ob ≤ w.heap.size) (hv : ∀ g, v.ownBlock = some g → B ≤ g) : Below B w w' :=
  ⟨h.os, h.tape, h.output, h.size, fun k hk => h.block k (by omega) (by omega) (fun e => by have := hv k e; omega)⟩
theorem Fr.blk {ob : Nat} {v v' : Value} {w w' : World} (h : Fr ob v v' w w') {g : Nat} {t : TypeId} {cs : Array Value} (hg : Blk w g t cs) (hne : g ≠ ob) (hv : v.ownBlock ≠ some g) : Blk w' g t cs := (h.block g hg.lt hne hv).trans hg

end Go.Proofs.Ytclnffpfbngjoaa

end

section
/- Contracts of the search of the best pair of gears. -/
namespace Go.Proofs.Ytclnffpfbngjoaa
open Go.RowKit

def cmpI (a b : Int) : Int := if a < b then -1 else if b < a then 1 else 0

/-- By how much a pair misses a ratio. -/
def offF (rn rd gd gv : Int) : Int := ((rn * gv - gd * rd).natAbs : Int)
def cmpF (rn rd : Int) (g h : Int × Int) : Int := cmpI (offF rn rd g.1 g.2 * h.2) (offF rn rd h.1 h.2 * g.2)

def orF (x y z : Int) : Int := if x ≠ 0 then x else if y ≠ 0 then y else z


/-- Is a pair better than another one? -/
def betterB (rn rd : Int) (g h : Int × Int) : Bool :=
  decide (orF (cmpF rn rd g h) (cmpI (g.1 + g.2) (h.1 + h.2)) (cmpI g.1 h.1) < 0)
def stepF (rn rd : Int) (o g : Int × Int) : Int × Int := if betterB rn rd g o then g else o
/-- The best pair so far: rows of drivers. -/
def rowF (rn rd : Int) (lo : Int) (m : Nat) (d : Int) (o : Int × Int) : Int × Int := (List.range m).foldl (fun o (j : Nat) => stepF rn rd o (d, lo + (j : Int))) o
def bestF (rn rd : Int) (lo : Int) (m k : Nat) : Int × Int := (List.range k).foldl (fun o (i : Nat) => rowF rn rd lo m (lo + (i : Int)) o) (lo, lo)
end Go.Proofs.Ytclnffpfbngjoaa

end

section
/- Contracts of the check of a search for gears, and of the best pair. -/
namespace Go.Proofs.Ytclnffpfbngjoaa
open Go.RowKit

def searchErr (rn rd lo hi : Int) : Int :=
  if fracErr rn rd ≠ 0 then fracErr rn rd else if rn ≤ 0 ∨ withinB lo 1 500 = false ∨ withinB hi 1 500 = false then 2 else if hi < lo then 9 else 0


/-- The best pair between two numbers of teeth. -/
def bestP (rn rd lo hi : Int) : Int × Int := bestF rn rd lo (hi - lo + 1).toNat (hi - lo + 1).toNat

def PairPost (rn rd lo hi : Int) (w : World) (e : Ending) (w' : World) : Prop :=
  Below w.heap.size w w' ∧ (searchErr rn rd lo hi ≠ 0 → e = .returned (.tuple #[.agg #[.int .i64 0, .int .i64 0], .int .i64 (searchErr rn rd lo hi)])) ∧
  (searchErr rn rd lo hi = 0 → e = .returned (.tuple #[.agg #[.int .i64 (bestP rn rd lo hi).1, .int .i64 (bestP rn rd lo hi).2], .int .i64 0]))


end Go.Proofs.Ytclnffpfbngjoaa

end

section
/- Steps from one named world to the next: what a call that only makes memory leaves as it was. -/
namespace Go.Proofs.Ytclnffpfbngjoaa
open Go.RowKit

section
variable {w W W1 : World}
theorem step_below (hb : Below W.heap.size W W1) (h : Below w.heap.size w W) : Below w.heap.size w W1 := h.trans (hb.mono h.size)
theorem step_belowAt {B : Nat} (hb : Below W.heap.size W W1) (h : Below B w W) (hB : B ≤ w.heap.size) : Below B w W1 := h.trans (hb.mono (Nat.le_trans hB h.size))
theorem step_blk {g : Nat} {t : TypeId} {cs : Array Value} (hb : Below W.heap.size W W1) (h : Blk W g t cs) : Blk W1 g t cs := h.below hb h.lt
theorem step_cell {b o : Nat} {v : Value} (hb : Below W.heap.size W W1) (h : W.cell? ⟨b, o, none⟩ = some v) (hp : b < W.heap.size) : W1.cell? ⟨b, o, none⟩ = some v := (hb.cell (p := ⟨b, o, none⟩) hp).trans h
end
theorem ret_bool {a b : Bool} (h : a = b) : Ending.returned (.bool a) = .returned (.bool b) := by rw [h]
end Go.Proofs.Ytclnffpfbngjoaa

end

section
/- Contracts of the reference's comparison of pairs of gears, and of its search. -/
namespace Go.Proofs.Ytclnffpfbngjoaa
open Go.RowKit

theorem abs_in (a : Int) (w : World) (h1 : -9223372036854775808 < a) (h2 : a ≤ 9223372036854775807) :
    Calls Try.prog 89 #[.int .i64 a] w fun e w' => e = .returned (.int .i64 (a.natAbs : Int)) ∧ w = w' :=
  (abs_any a w (by omega) h2).mono fun e w' ⟨he, hw⟩ => ⟨by rw [he]; exact ret_int (IntWalk.wrap64_in _ ⟨by omega, by omega⟩), hw⟩



def nearB (rn rd : Int) (g h : Int × Int) : Bool := decide (offF rn rd g.1 g.2 * h.2 < offF rn rd h.1 h.2 * g.2)




/-- The reference's search: by sums, then by the driver. -/
def rstepF (rn rd lo hi : Int) (o : Int × Int) (g : Int × Int) : Int × Int := if withinB g.2 lo hi && nearB rn rd g o then g else o
def rrowF (rn rd lo hi : Int) (s : Int) (m : Nat) (o : Int × Int) : Int × Int := (List.range m).foldl (fun o (i : Nat) => rstepF rn rd lo hi o (lo + (i : Int), s - (lo + (i : Int)))) o
def rbestF (rn rd lo hi : Int) (m k : Nat) : Int × Int := (List.range k).foldl (fun o (j : Nat) => rrowF rn rd lo hi (2 * lo + (j : Int)) m o) (lo, lo)
end Go.Proofs.Ytclnffpfbngjoaa

end

section
/- Contracts of the functions that tell which texts are names. -/
namespace Go.Proofs.Ytclnffpfbngjoaa
open Go.RowKit

def letterB (c : Nat) : Bool := decide (97 ≤ c ∧ c ≤ 122 ∨ 65 ≤ c ∧ c ≤ 90)
def restB (c : Nat) : Bool := letterB c || decide (c = 45 ∨ 48 ≤ c ∧ c ≤ 57)
def byteAt (s : ByteArray) (j : Nat) : Nat := (s.data.toList.getD j 0).toNat
def okAt (s : ByteArray) (j : Nat) : Bool := if j = 0 then letterB (byteAt s j) else restB (byteAt s j)
/-- Whether a text is a name. -/
def nameB (s : ByteArray) : Bool := (List.range s.size).all (okAt s) && decide (s.size ≠ 0) && decide (s.size ≤ 12)

theorem byteAt_get (s : ByteArray) (j : Nat) (h : j < s.size) : byteAt s j = (s[j]).toNat := by
  have h' : j < s.data.size := h
  unfold byteAt
  simp only [List.getD_eq_getElem?_getD, Array.getElem?_toList, h', Array.getElem?_eq_getElem, Option.getD_some]
  rfl



theorem name_bad {s : ByteArray} {k : Nat} (h : k < s.size) (ho : okAt s k = false) : nameB s = false := by
  have : (List.range s.size).all (okAt s) = false := List.all_eq_false.2 ⟨k, List.mem_range.2 h, by rw [ho]; simp⟩
  unfold nameB
  rw [this]; rfl

theorem name_step {s : ByteArray} {k : Nat} (ha : (List.range k).all (okAt s) = true) (ho : okAt s k = true) : (List.range (k + 1)).all (okAt s) = true := by
  rw [List.range_succ, List.all_append, ha]
  simp [ho]

theorem empty_iff (s : ByteArray) : s.toList = [] ↔ s.size = 0 := by
  rw [ByteArray.toList_eq]
  constructor
  · intro h
    have := congrArg List.length h
    simpa using this
  · intro h
    apply List.eq_nil_of_length_eq_zero
    simpa using h

theorem name_end (s : ByteArray) (ha : (List.range s.size).all (okAt s) = true) : nameB s = (!s.toList.isEmpty && decide ((s.size : Int) ≤ 12)) := by
  have e : s.toList.isEmpty = decide (s.size = 0) := by
    rw [Bool.eq_iff_iff, List.isEmpty_iff, decide_eq_true_iff]; exact empty_iff s
  unfold nameB
  rw [ha, e]
  by_cases h : s.size = 0
  · simp [h]
  · simp [h]; omega

set_option maxHeartbeats 4000000 in
theorem isnamept_any (s : ByteArray) (w : World) (hs : s.size ≤ maxLen) :
    Calls Try.prog 83 #[.string s] w fun e w' => e = .returned (.bool (nameB s)) ∧ w = w' := by
  unfold maxLen at hs
  go_enter Try.func83, Try.ntmps83
  go_wp2
  go_loop [7] (fun i => ∃ k : Nat, k ≤ s.size ∧ i = .int .i64 k ∧ (List.range k).all (okAt s) = true) (fun i => s.size - (intOf i).toNat)
  case atStart => exact ⟨0, Nat.zero_le _, rfl, rfl⟩
  case round =>
    obtain ⟨k, hk, rfl, ha⟩ := hrel
    have HA := Lib.hid ha
    clear ha
    by_cases hlt : k < s.size
    · have hb := byteAt_get s k hlt
      have HB := Lib.hid hb
      clear hb
      have hcs : (((97 : Int) ≤ ((s[k]).toNat : Int) ∧ ((s[k]).toNat : Int) ≤ 122) ∨ (¬ (97 : Int) ≤ ((s[k]).toNat : Int) ∧ (65 : Int) ≤ ((s[k]).toNat : Int) ∧ ((s[k]).toNat : Int) ≤ 90) ∨ (¬ (97 : Int) ≤ ((s[k]).toNat : Int) ∧ ¬ (65 : Int) ≤ ((s[k]).toNat : Int) ∧ ¬ k = 0 ∧ ((s[k]).toNat : Int) = 45) ∨ (¬ (97 : Int) ≤ ((s[k]).toNat : Int) ∧ ¬ (65 : Int) ≤ ((s[k]).toNat : Int) ∧ ¬ k = 0 ∧ ¬ ((s[k]).toNat : Int) = 45 ∧ ¬ ((s[k]).toNat : Int) < 48 ∧ ¬ 57 < ((s[k]).toNat : Int))) ∨ (((97 : Int) ≤ ((s[k]).toNat : Int) ∧ ¬ ((s[k]).toNat : Int) ≤ 122 ∧ (65 : Int) ≤ ((s[k]).toNat : Int) ∧ ¬ ((s[k]).toNat : Int) ≤ 90 ∧ k = 0) ∨ (¬ (97 : Int) ≤ ((s[k]).toNat : Int) ∧ ¬ (65 : Int) ≤ ((s[k]).toNat : Int) ∧ k = 0) ∨ (¬ (97 : Int) ≤ ((s[k]).toNat : Int) ∧ (65 : Int) ≤ ((s[k]).toNat : Int) ∧ ¬ ((s[k]).toNat : Int) ≤ 90 ∧ k = 0) ∨ ((97 : Int) ≤ ((s[k]).toNat : Int) ∧ ¬ ((s[k]).toNat : Int) ≤ 122 ∧ (65 : Int) ≤ ((s[k]).toNat : Int) ∧ ¬ ((s[k]).toNat : Int) ≤ 90 ∧ ¬ k = 0 ∧ ¬ ((s[k]).toNat : Int) = 45 ∧ ¬ ((s[k]).toNat : Int) < 48 ∧ 57 < ((s[k]).toNat : Int)) ∨ (¬ (97 : Int) ≤ ((s[k]).toNat : Int) ∧ (65 : Int) ≤ ((s[k]).toNat : Int) ∧ ¬ ((s[k]).toNat : Int) ≤ 90 ∧ ¬ k = 0 ∧ ¬ ((s[k]).toNat : Int) = 45 ∧ ¬ ((s[k]).toNat : Int) < 48 ∧ 57 < ((s[k]).toNat : Int)) ∨ (¬ (97 : Int) ≤ ((s[k]).toNat : Int) ∧ ¬ (65 : Int) ≤ ((s[k]).toNat : Int) ∧ ¬ k = 0 ∧ ¬ ((s[k]).toNat : Int) = 45 ∧ ((s[k]).toNat : Int) < 48) ∨ (¬ (97 : Int) ≤ ((s[k]).toNat : Int) ∧ ¬ (65 : Int) ≤ ((s[k]).toNat : Int) ∧ ¬ k = 0 ∧ ¬ ((s[k]).toNat : Int) = 45 ∧ ¬ ((s[k]).toNat : Int) < 48 ∧ 57 < ((s[k]).toNat : Int))) := by omega
      rcases hcs with hcs | hcs
      · have HX := Lib.hid (show okAt s k = true from by unfold okAt letterB restB letterB; rw [HB.out]; split <;> simp <;> omega)
        rcases hcs with ⟨h0, h1⟩ | ⟨h0, h1, h2⟩ | ⟨h0, h1, h2, h3⟩ | ⟨h0, h1, h2, h3, h4, h5⟩
        all_goals
          go_wp2
          go_round
          case rel => exact ⟨k + 1, by omega, by go_num, name_step HA.out HX.out⟩
          case measure => simp [intOf]; omega
      · have HX := Lib.hid (name_bad hlt (show okAt s k = false from by unfold okAt letterB restB letterB; rw [HB.out]; split <;> simp <;> omega))
        rcases hcs with ⟨h0, h1, h2, h3, h4⟩ | ⟨h0, h1, h2⟩ | ⟨h0, h1, h2, h3⟩ | ⟨h0, h1, h2, h3, h4, h5, h6, h7⟩ | ⟨h0, h1, h2, h3, h4, h5, h6⟩ | ⟨h0, h1, h2, h3, h4⟩ | ⟨h0, h1, h2, h3, h4, h5⟩
        all_goals
          try subst_vars
          try have e45 : (((s[k]).toNat : Int) != 45) = true := bne_iff_ne.2 (by assumption)
          go_wp2
          go_ret
          exact ⟨ret_bool HX.out.symm, rfl⟩
    · have hkn : k = s.size := by omega
      have HE := Lib.hid (name_end s (hkn ▸ HA.out))
      clear hkn
      go_wp2
      all_goals go_ret
      · have hn : s.toList = [] := by assumption
        exact ⟨ret_bool (by rw [HE.out]; simp [hn]), rfl⟩
      · exact ⟨ret_bool HE.out.symm, rfl⟩

end Go.Proofs.Ytclnffpfbngjoaa

end

section
/- A map with strings as keys that the program has made, said as a function from strings to values. -/
namespace Go.Proofs.Ytclnffpfbngjoaa
open Go.RowKit Go.Maps Go.WideShapes Go.MapKept

/-- A value read as itself. -/
def heldR (v : Value) : Option (DataW Value × List MemPlace) := some (.held v, [])
def keyS (s : ByteArray) : Lit := .string s.data.toList

theorem keyS_inj {s t : ByteArray} (h : keyS s = keyS t) : s = t := by
  unfold keyS at h
  injection h with h
  cases s; cases t; congr; exact Array.toList_inj.1 h

/-- Block b is a map of at most n entries, with M's values at M's keys. -/
def MapIs (P : Program) (k : TypeId) (w : World) (b n : Nat) (M : ByteArray → Option Value) : Prop :=
  ∃ D : DataW Value, w.ownsMap P k heldR b n D ∧ ∀ s, match M s with
    | none => Maps.has D (keyS s) = false
    | some v => Maps.has D (keyS s) = true ∧ ∀ z, D.atKey (keyS s) z = .held v

section
variable {P : Program} {k t e : TypeId} {w w' : World} {b n : Nat} {M : ByteArray → Option Value}

theorem MapIs.made (w : World) (P : Program) (k : TypeId) : MapIs P k (w.alloc (.map #[] 0)) w.heap.size 0 (fun _ => none) :=
  ⟨.map [], World.ownsMap_made w P k heldR, fun s => rfl⟩
theorem MapIs.lt (h : MapIs P k w b n M) : b < w.heap.size := by obtain ⟨D, h, _⟩ := h; exact h.lt
theorem MapIs.mono (h : MapIs P k w b n M) {n' : Nat} (hn : n ≤ n') : MapIs P k w b n' M := by obtain ⟨D, h, hm⟩ := h; exact ⟨D, h.mono hn, hm⟩
theorem MapIs.kept {row : Option Nat} (h : MapIs P k w b n M) (hg : w.grownBy w' row) (hne : some b ≠ row) : MapIs P k w' b n M := by obtain ⟨D, h, hm⟩ := h; exact ⟨D, h.kept hg hne, hm⟩
theorem MapIs.alloc (h : MapIs P k w b n M) (o : Obj) : MapIs P k (w.alloc o) b n M := by obtain ⟨D, h, hm⟩ := h; exact ⟨D, h.alloc o, hm⟩
theorem MapIs.drew (h : MapIs P k w b n M) : MapIs P k w.drew b n M := h
theorem MapIs.drewN (h : MapIs P k w b n M) (m : Nat) : MapIs P k (w.drewN m) b n M := h
theorem MapIs.below {B : Nat} (h : MapIs P k w b n M) (hb : Below B w w') (hB : b < B) : MapIs P k w' b n M := by
  obtain ⟨D, ⟨es, clock, h1, h2⟩, hm⟩ := h
  exact ⟨D, ⟨es, clock, (hb.block b hB).trans h1, h2⟩, hm⟩
theorem MapIs.set_ (h : MapIs P k w b n M) {a : Addr} (ha : b ≠ a.block) (u : Value) : MapIs P k (w.setCell a u) b n M := by
  obtain ⟨D, h, hm⟩ := h; exact ⟨D, h.setCell ha u, hm⟩
/-- 'm[s] = v'. -/
theorem MapIs.put (h : MapIs P k w b n M) (hk : P.underlying k = some .string) (ht : P.underlying t = some (.map k e)) (s : ByteArray) (hs : s.size ≤ maxLen) (hn : n < maxLen) (v : Value) :
    ∃ w', (Instr.mapUpdate t (.map (some b)) (.string s) v).run P w = .ok () w' ∧ MapIs P k w' b (n + 1) (fun u => if u = s then some v else M u) ∧ w.grownBy w' (some b) := by
  obtain ⟨D, h, hm⟩ := h
  have hkey : keyOf P k (.string s) = some (keyS s) := WideMaps.keyOf_string_mk hk hs
  obtain ⟨w', hrun, hown, hg⟩ := h.update (string_keyed hk) ht hn (val := v) (d := .held v) (ps := []) hkey rfl
  refine ⟨w', hrun, ⟨_, hown, fun u => ?_⟩, hg⟩
  have hmap : IsMap D := h.isMap
  have hlit : WideAt.IsKeyLit (keyS s) := by unfold keyS; trivial
  by_cases hu : u = s
  · subst hu
    simp only [if_true]
    exact ⟨has_put_same hmap hlit _, fun z => atKey_put_same hmap hlit _ z⟩
  · simp only [if_neg hu]
    have hne : keyS u ≠ keyS s := fun e => hu (keyS_inj e)
    have := hm u
    rw [has_put_other hne]
    cases hM : M u with
    | none => rw [hM] at this; exact this
    | some x => rw [hM] at this; exact ⟨this.1, fun z => by rw [atKey_put_other hne]; exact this.2 z⟩
end

section
variable {P : Program} {k t e : TypeId} {b n : Nat} {M : ByteArray → Option Value} {ops : Array Oper} {rest : List Oper} {o : Oper} {a : Act} {Q : Exit → Act → World → Prop}
end
end Go.Proofs.Ytclnffpfbngjoaa

end

section
/- Rockers: their values, and the contract of the check of one rocker behind others. -/
namespace Go.Proofs.Ytclnffpfbngjoaa
open Go.RowKit

structure Rk where
  name : ByteArray
  left : ByteArray
  right : ByteArray
  al : Int
  ar : Int

def Rk.cells (r : Rk) : List Value := [.string r.name, .string r.left, .string r.right, .int .i64 r.al, .int .i64 r.ar]
def Rk.val (r : Rk) : Value := .agg #[.string r.name, .string r.left, .string r.right, .int .i64 r.al, .int .i64 r.ar]
/-- The texts are no longer than a text can be. -/
structure Rk.Fits (r : Rk) : Prop where
  name : r.name.size ≤ maxLen
  left : r.left.size ≤ maxLen
  right : r.right.size ≤ maxLen

def rkErr (ex : Bool) (r : Rk) : Int :=
  if nameB r.name = false then 4 else if ex then 5 else if nameB r.left = false ∨ nameB r.right = false then 4
  else if withinB r.al 1 10000 = false ∨ withinB r.ar 1 10000 = false then 2 else 0

end Go.Proofs.Ytclnffpfbngjoaa

end

section
/- The contract of the check of a whole tree. -/
namespace Go.Proofs.Ytclnffpfbngjoaa
open Go.RowKit

def rkCells (l : List Rk) : List Value := l.flatMap Rk.cells
theorem rkCells_length (l : List Rk) : (rkCells l).length = l.length * 5 := by
  induction l with
  | nil => rfl
  | cons p l ih => simp only [rkCells, List.flatMap_cons, List.length_append, List.length_cons, List.length_nil, Rk.cells] at *; omega
theorem rkCells_get (l : List Rk) : ∀ (i : Nat) (h : i < l.length) (j : Nat), j < 5 → (rkCells l)[i * 5 + j]? = (l[i]).cells[j]? := by
  induction l with
  | nil => intro i h; simp at h
  | cons p l ih =>
    intro i h j hj
    have e : rkCells (p :: l) = p.cells ++ rkCells l := rfl
    have e5 : p.cells.length = 5 := rfl
    rw [e]
    cases i with
    | zero => rw [List.getElem?_append_left (by omega)]; simp
    | succ i =>
      rw [List.getElem?_append_right (by omega), e5, show (i + 1) * 5 + j - 5 = i * 5 + j from by omega]
      simpa using ih i (by simpa using h) j hj

theorem Reads.len5 {w : World} {B n : Nat} {A : Option Addr} {l : List Rk} (h : Reads w B 5 A n (rkCells l)) : l.length = n := by
  have := h.1; rw [rkCells_length] at this; omega

theorem Reads.rk {w : World} {B n : Nat} {A : Option Addr} {l : List Rk} (h : Reads w B 5 A n (rkCells l)) {i : Nat} (hi : i < n) :
    ∃ b o r, A = some ⟨b, o, none⟩ ∧ b < B ∧ l[i]? = some r ∧ w.cell? ⟨b, o + i * 5, none⟩ = some (.string r.name) ∧ w.cell? ⟨b, o + i * 5 + 1, none⟩ = some (.string r.left) ∧
      w.cell? ⟨b, o + i * 5 + 2, none⟩ = some (.string r.right) ∧ w.cell? ⟨b, o + i * 5 + 3, none⟩ = some (.int .i64 r.al) ∧ w.cell? ⟨b, o + i * 5 + 4, none⟩ = some (.int .i64 r.ar) := by
  obtain ⟨b, o, e, hb, hc⟩ := h.2 (by omega)
  have hl := h.len5
  have hg := rkCells_get l i (by omega)
  exact ⟨b, o, l[i]'(by omega), e, hb, List.getElem?_eq_getElem (by omega), hc _ _ (hg 0 (by omega)), hc _ _ (hg 1 (by omega)), hc _ _ (hg 2 (by omega)), hc _ _ (hg 3 (by omega)), hc _ _ (hg 4 (by omega))⟩

def idxOf (l : List Rk) (s : ByteArray) : Option Nat := l.findIdx? fun r => decide (r.name = s)
def idxM (l : List Rk) (s : ByteArray) : Option Value := (idxOf l s).map fun (i : Nat) => .int .i64 (i : Int)

/-- The error of the first loop: the first rocker that is not right behind those before it. -/
def err1 : List Rk → List Rk → Int
  | _, [] => 0
  | seen, r :: l => if rkErr (idxM seen r.name).isSome r = 0 then err1 (seen ++ [r]) l else rkErr (idxM seen r.name).isSome r

def bearerOf (l : List Rk) (s : ByteArray) : Option Nat := l.findIdx? fun r => decide (r.left = s ∨ r.right = s)
def borneAll (l : List Rk) : List ByteArray := l.flatMap fun r => [r.left, r.right]
def climbs (l : List Rk) : Nat → ByteArray → Bool
  | 0, s => (bearerOf l s).isSome
  | f + 1, s => match bearerOf l s with
    | none => false
    | some i => climbs l f (((l[i]?).map (·.name)).getD s)
def isTop (l : List Rk) (i : Nat) : Bool := match l[i]? with
  | some r => (bearerOf l r.name).isNone
  | none => false
def topsTo (l : List Rk) (k : Nat) : List Nat := (List.range k).filter (isTop l)
def topsOf (l : List Rk) : List Nat := topsTo l l.length
def openErr (l : List Rk) : Int :=
  if l.length = 0 then 10 else if 40 < l.length then 8 else if err1 [] l ≠ 0 then err1 [] l else if ¬ (borneAll l).Nodup then 13
  else if l.any (fun r => climbs l (l.length + 1) r.name) then 21 else if 1 < (topsOf l).length then 25 else 0
def topOf (l : List Rk) : Nat := (topsOf l).getLast?.getD 0

def pairsFrom (k : Nat) : List Rk → List (ByteArray × Nat)
  | [] => []
  | r :: l => (r.left, k) :: (r.right, k) :: pairsFrom (k + 1) l
def bM (ps : List (ByteArray × Nat)) (s : ByteArray) : Option Value := (ps.find? fun p => decide (p.1 = s)).map fun p => .int .i64 (p.2 : Int)
def upM (l : List Rk) (s : ByteArray) : Option Value := (bearerOf l s).map fun (i : Nat) => .int .i64 (i : Int)
end Go.Proofs.Ytclnffpfbngjoaa

end

section
/- Contracts of the comparisons of lists. -/
namespace Go.Proofs.Ytclnffpfbngjoaa
open Go.RowKit

/-- The cells of pairs of numbers. -/
def cells2 (l : List (Int × Int)) : List Value := l.flatMap fun p => [.int .i64 p.1, .int .i64 p.2]
theorem cells2_length (l : List (Int × Int)) : (cells2 l).length = l.length * 2 := by
  induction l with
  | nil => rfl
  | cons p l ih => simp only [cells2, List.flatMap_cons, List.length_append, List.length_cons, List.length_nil] at *; omega
theorem cells2_get (l : List (Int × Int)) : ∀ (i : Nat) (h : i < l.length), (cells2 l)[i * 2]? = some (.int .i64 (l[i]).1) ∧ (cells2 l)[i * 2 + 1]? = some (.int .i64 (l[i]).2) := by
  induction l with
  | nil => intro i h; simp at h
  | cons p l ih =>
    intro i h
    cases i with
    | zero => simp [cells2]
    | succ i =>
      have := ih i (by simpa using h)
      have e : cells2 (p :: l) = .int .i64 p.1 :: .int .i64 p.2 :: cells2 l := rfl
      rw [e, show (i + 1) * 2 = i * 2 + 1 + 1 from by omega]
      simpa using this

theorem Reads.pair {w : World} {B n : Nat} {A : Option Addr} {l : List (Int × Int)} (h : Reads w B 2 A n (cells2 l)) {i : Nat} (hi : i < n) :
    ∃ b o p, A = some ⟨b, o, none⟩ ∧ b < B ∧ l[i]? = some p ∧ w.cell? ⟨b, o + i * 2, none⟩ = some (.int .i64 p.1) ∧ w.cell? ⟨b, o + i * 2 + 1, none⟩ = some (.int .i64 p.2) := by
  obtain ⟨b, o, e, hb, hc⟩ := h.2 (by omega)
  have hl : l.length = n := by have := h.1; rw [cells2_length] at this; omega
  have hg := cells2_get l i (by omega)
  exact ⟨b, o, l[i]'(by omega), e, hb, List.getElem?_eq_getElem (by omega), hc _ _ hg.1, hc _ _ hg.2⟩

end Go.Proofs.Ytclnffpfbngjoaa

end

section
/- The contract of the shares of the points below a thing. -/
namespace Go.Proofs.Ytclnffpfbngjoaa
open Go.RowKit

/-- The points below a thing; none: not within so many steps. -/
def pts (l : List Rk) : Nat → ByteArray → Option (List ByteArray)
  | 0, s => match idxOf l s with
    | none => some [s]
    | some _ => none
  | f + 1, s => match idxOf l s with
    | none => some [s]
    | some i => match l[i]? with
      | none => none
      | some r => match pts l f r.left, pts l f r.right with
        | some a, some b => some (a ++ b)
        | _, _ => none

def redN (a b : Int) : Int := a / (Int.gcd a b : Int)
def redD (a b : Int) : Int := b / (Int.gcd a b : Int)

def join2 (a b : Option (List (Int × Int))) : Option (List (Int × Int)) := match a, b with
  | some x, some y => some (x ++ y)
  | _, _ => none

/-- The shares of the points below a thing; none: one is not small. -/
def sh (l : List Rk) : Nat → ByteArray → Int → Int → Option (List (Int × Int))
  | 0, _, n, d => some [(n, d)]
  | f + 1, s, n, d => match idxOf l s with
    | none => some [(n, d)]
    | some i => match l[i]? with
      | none => none
      | some r => if smallB (n * r.ar) (d * (r.al + r.ar)) && smallB (n * r.al) (d * (r.al + r.ar)) then
          join2 (sh l f r.left (redN (n * r.ar) (d * (r.al + r.ar))) (redD (n * r.ar) (d * (r.al + r.ar)))) (sh l f r.right (redN (n * r.al) (d * (r.al + r.ar))) (redD (n * r.al) (d * (r.al + r.ar))))
        else none

/-- Arms are from 1 to 10000. -/
def ArmsOK (l : List Rk) : Prop := ∀ r ∈ l, 1 ≤ r.al ∧ r.al ≤ 10000 ∧ 1 ≤ r.ar ∧ r.ar ≤ 10000
/-- A part of a fraction. -/
def Part (x : Int) : Prop := 1 ≤ x ∧ x ≤ 1000000000

end Go.Proofs.Ytclnffpfbngjoaa

end

section
/- The contracts of the check of a train of gears, of its products, and of Returns. -/
namespace Go.Proofs.Ytclnffpfbngjoaa
open Go.RowKit

/-- Both numbers are those of teeth. -/
def okP (p : Int × Int) : Bool := withinB p.1 1 500 && withinB p.2 1 500
def trainErr (l : List (Int × Int)) : Int := if 12 < l.length then 8 else if l.all okP then 0 else 2

/-- What a train does: each product is handed to a step; false: one is not small. -/
def trainF {σ : Type} (step : σ → Int × Int → σ) : σ → Int × Int → List (Int × Int) → σ × Bool
  | s, _, [] => (s, true)
  | s, f, g :: l => if smallB (f.1 * g.1) (f.2 * g.2) then trainF step (step s (redN (f.1 * g.1) (f.2 * g.2), redD (f.1 * g.1) (f.2 * g.2))) (redN (f.1 * g.1) (f.2 * g.2), redD (f.1 * g.1) (f.2 * g.2)) l else (s, false)

/-- What a function value that is called leaves as it was: all blocks from B on. -/
structure Keeps (B : Nat) (w w' : World) : Prop where
  size : w.heap.size ≤ w'.heap.size
  block : ∀ k, B ≤ k → k < w.heap.size → w'.heap[k]? = w.heap[k]?

theorem Keeps.blk {B : Nat} {w w' : World} (h : Keeps B w w') {g : Nat} {t : TypeId} {cs : Array Value} (hg : Blk w g t cs) (hB : B ≤ g) : Blk w' g t cs := (h.block g hB hg.lt).trans hg

/-- What a function value does with a state that lies below B. -/
structure Each (B : Nat) (k : FuncId) (caps : Array Value) {σ : Type} (Inv : σ → World → Prop) (step : σ → Int × Int → σ) : Prop where
  ent : ∀ (args : Array Value) (w : World), (callFunc k args).run Try.prog w = .ok (.enter k args) w
  call : ∀ (s : σ) (w : World) (f : Int × Int), B ≤ w.heap.size → Inv s w → Part f.1 → Part f.2 →
    Calls Try.prog k (#[.agg #[.int .i64 f.1, .int .i64 f.2]] ++ caps) w fun e w' => e = .returned (.tuple #[]) ∧ Inv (step s f) w' ∧ Keeps B w w'
  keep : ∀ (s : σ) (w w' : World), Inv s w → Below B w w' → Inv s w'

end Go.Proofs.Ytclnffpfbngjoaa

end

section
/- Contracts of the reference's products of fractions, and of the ratio of a pair of gears. -/
namespace Go.Proofs.Ytclnffpfbngjoaa
open Go.RowKit

/-- What the reference's product answers. -/
def madeV (a b : Int) : Value := if smallB a b then .tuple #[.agg #[.int .i64 (redN a b), .int .i64 (redD a b)], .int .i64 0] else .tuple #[.agg #[.int .i64 0, .int .i64 0], .int .i64 8]




end Go.Proofs.Ytclnffpfbngjoaa

end

section
/- The contract of Returns: the function value that it hands to the train, then the whole. -/
namespace Go.Proofs.Ytclnffpfbngjoaa
open Go.RowKit

/-- The turns so far, and whether they were too many. -/
def stepR (s : Int × Bool) (f : Int × Int) : Int × Bool := if s.2 then s else (s.1 / (Int.gcd s.1 f.2 : Int) * f.2, decide (1000000000 < s.1 / (Int.gcd s.1 f.2 : Int) * f.2))


/-- What the function value of Returns finds: its two variables, and all below them as it was. -/
structure InvR (w0 : World) (lb tb : Nat) (s : Int × Bool) (w : World) : Prop where
  low : Below w0.heap.size w0 w
  large : Blk w lb 4 #[.bool s.2]
  turns : Blk w tb 3 #[.int .i64 s.1]
  pos : 1 ≤ s.1
  most : s.1 ≤ 1000000000000000000
  small : s.2 = false → s.1 ≤ 1000000000



def trainR (l : List (Int × Int)) : (Int × Bool) × Bool := trainF stepR (stepR (1, false) (1, 1)) (1, 1) l
/-- When all axes are back, or an error. -/
def returnsF (l : List (Int × Int)) : Int × Int := if trainErr l ≠ 0 then (0, trainErr l) else if (trainR l).2 = false ∨ (trainR l).1.2 = true then (0, 8) else ((trainR l).1.1, 0)

def ReturnsPost (l : List (Int × Int)) (w : World) (e : Ending) (w' : World) : Prop := e = .returned (.tuple #[.int .i64 (returnsF l).1, .int .i64 (returnsF l).2]) ∧ Below w.heap.size w w'


end Go.Proofs.Ytclnffpfbngjoaa

end

section
/- What is owned, or a block of its own, reads as a list. -/
namespace Go.Proofs.Ytclnffpfbngjoaa
open Go.RowKit

theorem Blk.reads {w : World} {g n size : Nat} {t : TypeId} {xs : List Value} (h : Blk w g t xs.toArray) (hl : xs.length = n * size) : Reads w w.heap.size size (some ⟨g, 0, none⟩) n xs :=
  ⟨hl, fun _ => ⟨g, 0, rfl, h.lt, fun j u hu => by rw [Nat.zero_add, h.cell j]; simpa using hu⟩⟩

theorem Reads.of_adds' {w : World} {B n size : Nat} {g : Nat} {xs : List Value} (hl : xs.length = n * size) (hb : g < B) (hc : ∀ j u, xs[j]? = some u → w.cell? ((⟨g, 0, none⟩ : Addr).add j) = some u) : Reads w B size (some ⟨g, 0, none⟩) n xs :=
  ⟨hl, fun _ => ⟨g, 0, rfl, hb, fun j u hu => by have := hc j u hu; rwa [add_lit] at this⟩⟩

theorem own_base {w : World} {base base' : Nat} {e : TypeId} {size n : Nat} {v : Value} {xs : List Value} (hb : base ≤ base') (h : w.ownsRow base' e size v n xs) : w.ownsRow base e size v n xs := by
  obtain ⟨h1, h2⟩ := h
  exact ⟨h1, h2.imp id fun ⟨g, cap, cur, hv, hg, r⟩ => ⟨g, cap, cur, hv, by omega, r⟩⟩

theorem own_reads {w : World} {base n size : Nat} {e : TypeId} {v : Value} {xs : List Value} (h : w.ownsRow base e size v n xs) : ∃ A c, v = .slice A n c ∧ Reads w w.heap.size size A n xs := by
  have hc := @World.ownsRow.cells _ _ _ _ _ _ _ h
  obtain ⟨h1, h2⟩ := h
  rcases h2 with ⟨rfl, rfl⟩ | ⟨g, cap, cur, rfl, hg, hh, _⟩
  · exact ⟨none, 0, rfl, h1, fun hn => absurd hn (by simp)⟩
  · refine ⟨some ⟨g, 0, none⟩, cap, rfl, Reads.of_adds' h1 (Array.getElem?_eq_some_iff.1 hh).1 (hc rfl)⟩

section
variable {P : Program} {ops : Array Oper} {Q : Exit → Act → World → Prop} {o : Oper} {rest : List Oper} {a : Act}
/-- A call of append whose run is known. -/
theorem wpList_app (w w' : World) (v' : Value) (hg : o.guard = none) (s x : Operand) (t : TypeId) (hop : o.op = .call { callee := .builtin .append, args := #[s, x], argTypes := #[t, t] }) (sv xv : Value) (hs : a.eval s = sv) (hx : a.eval x = xv)
    (hrun : (Builtin.append_ #[t, t] o.type #[sv, xv]).run P w = .ok v' w') (hK : wpList P ops Q rest (a.put o.dst v') w') : wpList P ops Q (o :: rest) a w := by
  refine wpList_plain hg fun K' hK' => ?_
  subst hs hx
  unfold Oper.wp
  rw [exec_append s x t hop hrun]
  exact hK' _ _ hK
end

end Go.Proofs.Ytclnffpfbngjoaa

end
