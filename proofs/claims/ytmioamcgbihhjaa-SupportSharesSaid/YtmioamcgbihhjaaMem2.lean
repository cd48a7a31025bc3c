/- More lemmas on memory: what is owned, a call of append, the frame of a function that appends through a pointer. -/
import Derived.Test.YtmioamcgbihhjaaMem
namespace Go.Proofs.Ytmioamcgbihhjaa
open Go.RowKit

/-- What is owned stays owned where its block is as it was. -/
theorem own_same {w w' : World} {base : Nat} {e : TypeId} {size n : Nat} {v : Value} {xs : List Value} (h : w.ownsRow base e size v n xs) (hb : ∀ g, v.ownBlock = some g → w'.heap[g]? = w.heap[g]?) : w'.ownsRow base e size v n xs := by
  obtain ⟨h1, h2⟩ := h
  refine ⟨h1, h2.imp id fun ⟨g, cap, cur, hv, hg, hh, r⟩ => ⟨g, cap, cur, hv, hg, ?_, r⟩⟩
  rw [hb g (by rw [hv]; rfl)]; exact hh
theorem own_lt {w : World} {base : Nat} {e : TypeId} {size n : Nat} {v : Value} {xs : List Value} (h : w.ownsRow base e size v n xs) {g : Nat} (hg : v.ownBlock = some g) : base ≤ g ∧ g < w.heap.size := by
  rcases h.2 with ⟨rfl, _⟩ | ⟨g', cap, cur, rfl, hb, hh, _⟩
  · simp [Value.ownBlock] at hg
  · have : g' = g := by simpa [Value.ownBlock] using hg
    subst this
    exact ⟨hb, (Array.getElem?_eq_some_iff.1 hh).1⟩
theorem own_below {w w' : World} {base B : Nat} {e : TypeId} {size n : Nat} {v : Value} {xs : List Value} (h : w.ownsRow base e size v n xs) (hb : Below B w w') (hB : w.heap.size ≤ B) : w'.ownsRow base e size v n xs :=
  own_same h fun g hg => hb.block g (by have := (own_lt h hg).2; omega)
theorem own_set {w : World} {base : Nat} {e : TypeId} {size n : Nat} {v : Value} {xs : List Value} (h : w.ownsRow base e size v n xs) {p : Addr} (hp : v.ownBlock ≠ some p.block) (u : Value) : (w.setCell p u).ownsRow base e size v n xs :=
  own_same h fun g hg => Below.heap_setCell _ _ _ _ (fun e => hp (by rw [hg, e]))
theorem own_drewN {w : World} {base : Nat} {e : TypeId} {size n : Nat} {v : Value} {xs : List Value} (h : w.ownsRow base e size v n xs) (k : Nat) : (w.drewN k).ownsRow base e size v n xs := h

/-- A call of append, run. -/
theorem exec_append {P : Program} {o : Oper} {a : Act} {w w' : World} {v' : Value} (s x : Operand) (t : TypeId) (ho : o.op = .call { callee := .builtin .append, args := #[s, x], argTypes := #[t, t] })
    (hrun : (Builtin.append_ #[t, t] o.type #[a.eval s, a.eval x]).run P w = .ok v' w') : (execOp a.eval o).run P w = .ok (.value v') w' := by
  unfold execOp
  simp only [ho, resolve, invoke, builtin, Sem.run_bind, Sem.run_pure, Result.andThen_ok, List.map_toArray, List.map_cons, List.map_nil, hrun]

/-- The frame of a function that appends to a slice in the cell of block ob, and writes nothing else that was there. -/
structure Fr (ob : Nat) (v v' : Value) (w w' : World) : Prop where
  os : w'.os = w.os
  tape : w'.tape = w.tape
  output : w'.output = w.output
  size : w.heap.size ≤ w'.heap.size
  block : ∀ k, k < w.heap.size → k ≠ ob → v.ownBlock ≠ some k → w'.heap[k]? = w.heap[k]?
  row : v'.ownBlock = v.ownBlock ∨ ∃ g, v'.ownBlock = some g ∧ w.heap.size ≤ g

theorem Fr.of_below {ob : Nat} {v : Value} {w w' : World} (h : Below w.heap.size w w') : Fr ob v v w w' := ⟨h.os, h.tape, h.output, h.size, fun k hk _ _ => h.block k hk, .inl rfl⟩
theorem Fr.trans {ob : Nat} {v v1 v2 : Value} {w w1 w2 : World} (h : Fr ob v v1 w w1) (k : Fr ob v1 v2 w1 w2) : Fr ob v v2 w w2 := by
  refine ⟨k.os.trans h.os, k.tape.trans h.tape, k.output.trans h.output, Nat.le_trans h.size k.size, fun i hi hne hv => ?_, ?_⟩
  · refine (k.block i (Nat.lt_of_lt_of_le hi h.size) hne ?_).trans (h.block i hi hne hv)
    rcases h.row with e | ⟨g, e, hg⟩
    · rw [e]; exact hv
    · rw [e]; intro hx; have : g = i := Option.some.inj hx; omega
  · rcases k.row with e | ⟨g, e, hg⟩
    · rw [e]; exact h.row
    · exact .inr ⟨g, e, Nat.le_trans h.size hg⟩
theorem Fr.below {ob B : Nat} {v v' : Value} {w w' : World} (h : Fr ob v v' w w') (hB : B ≤ ob) (hs : ob ≤ w.heap.size) (hv : ∀ g, v.ownBlock = some g → B ≤ g) : Below B w w' :=
  ⟨h.os, h.tape, h.output, h.size, fun k hk => h.block k (by omega) (by omega) (fun e => by have := hv k e; omega)⟩
theorem Fr.blk {ob : Nat} {v v' : Value} {w w' : World} (h : Fr ob v v' w w') {g : Nat} {t : TypeId} {cs : Array Value} (hg : Blk w g t cs) (hne : g ≠ ob) (hv : v.ownBlock ≠ some g) : Blk w' g t cs := (h.block g hg.lt hne hv).trans hg

end Go.Proofs.Ytmioamcgbihhjaa
