import Derived.Test.YtclnffpfbngjoaaQ11

section
/- The class of worlds of a region whose order is left open, in which one list is appended to and the new list is stored into a cell: 's.f = append(s.f, x)'. -/
namespace Go.Proofs.Ytclnffpfbngjoaa
open Go Go.RowKit

def rowL (g : Option Pick) (xs us : List Value) : List Value := match g with | some _ => xs ++ us | none => xs

/-- The list is appended to by operation pa, whose element us lies in memory that operation sb makes; operation st stores it into cell ix of block fb. -/
structure As (B : Nat) (e : TypeId) (sz : Nat) (va : Value) (n : Nat) (xs us : List Value) (sb pa st : Nat) (fb : Nat) (ft : TypeId) (cs : Array Value) (ix : Nat) (W : World) (g : Nat → Option Pick) (f : Nat → Bool) (w' : World) : Prop where
  os : w'.os = W.os
  tape : w'.tape = W.tape
  output : w'.output = W.output
  size : W.heap.size ≤ w'.heap.size
  keep : ∀ i, i < W.heap.size → va.ownBlock ≠ some i → i ≠ fb → w'.heap[i]? = W.heap[i]?
  fld : f st = false → Blk w' fb ft cs
  fld' : f st = true → Blk w' fb ft (cs.setIfInBounds ix (rowV (g pa) va n))
  own : w'.ownsRow B e sz (rowV (g pa) va n) (rowN (g pa) n) (rowL (g pa) xs us)
  ownf : (rowV (g pa) va n).ownBlock ≠ some fb
  flt : fb < W.heap.size
  lit : ∀ x, g sb = some x → g pa = none → ∃ b, x.1 = some ⟨b, 0, none⟩ ∧ W.heap.size ≤ b ∧ Blk w' b e us.toArray ∧ va.ownBlock ≠ some b

section
variable {B : Nat} {e : TypeId} {sz : Nat} {va : Value} {n : Nat} {xs us : List Value} {sb pa st : Nat} {fb : Nat} {ft : TypeId} {cs : Array Value} {ix : Nat} {W w' w'' : World} {g : Nat → Option Pick} {f : Nat → Bool}

theorem As.start (ho : W.ownsRow B e sz va n xs) (hf : Blk W fb ft cs) (hne : va.ownBlock ≠ some fb) (h0 : f st = false) (k : Nat) : As B e sz va n xs us sb pa st fb ft cs ix W (fun _ => none) f (W.drewN k) :=
  ⟨rfl, rfl, rfl, Nat.le_refl _, fun _ _ _ _ => rfl, fun _ => hf, fun h => (by rw [h0] at h; cases h), ho, hne, hf.lt, fun x h => by cases h⟩
theorem As.same {k : Nat} (h : As B e sz va n xs us sb pa st fb ft cs ix W g f w') (hk : k ≠ st) : As B e sz va n xs us sb pa st fb ft cs ix W g (Fx.add f k) w' :=
  ⟨h.os, h.tape, h.output, h.size, h.keep, fun q => h.fld (by rwa [add_ne' hk] at q), fun q => h.fld' (by rwa [add_ne' hk] at q), h.own, h.ownf, h.flt, h.lit⟩
theorem As.call {k : Nat} (h : As B e sz va n xs us sb pa st fb ft cs ix W g f w') (hb : Below w'.heap.size w' w'') (hk : k ≠ st) : As B e sz va n xs us sb pa st fb ft cs ix W g (Fx.add f k) w'' := by
  have hbl : ∀ i, i < w'.heap.size → w''.heap[i]? = w'.heap[i]? := fun i hi => hb.block i hi
  refine ⟨hb.os.trans h.os, hb.tape.trans h.tape, hb.output.trans h.output, Nat.le_trans h.size hb.size, fun i hi k1 k2 => (hbl i (Nat.lt_of_lt_of_le hi h.size)).trans (h.keep i hi k1 k2), fun q => ?_, fun q => ?_, own_below h.own hb (Nat.le_refl _), h.ownf, h.flt, fun x hx hn => ?_⟩
  · rw [add_ne' hk] at q; exact step_blk' hb (h.fld q)
  · rw [add_ne' hk] at q; exact step_blk' hb (h.fld' q)
  · obtain ⟨b, h1, h2, h3, h4⟩ := h.lit x hx hn
    exact ⟨b, h1, h2, step_blk' hb h3, h4⟩
where
  step_blk' {q : Nat} {t : TypeId} {c : Array Value} {w1 w2 : World} (hb : Below w1.heap.size w1 w2) (h : Blk w1 q t c) : Blk w2 q t c := h.below hb h.lt
theorem As.mk_lit (h : As B e sz va n xs us sb pa st fb ft cs ix W g f w') (h1 : pa ≠ sb) (h2 : sb ≠ st) :
    As B e sz va n xs us sb pa st fb ft cs ix W (Fx.upd g sb (some ⟨w'.heap.size, 0, none⟩, 0)) (Fx.add f sb) (w'.alloc (.cells us.toArray e)) := by
  have e1 : Fx.upd g sb (some ⟨w'.heap.size, 0, none⟩, 0) pa = g pa := upd_ne h1
  refine ⟨h.os, h.tape, h.output, Nat.le_trans h.size (by simp), fun i hi k1 k2 => (Below.heap_alloc w' _ i (Nat.lt_of_lt_of_le hi h.size)).trans (h.keep i hi k1 k2), fun q => ?_, fun q => ?_, ?_, ?_, h.flt, fun x hx hn => ?_⟩
  · rw [add_ne' h2] at q; exact (h.fld q).alloc _
  · rw [add_ne' h2] at q; rw [e1]; exact (h.fld' q).alloc _
  · rw [e1]; exact h.own.alloc _
  · rw [e1]; exact h.ownf
  · rw [Fx.upd_same] at hx
    cases hx
    rw [e1] at hn
    have ho := h.own
    simp only [hn, rowV, rowN, rowL] at ho
    exact ⟨w'.heap.size, rfl, h.size, Blk.new _ _ _, fun hq => by have := (own_lt ho hq).2; omega⟩
theorem As.app {P : Program} {t ty : TypeId} {z : Value} {bytes c : Nat} (h : As B e sz va n xs us sb pa st fb ft cs ix W g f w') (ht : P.underlying t = some (.slice e)) (hi : (P.info? e).map (fun i => (i.zero, i.size, i.bytes)) = some (some z, sz, bytes)) (hzs : z.cells.size = sz) (hsz : 0 < sz) (hu : ∀ x ∈ us, x.oneCell' = true) (hul : us.length = sz)
    (hB : B ≤ W.heap.size) (hn : n + 1 ≤ maxLen) (hby : (n + 1) * bytes ≤ 140737488355328) {x : Pick} (hx : g sb = some x) (hp : g pa = none) (h1 : sb ≠ pa) (h2 : pa ≠ st) (hst : f st = false) :
    ∃ (y : Pick) (w2 : World), (Builtin.append_ #[t, t] ty #[va, .slice x.1 1 c]).run P w' = .ok (.slice y.1 (n + 1) y.2) w2 ∧ As B e sz va n xs us sb pa st fb ft cs ix W (Fx.upd g pa y) (Fx.add f pa) w2 := by
  obtain ⟨b, hb, hle, hk, q1⟩ := h.lit x hx hp
  have ho := h.own
  have hof := h.ownf
  simp only [hp, rowV, rowN, rowL] at ho hof
  obtain ⟨i0, hi0, hz0, hz1, hz2⟩ := info_parts hi
  obtain ⟨v', w2, hrun, ho2, hg, hrow⟩ := run_append_any (P := P) w' B t ty e i0 z sz bytes ht hi0 hz0 hz1 hz2 hzs hsz va n xs ho w'.heap.size x.1 1 c us (by rw [hb]; exact Blk.reads hk (by omega)) hu hn hby (Nat.le_trans hB h.size)
  obtain ⟨A', c', rfl, -⟩ := own_reads ho2
  have e3 : Fx.upd g pa (A', c') pa = some (A', c') := Fx.upd_same
  have hbl : ∀ i, va.ownBlock ≠ some i → i < w'.heap.size → w2.heap[i]? = w'.heap[i]? := fun i hne hlt => hg.block i hlt (fun e => hne e.symm)
  have hflt : fb < w'.heap.size := Nat.lt_of_lt_of_le h.flt h.size
  refine ⟨(A', c'), w2, hrun, hg.os.trans h.os, hg.tape.trans h.tape, hg.output.trans h.output, Nat.le_trans h.size hg.size, fun i hi k1 k2 => (hbl i k1 (Nat.lt_of_lt_of_le hi h.size)).trans (h.keep i hi k1 k2), fun _ => (hbl fb hof hflt).trans (h.fld hst), fun q => ?_, ?_, ?_, h.flt, fun y _ hn => ?_⟩
  · rw [add_ne' (Ne.symm (Ne.symm h2)), hst] at q; cases q
  · rw [e3]; exact ho2
  · rw [e3]
    show (Value.slice A' (n + 1) c').ownBlock ≠ some fb
    rcases hrow with e | e
    · rw [e]; exact hof
    · rw [e]; intro q; have := Option.some.inj q; omega
  · rw [e3] at hn; cases hn
theorem As.store {y : Pick} (h : As B e sz va n xs us sb pa st fb ft cs ix W g f w') (hy : g pa = some y) (hst : f st = false) : As B e sz va n xs us sb pa st fb ft cs ix W g (Fx.add f st) (w'.setCell ⟨fb, ix, none⟩ (.slice y.1 (n + 1) y.2)) := by
  have hk := h.fld hst
  have ho := h.own
  have hof := h.ownf
  refine ⟨h.os, h.tape, h.output, by simpa [World.setCell] using h.size, fun i hi k1 k2 => (Below.heap_setCell w' _ _ i k2).trans (h.keep i hi k1 k2), fun q => (by rw [add_same] at q; cases q), fun _ => ?_, own_set ho hof _, hof, h.flt, fun x hx hn => (by rw [hy] at hn; cases hn)⟩
  rw [hy]
  exact hk.set_ ix _
theorem As.cell (h : As B e sz va n xs us sb pa st fb ft cs ix W g f w') (hst : f st = false) (j : Nat) : w'.cell? ⟨fb, j, none⟩ = cs[j]? ∧ w'.frozen? ⟨fb, j, none⟩ = false := ⟨(h.fld hst).cell j, (h.fld hst).frozen j⟩
theorem As.blk (h : As B e sz va n xs us sb pa st fb ft cs ix W g f w') {q : Nat} {t : TypeId} {c : Array Value} (hq : Blk W q t c) (h1 : va.ownBlock ≠ some q) (h2 : q ≠ fb) : Blk w' q t c := (h.keep q hq.lt h1 h2).trans hq
/-- All below a bound is as it was, if the list and the cell lie behind it. -/
theorem As.below {N : Nat} (h : As B e sz va n xs us sb pa st fb ft cs ix W g f w') (hA : ∀ q, va.ownBlock = some q → N ≤ q) (hf : N ≤ fb) (hle : N ≤ W.heap.size) : Below N W w' :=
  ⟨h.os, h.tape, h.output, h.size, fun i hi => h.keep i (by omega) (fun e => by have := hA i e; omega) (by omega)⟩
theorem As.ends {y : Pick} (h : As B e sz va n xs us sb pa st fb ft cs ix W g f w') (hy : g pa = some y) (hst : f st = true) :
    w'.ownsRow B e sz (.slice y.1 (n + 1) y.2) (n + 1) (xs ++ us) ∧ Blk w' fb ft (cs.setIfInBounds ix (.slice y.1 (n + 1) y.2)) := by
  have h1 := h.own
  have h2 := h.fld' hst
  simp only [hy, rowV, rowN, rowL] at h1 h2
  exact ⟨h1, h2⟩
end

end Go.Proofs.Ytclnffpfbngjoaa

end
