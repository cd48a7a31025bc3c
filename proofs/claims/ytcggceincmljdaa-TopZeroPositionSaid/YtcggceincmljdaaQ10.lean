import Derived.Test.YtcggceincmljdaaQ3

section
/- The class of worlds of a region whose order is left open and in which two lists are appended to, each with one new element: 'a, b = append(a, x), append(b, y)'. -/
namespace Go.Proofs.Ytcggceincmljdaa
open Go Go.RowKit

def rowV (g : Option Pick) (v : Value) (n : Nat) : Value := match g with | some y => .slice y.1 (n + 1) y.2 | none => v
def rowN (g : Option Pick) (n : Nat) : Nat := match g with | some _ => n + 1 | none => n
def rowX (g : Option Pick) (xs : List Value) (u : Value) : List Value := match g with | some _ => xs ++ [u] | none => xs

/-- The first list is appended to by operation pa, whose element lies in memory that operation sa makes; the second one by pb and sb. -/
structure Ap (B : Nat) (e e' : TypeId) (va vb : Value) (na nb : Nat) (xs ys : List Value) (u v : Value) (sa pa sb pb : Nat) (W : World) (g : Nat → Option Pick) (w' : World) : Prop where
  os : w'.os = W.os
  tape : w'.tape = W.tape
  output : w'.output = W.output
  size : W.heap.size ≤ w'.heap.size
  keep : ∀ i, i < W.heap.size → va.ownBlock ≠ some i → vb.ownBlock ≠ some i → w'.heap[i]? = W.heap[i]?
  ownA : w'.ownsRow B e 1 (rowV (g pa) va na) (rowN (g pa) na) (rowX (g pa) xs u)
  ownB : w'.ownsRow B e' 1 (rowV (g pb) vb nb) (rowN (g pb) nb) (rowX (g pb) ys v)
  litA : ∀ x, g sa = some x → g pa = none → ∃ b, x.1 = some ⟨b, 0, none⟩ ∧ W.heap.size ≤ b ∧ Blk w' b e #[u] ∧ (rowV (g pa) va na).ownBlock ≠ some b ∧ (rowV (g pb) vb nb).ownBlock ≠ some b
  litB : ∀ x, g sb = some x → g pb = none → ∃ b, x.1 = some ⟨b, 0, none⟩ ∧ W.heap.size ≤ b ∧ Blk w' b e' #[v] ∧ (rowV (g pb) vb nb).ownBlock ≠ some b ∧ (rowV (g pa) va na).ownBlock ≠ some b
  sep : ∀ q, (rowV (g pa) va na).ownBlock = some q → (rowV (g pb) vb nb).ownBlock ≠ some q

section
variable {B : Nat} {e e' : TypeId} {va vb : Value} {na nb : Nat} {xs ys : List Value} {u v : Value} {sa pa sb pb : Nat} {W w' : World} {g : Nat → Option Pick}

theorem Ap.symm (h : Ap B e e' va vb na nb xs ys u v sa pa sb pb W g w') : Ap B e' e vb va nb na ys xs v u sb pb sa pa W g w' :=
  ⟨h.os, h.tape, h.output, h.size, fun i hi h1 h2 => h.keep i hi h2 h1, h.ownB, h.ownA, h.litB, h.litA, fun q hq hp => h.sep q hp hq⟩

theorem Ap.start (hA : W.ownsRow B e 1 va na xs) (hB : W.ownsRow B e' 1 vb nb ys) (hs : ∀ q, va.ownBlock = some q → vb.ownBlock ≠ some q) (k : Nat) : Ap B e e' va vb na nb xs ys u v sa pa sb pb W (fun _ => none) (W.drewN k) :=
  ⟨rfl, rfl, rfl, Nat.le_refl _, fun _ _ _ _ => rfl, hA, hB, (fun x h => by cases h), (fun x h => by cases h), hs⟩

theorem Ap.lit (h : Ap B e e' va vb na nb xs ys u v sa pa sb pb W g w') (h1 : pa ≠ sa) (h2 : pb ≠ sa) (h3 : sb ≠ sa) :
    Ap B e e' va vb na nb xs ys u v sa pa sb pb W (Fx.upd g sa (some ⟨w'.heap.size, 0, none⟩, 0)) (w'.alloc (.cells #[u] e)) := by
  have e1 : Fx.upd g sa (some ⟨w'.heap.size, 0, none⟩, 0) pa = g pa := upd_ne h1
  have e2 : Fx.upd g sa (some ⟨w'.heap.size, 0, none⟩, 0) pb = g pb := upd_ne h2
  have e3 : Fx.upd g sa (some ⟨w'.heap.size, 0, none⟩, 0) sb = g sb := upd_ne h3
  have na' : ∀ {base : Nat} {ty : TypeId} {val : Value} {n : Nat} {l : List Value}, w'.ownsRow base ty 1 val n l → val.ownBlock ≠ some w'.heap.size := fun ho hq => by have := (own_lt ho hq).2; omega
  refine ⟨h.os, h.tape, h.output, Nat.le_trans h.size (by simp), fun i hi k1 k2 => (Below.heap_alloc w' _ i (Nat.lt_of_lt_of_le hi h.size)).trans (h.keep i hi k1 k2), ?_, ?_, ?_, ?_, ?_⟩
  · rw [e1]; exact h.ownA.alloc _
  · rw [e2]; exact h.ownB.alloc _
  · intro x hx hn
    rw [Fx.upd_same] at hx
    cases hx
    rw [e1, e2]
    exact ⟨w'.heap.size, rfl, h.size, Blk.new _ _ _, na' h.ownA, na' h.ownB⟩
  · intro x hx hn
    rw [e3] at hx
    rw [e2] at hn
    obtain ⟨b, hb, hle, hk, q1, q2⟩ := h.litB x hx hn
    rw [e1, e2]
    exact ⟨b, hb, hle, hk.alloc _, q1, q2⟩
  · rw [e1, e2]; exact h.sep

theorem Ap.app {P : Program} {t ty : TypeId} {z : Value} {bytes c : Nat} (h : Ap B e e' va vb na nb xs ys u v sa pa sb pb W g w') (ht : P.underlying t = some (.slice e)) (hi : (P.info? e).map (fun i => (i.zero, i.size, i.bytes)) = some (some z, 1, bytes)) (hzs : z.cells.size = 1) (hu : u.oneCell' = true)
    (hB : B ≤ W.heap.size) (hn : na + 1 ≤ maxLen) (hby : (na + 1) * bytes ≤ 140737488355328) {x : Pick} (hx : g sa = some x) (hp : g pa = none) (h1 : sa ≠ pa) (h2 : pb ≠ pa) (h3 : sb ≠ pa) :
    ∃ (y : Pick) (w2 : World), (Builtin.append_ #[t, t] ty #[va, .slice x.1 1 c]).run P w' = .ok (.slice y.1 (na + 1) y.2) w2 ∧ Ap B e e' va vb na nb xs ys u v sa pa sb pb W (Fx.upd g pa y) w2 := by
  obtain ⟨b, hb, hle, hk, q1, q2⟩ := h.litA x hx hp
  have ho := h.ownA
  have hlb := h.litB
  have hsep := h.sep
  simp only [hp, rowV, rowN, rowX] at ho q1 hlb hsep
  obtain ⟨i0, hi0, hz0, hz1, hz2⟩ := info_parts hi
  obtain ⟨v', w2, hrun, ho2, hg, hrow⟩ := run_append_any (P := P) w' B t ty e i0 z 1 bytes ht hi0 hz0 hz1 hz2 hzs (by omega) va na xs ho w'.heap.size x.1 1 c [u] (by rw [hb]; exact Blk.reads hk rfl) (by simpa using hu) hn hby (Nat.le_trans hB h.size)
  obtain ⟨A', c', rfl, -⟩ := own_reads ho2
  have e1 : Fx.upd g pa (A', c') pb = g pb := upd_ne h2
  have e2 : Fx.upd g pa (A', c') sb = g sb := upd_ne h3
  have e3 : Fx.upd g pa (A', c') pa = some (A', c') := Fx.upd_same
  have hbl : ∀ i, va.ownBlock ≠ some i → i < w'.heap.size → w2.heap[i]? = w'.heap[i]? := fun i hne hlt => hg.block i hlt (fun e => hne e.symm)
  have hob : w2.ownsRow B e' 1 (rowV (g pb) vb nb) (rowN (g pb) nb) (rowX (g pb) ys v) := own_same h.ownB fun q hq => hbl q (fun e => hsep q e hq) (own_lt h.ownB hq).2
  have hnew : ∀ q, (Value.slice A' (na + 1) c').ownBlock = some q → va.ownBlock = some q ∨ q = w'.heap.size := fun q hq => by
    rcases hrow with e | e
    · rw [e] at hq; exact .inl hq
    · rw [e] at hq; exact .inr (Option.some.inj hq).symm
  refine ⟨(A', c'), w2, hrun, ?_⟩
  refine ⟨hg.os.trans h.os, hg.tape.trans h.tape, hg.output.trans h.output, Nat.le_trans h.size hg.size, fun i hi k1 k2 => (hbl i k1 (Nat.lt_of_lt_of_le hi h.size)).trans (h.keep i hi k1 k2), ?_, ?_, ?_, ?_, ?_⟩
  · rw [e3]; exact ho2
  · rw [e1]; exact hob
  · intro y _ hn; rw [e3] at hn; cases hn
  · intro y hy hn
    rw [e2] at hy
    rw [e1] at hn
    obtain ⟨d, hd, hdle, hdk, r1, r2⟩ := hlb y hy hn
    rw [e1, e3]
    refine ⟨d, hd, hdle, (hbl d r2 hdk.lt).trans hdk, r1, fun hq => ?_⟩
    rcases hnew d hq with e | e
    · exact r2 e
    · have := hdk.lt; omega
  · rw [e1, e3]
    intro q hq hq2
    rcases hnew q hq with e | e
    · exact hsep q e hq2
    · have := (own_lt h.ownB hq2).2; omega

/-- All below B, and all that is neither of the two lists, is as it was. -/
theorem Ap.below (h : Ap B e e' va vb na nb xs ys u v sa pa sb pb W g w') (hA : ∀ q, va.ownBlock = some q → B ≤ q) (hB : ∀ q, vb.ownBlock = some q → B ≤ q) (hle : B ≤ W.heap.size) : Below B W w' :=
  ⟨h.os, h.tape, h.output, h.size, fun i hi => h.keep i (by omega) (fun e => by have := hA i e; omega) (fun e => by have := hB i e; omega)⟩
theorem Ap.blk (h : Ap B e e' va vb na nb xs ys u v sa pa sb pb W g w') {q : Nat} {t : TypeId} {cs : Array Value} (hq : Blk W q t cs) (h1 : va.ownBlock ≠ some q) (h2 : vb.ownBlock ≠ some q) : Blk w' q t cs := (h.keep q hq.lt h1 h2).trans hq
theorem Ap.ends {y z : Pick} (h : Ap B e e' va vb na nb xs ys u v sa pa sb pb W g w') (hy : g pa = some y) (hz : g pb = some z) :
    w'.ownsRow B e 1 (.slice y.1 (na + 1) y.2) (na + 1) (xs ++ [u]) ∧ w'.ownsRow B e' 1 (.slice z.1 (nb + 1) z.2) (nb + 1) (ys ++ [v]) ∧ (∀ q, (Value.slice y.1 (na + 1) y.2).ownBlock = some q → (Value.slice z.1 (nb + 1) z.2).ownBlock ≠ some q) := by
  have h1 := h.ownA
  have h2 := h.ownB
  have h3 := h.sep
  simp only [hy, hz, rowV, rowN, rowX] at h1 h2 h3
  exact ⟨h1, h2, h3⟩
end

end Go.Proofs.Ytcggceincmljdaa

end

section
/- The class of worlds of a region whose order is left open, in which one list is appended to and the new list is stored into a cell: 's.f = append(s.f, x)'. -/
namespace Go.Proofs.Ytcggceincmljdaa
open Go Go.RowKit

def rowL (g : Option Pick) (xs us : List Value) : List Value := match g with | some _ => xs ++ us | none => xs

/-- The list is appended to by operation pa, whose element us lies in memory that operation sb makes; operation st stores it into cell ix of block fb. -/
structure As (B : Nat) (e : TypeId) (sz : Nat) (va : Value) (n : Nat) (xs us : List Value) (sb pa st : Nat) (fb : Nat) (ft : TypeId) (cs : Array Value) (ix : Nat) (W : World) (g : Nat → Option Pick) (f : Nat → Bool) (w' : World) : Prop where
  os : w'.os = W.os
  tape : w'.tape = W.tape
  output : w'.output = W.output
  size : W.heap.size ≤ w'.heap.size
  keep : ∀ i, i < W.heap.size → va.ownBlock ≠ some i → i ≠ fb → w'.heap[i]? = W.heap[i]?
  fld : f st = false → Blk w' fb ft cs
  fld' : f st = true → Blk w' fb ft (cs.setIfInBounds ix (rowV (g pa) va n))
  own : w'.ownsRow B e sz (rowV (g pa) va n) (rowN (g pa) n) (rowL (g pa) xs us)
  ownf : (rowV (g pa) va n).ownBlock ≠ some fb
  flt : fb < W.heap.size
  lit : ∀ x, g sb = some x → g pa = none → ∃ b, x.1 = some ⟨b, 0, none⟩ ∧ W.heap.size ≤ b ∧ Blk w' b e us.toArray ∧ va.ownBlock ≠ some b

section
variable {B : Nat} {e : TypeId} {sz : Nat} {va : Value} {n : Nat} {xs us : List Value} {sb pa st : Nat} {fb : Nat} {ft : TypeId} {cs : Array Value} {ix : Nat} {W w' w'' : World} {g : Nat → Option Pick} {f : Nat → Bool}

theorem As.start (ho : W.ownsRow B e sz va n xs) (hf : Blk W fb ft cs) (hne : va.ownBlock ≠ some fb) (h0 : f st = false) (k : Nat) : As B e sz va n xs us sb pa st fb ft cs ix W (fun _ => none) f (W.drewN k) :=
  ⟨rfl, rfl, rfl, Nat.le_refl _, fun _ _ _ _ => rfl, fun _ => hf, fun h => (by rw [h0] at h; cases h), ho, hne, hf.lt, fun x h => by cases h⟩
theorem As.same {k : Nat} (h : As B e sz va n xs us sb pa st fb ft cs ix W g f w') (hk : k ≠ st) : As B e sz va n xs us sb pa st fb ft cs ix W g (Fx.add f k) w' :=
  ⟨h.os, h.tape, h.output, h.size, h.keep, fun q => h.fld (by rwa [add_ne' hk] at q), fun q => h.fld' (by rwa [add_ne' hk] at q), h.own, h.ownf, h.flt, h.lit⟩
theorem As.call {k : Nat} (h : As B e sz va n xs us sb pa st fb ft cs ix W g f w') (hb : Below w'.heap.size w' w'') (hk : k ≠ st) : As B e sz va n xs us sb pa st fb ft cs ix W g (Fx.add f k) w'' := by
  have hbl : ∀ i, i < w'.heap.size → w''.heap[i]? = w'.heap[i]? := fun i hi => hb.block i hi
  refine ⟨hb.os.trans h.os, hb.tape.trans h.tape, hb.output.trans h.output, Nat.le_trans h.size hb.size, fun i hi k1 k2 => (hbl i (Nat.lt_of_lt_of_le hi h.size)).trans (h.keep i hi k1 k2), fun q => ?_, fun q => ?_, own_below h.own hb (Nat.le_refl _), h.ownf, h.flt, fun x hx hn => ?_⟩
  · rw [add_ne' hk] at q; exact step_blk' hb (h.fld q)
  · rw [add_ne' hk] at q; exact step_blk' hb (h.fld' q)
  · obtain ⟨b, h1, h2, h3, h4⟩ := h.lit x hx hn
    exact ⟨b, h1, h2, step_blk' hb h3, h4⟩
where
  step_blk' {q : Nat} {t : TypeId} {c : Array Value} {w1 w2 : World} (hb : Below w1.heap.size w1 w2) (h : Blk w1 q t c) : Blk w2 q t c := h.below hb h.lt
theorem As.mk_lit (h : As B e sz va n xs us sb pa st fb ft cs ix W g f w') (h1 : pa ≠ sb) (h2 : sb ≠ st) :
    As B e sz va n xs us sb pa st fb ft cs ix W (Fx.upd g sb (some ⟨w'.heap.size, 0, none⟩, 0)) (Fx.add f sb) (w'.alloc (.cells us.toArray e)) := by
  have e1 : Fx.upd g sb (some ⟨w'.heap.size, 0, none⟩, 0) pa = g pa := upd_ne h1
  refine ⟨h.os, h.tape, h.output, Nat.le_trans h.size (by simp), fun i hi k1 k2 => (Below.heap_alloc w' _ i (Nat.lt_of_lt_of_le hi h.size)).trans (h.keep i hi k1 k2), fun q => ?_, fun q => ?_, ?_, ?_, h.flt, fun x hx hn => ?_⟩
  · rw [add_ne' h2] at q; exact (h.fld q).alloc _
  · rw [add_ne' h2] at q; rw [e1]; exact (h.fld' q).alloc _
  · rw [e1]; exact h.own.alloc _
  · rw [e1]; exact h.ownf
  · rw [Fx.upd_same] at hx
    cases hx
    rw [e1] at hn
    have ho := h.own
    simp only [hn, rowV, rowN, rowL] at ho
    exact ⟨w'.heap.size, rfl, h.size, Blk.new _ _ _, fun hq => by have := (own_lt ho hq).2; omega⟩
theorem As.app {P : Program} {t ty : TypeId} {z : Value} {bytes c : Nat} (h : As B e sz va n xs us sb pa st fb ft cs ix W g f w') (ht : P.underlying t = some (.slice e)) (hi : (P.info? e).map (fun i => (i.zero, i.size, i.bytes)) = some (some z, sz, bytes)) (hzs : z.cells.size = sz) (hsz : 0 < sz) (hu : ∀ x ∈ us, x.oneCell' = true) (hul : us.length = sz)
    (hB : B ≤ W.heap.size) (hn : n + 1 ≤ maxLen) (hby : (n + 1) * bytes ≤ 140737488355328) {x : Pick} (hx : g sb = some x) (hp : g pa = none) (h1 : sb ≠ pa) (h2 : pa ≠ st) (hst : f st = false) :
    ∃ (y : Pick) (w2 : World), (Builtin.append_ #[t, t] ty #[va, .slice x.1 1 c]).run P w' = .ok (.slice y.1 (n + 1) y.2) w2 ∧ As B e sz va n xs us sb pa st fb ft cs ix W (Fx.upd g pa y) (Fx.add f pa) w2 := by
  obtain ⟨b, hb, hle, hk, q1⟩ := h.lit x hx hp
  have ho := h.own
  have hof := h.ownf
  simp only [hp, rowV, rowN, rowL] at ho hof
  obtain ⟨i0, hi0, hz0, hz1, hz2⟩ := info_parts hi
  obtain ⟨v', w2, hrun, ho2, hg, hrow⟩ := run_append_any (P := P) w' B t ty e i0 z sz bytes ht hi0 hz0 hz1 hz2 hzs hsz va n xs ho w'.heap.size x.1 1 c us (by rw [hb]; exact Blk.reads hk (by omega)) hu hn hby (Nat.le_trans hB h.size)
  obtain ⟨A', c', rfl, -⟩ := own_reads ho2
  have e3 : Fx.upd g pa (A', c') pa = some (A', c') := Fx.upd_same
  have hbl : ∀ i, va.ownBlock ≠ some i → i < w'.heap.size → w2.heap[i]? = w'.heap[i]? := fun i hne hlt => hg.block i hlt (fun e => hne e.symm)
  have hflt : fb < w'.heap.size := Nat.lt_of_lt_of_le h.flt h.size
  refine ⟨(A', c'), w2, hrun, hg.os.trans h.os, hg.tape.trans h.tape, hg.output.trans h.output, Nat.le_trans h.size hg.size, fun i hi k1 k2 => (hbl i k1 (Nat.lt_of_lt_of_le hi h.size)).trans (h.keep i hi k1 k2), fun _ => (hbl fb hof hflt).trans (h.fld hst), fun q => ?_, ?_, ?_, h.flt, fun y _ hn => ?_⟩
  · rw [add_ne' (Ne.symm (Ne.symm h2)), hst] at q; cases q
  · rw [e3]; exact ho2
  · rw [e3]
    show (Value.slice A' (n + 1) c').ownBlock ≠ some fb
    rcases hrow with e | e
    · rw [e]; exact hof
    · rw [e]; intro q; have := Option.some.inj q; omega
  · rw [e3] at hn; cases hn
theorem As.store {y : Pick} (h : As B e sz va n xs us sb pa st fb ft cs ix W g f w') (hy : g pa = some y) (hst : f st = false) : As B e sz va n xs us sb pa st fb ft cs ix W g (Fx.add f st) (w'.setCell ⟨fb, ix, none⟩ (.slice y.1 (n + 1) y.2)) := by
  have hk := h.fld hst
  have ho := h.own
  have hof := h.ownf
  refine ⟨h.os, h.tape, h.output, by simpa [World.setCell] using h.size, fun i hi k1 k2 => (Below.heap_setCell w' _ _ i k2).trans (h.keep i hi k1 k2), fun q => (by rw [add_same] at q; cases q), fun _ => ?_, own_set ho hof _, hof, h.flt, fun x hx hn => (by rw [hy] at hn; cases hn)⟩
  rw [hy]
  exact hk.set_ ix _
theorem As.cell (h : As B e sz va n xs us sb pa st fb ft cs ix W g f w') (hst : f st = false) (j : Nat) : w'.cell? ⟨fb, j, none⟩ = cs[j]? ∧ w'.frozen? ⟨fb, j, none⟩ = false := ⟨(h.fld hst).cell j, (h.fld hst).frozen j⟩
theorem As.blk (h : As B e sz va n xs us sb pa st fb ft cs ix W g f w') {q : Nat} {t : TypeId} {c : Array Value} (hq : Blk W q t c) (h1 : va.ownBlock ≠ some q) (h2 : q ≠ fb) : Blk w' q t c := (h.keep q hq.lt h1 h2).trans hq
/-- All below a bound is as it was, if the list and the cell lie behind it. -/
theorem As.below {N : Nat} (h : As B e sz va n xs us sb pa st fb ft cs ix W g f w') (hA : ∀ q, va.ownBlock = some q → N ≤ q) (hf : N ≤ fb) (hle : N ≤ W.heap.size) : Below N W w' :=
  ⟨h.os, h.tape, h.output, h.size, fun i hi => h.keep i (by omega) (fun e => by have := hA i e; omega) (by omega)⟩
theorem As.ends {y : Pick} (h : As B e sz va n xs us sb pa st fb ft cs ix W g f w') (hy : g pa = some y) (hst : f st = true) :
    w'.ownsRow B e sz (.slice y.1 (n + 1) y.2) (n + 1) (xs ++ us) ∧ Blk w' fb ft (cs.setIfInBounds ix (.slice y.1 (n + 1) y.2)) := by
  have h1 := h.own
  have h2 := h.fld' hst
  simp only [hy, rowV, rowN, rowL] at h1 h2
  exact ⟨h1, h2⟩
end

end Go.Proofs.Ytcggceincmljdaa

end
