import Derived.Test.YtcggceincmljdaaProg
import Derived.WalkKit
import Derived.WalkSpells
import Derived.WalkLawsBesides
import Derived.Below
import Derived.Laws.OwnMore
import Derived.Deep.AppendLies
import Derived.Deep.Draws
import Derived.Laws.Rows
import Derived.Maps.AppendAt
import Derived.RegionTactic
import Derived.OwnWalk
import Derived.Deep.OwnRows
import Derived.Laws.AppendOwn
import Derived.ChangeSame
import Derived.Tactics
import Derived.Deep.QuietTactic
import Derived.Laws.MakeOwn
import Derived.Laws.Entries
import Derived.BigQuiet
import Derived.Lib.Hide

section
/- Lemmas on memory, for copying out of the guide's pages of extra lemmas: slices that read as lists, blocks known whole, appends, frames, results. -/
namespace Go.Proofs.Ytcggceincmljdaa
open Go.RowKit Go.WideShapes Go.ChangeShapes

theorem add_lit (b o n : Nat) : Addr.add ⟨b, o, none⟩ n = ⟨b, o + n, none⟩ := Addr.add_lit b o n

/-- The slice value '.slice A n c' holds the cells xs (so many a piece as size says), in a block below B. -/
def Reads (w : World) (B size : Nat) (A : Option Addr) (n : Nat) (xs : List Value) : Prop :=
  xs.length = n * size ∧ (0 < n → ∃ b o, A = some ⟨b, o, none⟩ ∧ b < B ∧ ∀ j u, xs[j]? = some u → w.cell? ⟨b, o + j, none⟩ = some u)

section
variable {w w' : World} {B B' size n : Nat} {A : Option Addr} {xs : List Value}
theorem Reads.none_ : Reads w B size A 0 [] := ⟨by simp, fun h => absurd h (by omega)⟩
theorem Reads.at_ {k : Nat} (h : Reads w B 1 A n xs) (hk : k < n) : ∃ b o u, A = some ⟨b, o, none⟩ ∧ b < B ∧ xs[k]? = some u ∧ w.cell? ⟨b, o + k, none⟩ = some u := by
  obtain ⟨b, o, e, hb, hc⟩ := h.2 (by omega)
  have hl : k < xs.length := by have := h.1; omega
  exact ⟨b, o, xs[k], e, hb, List.getElem?_eq_getElem hl, hc k _ (List.getElem?_eq_getElem hl)⟩
theorem Reads.keep (h : Reads w B size A n xs) (hk : ∀ p : Addr, p.block < B → w'.cell? p = w.cell? p) : Reads w' B size A n xs :=
  ⟨h.1, fun hn => by
    obtain ⟨b, o, e, hb, hc⟩ := h.2 hn
    exact ⟨b, o, e, hb, fun j u hu => (hk _ hb).trans (hc j u hu)⟩⟩
theorem Reads.more (h : Reads w B size A n xs) (hB : B ≤ B') : Reads w B' size A n xs :=
  ⟨h.1, fun hn => by
    obtain ⟨b, o, e, hb, hc⟩ := h.2 hn
    exact ⟨b, o, e, by omega, hc⟩⟩
theorem Reads.below (h : Reads w B size A n xs) (hb : Below B w w') : Reads w' B size A n xs := h.keep fun _ hp => hb.cell hp
theorem Reads.belowLe (h : Reads w B size A n xs) (hb : Below B' w w') (hB : B ≤ B') : Reads w' B size A n xs := h.keep fun _ hp => hb.cell (by omega)
theorem Reads.drew (h : Reads w B size A n xs) : Reads w.drew B size A n xs := h
theorem Reads.drewN (h : Reads w B size A n xs) (k : Nat) : Reads (w.drewN k) B size A n xs := h
theorem Reads.alloc (h : Reads w B size A n xs) (hB : B ≤ w.heap.size) (o : Obj) : Reads (w.alloc o) B size A n xs := h.keep fun p hp => World.cell?_alloc_lt w o p (by omega)
theorem Reads.setCell (h : Reads w B size A n xs) {p : Addr} (hB : B ≤ p.block) (u : Value) : Reads (w.setCell p u) B size A n xs :=
  h.keep fun q hq => World.cell?_setCell_other w p q u (fun e => by subst e; omega)
theorem Reads.grown (h : Reads w B size A n xs) {row : Option Nat} (hg : w.grownBy w' row) (hB : B ≤ w.heap.size) (hr : ∀ g, row = some g → B ≤ g) : Reads w' B size A n xs :=
  h.keep fun p hp => World.cell?_of_block (hg.block p.block (by omega) (fun e => by have := hr _ e.symm; omega))
/-- A cell that holds something is a plain place. -/
theorem plain_of_cell {a : Addr} {v : Value} (h : w.cell? a = some v) : a = ⟨a.block, a.off, none⟩ := by
  obtain ⟨b, o, sp⟩ := a
  cases sp with
  | none => rfl
  | some x =>
    unfold World.cell? at h
    simp only [Option.isSome_some, if_true] at h
    split at h <;> cases h
theorem Reads.of_adds {a : Addr} (hsz : 0 < size) (hl : xs.length = n * size) (hb : a.block < B) (hc : ∀ j u, xs[j]? = some u → w.cell? (a.add j) = some u) : Reads w B size (some a) n xs := by
  refine ⟨hl, fun hn => ?_⟩
  have h0 : 0 < xs.length := by rw [hl]; exact Nat.mul_pos hn hsz
  have hp := plain_of_cell (by simpa [Addr.add] using hc 0 _ (List.getElem?_eq_getElem h0))
  refine ⟨a.block, a.off, by rw [← hp], hb, fun j u hu => ?_⟩
  have := hc j u hu
  rw [hp, add_lit] at this
  exact this
end

def Blk (w : World) (g : Nat) (t : TypeId) (cs : Array Value) : Prop := w.heap[g]? = some (.cells cs t (0, 0))

section
variable {w w' : World} {g : Nat} {t : TypeId} {cs : Array Value}
theorem Blk.lt (h : Blk w g t cs) : g < w.heap.size := by
  rcases Nat.lt_or_ge g w.heap.size with hlt | hge
  · exact hlt
  · unfold Blk at h; rw [Array.getElem?_eq_none hge] at h; cases h
theorem Blk.cell (h : Blk w g t cs) (i : Nat) : w.cell? ⟨g, i, none⟩ = cs[i]? := cell_of_row w g i cs t (0, 0) h
theorem Blk.frozen (h : Blk w g t cs) (i : Nat) : w.frozen? ⟨g, i, none⟩ = false := by
  unfold Blk at h
  simp [World.frozen?, h]
theorem Blk.new (w : World) (t : TypeId) (cs : Array Value) : Blk (w.alloc (.cells cs t)) w.heap.size t cs := heap_alloc_new w _
theorem Blk.at_ (w : World) {g : Nat} (h : w.heap.size = g) (t : TypeId) (cs : Array Value) : Blk (w.alloc (.cells cs t)) g t cs := h ▸ Blk.new w t cs
theorem Blk.drew (h : Blk w g t cs) : Blk w.drew g t cs := h
theorem Blk.drewN (h : Blk w g t cs) (n : Nat) : Blk (w.drewN n) g t cs := h
theorem Blk.alloc (h : Blk w g t cs) (o : Obj) : Blk (w.alloc o) g t cs := (Below.heap_alloc w o g h.lt).trans h
theorem Blk.set_ (h : Blk w g t cs) (i : Nat) (u : Value) : Blk (w.setCell ⟨g, i, none⟩ u) g t (cs.setIfInBounds i u) := by
  unfold Blk at h ⊢
  simp [World.setCell, Array.getElem?_modify, h]
theorem Blk.far (h : Blk w g t cs) {p : Addr} (hp : g ≠ p.block) (u : Value) : Blk (w.setCell p u) g t cs := (Below.heap_setCell w p u g hp).trans h
theorem Blk.below {B : Nat} (h : Blk w g t cs) (hb : Below B w w') (hg : g < B) : Blk w' g t cs := (hb.block g hg).trans h
theorem Blk.grown {row : Option Nat} (h : Blk w g t cs) (hb : w.grownBy w' row) (hg : some g ≠ row) : Blk w' g t cs := (hb.block g h.lt hg).trans h
end

section
variable {P : Program} (w : World)

theorem run_append_of_nil (base : Nat) (t ty e : TypeId) (i : TypeInfo) (size : Nat) (ht : P.underlying t = some (.slice e)) (hi : P.info? e = some i)
    (v : Value) (n : Nat) (xs : List Value) (hown : w.ownsRow base e size v n xs) (c : Nat) : (Builtin.append_ #[t, t] ty #[v, .slice none 0 c]).run P w = .ok v w := by
  rcases hown.2 with ⟨rfl, rfl⟩ | ⟨g, cap, cur, rfl, _, _, hnc, _⟩
  · simp [Builtin.append_, run_underlying ht, sizeOf, typeInfo, hi, Builtin.lenOf, Builtin.firstCells]
  · simp [Builtin.append_, run_underlying ht, sizeOf, typeInfo, hi, Builtin.lenOf, Builtin.firstCells, hnc, storeCells]

theorem run_append_any (base : Nat) (t ty e : TypeId) (i : TypeInfo) (z : Value) (size bytes : Nat) (ht : P.underlying t = some (.slice e)) (hi : P.info? e = some i) (hz : i.zero = some z)
    (hsize : i.size = size) (hby : i.bytes = bytes) (hzs : z.cells.size = size) (hsz : 0 < size)
    (v : Value) (n : Nat) (xs : List Value) (hown : w.ownsRow base e size v n xs)
    (B : Nat) (A : Option Addr) (m c : Nat) (news : List Value) (hr : Reads w B size A m news) (h1 : ∀ u ∈ news, u.oneCell' = true)
    (h63 : n + m ≤ maxLen) (hbytes : (n + m) * bytes ≤ 140737488355328) (hbase : base ≤ w.heap.size) :
    ∃ v' w', (Builtin.append_ #[t, t] ty #[v, .slice A m c]).run P w = .ok v' w' ∧ w'.ownsRow base e size v' (n + m) (xs ++ news) ∧ w.grownBy w' v.ownBlock ∧
      (v'.ownBlock = v.ownBlock ∨ v'.ownBlock = some w.heap.size) := by
  rcases A with _ | ad
  · have hm : m = 0 := by
      rcases Nat.eq_zero_or_pos m with h0 | h0
      · exact h0
      · obtain ⟨_, _, h, _⟩ := hr.2 h0
        cases h
    subst hm
    have hn : news = [] := List.eq_nil_of_length_eq_zero (by simpa using hr.1)
    subst hn
    exact ⟨v, w, run_append_of_nil w base t ty e i size ht hi v n xs hown c, by simpa using hown, World.grownBy.refl w _, .inl rfl⟩
  · have hcells : ∀ j u, news[j]? = some u → w.cell? (ad.add j) = some u := by
      intro j u hu
      rcases Nat.eq_zero_or_pos m with h0 | h0
      · subst h0
        have hn : news = [] := List.eq_nil_of_length_eq_zero (by simpa using hr.1)
        subst hn
        simp at hu
      · obtain ⟨b', o', h, _, hc⟩ := hr.2 h0
        injection h with h
        subst h
        rw [add_lit]
        exact hc j u hu
    obtain ⟨v', w', hrun, h2, h3, _, h5⟩ := run_append_own_at (P := P) w base t ty e i z size bytes ht hi hz hsize hby hzs hsz v n xs hown ad m c news hr.1 hcells h1 h63 hbytes hbase
    exact ⟨v', w', hrun, h2, h3, h5⟩

end

theorem below_drewN {B : Nat} {a w : World} (h : Below B a w) (n : Nat) : Below B a (w.drewN n) := ⟨h.os, h.tape, h.output, h.size, h.block⟩
section
variable {H : Type} {enc : TypeId × Value → H} {P : Program}
theorem post_of_below {f : Func} {s : ChangeSpec} {apart fresh handsOn again : Bool} {W W' : World} {args : Array Value} {v : Value} {ds gs : List (DataW H)} {before pa pv : List MemPlace}
    (hW : DataW.Whole enc P f.params.toList s.vars apart W args.toList ds gs before)
    (hres : ∀ (b : Nat) (sp : Nat → Bool) (hd : Bool), DataW.TrodAll enc P W' b sp hd f.resultTypes.toList (v.resultList f.resultTypes.size) (s.fn H (ds ++ gs)).results [])
    (hargs : ∀ sp : Nat → Bool, (∀ p ∈ before, sp p.block = true) → DataW.TrodAll enc P W' 0 sp true f.params.toList args.toList (s.fn H (ds ++ gs)).args pa)
    (hvars : ∀ sp : Nat → Bool, (∀ p ∈ before, sp p.block = true) → DataW.TrodVars enc P W' sp s.vars (s.fn H (ds ++ gs)).vars pv)
    (hps : before = pa ++ pv) (hb : Below W.heap.size W W')
    (hok : ∀ (j : Nat) (t : TypeId) (r : Value), f.resultTypes[j]? = some t → (v.resultList f.resultTypes.size)[j]? = some r → Value.okWide P W' .any 0 t r) :
    s.post enc P f apart fresh handsOn again W args v W' := by
  have hlt : ∀ p ∈ before, p.block < W.heap.size := fun p hp => hW.lt p hp
  have hold : ∀ p ∈ before, (fun b => decide (b < W.heap.size)) p.block = true := fun p hp => by simpa using hlt p hp
  refine ⟨ds, gs, before, [], pa, pv, hW, hres _ _ _, hargs _ hold, hvars _ hold, World.keptBut_mono (fun p hp => ⟨hp, ?_⟩) (hb.frame (· ∈ before)), fun _ => ?_⟩
  · rw [hps, List.mem_append] at hp
    exact Or.inr hp
  · obtain ⟨_, _, _, _, _, hz, hn⟩ := hW
    refine ⟨hok, _, _, ([] ++ pa) ++ pv, ⟨[] ++ pa, pv, trodAll_append (hargs _ (fun _ _ => rfl)) (hres _ _ _), hvars _ (fun _ _ => rfl), rfl, ?_, ?_⟩, ?_⟩
    · intro b off hp
      have hin : MemPlace.cell b off ∈ before := by rw [hps]; simpa using hp
      rw [hb.frozen (hlt _ hin)]
      exact hz b off hin
    · intro ha
      have := hn ha
      rw [hps] at this
      simpa using this
    · intro p hp _
      rw [hps]
      simpa using hp
end

theorem run_make_rowN {P : Program} (t e : TypeId) (i : TypeInfo) (z : Value) (ht : P.underlying t = some (.slice e)) (hi : P.info? e = some i) (hz : i.zero = some z)
    (kl kc : IntKind) (n c : Nat) (hnc : n ≤ c) (hbytes : i.bytes * c ≤ 281474976710656) (h63 : c ≤ 9223372036854775807) (w : World) :
    (Instr.makeSlice t (.int kl (n : Int)) (.int kc (c : Int))).run P w = .ok (.slice (some ⟨w.heap.size, 0, none⟩) n c) (w.alloc (.cells (madeCells z.cells (c * i.size)) e)) := by
  have hb : (i.bytes : Int) * (c : Int) ≤ 281474976710656 := by
    have h : ((i.bytes * c : Nat) : Int) ≤ 281474976710656 := by omega
    rwa [Int.natCast_mul] at h
  have hr := run_make (P := P) w t e i z ht hi hz kl kc n c (by omega) (by omega) hb (by omega)
  simp only [Int.toNat_natCast] at hr
  exact hr
end Go.Proofs.Ytcggceincmljdaa

end

section
/- More lemmas on memory: what is owned, a call of append, the frame of a function that appends through a pointer. -/
namespace Go.Proofs.Ytcggceincmljdaa
open Go.RowKit

/-- What is owned stays owned where its block is as it was. -/
theorem own_same {w w' : World} {base : Nat} {e : TypeId} {size n : Nat} {v : Value} {xs : List Value} (h : w.ownsRow base e size v n xs) (hb : ∀ g, v.ownBlock = some g → w'.heap[g]? = w.heap[g]?) : w'.ownsRow base e size v n xs := by
  obtain ⟨h1, h2⟩ := h
  refine ⟨h1, h2.imp id fun ⟨g, cap, cur, hv, hg, hh, r⟩ => ⟨g, cap, cur, hv, hg, ?_, r⟩⟩
  rw [hb g (by rw [hv]; rfl)]; exact hh
theorem own_lt {w : World} {base : Nat} {e : TypeId} {size n : Nat} {v : Value} {xs : List Value} (h : w.ownsRow base e size v n xs) {g : Nat} (hg : v.ownBlock = some g) : base ≤ g ∧ g < w.heap.size := by
  rcases h.2 with ⟨rfl, _⟩ | ⟨g', cap, cur, rfl, hb, hh, _⟩
  · simp [Value.ownBlock] at hg
  · have : g' = g := by simpa [Value.ownBlock] using hg
    subst this
    exact ⟨hb, (Array.getElem?_eq_some_iff.1 hh).1⟩
theorem own_below {w w' : World} {base B : Nat} {e : TypeId} {size n : Nat} {v : Value} {xs : List Value} (h : w.ownsRow base e size v n xs) (hb : Below B w w') (hB : w.heap.size ≤ B) : w'.ownsRow base e size v n xs :=
  own_same h fun g hg => hb.block g (by have := (own_lt h hg).2; omega)
theorem own_set {w : World} {base : Nat} {e : TypeId} {size n : Nat} {v : Value} {xs : List Value} (h : w.ownsRow base e size v n xs) {p : Addr} (hp : v.ownBlock ≠ some p.block) (u : Value) : (w.setCell p u).ownsRow base e size v n xs :=
  own_same h fun g hg => Below.heap_setCell _ _ _ _ (fun e => hp (by rw [hg, e]))
theorem own_drewN {w : World} {base : Nat} {e : TypeId} {size n : Nat} {v : Value} {xs : List Value} (h : w.ownsRow base e size v n xs) (k : Nat) : (w.drewN k).ownsRow base e size v n xs := h

/-- A call of append, run. -/
theorem exec_append {P : Program} {o : Oper} {a : Act} {w w' : World} {v' : Value} (s x : Operand) (t : TypeId) (ho : o.op = .call { callee := .builtin .append, args := #[s, x], argTypes := #[t, t] })
    (hrun : (Builtin.append_ #[t, t] o.type #[a.eval s, a.eval x]).run P w = .ok v' w') : (execOp a.eval o).run P w = .ok (.value v') w' := by
  unfold execOp
  simp only [ho, resolve, invoke, builtin, Sem.run_bind, Sem.run_pure, Result.andThen_ok, List.map_toArray, List.map_cons, List.map_nil, hrun]

/-- The frame of a function that appends to a slice in the cell of block ob, and writes nothing else that was there. -/
structure Fr (ob : Nat) (v v' : Value) (w w' : World) : Prop where
  os : w'.os = w.os
  tape : w'.tape = w.tape
  output : w'.output = w.output
  size : w.heap.size ≤ w'.heap.size
  block : ∀ k, k < w.heap.size → k ≠ ob → v.ownBlock ≠ some k → w'.heap[k]? = w.heap[k]?
  row : v'.ownBlock = v.ownBlock ∨ ∃ g, v'.ownBlock = some g ∧ w.heap.size ≤ g

theorem Fr.of_below {ob : Nat} {v : Value} {w w' : World} (h : Below w.heap.size w w') : Fr ob v v w w' := ⟨h.os, h.tape, h.output, h.size, fun k hk _ _ => h.block k hk, .inl rfl⟩
theorem Fr.trans {ob : Nat} {v v1 v2 : Value} {w w1 w2 : World} (h : Fr ob v v1 w w1) (k : Fr ob v1 v2 w1 w2) : Fr ob v v2 w w2 := by
  refine ⟨k.os.trans h.os, k.tape.trans h.tape, k.output.trans h.output, Nat.le_trans h.size k.size, fun i hi hne hv => ?_, ?_⟩
  · refine (k.block i (Nat.lt_of_lt_of_le hi h.size) hne ?_).trans (h.block i hi hne hv)
    rcases h.row with e | ⟨g, e, hg⟩
    · rw [e]; exact hv
    · rw [e]; intro hx; have : g = i := Option.some.inj hx; omega
  · rcases k.row with e | ⟨g, e, hg⟩
    · rw [e]; exact h.row
    · exact .inr ⟨g, e, Nat.le_trans h.size hg⟩
theorem Fr.below {ob B : Nat} {v v' : Value} {w w' : World} (h : Fr ob v v' w w') (hB : B ≤ ob) (hs : ob ≤ w.heap.size) (hv : ∀ g, v.ownBlock = some g → B ≤ g) : Below B w w' :=
  ⟨h.os, h.tape, h.output, h.size, fun k hk => h.block k (by omega) (by omega) (fun e => by have := hv k e; omega)⟩
theorem Fr.blk {ob : Nat} {v v' : Value} {w w' : World} (h : Fr ob v v' w w') {g : Nat} {t : TypeId} {cs : Array Value} (hg : Blk w g t cs) (hne : g ≠ ob) (hv : v.ownBlock ≠ some g) : Blk w' g t cs := (h.block g hg.lt hne hv).trans hg

end Go.Proofs.Ytcggceincmljdaa

end

section
/- Steps from one named world to the next: what a call that only makes memory leaves as it was. -/
namespace Go.Proofs.Ytcggceincmljdaa
open Go.RowKit

section
variable {w W W1 : World}
theorem step_below (hb : Below W.heap.size W W1) (h : Below w.heap.size w W) : Below w.heap.size w W1 := h.trans (hb.mono h.size)
theorem step_blk {g : Nat} {t : TypeId} {cs : Array Value} (hb : Below W.heap.size W W1) (h : Blk W g t cs) : Blk W1 g t cs := h.below hb h.lt
end
end Go.Proofs.Ytcggceincmljdaa

end

section
/- Lists that are known to read so, from one named world to the next. -/
namespace Go.Proofs.Ytcggceincmljdaa
open Go.RowKit

section
variable {w W W1 : World}
theorem reads_mid (_ : Below W.heap.size W W1) {wa : World} (h : Below wa.heap.size wa W) : Below wa.heap.size wa W := h
theorem reads_lay (hb : Below W.heap.size W W1) {wa : World} (ha : Below wa.heap.size wa W) {s n : Nat} {A : Option Addr} {xs : List Value} (h : Reads wa wa.heap.size s A n xs) : Reads W1 W1.heap.size s A n xs :=
  ((h.below ha).below (hb.mono ha.size)).more (Nat.le_trans ha.size hb.size)
end
end Go.Proofs.Ytcggceincmljdaa

end

section
/- Plain law of readings: arcs that a profile keeps never make a circle below 0: the search for one ends in time. -/
namespace Go.Proofs.Ytcggceincmljdaa

/-- An arc: from, to, length. -/
abbrev Arc := Nat × Nat × Int
/-- Heights keep all arcs. -/
def KeepsA (p : Nat → Int) (ars : List Arc) : Prop := ∀ a ∈ ars, p a.2.1 - p a.1 ≤ a.2.2
def relax (H : Nat → Int) (a : Arc) : Nat → Int := fun v => if v = a.2.1 then H a.1 + a.2.2 else H v

/-- What holds in round r (from 1), ahead of arc j: chains of zones without repetition bear each height; a zone that changed in round q has a chain of more than q zones. -/
structure BfAt (n : Nat) (p : Nat → Int) (ars : List Arc) (r j : Nat) (H : Nat → Int) (ch : Bool) (c : Nat → List (Nat × Int)) (lc : Nat → Nat) : Prop where
  head : ∀ v, v < n → ∃ t, c v = (v, H v) :: t
  nodup : ∀ v, v < n → ((c v).map (·.1)).Nodup
  dom : ∀ v, v < n → ∀ x ∈ c v, x.1 < n
  above : ∀ v, v < n → ∀ x ∈ c v, H x.1 ≤ x.2
  sum : ∀ v, v < n → ∀ x ∈ c v, x.2 + p v - p x.1 ≤ H v
  len : ∀ v, v < n → lc v + 1 ≤ (c v).length
  rnd : ∀ v, v < n → lc v ≤ r
  arcs : ∀ i a, ars[i]? = some a → H a.2.1 ≤ H a.1 + a.2.2 ∨ (if i < j then lc a.1 = r else r ≤ lc a.1 + 1)
  chg : ch = true → ∃ v, v < n ∧ lc v = r
def Bf (n : Nat) (p : Nat → Int) (ars : List Arc) (r j : Nat) (H : Nat → Int) (ch : Bool) : Prop := ∃ c lc, BfAt n p ars r j H ch c lc

section
variable {n : Nat} {p : Nat → Int} {ars : List Arc} {r j : Nat} {H : Nat → Int} {ch : Bool}
theorem bf_start : Bf n p ars 1 0 (fun _ => 0) false :=
  ⟨fun v => [(v, 0)], fun _ => 0, fun v _ => ⟨[], rfl⟩, fun v _ => by simp, fun v hv x hx => by
    obtain rfl : x = (v, 0) := by simpa using hx
    exact hv, fun v _ x hx => by
    obtain rfl : x = (v, 0) := by simpa using hx
    exact Int.le_refl _, fun v _ x hx => by
    obtain rfl : x = (v, 0) := by simpa using hx
    simp only; omega, fun v _ => by simp, fun v _ => by omega, fun i a _ => .inr (by rw [if_neg (by omega)]; omega), fun h => by cases h⟩
theorem bf_keep {a : Arc} (h : Bf n p ars r j H ch) (ha : ars[j]? = some a) (hn : ¬ H a.1 + a.2.2 < H a.2.1) : Bf n p ars r (j + 1) H ch := by
  obtain ⟨c, lc, h⟩ := h
  refine ⟨c, lc, h.head, h.nodup, h.dom, h.above, h.sum, h.len, h.rnd, fun i b hb => ?_, h.chg⟩
  by_cases e : i = j
  · subst e
    obtain rfl := Option.some.inj (ha.symm.trans hb)
    exact .inl (by omega)
  · rcases h.arcs i b hb with h1 | h1
    · exact .inl h1
    · refine .inr ?_
      by_cases e2 : i < j
      · rw [if_pos e2] at h1
        rw [if_pos (by omega)]
        exact h1
      · rw [if_neg e2] at h1
        rw [if_neg (by omega)]
        exact h1
theorem bf_relax {a : Arc} (hk : KeepsA p ars) (h : Bf n p ars r j H ch) (ha : ars[j]? = some a) (h1 : a.1 < n) (h2 : a.2.1 < n) (hl : H a.1 + a.2.2 < H a.2.1) : Bf n p ars r (j + 1) (relax H a) true := by
  obtain ⟨c, lc, h⟩ := h
  obtain ⟨u, v, len⟩ := a
  simp only at h1 h2 hl
  have hkp : p v - p u ≤ len := hk _ (List.mem_of_getElem? ha)
  have huv : u ≠ v := fun e => by subst e; omega
  have hR : r ≤ lc u + 1 := by
    rcases h.arcs j _ ha with h3 | h3
    · simp only at h3; omega
    · rw [if_neg (by omega)] at h3; exact h3
  obtain ⟨t, ht⟩ := h.head u h1
  have hnotin : ∀ x ∈ c u, x.1 ≠ v := fun x hx e => by
    have a1 := h.above u h1 x hx
    have a2 := h.sum u h1 x hx
    rw [e] at a1 a2
    omega
  have hrv : relax H (u, v, len) v = H u + len := by unfold relax; simp
  have hrn : ∀ x, x ≠ v → relax H (u, v, len) x = H x := fun x hx => by unfold relax; simp [hx]
  have hle : ∀ x, relax H (u, v, len) x ≤ H x := fun x => by
    by_cases e : x = v
    · subst e; rw [hrv]; omega
    · rw [hrn x e]; exact Int.le_refl _
  have ec : ∀ x, (if x = v then (v, H u + len) :: c u else c x) = if x = v then (v, H u + len) :: c u else c x := fun _ => rfl
  refine ⟨fun x => if x = v then (v, H u + len) :: c u else c x, fun x => if x = v then r else lc x, ?_, ?_, ?_, ?_, ?_, ?_, ?_, ?_, ?_⟩
  · intro x hx
    by_cases e : x = v
    · subst e; exact ⟨c u, by rw [if_pos rfl, hrv]⟩
    · obtain ⟨t', ht'⟩ := h.head x hx
      exact ⟨t', by rw [if_neg e, hrn x e]; exact ht'⟩
  · intro x hx
    by_cases e : x = v
    · simp only [if_pos e, List.map_cons, List.nodup_cons]
      refine ⟨fun hm => ?_, h.nodup u h1⟩
      obtain ⟨y, hy, hy2⟩ := List.mem_map.1 hm
      exact hnotin y hy hy2
    · simp only [if_neg e]; exact h.nodup x hx
  · intro x hx y hy
    by_cases e : x = v
    · simp only [if_pos e] at hy
      rcases List.mem_cons.1 hy with rfl | hy
      · exact h2
      · exact h.dom u h1 y hy
    · simp only [if_neg e] at hy; exact h.dom x hx y hy
  · intro x hx y hy
    by_cases e : x = v
    · simp only [if_pos e] at hy
      rcases List.mem_cons.1 hy with rfl | hy
      · show relax H (u, v, len) v ≤ H u + len
        rw [hrv]; exact Int.le_refl _
      · exact Int.le_trans (hle _) (h.above u h1 y hy)
    · simp only [if_neg e] at hy; exact Int.le_trans (hle _) (h.above x hx y hy)
  · intro x hx y hy
    by_cases e : x = v
    · simp only [if_pos e] at hy
      subst e
      rw [hrv]
      rcases List.mem_cons.1 hy with rfl | hy
      · simp only; omega
      · have := h.sum u h1 y hy; omega
    · simp only [if_neg e] at hy
      rw [hrn x e]
      exact h.sum x hx y hy
  · intro x hx
    by_cases e : x = v
    · simp only [if_pos e, List.length_cons]
      have := h.len u h1
      omega
    · simp only [if_neg e]; exact h.len x hx
  · intro x hx
    by_cases e : x = v
    · simp only [if_pos e]; exact Nat.le_refl _
    · simp only [if_neg e]; exact h.rnd x hx
  · intro i b hb
    obtain ⟨u', v', len'⟩ := b
    simp only
    by_cases eu : u' = v
    · refine .inr ?_
      simp only [if_pos eu]
      split
      · first | rfl | trivial
      · omega
    · simp only [if_neg eu]
      by_cases e : i = j
      · subst e
        have e3 : (u, v, len) = (u', v', len') := Option.some.inj (ha.symm.trans hb)
        obtain ⟨rfl, rfl, rfl⟩ : u = u' ∧ v = v' ∧ len = len' := by simpa using e3
        refine .inl ?_
        rw [hrv, hrn u huv]
        exact Int.le_refl _
      · rcases h.arcs i _ hb with h3 | h3
        · simp only at h3
          refine .inl ?_
          rw [hrn u' eu]
          exact Int.le_trans (hle _) h3
        · refine .inr ?_
          simp only at h3
          by_cases e2 : i < j
          · rw [if_pos e2] at h3
            rw [if_pos (by omega)]
            exact h3
          · rw [if_neg e2] at h3
            rw [if_neg (by omega)]
            exact h3
  · exact fun _ => ⟨v, h2, by simp⟩
theorem bf_round (h : Bf n p ars r ars.length H ch) : Bf n p ars (r + 1) 0 H false := by
  obtain ⟨c, lc, h⟩ := h
  refine ⟨c, lc, h.head, h.nodup, h.dom, h.above, h.sum, h.len, fun v hv => Nat.le_succ_of_le (h.rnd v hv), fun i a ha => ?_, fun e => by cases e⟩
  have hi := (List.getElem?_eq_some_iff.1 ha).1
  rcases h.arcs i a ha with h1 | h1
  · exact .inl h1
  · rw [if_pos hi] at h1
    exact .inr (by rw [if_neg (by omega)]; omega)
theorem nodup_len : ∀ (n : Nat) (l : List Nat), l.Nodup → (∀ x ∈ l, x < n) → l.length ≤ n
  | 0, l, _, h => by
    cases l with
    | nil => exact Nat.le_refl _
    | cons x t => exact absurd (h x (by simp)) (by omega)
  | n + 1, l, hd, h => by
    by_cases hn : n ∈ l
    · have h1 := nodup_len n (l.erase n) (hd.erase n) (fun x hx => by
        obtain ⟨a, b⟩ := hd.mem_erase_iff.1 hx
        have := h x b
        omega)
      rw [List.length_erase_of_mem hn] at h1
      omega
    · have h1 := nodup_len n l hd (fun x hx => by
        have := h x hx
        have : x ≠ n := fun e => hn (e ▸ hx)
        omega)
      omega
/-- A round in which something changed is not the last one. -/
theorem bf_end (h : Bf n p ars r j H true) : r + 1 ≤ n := by
  obtain ⟨c, lc, h⟩ := h
  obtain ⟨v, hv, hl⟩ := h.chg rfl
  have h1 := h.len v hv
  have h2 := nodup_len n ((c v).map (·.1)) (h.nodup v hv) (fun x hx => by
    obtain ⟨y, hy, rfl⟩ := List.mem_map.1 hx
    exact h.dom v hv y hy)
  rw [List.length_map] at h2
  omega
end
end Go.Proofs.Ytcggceincmljdaa

end

section
/- Plain law of turned maps: begun at another position, the mirror's part is the same, turned; the rest is the same. -/
namespace Go.Proofs.Ytcggceincmljdaa

/-- f 0 + .. + f (k - 1). -/
def sumZ (f : Nat → Int) : Nat → Int
  | 0 => 0
  | k + 1 => sumZ f k + f k
theorem sumZ_congr {f g : Nat → Int} : ∀ {k : Nat}, (∀ i, i < k → f i = g i) → sumZ f k = sumZ g k
  | 0, _ => rfl
  | k + 1, h => by
    show sumZ f k + f k = sumZ g k + g k
    rw [sumZ_congr (fun i hi => h i (by omega)), h k (by omega)]
theorem sumZ_add (f : Nat → Int) (a : Nat) : ∀ b : Nat, sumZ f (a + b) = sumZ f a + sumZ (fun t => f (a + t)) b
  | 0 => by show sumZ f a = sumZ f a + 0; omega
  | b + 1 => by
    show sumZ f (a + b) + f (a + b) = sumZ f a + (sumZ (fun t => f (a + t)) b + f (a + b))
    rw [sumZ_add f a b]; omega
theorem sumZ_in {f : Nat → Int} {m : Int} (hm : 0 ≤ m) : ∀ {k : Nat}, (∀ i, i < k → -m ≤ f i ∧ f i ≤ m) → -(k * m) ≤ sumZ f k ∧ sumZ f k ≤ k * m
  | 0, _ => by show -((0 : Nat) * m) ≤ (0 : Int) ∧ (0 : Int) ≤ (0 : Nat) * m; simp
  | k + 1, h => by
    have ih := sumZ_in hm (k := k) (fun i hi => h i (by omega))
    have hk := h k (by omega)
    show -(((k + 1 : Nat) : Int) * m) ≤ sumZ f k + f k ∧ sumZ f k + f k ≤ ((k + 1 : Nat) : Int) * m
    have e : ((k + 1 : Nat) : Int) * m = k * m + m := by rw [Int.natCast_add, Int.add_mul]; simp
    rw [e]
    omega
/-- A sum does not depend on where it begins. -/
theorem sumZ_turn (f : Nat → Int) {k z : Nat} (hz : z < k) : sumZ (fun t => f ((t + z) % k)) k = sumZ f k := by
  have e1 := sumZ_add (fun t => f ((t + z) % k)) (k - z) z
  have e2 := sumZ_add f z (k - z)
  rw [show k - z + z = k by omega] at e1
  rw [show z + (k - z) = k by omega] at e2
  have e3 : sumZ (fun t => f ((t + z) % k)) (k - z) = sumZ (fun t => f (z + t)) (k - z) := sumZ_congr fun t ht => by
    rw [Nat.mod_eq_of_lt (by omega), Nat.add_comm]
  have e4 : sumZ (fun t => f ((k - z + t + z) % k)) z = sumZ f z := sumZ_congr fun t ht => by
    rw [show k - z + t + z = t + k by omega, Nat.add_mod_right, Nat.mod_eq_of_lt (by omega)]
  rw [e1, e2, e3]
  show _ + sumZ (fun t => f ((k - z + t + z) % k)) z = _
  rw [e4]; omega
/-- The rest, times the number of turns. -/
def rstF (M : Nat → Nat → Int) (k i : Nat) : Int := sumZ (fun t => M t i) k
/-- What map t adds, from its cell i. -/
def zaddF (M : Nat → Nat → Int) (k t i : Nat) : Int := k * M t i - rstF M k i
/-- The mirror's part, times the square of the number of turns, behind t maps. -/
def mirF (M : Nat → Nat → Int) (k n s t j : Nat) : Int := sumZ (fun t => zaddF M k t ((j + t * s) % n)) t
/-- The same while map t is added, behind its cells below i. -/
def midF (M : Nat → Nat → Int) (k n s t i j : Nat) : Int := mirF M k n s t j + if (j + t * s) % n < i then zaddF M k t ((j + t * s) % n) else 0
theorem midF_start (M : Nat → Nat → Int) (k n s t j : Nat) : midF M k n s t 0 j = mirF M k n s t j := by unfold midF; rw [if_neg (by omega)]; omega
theorem midF_end (M : Nat → Nat → Int) (k n s t j : Nat) (hn : 0 < n) : midF M k n s t n j = mirF M k n s (t + 1) j := by
  unfold midF; rw [if_pos (Nat.mod_lt _ hn)]; rfl
theorem at_back {n i d : Nat} (hi : i < n) (hd : d ≤ n) : ((i + n - d) % n + d) % n = i := by
  rw [Nat.mod_add_mod, show i + n - d + d = i + n by omega, Nat.add_mod_right, Nat.mod_eq_of_lt hi]
theorem at_only {n i j d : Nat} (hi : i < n) (hj : j < n) (hd : d ≤ n) (h : (j + d) % n = i) : j = (i + n - d) % n := by
  have h1 : (j + d) % n = i := h
  by_cases hc : j + d < n
  · rw [Nat.mod_eq_of_lt hc] at h1
    subst h1
    rw [show j + d + n - d = j + n by omega, Nat.add_mod_right, Nat.mod_eq_of_lt hj]
  · by_cases hc2 : j + d < n + n
    · rw [show j + d = j + d - n + n by omega, Nat.add_mod_right, Nat.mod_eq_of_lt (by omega)] at h1
      rw [Nat.mod_eq_of_lt (by omega)]
      omega
    · omega
theorem midF_step {M : Nat → Nat → Int} {k n s t i j : Nat} (hi : i < n) (hj : j < n) (hd : t * s ≤ n) : midF M k n s t (i + 1) j = if j = (i + n - t * s) % n then midF M k n s t i j + zaddF M k t i else midF M k n s t i j := by
  by_cases hc : j = (i + n - t * s) % n
  · rw [if_pos hc]
    have hb := at_back hi hd
    rw [← hc] at hb
    unfold midF
    rw [hb, if_pos (by omega), if_neg (by omega)]
    omega
  · rw [if_neg hc]
    have hne : (j + t * s) % n ≠ i := fun h => hc (at_only hi hj hd h)
    unfold midF
    by_cases h2 : (j + t * s) % n < i
    · rw [if_pos h2, if_pos (by omega)]
    · rw [if_neg h2, if_neg (by omega)]
theorem rstF_turn (M : Nat → Nat → Int) {k z : Nat} (hz : z < k) (i : Nat) : rstF (fun t => M ((t + z) % k)) k i = rstF M k i := sumZ_turn (fun t => M t i) hz
/-- Begun z turns later, the mirror's part is turned on. -/
theorem mirF_turn (M : Nat → Nat → Int) {k n s z : Nat} (hz : z < k) (hs : k * s = n) (j : Nat) : mirF (fun t => M ((t + z) % k)) k n s k j = mirF M k n s k ((j + n - z * s) % n) := by
  unfold mirF
  rw [← sumZ_turn (fun t => zaddF M k t (((j + n - z * s) % n + t * s) % n)) hz]
  refine sumZ_congr fun t ht => ?_
  have hzs : z * s ≤ n := by rw [← hs]; exact Nat.mul_le_mul_right s (by omega)
  have e : ((j + n - z * s) % n + ((t + z) % k) * s) % n = (j + t * s) % n := by
    rw [Nat.mod_add_mod]
    by_cases hc : t + z < k
    · rw [Nat.mod_eq_of_lt hc, Nat.add_mul, show j + n - z * s + (t * s + z * s) = j + t * s + n by omega, Nat.add_mod_right]
    · have e1 : (t + z) % k = t + z - k := by rw [show t + z = t + z - k + k by omega, Nat.add_mod_right, Nat.mod_eq_of_lt (by omega)]; omega
      have e2 : (t + z - k) * s + n = t * s + z * s := by rw [← hs, ← Nat.add_mul, ← Nat.add_mul, show t + z - k + k = t + z by omega]
      rw [e1, show j + n - z * s + (t + z - k) * s = j + t * s by omega]
  show zaddF (fun t => M ((t + z) % k)) k t ((j + t * s) % n) = zaddF M k ((t + z) % k) (((j + n - z * s) % n + ((t + z) % k) * s) % n)
  rw [e]
  unfold zaddF
  rw [rstF_turn M hz]
theorem zrst_in {M : Nat → Nat → Int} {k n : Nat} (hk : k ≤ 12) (hM : ∀ t i, t < k → i < n → -100000 ≤ M t i ∧ M t i ≤ 100000) {i : Nat} (hi : i < n) {q : Nat} (hq : q ≤ k) : -1200000 ≤ rstF M q i ∧ rstF M q i ≤ 1200000 := by
  have h := sumZ_in (f := fun t => M t i) (m := 100000) (by omega) (k := q) (fun t ht => hM t i (by omega) hi)
  unfold rstF
  omega
theorem zadd_in {M : Nat → Nat → Int} {k n : Nat} (hk : k ≤ 12) (hM : ∀ t i, t < k → i < n → -100000 ≤ M t i ∧ M t i ≤ 100000) {t i : Nat} (ht : t < k) (hi : i < n) : -2400000 ≤ zaddF M k t i ∧ zaddF M k t i ≤ 2400000 ∧ -1200000 ≤ (k : Int) * M t i ∧ (k : Int) * M t i ≤ 1200000 := by
  have h1 := zrst_in hk hM hi (Nat.le_refl k)
  have h2 := hM t i ht hi
  have h3 : -1200000 ≤ (k : Int) * M t i ∧ (k : Int) * M t i ≤ 1200000 := by
    obtain ⟨c, hc⟩ : ∃ c : Int, (k : Int) = c := ⟨_, rfl⟩
    obtain ⟨m, hm⟩ : ∃ m, M t i = m := ⟨_, rfl⟩
    rw [hm] at h2 ⊢
    have hk' : (0 : Int) ≤ k ∧ (k : Int) ≤ 12 := by omega
    have a1 := Int.mul_le_mul_of_nonneg_left h2.2 hk'.1
    have a2 := Int.mul_le_mul_of_nonneg_left h2.1 hk'.1
    omega
  unfold zaddF
  omega
theorem zmir_in {M : Nat → Nat → Int} {k n s : Nat} (hk : k ≤ 12) (hn : 0 < n) (hM : ∀ t i, t < k → i < n → -100000 ≤ M t i ∧ M t i ≤ 100000) {t : Nat} (ht : t ≤ k) (j : Nat) : -28800000 ≤ mirF M k n s t j ∧ mirF M k n s t j ≤ 28800000 := by
  have h := sumZ_in (f := fun t => zaddF M k t ((j + t * s) % n)) (m := 2400000) (by omega) (k := t) (fun u hu => by
    have := zadd_in hk hM (show u < k by omega) (Nat.mod_lt (j + u * s) hn)
    omega)
  unfold mirF
  omega
theorem zmid_in {M : Nat → Nat → Int} {k n s : Nat} (hk : k ≤ 12) (hn : 0 < n) (hM : ∀ t i, t < k → i < n → -100000 ≤ M t i ∧ M t i ≤ 100000) {t : Nat} (ht : t < k) (i j : Nat) : -40000000 ≤ midF M k n s t i j ∧ midF M k n s t i j ≤ 40000000 := by
  have h := zmir_in (s := s) hk hn hM (Nat.le_of_lt ht) j
  have h2 := zadd_in hk hM ht (Nat.mod_lt (j + t * s) hn)
  unfold midF
  split <;> omega
end Go.Proofs.Ytcggceincmljdaa

end

section
/- Contracts of the small integer functions: absolute value, greatest common divisor, bounds. -/
namespace Go.Proofs.Ytcggceincmljdaa
open Go.RowKit

theorem ret_int {k : IntKind} {a b : Int} (h : a = b) : Ending.returned (.int k a) = .returned (.int k b) := by rw [h]


theorem gcd_tmod (c d : Int) : Int.gcd d (c.tmod d) = Int.gcd c d := by
  rw [Int.gcd_comm d]
  unfold Int.gcd
  rw [Int.natAbs_tmod, Nat.gcd_comm c.natAbs, Nat.gcd_rec d.natAbs]

theorem tmod_lt (c d : Int) (hd : d ≠ 0) : (c.tmod d).natAbs < d.natAbs := by
  rw [Int.natAbs_tmod]; exact Nat.mod_lt _ (by omega)

theorem tmod_in (c d : Int) (h1 : -9223372036854775808 ≤ d) (h2 : d ≤ 9223372036854775807) (hd : d ≠ 0) : -9223372036854775808 ≤ c.tmod d ∧ c.tmod d ≤ 9223372036854775807 := by
  have := tmod_lt c d hd
  omega


theorem neg_min : wrap64 (-(-9223372036854775808)) = -9223372036854775808 := by unfold wrap64; decide
theorem abs_min : wrap64 (((-9223372036854775808 : Int).natAbs : Nat) : Int) = -9223372036854775808 := by unfold wrap64; decide

theorem max_lt (a : Int) (h1 : -9223372036854775808 ≤ a) (h2 : a ≤ 9223372036854775807) (h : a < wrap64 (-a)) : wrap64 (-a) = wrap64 (a.natAbs : Int) := by
  by_cases e : a = -9223372036854775808
  · subst e; rw [neg_min] at h; omega
  · rw [IntWalk.wrap64_in _ ⟨by omega, by omega⟩] at h ⊢; rw [IntWalk.wrap64_in _ ⟨by omega, by omega⟩]; omega

theorem max_ge (a : Int) (h1 : -9223372036854775808 ≤ a) (h2 : a ≤ 9223372036854775807) (h : ¬ a < wrap64 (-a)) : a = wrap64 (a.natAbs : Int) := by
  by_cases e : a = -9223372036854775808
  · subst e; rw [abs_min]
  · rw [IntWalk.wrap64_in _ ⟨by omega, by omega⟩] at h; rw [IntWalk.wrap64_in _ ⟨by omega, by omega⟩]; omega




/-- Whether a number lies between two others. -/
def withinB (n lo hi : Int) : Bool := decide (lo ≤ n) && decide (n ≤ hi)
theorem withinB_iff (n lo hi : Int) : withinB n lo hi = true ↔ lo ≤ n ∧ n ≤ hi := by simp [withinB]

theorem withinref_any (n lo hi : Int) (w : World) :
    Calls Try.prog 10 #[.int .i64 n, .int .i64 lo, .int .i64 hi] w fun e w' => e = .returned (.bool (withinB n lo hi)) ∧ w = w' := by
  by_cases h1 : lo ≤ n
  · go_enter Try.func10, Try.ntmps10
    go_wp2
    go_ret
    exact ⟨by simp [withinB, h1], rfl⟩
  · go_enter Try.func10, Try.ntmps10
    go_wp2
    go_ret
    exact ⟨by simp [withinB]; omega, rfl⟩




theorem withinref_is (n lo hi : Int) (t : Bool) (h : withinB n lo hi = t) (w : World) :
    Calls Try.prog 10 #[.int .i64 n, .int .i64 lo, .int .i64 hi] w fun e w' => e = .returned (.bool t) ∧ w = w' := h ▸ withinref_any n lo hi w

end Go.Proofs.Ytcggceincmljdaa

end

section
/- Contracts of the functions that tell which texts are names. -/
namespace Go.Proofs.Ytcggceincmljdaa
open Go.RowKit

def letterB (c : Nat) : Bool := decide (97 ≤ c ∧ c ≤ 122 ∨ 65 ≤ c ∧ c ≤ 90)
def restB (c : Nat) : Bool := letterB c || decide (c = 45 ∨ 48 ≤ c ∧ c ≤ 57)
def byteAt (s : ByteArray) (j : Nat) : Nat := (s.data.toList.getD j 0).toNat
def okAt (s : ByteArray) (j : Nat) : Bool := if j = 0 then letterB (byteAt s j) else restB (byteAt s j)
/-- Whether a text is a name. -/
def nameB (s : ByteArray) : Bool := (List.range s.size).all (okAt s) && decide (s.size ≠ 0) && decide (s.size ≤ 12)

end Go.Proofs.Ytcggceincmljdaa

end
