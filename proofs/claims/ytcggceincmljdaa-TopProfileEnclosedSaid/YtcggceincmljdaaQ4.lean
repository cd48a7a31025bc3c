import Derived.Test.YtcggceincmljdaaQ3
import Derived.RangeFuncNested
import Derived.RangeFuncBound
import Derived.RangeFuncCalls
import Derived.RangeFuncLeaves
import Derived.RangeFuncBox
import Derived.Shelf.Abstract
import Derived.Shelf.RegionOpen
import Derived.WalkKit
import Derived.OwnWalkIn
import Derived.TacticsInMore
import Derived.LoopNIn
import Derived.LoopIn
import Derived.Maps.OwnIn
import Derived.Maps.AppendAt
import Derived.Test.YtcggceincmljdaaQ1
import Derived.Test.YtcggceincmljdaaRows
import Derived.ProofKit
import Derived.OpenShut
import Derived.ReadAgain
import Derived.Lib.SmallJoins
import Derived.Deep.Slices
import Derived.Deep.Fields
import Derived.Test.YtcggceincmljdaaQ2
import Derived.JoinedOf
import Derived.Deep.CutBlock
import Derived.Laws.OwnMore

section
/- Contracts of the reference's top, of the points below a name, of all points. -/
namespace Go.Proofs.Ytcggceincmljdaa
open Go.RowKit

/-- What operation c yields is owned, until operation s (an append, a store) comes. -/
def OwnM (base : Nat) (e : TypeId) (size n : Nat) (xs : List Value) (c s : Nat) (g : Nat → Option Pick) (f : Nat → Bool) (w' : World) : Prop := ∀ x, g c = some x → f s = false → w'.ownsRow base e size (.slice x.1 n x.2) n xs
section
variable {base size n c s i k : Nat} {e : TypeId} {xs : List Value} {g : Nat → Option Pick} {f : Nat → Bool} {w' w'' : World} {x : Pick}
theorem OwnM.start : OwnM base e size n xs c s (fun _ => none) f w' := fun x h => by cases h
theorem OwnM.step (h : OwnM base e size n xs c s g f w') (hb : Below w'.heap.size w' w'') (hk : k ≠ s) : OwnM base e size n xs c s g (Fx.add f k) w'' := fun x hx hf => by
  rw [add_ne' hk] at hf
  exact own_below (h x hx hf) hb (Nat.le_refl _)
theorem OwnM.new (h : w'.ownsRow base e size (.slice x.1 n x.2) n xs) : OwnM base e size n xs c s (Fx.upd g c x) f w' := fun y hy _ => by rw [Fx.upd_same] at hy; cases hy; exact h
theorem OwnM.stored : OwnM base e size n xs c s g (Fx.add f s) w'' := fun x _ hf => by rw [add_same] at hf; cases hf
end

def BelowPost (ps : List ByteArray) (w : World) (e : Ending) (w' : World) : Prop :=
  Below w.heap.size w w' ∧ ∃ A' c', e = .returned (.slice A' ps.length c') ∧ w'.ownsRow w.heap.size 9 1 (.slice A' ps.length c') ps.length (strs ps)



end Go.Proofs.Ytcggceincmljdaa

end

section
/- The contracts of the iterator over the points below a thing. -/
namespace Go.Proofs.Ytcggceincmljdaa
open Go.RowKit Go.Shelf Go.Maps

attribute [local go_sem] Oper.semAt_some

section
variable {F : Fence} {nF : Nat} {P : Program} {k t e : TypeId} {b n : Nat} {M : ByteArray → Option Value} {ops : Array Oper} {rest : List Oper} {o : Oper} {a : Act} {Q : Exit → Act → World → Prop}
end

/-- A text that is not too long. -/
abbrev Txt := { s : ByteArray // s.size ≤ maxLen }
def txts (xs : List Txt) : List ByteArray := xs.map (·.1)


def encT (x : Txt) : Value := .string x.1





end Go.Proofs.Ytcggceincmljdaa

end

section
/- The contracts of the collection of what an iterator gives, and of the points of a tree. -/
namespace Go.Proofs.Ytcggceincmljdaa
open Go.RowKit Go.Shelf Go.Maps

attribute [local go_sem] Oper.semAt_some

/-- An iterator over texts. -/
def Gives (gf : Nat) (lb : Array Value) (n₀ : Nat) (xs : List Txt) (w : World) : Prop :=
  ∀ m, SeqStopsK Fence.wide m Try.prog gf lb (fun x : Txt => #[Value.string x.1]) (Below n₀) (fun ys => ys = xs) (fun pre => pre <+: xs) xs.length w



end Go.Proofs.Ytcggceincmljdaa

end

section
/- The contracts of the points of a tree, and of what asks for a number for each point. -/
namespace Go.Proofs.Ytcggceincmljdaa
open Go.RowKit

def PointsPost (l : List Rk) (base : Nat) (w : World) (e : Ending) (w' : World) : Prop :=
  Below w.heap.size w w' ∧ (openErr l ≠ 0 → e = .returned (.tuple #[.slice none 0 0, .int .i64 (openErr l)])) ∧
  (openErr l = 0 → ∀ ps, ptsOf l = some ps → ∃ A c, e = .returned (.tuple #[.slice A ps.length c, .int .i64 0]) ∧ w'.ownsRow base 9 1 (.slice A ps.length c) ps.length (strs ps))




end Go.Proofs.Ytcggceincmljdaa

end

section
/- Contracts of all points of a tree as the reference has them, of the comparison of texts, of the guard on short names, of a copy of rockers. -/
namespace Go.Proofs.Ytcggceincmljdaa
open Go.RowKit

def TextsPost (ps : List ByteArray) (w : World) (e : Ending) (w' : World) : Prop :=
  Below w.heap.size w w' ∧ ∃ A' c', e = .returned (.slice A' ps.length c') ∧ w'.ownsRow w.heap.size 9 1 (.slice A' ps.length c') ps.length (strs ps)



/-- The guard on trees: at most 8 rockers, or too many, with short names. -/
def fewB (l : List Rk) : Bool := decide ((l.length ≤ 8 ∨ 40 < l.length) ∧ l.length ≤ 43) && l.all fun r => decide (r.name.size ≤ 20 ∧ r.left.size ≤ 20 ∧ r.right.size ≤ 20)
end Go.Proofs.Ytcggceincmljdaa

end

section
/- What every row of a statement needs: the arguments of a call that only makes memory read behind it as they did before. -/
namespace Go.Proofs.Ytcggceincmljdaa
open Go.RowKit Go.ChangeShapes Go.WideShapes Go.ChangeAt

theorem own_knob : ownKnob Try.prog.godebug = none := by kernel_rfl
theorem laid_rows : laidOutB Try.prog = true := by kernel_rfl
theorem maps_rowed : mapsRowed Try.prog = true := by kernel_rfl
theorem slices_full : ∀ t e, t < Try.prog.types.size → Try.prog.underlying t = some (.slice e) → 0 < Try.prog.cellsOf e := slices_full_of _ (by kernel_rfl)

section
variable {H : Type} {enc : TypeId × Value → H} {P : Program} {W W' : World}

theorem sameAt_of_below {B : Nat} (hb : Below B W W') {p : MemPlace} (hp : p.block < B) : W.sameAt W' p := by
  cases p with
  | cell b o => exact hb.cell (p := ⟨b, o, none⟩) hp
  | map b => exact hb.block b hp

theorem trodAll_carry {base : Nat} {sp : Nat → Bool} {hd : Bool} : ∀ {ts : List TypeId} {vs : List Value} {ds : List (DataW H)} {ps : List MemPlace},
    DataW.TrodAll enc P W base sp hd ts vs ds ps → (∀ p ∈ ps, W.sameAt W' p) → DataW.TrodAll enc P W' base sp hd ts vs ds ps
  | [], [], [], _, h, _ => h
  | _ :: _, _ :: _, _ :: _, _, ⟨p, q, ⟨n, h1⟩, h2, e⟩, hs => ⟨p, q, ⟨n, DataW.trod_carry n _ _ _ h1 fun x hx => hs x (by rw [e]; exact List.mem_append_left _ hx)⟩,
      trodAll_carry h2 (fun x hx => hs x (by rw [e]; exact List.mem_append_right _ hx)), e⟩

set_option maxRecDepth 100000 in
/-- THE POST OF A LAW: it returned true, and made memory alone. -/
theorem post_law {f : Func} {s : ChangeSpec} {t : TypeId} {W W' : World} {args : Array Value} {ds gs : List (DataW H)} {before : List MemPlace}
    (hW : DataW.Whole enc Try.prog f.params.toList s.vars false W args.toList ds gs before) (hv : s.vars = []) (hr : f.resultTypes = #[t]) (ht : Try.prog.underlying t = some .bool)
    (hp : f.params.toList.all (fun t => decide (t < Try.prog.types.size)) = true) (hs : (s.fn H (ds ++ gs)).results = [.lit (.bool true)]) (ha : (s.fn H (ds ++ gs)).args = ds) (hg : (s.fn H (ds ++ gs)).vars = [])
    (hb : Below W.heap.size W W') : s.post enc Try.prog f false true false false W args (.bool true) W' := by
  have hW' := hW
  obtain ⟨p, q, hA, hV, rfl, hfz, hnd⟩ := hW'
  rw [hv] at hV
  have hV' : gs = [] ∧ q = [] := by
    cases gs with
    | nil => exact ⟨rfl, hV⟩
    | cons x l => exact hV.elim
  obtain ⟨rfl, rfl⟩ := hV'
  rw [List.append_nil] at hW
  have hT : ∀ t ∈ f.params.toList, t < Try.prog.types.size := fun t ht => by simpa using List.all_eq_true.1 hp t ht
  refine post_of_below (pa := p) (pv := []) hW (fun b sp hd => ?_) (fun sp hsp => ?_) (fun sp hsp => ?_) (by simp) hb ?_
  · rw [hr, hs]
    exact ⟨[], [], ⟨1, by simp [DataW.trod, ht, Value.cells]⟩, rfl, rfl⟩
  · rw [ha]
    exact trodAll_carry (DataW.TrodAll.respare (kids_rows laid_rows maps_rowed) slices_full hT hA hsp) fun x hx => sameAt_of_below hb (hW.lt x hx)
  · rw [hv, hg]
    rfl
  · exact ok_one hr rfl (okWide_bool_mk ht _)
end

end Go.Proofs.Ytcggceincmljdaa

end

section
/- Arguments that are slices of structs of whole numbers or of texts: their cells as a row of memory. -/
namespace Go.Proofs.Ytcggceincmljdaa
open Go Go.RowKit Go.ChangeShapes Go.WideShapes Go.ChangeAt Go.Joins Go.Deep

def I64 (z : Int) : Prop := -9223372036854775808 ≤ z ∧ z ≤ 9223372036854775807
theorem I64.of_wf {z : Int} (h : (Lit.int .i64 z).wf = true) : I64 z := by
  simpa [I64, Lit.wf, IntKind.min, IntKind.max, IntKind.signed, IntKind.bits] using h

/-- A choice of a number for each place. -/
theorem choose_list {R : Nat → Int → Prop} (m : Nat) (h : ∀ q, q < m → ∃ z, R q z) : ∃ xs : List Int, xs.length = m ∧ ∀ q z, xs[q]? = some z → R q z := by
  induction m with
  | zero => exact ⟨[], rfl, fun q z h => by simp at h⟩
  | succ m ih =>
    obtain ⟨xs, hl, hx⟩ := ih fun q hq => h q (by omega)
    obtain ⟨z, hz⟩ := h m (by omega)
    refine ⟨xs ++ [z], by simp [hl], fun q u hu => ?_⟩
    rcases Nat.lt_trichotomy q m with hq | hq | hq
    · rw [List.getElem?_append_left (by omega)] at hu
      exact hx q u hu
    · subst hq
      rw [List.getElem?_append_right (by omega), hl, Nat.sub_self] at hu
      simp at hu
      exact hu ▸ hz
    · rw [List.getElem?_eq_none (by simp; omega)] at hu
      cases hu

theorem pairs_of_ints : ∀ (n : Nat) (xs : List Int), xs.length = n * 2 → ∃ l : List (Int × Int), l.length = n ∧ cells2 l = xs.map (.int .i64) ∧ ∀ p ∈ l, p.1 ∈ xs ∧ p.2 ∈ xs
  | 0, xs, h => by
    obtain rfl : xs = [] := List.length_eq_zero_iff.1 (by simpa using h)
    exact ⟨[], rfl, rfl, by simp⟩
  | n + 1, xs, h => by
    match xs, h with
    | x :: y :: t, h =>
      obtain ⟨l, h1, h2, h3⟩ := pairs_of_ints n t (by simp at h; omega)
      refine ⟨(x, y) :: l, by simp [h1], by simpa [cells2] using h2, fun p hp => ?_⟩
      rcases List.mem_cons.1 hp with rfl | hp
      · simp
      · have := h3 p hp
        exact ⟨by simp [this.1], by simp [this.2]⟩
    | [_], h => simp at h; omega
    | [], h => simp at h

section
variable {H : Type} {enc : TypeId × Value → H} {P : Program} {w : World} {base : Nat} {spare : Nat → Bool} {held : Bool}
theorem block_of_cell {p : Addr} {v : Value} (h : w.cell? p = some v) : p.block < w.heap.size := by
  unfold World.cell? at h
  split at h <;> first | cases h | (split at h <;> first | cases h | skip)
  all_goals
    first
    | (rename_i hh; exact (Array.getElem?_eq_some_iff.1 hh).1)
    | (rename_i hh _; exact (Array.getElem?_eq_some_iff.1 hh).1)
    | omega

end

section
variable {H : Type} {enc : TypeId × Value → H} {P : Program} {w : World} {base b0 : Nat} {spare : Nat → Bool} {held : Bool} {r : Reach} {t e tI : TypeId} {v : Value} {d : DataW H} {p : List MemPlace}
end

end Go.Proofs.Ytcggceincmljdaa

end

section
/- Lists of lists of numbers: how they lie in memory, as arguments; their copy. -/
namespace Go.Proofs.Ytcggceincmljdaa
open Go Go.RowKit Go.ChangeShapes Go.WideShapes Go.ChangeAt Go.Joins Go.Deep

/-- A list of numbers in memory. -/
structure TRow where
  A : Option Addr
  n : Nat
  c : Nat
  xs : List Int
def TRow.val (r : TRow) : Value := .slice r.A r.n r.c
def ReadsT (w : World) (N : Nat) (A : Option Addr) (n : Nat) (t : List TRow) : Prop :=
  Reads w N 1 A n (t.map TRow.val) ∧ ∀ r ∈ t, (r.n ≤ r.c ∧ r.c ≤ 9223372036854775807) ∧ Reads w N 1 r.A r.n (r.xs.map (.int .i64))
section
variable {w w' W W1 : World} {N N' n : Nat} {A : Option Addr} {t : List TRow}
theorem ReadsT.below (h : ReadsT w N A n t) (hb : Below N w w') : ReadsT w' N A n t := ⟨h.1.below hb, fun r hr => ⟨(h.2 r hr).1, (h.2 r hr).2.below hb⟩⟩
theorem ReadsT.more (h : ReadsT w N A n t) (hN : N ≤ N') : ReadsT w N' A n t := ⟨h.1.more hN, fun r hr => ⟨(h.2 r hr).1, (h.2 r hr).2.more hN⟩⟩
theorem ReadsT.len (h : ReadsT w N A n t) : t.length = n := by have := h.1.1; simpa using this
theorem ReadsT.rlen (h : ReadsT w N A n t) {r : TRow} (hr : r ∈ t) : r.xs.length = r.n := by have := (h.2 r hr).2.1; simpa using this
theorem ReadsT.at_ (h : ReadsT w N A n t) {i : Nat} (hi : i < n) : ∃ b o r, A = some ⟨b, o, none⟩ ∧ b < N ∧ t[i]? = some r ∧ w.cell? ⟨b, o + i, none⟩ = some (.slice r.A r.n r.c) ∧ (r.n ≤ r.c ∧ r.c ≤ 9223372036854775807) ∧ r.xs.length = r.n ∧ Reads w N 1 r.A r.n (r.xs.map (.int .i64)) := by
  obtain ⟨b, o, e, hb, hc⟩ := h.1.2 (by omega)
  have hl := h.len
  have hr := List.getElem?_eq_getElem (show i < t.length by omega)
  have hm := List.getElem_mem (show i < t.length by omega)
  exact ⟨b, o, _, e, hb, hr, hc i _ (by rw [List.getElem?_map, hr]; rfl), (h.2 _ hm).1, h.rlen hm, (h.2 _ hm).2⟩
end

section
variable {H : Type} {enc : TypeId × Value → H} {P : Program} {w : World} {base b0 : Nat} {spare : Nat → Bool} {held : Bool} {r : Reach} {t e i : TypeId} {v : Value} {d : DataW H} {p : List MemPlace}
theorem row_ints {fuel : Nat} {cs : List Value} {x : DataW H × List MemPlace} (ht : P.underlying t = some (.slice e)) (he : P.underlying e = some (.int .i64)) (hc : P.cellsOf e = 1) (hf : DataW.trod enc P w base spare held fuel t cs = some x) :
    ∃ r : TRow, cs = [r.val] ∧ (r.n ≤ r.c ∧ r.c ≤ 9223372036854775807) ∧ (∀ z ∈ r.xs, I64 z) ∧ Reads w w.heap.size 1 r.A r.n (r.xs.map (.int .i64)) := by
  rcases open_ints ht he hc hf with ⟨h0, -⟩ | ⟨a, len, cap, zs, hcs, -, hl, hm, hzl, -, hcell, hwf⟩
  · exact ⟨⟨none, 0, 0, []⟩, h0, ⟨Nat.le_refl 0, by simp⟩, by simp, Reads.none_⟩
  have hlz : len ≤ zs.length := by rw [hzl]; split <;> omega
  refine ⟨⟨some a, len, cap, zs.take len⟩, hcs, ⟨hl, by simpa [maxLen] using hm⟩, fun z hz => I64.of_wf (hwf z (List.mem_of_mem_take hz)), ?_⟩
  rcases Nat.eq_zero_or_pos len with rfl | hp
  · exact Reads.none_
  refine Reads.of_adds (by omega) (by simp; omega) ?_ (fun j u hu => ?_)
  · have := block_of_cell (hcell 0 (by omega))
    simpa [Addr.add] using this
  · rw [List.getElem?_map, List.getElem?_take] at hu
    split at hu
    · rename_i hj
      have hz := List.getElem?_eq_getElem (show j < zs.length by omega)
      rw [hz] at hu
      simp at hu
      rw [← hu]
      have := hcell j (by omega)
      simpa [List.getD, hz] using this
    · cases hu
end

/-- A copy of a table. -/
def TabPost (t : List TRow) (n : Nat) (w : World) (e : Ending) (w' : World) : Prop :=
  Below w.heap.size w w' ∧ ∃ A' c' ts, e = .returned (.slice A' n c') ∧ ts.map TRow.xs = t.map TRow.xs ∧ ReadsT w' w'.heap.size A' n ts

theorem info_ints : (Try.prog.info? 22).map (fun i => (i.zero, i.size, i.bytes)) = some (some (.slice none 0 0), 1, 24) := by kernel_rfl


end Go.Proofs.Ytcggceincmljdaa

end

section
/- Readings: right ones are accepted; their arcs. -/
namespace Go.Proofs.Ytcggceincmljdaa
open Go Go.RowKit

theorem withinprof_is (n lo hi : Int) (t : Bool) (h : withinB n lo hi = t) (w : World) : Calls Try.prog 24 #[.int .i64 n, .int .i64 lo, .int .i64 hi] w fun e w' => e = .returned (.bool t) ∧ w = w' := by
  subst h
  unfold withinB
  by_cases h1 : lo ≤ n <;> by_cases h2 : n ≤ hi
  all_goals
    go_enter Try.func24, Try.ntmps24
    have d1 : decide (lo ≤ n) = decide (lo ≤ n) := rfl
    go_wp2
    go_ret
    exact ⟨by simp [h1, h2], rfl⟩

theorem within_mk' {n lo hi : Int} (h1 : lo ≤ n) (h2 : n ≤ hi) : withinB n lo hi = true := (withinB_iff n lo hi).2 ⟨h1, h2⟩
set_option maxRecDepth 100000 in
set_option maxHeartbeats 2000000 in
/-- Right readings are accepted. -/
theorem readings_ok (n : Nat) (hn : 1 ≤ n ∧ n ≤ 40) (A : Option Addr) (k c : Nat) (l : List Quad) (hk : k ≤ 100) (hl : RdOk n l) (w : World) (hx : Reads w w.heap.size 4 A k (cells4 l)) :
    Calls Try.prog 17 #[.int .i64 (n : Int), .slice A k c] w fun e w' => e = .returned (.int .i64 0) ∧ Below w.heap.size w w' := by
  have HX := Lib.hid hx
  have HL := Lib.hid hl
  have H1 := Lib.hid (within_mk' (show (1 : Int) ≤ (n : Int) by omega) (show (n : Int) ≤ 40 by omega))
  have e1 := IntWalk.i64_in ((n : Int) - 1) ⟨by omega, by omega⟩
  have d1 : decide ((100 : Int) < (k : Int)) = false := by simp; omega
  clear hx hl
  go_enter Try.func17, Try.ntmps17
  go_wp2_with fail
  refine (withinprof_is _ _ _ true H1.out _).mono ?_
  rintro e w' ⟨rfl, rfl⟩
  go_wp2
  go_loopw [17] (fun i wr => ∃ j : Nat, j ≤ k ∧ i = .int .i64 j ∧ Below w.heap.size w wr) (fun i _ => k - (intOf i).toNat)
  case atStart => exact ⟨0, by omega, rfl, Below.refl _ _⟩
  case round =>
    obtain ⟨j, hj, rfl, hb⟩ := hrel
    have HB := Lib.hid hb
    by_cases hlt : j < k
    rotate_left
    · clear hb
      go_wp2
      go_ret
      exact ⟨rfl, HB.out⟩
    have hjj : (j : Int) < (k : Int) := by omega
    obtain ⟨xb, xo, ⟨a, b, lo, hi⟩, hAe, hxb, hr, c0, c1, c2, c3⟩ := (HX.out.below hb).quad hlt
    simp only at c0 c1 c2 c3
    obtain ⟨q1, q2, q3, q4, q5, q6⟩ := HL.out _ (List.mem_of_getElem? hr)
    simp only at q1 q2 q3 q4 q5 q6
    subst hAe
    have W1 := Lib.hid (within_mk' q1.1 (show a ≤ (n : Int) - 1 by omega))
    have W2 := Lib.hid (within_mk' q2.1 (show b ≤ (n : Int) - 1 by omega))
    have W3 := Lib.hid (within_mk' q4 (show lo ≤ 1000000 by omega))
    have W4 := Lib.hid (within_mk' (show -1000000 ≤ hi by omega) q6)
    have hab : (a == b) = false := by simpa using q3
    have hlo : decide (hi < lo) = false := by simp; omega
    have hbs := HB.out.size
    clear hb hr
    go_wp2_with fail
    generalize hW : wr.alloc (.cells #[.int .i64 a, .int .i64 b, .int .i64 lo, .int .i64 hi] 57) = w1
    have HB1 := Lib.hid (show Below w.heap.size w w1 by rw [← hW]; exact HB.out.alloc hbs _)
    have hk1 : Blk w1 wr.heap.size 57 #[.int .i64 a, .int .i64 b, .int .i64 lo, .int .i64 hi] := by rw [← hW]; exact Blk.new _ _ _
    have z0 := hk1.cell 0
    have z1 := hk1.cell 1
    have z2 := hk1.cell 2
    have z3 := hk1.cell 3
    clear hW hk1 c0 c1 c2 c3
    refine (withinprof_is _ _ _ true W1.out _).mono ?_
    rintro e w' ⟨rfl, rfl⟩
    go_wp2_with fail
    refine (withinprof_is _ _ _ true W2.out _).mono ?_
    rintro e w' ⟨rfl, rfl⟩
    go_wp2_with fail
    refine (withinprof_is _ _ _ true W3.out _).mono ?_
    rintro e w' ⟨rfl, rfl⟩
    go_wp2_with fail
    refine (withinprof_is _ _ _ true W4.out _).mono ?_
    rintro e w' ⟨rfl, rfl⟩
    go_wp2
    go_roundw
    case rel => exact ⟨j + 1, by omega, by go_num, HB1.out⟩
    case measure => simp [intOf]; omega
end Go.Proofs.Ytcggceincmljdaa

end

section
/- The arcs of readings. -/
namespace Go.Proofs.Ytcggceincmljdaa
open Go Go.RowKit

theorem info_arc : (Try.prog.info? 74).map (fun i => (i.zero, i.size, i.bytes)) = some (some (.agg #[.int .i64 0, .int .i64 0, .int .i64 0, .int .i64 0]), 4, 32) := by kernel_rfl
theorem snoc2_run (B : Nat) (v : Value) (k : Nat) (l : List Quad) (p q : Quad) (w : World) (ho : w.ownsRow B 74 4 v k (cells4 l)) (hB : B ≤ w.heap.size) (hk : k ≤ 100000) :
    ∃ v' W2, (Builtin.append_ #[71, 71] 71 #[v, .slice (some ⟨w.heap.size, 0, none⟩) 2 2]).run Try.prog (w.alloc (.cells #[.int .i64 p.1, .int .i64 p.2.1, .int .i64 p.2.2.1, .int .i64 p.2.2.2, .int .i64 q.1, .int .i64 q.2.1, .int .i64 q.2.2.1, .int .i64 q.2.2.2] 74)) = .ok v' W2 ∧ W2.ownsRow B 74 4 v' (k + 2) (cells4 (l ++ [p, q])) ∧ Below B w W2 := by
  obtain ⟨i0, hi0, hz0, hz1, hz2⟩ := info_parts info_arc
  obtain ⟨W, hW⟩ : ∃ W, W = w.alloc (.cells #[.int .i64 p.1, .int .i64 p.2.1, .int .i64 p.2.2.1, .int .i64 p.2.2.2, .int .i64 q.1, .int .i64 q.2.1, .int .i64 q.2.2.1, .int .i64 q.2.2.2] 74) := ⟨_, rfl⟩
  have hbW : Below B w W := by rw [hW]; exact (Below.refl _ _).alloc hB _
  have hoW : W.ownsRow B 74 4 v k (cells4 l) := by rw [hW]; exact ho.alloc _
  have hnb : Blk W w.heap.size 74 #[.int .i64 p.1, .int .i64 p.2.1, .int .i64 p.2.2.1, .int .i64 p.2.2.2, .int .i64 q.1, .int .i64 q.2.1, .int .i64 q.2.2.1, .int .i64 q.2.2.2] := by rw [hW]; exact Blk.new _ _ _
  have hsz : W.heap.size = w.heap.size + 1 := by rw [hW]; simp
  obtain ⟨v', W2, hrun, o2', hg2, -⟩ := run_append_any (P := Try.prog) W B 71 71 74 i0 _ 4 32 Try.underlying71 hi0 hz0 hz1 hz2 rfl (by omega) v k _ hoW W.heap.size (some ⟨w.heap.size, 0, none⟩) 2 2 (cells4 [p, q]) (Blk.reads hnb rfl) (one_cells4 _) (by unfold maxLen; omega) (by omega) (by omega)
  rw [hW] at hrun
  exact ⟨v', W2, hrun, by rw [cells4_append]; exact o2', hbW.grown hg2 (by omega) (fun g hg => (own_lt hoW hg).1)⟩
theorem own_adr5 {w : World} {base n size c : Nat} {A : Option Addr} {e : TypeId} {xs : List Value} (h : w.ownsRow base e size (.slice A n c) n xs) : ∀ b o, A = some ⟨b, o, none⟩ → base ≤ b := by
  intro b o hA
  rcases h.2 with ⟨h1, -⟩ | ⟨g, cap, cur, h1, hb, _⟩
  · injection h1 with h1 _ _; rw [hA] at h1; cases h1
  · injection h1 with h1 _ _; rw [hA] at h1; injection h1 with h1; injection h1 with h1 _ _; omega
set_option maxRecDepth 100000 in
set_option maxHeartbeats 2000000 in
theorem arcs_is (A : Option Addr) (k c n : Nat) (l : List Quad) (hk : k ≤ 100) (hn : n ≤ 40) (hl : RdOk n l) (w : World) (hx : Reads w w.heap.size 4 A k (cells4 l)) :
    Calls Try.prog 28 #[.slice A k c] w fun e w' => ∃ A' c', e = .returned (.slice A' (2 * k) c') ∧ Below w.heap.size w w' ∧ Reads w' w'.heap.size 4 A' (2 * k) (cells4 (arcsK l k)) ∧ ∀ b o, A' = some ⟨b, o, none⟩ → w.heap.size ≤ b := by
  have hlk := hx.len4
  have HX := Lib.hid hx
  have HL := Lib.hid hl
  clear hx hl
  go_enter Try.func28, Try.ntmps28
  go_wp2
  go_loopw [3, 8] (fun o i wr => ∃ j : Nat, j ≤ k ∧ i = .int .i64 j ∧ Below w.heap.size w wr ∧ wr.ownsRow w.heap.size 74 4 o (2 * j) (cells4 (arcsK l j))) (fun _ i _ => k - (intOf i).toNat)
  case atStart => exact ⟨0, by omega, rfl, Below.refl _ _, World.ownsRow_nil _ _ _ _⟩
  case round =>
    obtain ⟨j, hj, rfl, hb, ho⟩ := hrel
    obtain ⟨w1, hnm⟩ : ∃ z : World, z = wr := ⟨_, rfl⟩
    subst hnm
    have HB := Lib.hid hb
    have HO := Lib.hid ho
    clear ho
    by_cases hlt : j < k
    rotate_left
    · obtain rfl : k = j := by omega
      obtain ⟨A', c', rfl, hr⟩ := own_reads HO.out
      have HR := Lib.hid hr
      have HA := Lib.hid (own_adr5 HO.out)
      clear hb hr
      go_wp2
      go_ret
      exact ⟨A', c', rfl, HB.out, HR.out, HA.out⟩
    have hjj : (j : Int) < (k : Int) := by omega
    obtain ⟨xb, xo, ⟨a, b, lo, hi⟩, hAe, hxb, hr, c0, c1, c2, c3⟩ := (HX.out.below hb).quad hlt
    simp only at c0 c1 c2 c3
    obtain ⟨q1, q2, q3, q4, q5, q6⟩ := HL.out _ (List.mem_of_getElem? hr)
    simp only at q1 q2 q3 q4 q5 q6
    have HAR := Lib.hid (arcsK_succ hr)
    subst hAe
    have hbs := HB.out.size
    have e1 := IntWalk.i64_in ((j : Int) + 1) ⟨by omega, by omega⟩
    have e2 := IntWalk.i64_in (-lo) ⟨by omega, by omega⟩
    have e3 := IntWalk.i64_in (-(j : Int)) ⟨by omega, by omega⟩
    have e4 := IntWalk.i64_in (-(j : Int) - 1) ⟨by omega, by omega⟩
    clear hb hr
    go_upto_region 5 with fail
    generalize hW : w1.alloc (.cells #[.int .i64 a, .int .i64 b, .int .i64 lo, .int .i64 hi] 57) = w2
    have HB2 := Lib.hid (show Below w.heap.size w w2 by rw [← hW]; exact HB.out.alloc hbs _)
    have hk1 : Blk w2 w1.heap.size 57 #[.int .i64 a, .int .i64 b, .int .i64 lo, .int .i64 hi] := by rw [← hW]; exact Blk.new _ _ _
    have ho2 : w2.ownsRow w.heap.size 74 4 u3 (2 * j) (cells4 (arcsK l j)) := by rw [← hW]; exact HO.out.alloc _
    have z0 := hk1.cell 0
    have z1 := hk1.cell 1
    have z2 := hk1.cell 2
    have z3 := hk1.cell 3
    obtain ⟨v', W2, hrun, ho3, hb3⟩ := snoc2_run w.heap.size _ (2 * j) _ (a, b, hi, (j : Int) + 1) (b, a, -lo, -(j : Int) - 1) w2 ho2 HB2.out.size (by omega)
    have HRUN := Lib.hid hrun
    have HO3 := Lib.hid (show W2.ownsRow w.heap.size 74 4 v' (2 * (j + 1)) (cells4 (arcsK l (j + 1))) by rw [HAR.out]; exact ho3)
    have HB3 := Lib.hid (HB2.out.trans hb3)
    clear hW hk1 c0 c1 c2 c3 ho2 hrun ho3 hb3
    go_wp2_with (first | (at_builtin; refine wpList_app _ W2 v' rfl _ _ _ rfl _ _ rfl rfl HRUN.out ?_))
    go_roundw
    case rel => exact ⟨j + 1, by omega, by go_num, HB3.out, HO3.out⟩
    case measure => simp [intOf]; omega
end Go.Proofs.Ytcggceincmljdaa

end

section
/- What a piece of a walk leaves as it was: all blocks but some; rows of cells given by a function. -/
namespace Go.Proofs.Ytcggceincmljdaa
open Go.RowKit

/-- All that was there, apart from the blocks of X, is as it was. -/
structure Tch (X : Nat → Prop) (w w' : World) : Prop where
  os : w'.os = w.os
  tape : w'.tape = w.tape
  output : w'.output = w.output
  size : w.heap.size ≤ w'.heap.size
  block : ∀ i, i < w.heap.size → ¬ X i → w'.heap[i]? = w.heap[i]?
section
variable {X Y : Nat → Prop} {w w' w'' : World}
theorem Tch.refl (X : Nat → Prop) (w : World) : Tch X w w := ⟨rfl, rfl, rfl, Nat.le_refl _, fun _ _ _ => rfl⟩
theorem Tch.trans (h : Tch X w w') (k : Tch X w' w'') : Tch X w w'' := ⟨k.os.trans h.os, k.tape.trans h.tape, k.output.trans h.output, Nat.le_trans h.size k.size, fun i hi hx => (k.block i (Nat.lt_of_lt_of_le hi h.size) hx).trans (h.block i hi hx)⟩
theorem Tch.mono (h : Tch X w w') (hs : ∀ i, i < w.heap.size → X i → Y i) : Tch Y w w' := ⟨h.os, h.tape, h.output, h.size, fun i hi hy => h.block i hi fun hx => hy (hs i hi hx)⟩
theorem Tch.of_below (h : Below w.heap.size w w') : Tch X w w' := ⟨h.os, h.tape, h.output, h.size, fun i hi _ => h.block i hi⟩
theorem Tch.call (h : Tch X w w') (k : Below w'.heap.size w' w'') : Tch X w w'' := h.trans (Tch.of_below k)
theorem Tch.alloc (h : Tch X w w') (o : Obj) : Tch X w (w'.alloc o) := h.call ((Below.refl _ _).alloc (Nat.le_refl _) _)
theorem Tch.drewN (h : Tch X w w') (n : Nat) : Tch X w (w'.drewN n) := h.call (below_drewN (Below.refl _ _) n)
theorem Tch.drew (h : Tch X w w') : Tch X w w'.drew := ⟨h.os, h.tape, h.output, h.size, h.block⟩
theorem Tch.setCell (h : Tch X w w') {p : Addr} (hp : X p.block ∨ w.heap.size ≤ p.block) (u : Value) : Tch X w (w'.setCell p u) :=
  ⟨h.os, h.tape, h.output, by simpa [World.setCell] using h.size, fun i hi hx => (Below.heap_setCell w' p u i (by rintro rfl; rcases hp with hp | hp; exact hx hp; omega)).trans (h.block i hi hx)⟩
theorem Tch.below {B : Nat} (h : Tch X w w') (hx : ∀ q, X q → B ≤ q) (hB : B ≤ w.heap.size) : Below B w w' := ⟨h.os, h.tape, h.output, h.size, fun i hi => h.block i (by omega) fun hxi => by have := hx i hxi; omega⟩
theorem Tch.own (h : Tch X w w') {base n size : Nat} {e : TypeId} {v : Value} {xs : List Value} (ho : w.ownsRow base e size v n xs) (hx : ∀ q, v.ownBlock = some q → ¬ X q) : w'.ownsRow base e size v n xs :=
  own_same ho fun q hq => h.block q (own_lt ho hq).2 (hx q hq)
theorem Tch.grown (h : Tch X w w') {row : Option Nat} (hg : w'.grownBy w'' row) (hx : ∀ q, row = some q → X q ∨ w.heap.size ≤ q) : Tch X w w'' :=
  ⟨hg.os.trans h.os, hg.tape.trans h.tape, hg.output.trans h.output, Nat.le_trans h.size hg.size, fun i hi hxi => (hg.block i (Nat.lt_of_lt_of_le hi h.size) (fun e => by rcases hx i e.symm with k | k; exact hxi k; omega)).trans (h.block i hi hxi)⟩
end

/-- A block of n cells, told by a function. -/
def RB (w : World) (g : Nat) (t : TypeId) (n : Nat) (f : Nat → Value) : Prop := Blk w g t ((List.range n).map f).toArray
section
variable {w w' : World} {g n : Nat} {t : TypeId} {f f' : Nat → Value}
theorem RB.lt (h : RB w g t n f) : g < w.heap.size := Blk.lt h
theorem RB.cell (h : RB w g t n f) {k : Nat} (hk : k < n) : w.cell? ⟨g, k, none⟩ = some (f k) := by
  rw [Blk.cell h k]
  simp [hk]
theorem RB.frozen (h : RB w g t n f) (k : Nat) : w.frozen? ⟨g, k, none⟩ = false := Blk.frozen h k
theorem RB.congr (h : RB w g t n f) (he : ∀ k, k < n → f k = f' k) : RB w g t n f' := by
  have e : (List.range n).map f = (List.range n).map f' := List.map_congr_left fun k hk => he k (List.mem_range.1 hk)
  unfold RB at h ⊢
  rwa [e] at h
theorem RB.set_ (h : RB w g t n f) (k : Nat) (u : Value) : RB (w.setCell ⟨g, k, none⟩ u) g t n (fun j => if j = k then u else f j) := by
  have h' := Blk.set_ h k u
  unfold RB
  have e : ((List.range n).map f).toArray.setIfInBounds k u = ((List.range n).map (fun j => if j = k then u else f j)).toArray := by
    rw [List.setIfInBounds_toArray]
    congr 1
    apply List.ext_getElem?
    intro i
    rw [List.getElem?_set, List.getElem?_map]
    by_cases hin : i < n
    · by_cases hik : k = i
      · subst hik; simp [hin]
      · rw [if_neg hik]
        have : ¬ i = k := fun e => hik e.symm
        simp [hin, this]
    · simp only [List.getElem?_map, List.length_map, List.length_range]
      have : (List.range n)[i]? = none := by rw [List.getElem?_eq_none]; simp; omega
      rw [this]
      by_cases hik : k = i
      · subst hik; simp [hin]
      · rw [if_neg hik]; rfl
  rwa [e] at h'
theorem RB.reads (h : RB w g t n f) : Reads w w.heap.size 1 (some ⟨g, 0, none⟩) n ((List.range n).map f) := Blk.reads h (by simp)
end
theorem RB.lay {w w' : World} {g n : Nat} {t : TypeId} {f : Nat → Value} (h : RB w g t n f) (hb : Below w.heap.size w w') : RB w' g t n f := Blk.below h hb h.lt
theorem RB.alloc {w : World} {g n : Nat} {t : TypeId} {f : Nat → Value} (h : RB w g t n f) (o : Obj) : RB (w.alloc o) g t n f := Blk.alloc h o
theorem Tch.cell {X : Nat → Prop} {w w' : World} (h : Tch X w w') {p : Addr} (hp : p.block < w.heap.size) (hx : ¬ X p.block) : w'.cell? p = w.cell? p := World.cell?_of_block (h.block _ hp hx)
theorem made_one (z : Value) (n : Nat) : madeCells #[z] n = ((List.range n).map fun _ => z).toArray := by
  have h := toList_madeCells_one z n
  apply Array.ext'
  rw [h]
  simp [List.map_const']

end Go.Proofs.Ytcggceincmljdaa

end
