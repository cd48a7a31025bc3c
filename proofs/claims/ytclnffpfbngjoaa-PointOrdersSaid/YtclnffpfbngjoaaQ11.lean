import Derived.Test.YtclnffpfbngjoaaQ2
import Derived.Test.YtclnffpfbngjoaaQ8
import Derived.Test.YtclnffpfbngjoaaQ4
import Derived.RangeFuncNested
import Derived.RangeFuncBound
import Derived.RangeFuncCalls
import Derived.RangeFuncLeaves
import Derived.RangeFuncBox
import Derived.Shelf.Abstract
import Derived.Shelf.RegionOpen
import Derived.WalkKit
import Derived.OwnWalkIn
import Derived.TacticsInMore
import Derived.LoopNIn
import Derived.LoopIn
import Derived.Maps.OwnIn
import Derived.Maps.AppendAt
import Derived.Test.YtclnffpfbngjoaaRows
import Derived.Test.YtclnffpfbngjoaaQ1
import Derived.ProofKit
import Derived.OpenShut
import Derived.ReadAgain
import Derived.Lib.SmallJoins
import Derived.Deep.Slices
import Derived.Deep.Fields
import Derived.JoinedOf

section
/- The contracts of all shares of a tree, and of Shares. -/
namespace Go.Proofs.Ytclnffpfbngjoaa
open Go.RowKit

/-- The name of the top. -/
def topName (l : List Rk) : ByteArray := ((l[topOf l]?).map (·.name)).getD ByteArray.empty
def sharesOf (l : List Rk) : Option (List (Int × Int)) := sh l l.length (topName l) 1 1


/-- What lies below the top, as the tree of a list has it. -/
def ptsOf (l : List Rk) : Option (List ByteArray) := pts l l.length (topName l)







end Go.Proofs.Ytclnffpfbngjoaa

end

section
/- A tree without a cycle has no deep branch: what lies below its top is found. -/
namespace Go.Proofs.Ytclnffpfbngjoaa
open Go.RowKit

/-- The rocker that bears a thing, by its name. -/
def upOf (l : List Rk) (s : ByteArray) : Option ByteArray := (bearerOf l s).bind fun i => (l[i]?).map (·.name)

theorem bearer_get {l : List Rk} {s : ByteArray} {i : Nat} (h : bearerOf l s = some i) : ∃ r, l[i]? = some r ∧ (r.left = s ∨ r.right = s) := by
  unfold bearerOf at h
  obtain ⟨hi, hp, -⟩ := List.findIdx?_eq_some_iff_getElem.1 h
  exact ⟨l[i], List.getElem?_eq_getElem hi, by simpa using hp⟩

theorem bear_one {s : ByteArray} : ∀ {l : List Rk} {i j : Nat} {r r' : Rk}, (borneAll l).Nodup → l[i]? = some r → l[j]? = some r' → (r.left = s ∨ r.right = s) → (r'.left = s ∨ r'.right = s) → i = j
  | x :: l, i, j, r, r', hn, hi, hj, h1, h2 => by
    have e : borneAll (x :: l) = [x.left, x.right] ++ borneAll l := rfl
    rw [e, List.nodup_append] at hn
    have mem : ∀ {k : Nat} {q : Rk}, l[k]? = some q → (q.left = s ∨ q.right = s) → s ∈ borneAll l := fun hk hq => by
      unfold borneAll
      rw [List.mem_flatMap]
      refine ⟨_, List.mem_of_getElem? hk, ?_⟩
      rcases hq with rfl | rfl <;> simp
    cases i with
    | zero =>
      cases j with
      | zero => rfl
      | succ j =>
        simp at hi
        subst hi
        exact absurd rfl (hn.2.2 s (by rcases h1 with rfl | rfl <;> simp) s (mem (by simpa using hj) h2))
    | succ i =>
      cases j with
      | zero =>
        simp at hj
        subst hj
        exact absurd rfl (hn.2.2 s (by rcases h2 with rfl | rfl <;> simp) s (mem (by simpa using hi) h1))
      | succ j =>
        have hi' : l[i]? = some r := by simpa using hi
        have hj' : l[j]? = some r' := by simpa using hj
        have := bear_one hn.2.1 hi' hj' h1 h2
        omega
  | [], i, j, r, r', _, hi, _, _, _ => by simp at hi

theorem up_of_child {l : List Rk} (hn : (borneAll l).Nodup) {i : Nat} {r : Rk} {s : ByteArray} (hi : l[i]? = some r) (hs : r.left = s ∨ r.right = s) : upOf l s = some r.name := by
  cases hb : bearerOf l s with
  | none =>
    unfold bearerOf at hb
    have := List.findIdx?_eq_none_iff.1 hb r (List.mem_of_getElem? hi)
    simp at this
    rcases hs with h | h
    · exact absurd h this.1
    · exact absurd h this.2
  | some j =>
    obtain ⟨r', hj, hs'⟩ := bearer_get hb
    have e := bear_one hn hi hj hs hs'
    subst e
    unfold upOf
    rw [hb]
    simp [hi]

/-- A way down that is too long, from its end up. -/
structure WayUp (l : List Rk) (p : List ByteArray) (s : ByteArray) : Prop where
  last : p.getLast? = some s
  up : ∀ k a b, p[k]? = some a → p[k + 1]? = some b → upOf l a = some b
  rk : ∀ x ∈ p, ∃ r ∈ l, r.name = x

theorem WayUp.snoc {l : List Rk} {p : List ByteArray} {s t : ByteArray} (h : WayUp l p s) (hu : upOf l s = some t) (ht : ∃ r ∈ l, r.name = t) : WayUp l (p ++ [t]) t := by
  refine ⟨by simp, fun k a b ha hb => ?_, fun x hx => ?_⟩
  · rcases Nat.lt_trichotomy (k + 1) p.length with hk | hk | hk
    · rw [List.getElem?_append_left (by omega)] at ha
      rw [List.getElem?_append_left hk] at hb
      exact h.up k a b ha hb
    · rw [List.getElem?_append_left (by omega)] at ha
      rw [List.getElem?_append_right (by omega)] at hb
      have e1 : b = t := by rw [hk, Nat.sub_self] at hb; simpa using hb.symm
      have e2 : a = s := by
        have := h.last
        rw [List.getLast?_eq_getElem?, show p.length - 1 = k by omega, ha] at this
        exact Option.some.inj this
      rw [e1, e2]
      exact hu
    · rw [List.getElem?_eq_none (by simp; omega)] at hb
      cases hb
  · rcases List.mem_append.1 hx with hx | hx
    · exact h.rk x hx
    · simp at hx; exact hx ▸ ht

end Go.Proofs.Ytclnffpfbngjoaa

end

section
/- The plain law of trees: a tree whose ways up all end has just one top; a way up that does not end comes back. -/
namespace Go.Proofs.Ytclnffpfbngjoaa
open Go.RowKit

/-- So many steps up. -/
def upN (l : List Rk) : Nat → ByteArray → Option ByteArray
  | 0, s => some s
  | k + 1, s => (upN l k s).bind (upOf l)

/-- A thing comes back to itself within so many steps up. -/
def Circ (l : List Rk) (s : ByteArray) (k : Nat) : Prop := ∃ j, 1 ≤ j ∧ j ≤ k ∧ upN l j s = some s

theorem Circ.more {l : List Rk} {s : ByteArray} {k : Nat} (hn : ¬ Circ l s k) {t : ByteArray} (hu : upN l (k + 1) s = some t) (ht : t ≠ s) : ¬ Circ l s (k + 1) := by
  rintro ⟨j, h1, h2, h3⟩
  rcases Nat.lt_or_ge k j with h | h
  · obtain rfl : j = k + 1 := by omega
    rw [hu] at h3
    exact ht (Option.some.inj h3)
  · exact hn ⟨j, h1, h, h3⟩
end Go.Proofs.Ytclnffpfbngjoaa

end

section
/- Contracts of the reference's list of borne names, of its check of a tree, of its top. -/
namespace Go.Proofs.Ytclnffpfbngjoaa
open Go.RowKit

end Go.Proofs.Ytclnffpfbngjoaa

end

section
/- The contract of the reference's check of a tree. -/
namespace Go.Proofs.Ytclnffpfbngjoaa
open Go.RowKit

/-- What bears a thing, as the search up to a place knows it. -/
def AbvAt (l : List Rk) (nm : ByteArray) (q : Nat) (ab : ByteArray) : Prop :=
  (∃ j r, j < q ∧ l[j]? = some r ∧ (r.left = nm ∨ r.right = nm) ∧ ab = r.name) ∨ ((∀ j, j < q → ∀ r, l[j]? = some r → ¬ (r.left = nm ∨ r.right = nm)) ∧ ab = ByteArray.empty)
theorem AbvAt.zero (l : List Rk) (nm : ByteArray) : AbvAt l nm 0 ByteArray.empty := .inr ⟨fun j hj => by omega, rfl⟩
theorem AbvAt.done {l : List Rk} {nm : ByteArray} {ab : ByteArray} (ha : AbvAt l nm l.length ab) (hn : (borneAll l).Nodup) : (upOf l nm = some ab ∧ ∃ r ∈ l, r.name = ab) ∨ (upOf l nm = none ∧ ab = ByteArray.empty) := by
  rcases ha with ⟨j, r', hj, h1, h2, rfl⟩ | ⟨h1, h2⟩
  · exact .inl ⟨up_of_child hn h1 h2, r', List.mem_of_getElem? h1, rfl⟩
  · refine .inr ⟨?_, h2⟩
    unfold upOf
    cases hb : bearerOf l nm with
    | none => rfl
    | some i =>
      obtain ⟨r, hr, hs⟩ := bearer_get hb
      exact absurd hs (h1 i (List.getElem?_eq_some_iff.1 hr).1 r hr)

end Go.Proofs.Ytclnffpfbngjoaa

end

section
/- Contracts of the reference's top, of the points below a name, of all points. -/
namespace Go.Proofs.Ytclnffpfbngjoaa
open Go.RowKit

/-- What operation c yields is owned, until operation s (an append, a store) comes. -/
def OwnM (base : Nat) (e : TypeId) (size n : Nat) (xs : List Value) (c s : Nat) (g : Nat → Option Pick) (f : Nat → Bool) (w' : World) : Prop := ∀ x, g c = some x → f s = false → w'.ownsRow base e size (.slice x.1 n x.2) n xs
section
variable {base size n c s i k : Nat} {e : TypeId} {xs : List Value} {g : Nat → Option Pick} {f : Nat → Bool} {w' w'' : World} {x : Pick}
theorem OwnM.start : OwnM base e size n xs c s (fun _ => none) f w' := fun x h => by cases h
theorem OwnM.step (h : OwnM base e size n xs c s g f w') (hb : Below w'.heap.size w' w'') (hk : k ≠ s) : OwnM base e size n xs c s g (Fx.add f k) w'' := fun x hx hf => by
  rw [add_ne' hk] at hf
  exact own_below (h x hx hf) hb (Nat.le_refl _)
theorem OwnM.other (h : OwnM base e size n xs c s g f w') (hc : c ≠ i) : OwnM base e size n xs c s (Fx.upd g i x) f w' := fun y hy => h y (by rwa [upd_ne hc] at hy)
theorem OwnM.new (h : w'.ownsRow base e size (.slice x.1 n x.2) n xs) : OwnM base e size n xs c s (Fx.upd g c x) f w' := fun y hy _ => by rw [Fx.upd_same] at hy; cases hy; exact h
theorem OwnM.stored : OwnM base e size n xs c s g (Fx.add f s) w'' := fun x _ hf => by rw [add_same] at hf; cases hf
end

def BelowPost (ps : List ByteArray) (w : World) (e : Ending) (w' : World) : Prop :=
  Below w.heap.size w w' ∧ ∃ A' c', e = .returned (.slice A' ps.length c') ∧ w'.ownsRow w.heap.size 9 1 (.slice A' ps.length c') ps.length (strs ps)



end Go.Proofs.Ytclnffpfbngjoaa

end

section
/- The contracts of the iterator over the points below a thing. -/
namespace Go.Proofs.Ytclnffpfbngjoaa
open Go.RowKit Go.Shelf Go.Maps

attribute [local go_sem] Oper.semAt_some

section
variable {F : Fence} {nF : Nat} {P : Program} {k t e : TypeId} {b n : Nat} {M : ByteArray → Option Value} {ops : Array Oper} {rest : List Oper} {o : Oper} {a : Act} {Q : Exit → Act → World → Prop}
end

/-- A text that is not too long. -/
abbrev Txt := { s : ByteArray // s.size ≤ maxLen }
def txts (xs : List Txt) : List ByteArray := xs.map (·.1)


def encT (x : Txt) : Value := .string x.1





end Go.Proofs.Ytclnffpfbngjoaa

end

section
/- The contracts of the collection of what an iterator gives, and of the points of a tree. -/
namespace Go.Proofs.Ytclnffpfbngjoaa
open Go.RowKit Go.Shelf Go.Maps

attribute [local go_sem] Oper.semAt_some

/-- An iterator over texts. -/
def Gives (gf : Nat) (lb : Array Value) (n₀ : Nat) (xs : List Txt) (w : World) : Prop :=
  ∀ m, SeqStopsK Fence.wide m Try.prog gf lb (fun x : Txt => #[Value.string x.1]) (Below n₀) (fun ys => ys = xs) (fun pre => pre <+: xs) xs.length w



end Go.Proofs.Ytclnffpfbngjoaa

end

section
/- The contracts of the points of a tree, and of what asks for a number for each point. -/
namespace Go.Proofs.Ytclnffpfbngjoaa
open Go.RowKit

theorem own_slice {w : World} {base : Nat} {e : TypeId} {size n : Nat} {v : Value} {xs : List Value} (h : w.ownsRow base e size v n xs) : ∃ A c, v = .slice A n c ∧ n ≤ c := by
  rcases h.2 with ⟨rfl, rfl⟩ | ⟨g, cap, cur, rfl, _, _, hc, _⟩
  · exact ⟨none, 0, rfl, Nat.le_refl _⟩
  · exact ⟨_, cap, rfl, hc⟩

def PointsPost (l : List Rk) (base : Nat) (w : World) (e : Ending) (w' : World) : Prop :=
  Below w.heap.size w w' ∧ (openErr l ≠ 0 → e = .returned (.tuple #[.slice none 0 0, .int .i64 (openErr l)])) ∧
  (openErr l = 0 → ∀ ps, ptsOf l = some ps → ∃ A c, e = .returned (.tuple #[.slice A ps.length c, .int .i64 0]) ∧ w'.ownsRow base 9 1 (.slice A ps.length c) ps.length (strs ps))




end Go.Proofs.Ytclnffpfbngjoaa

end

section
/- Contracts of all points of a tree as the reference has them, of the comparison of texts, of the guard on short names, of a copy of rockers. -/
namespace Go.Proofs.Ytclnffpfbngjoaa
open Go.RowKit

theorem own_reads2 {w : World} {base n size c : Nat} {A : Option Addr} {e : TypeId} {xs : List Value} (h : w.ownsRow base e size (.slice A n c) n xs) : Reads w w.heap.size size A n xs := by
  obtain ⟨A2, c2, e2, hr⟩ := own_reads h
  injection e2 with e2a e2b e2c
  subst e2a e2c
  exact hr

def TextsPost (ps : List ByteArray) (w : World) (e : Ending) (w' : World) : Prop :=
  Below w.heap.size w w' ∧ ∃ A' c', e = .returned (.slice A' ps.length c') ∧ w'.ownsRow w.heap.size 9 1 (.slice A' ps.length c') ps.length (strs ps)



/-- The guard on trees: at most 8 rockers, or too many, with short names. -/
def fewB (l : List Rk) : Bool := decide ((l.length ≤ 8 ∨ 40 < l.length) ∧ l.length ≤ 43) && l.all fun r => decide (r.name.size ≤ 20 ∧ r.left.size ≤ 20 ∧ r.right.size ≤ 20)
end Go.Proofs.Ytclnffpfbngjoaa

end

section
/- What every row of a statement needs: the arguments of a call that only makes memory read behind it as they did before. -/
namespace Go.Proofs.Ytclnffpfbngjoaa
open Go.RowKit Go.ChangeShapes Go.WideShapes Go.ChangeAt

theorem own_knob : ownKnob Try.prog.godebug = none := by kernel_rfl
theorem laid_rows : laidOutB Try.prog = true := by kernel_rfl
theorem maps_rowed : mapsRowed Try.prog = true := by kernel_rfl
theorem slices_full : ∀ t e, t < Try.prog.types.size → Try.prog.underlying t = some (.slice e) → 0 < Try.prog.cellsOf e := slices_full_of _ (by kernel_rfl)

section
variable {H : Type} {enc : TypeId × Value → H} {P : Program} {W W' : World}

theorem sameAt_of_below {B : Nat} (hb : Below B W W') {p : MemPlace} (hp : p.block < B) : W.sameAt W' p := by
  cases p with
  | cell b o => exact hb.cell (p := ⟨b, o, none⟩) hp
  | map b => exact hb.block b hp

theorem trodAll_carry {base : Nat} {sp : Nat → Bool} {hd : Bool} : ∀ {ts : List TypeId} {vs : List Value} {ds : List (DataW H)} {ps : List MemPlace},
    DataW.TrodAll enc P W base sp hd ts vs ds ps → (∀ p ∈ ps, W.sameAt W' p) → DataW.TrodAll enc P W' base sp hd ts vs ds ps
  | [], [], [], _, h, _ => h
  | _ :: _, _ :: _, _ :: _, _, ⟨p, q, ⟨n, h1⟩, h2, e⟩, hs => ⟨p, q, ⟨n, DataW.trod_carry n _ _ _ h1 fun x hx => hs x (by rw [e]; exact List.mem_append_left _ hx)⟩,
      trodAll_carry h2 (fun x hx => hs x (by rw [e]; exact List.mem_append_right _ hx)), e⟩

set_option maxRecDepth 100000 in
/-- THE POST OF A LAW: it returned true, and made memory alone. -/
theorem post_law {f : Func} {s : ChangeSpec} {t : TypeId} {W W' : World} {args : Array Value} {ds gs : List (DataW H)} {before : List MemPlace}
    (hW : DataW.Whole enc Try.prog f.params.toList s.vars false W args.toList ds gs before) (hv : s.vars = []) (hr : f.resultTypes = #[t]) (ht : Try.prog.underlying t = some .bool)
    (hp : f.params.toList.all (fun t => decide (t < Try.prog.types.size)) = true) (hs : (s.fn H (ds ++ gs)).results = [.lit (.bool true)]) (ha : (s.fn H (ds ++ gs)).args = ds) (hg : (s.fn H (ds ++ gs)).vars = [])
    (hb : Below W.heap.size W W') : s.post enc Try.prog f false true false false W args (.bool true) W' := by
  have hW' := hW
  obtain ⟨p, q, hA, hV, rfl, hfz, hnd⟩ := hW'
  rw [hv] at hV
  have hV' : gs = [] ∧ q = [] := by
    cases gs with
    | nil => exact ⟨rfl, hV⟩
    | cons x l => exact hV.elim
  obtain ⟨rfl, rfl⟩ := hV'
  rw [List.append_nil] at hW
  have hT : ∀ t ∈ f.params.toList, t < Try.prog.types.size := fun t ht => by simpa using List.all_eq_true.1 hp t ht
  refine post_of_below (pa := p) (pv := []) hW (fun b sp hd => ?_) (fun sp hsp => ?_) (fun sp hsp => ?_) (by simp) hb ?_
  · rw [hr, hs]
    exact ⟨[], [], ⟨1, by simp [DataW.trod, ht, Value.cells]⟩, rfl, rfl⟩
  · rw [ha]
    exact trodAll_carry (DataW.TrodAll.respare (kids_rows laid_rows maps_rowed) slices_full hT hA hsp) fun x hx => sameAt_of_below hb (hW.lt x hx)
  · rw [hv, hg]
    rfl
  · exact ok_one hr rfl (okWide_bool_mk ht _)
end

end Go.Proofs.Ytclnffpfbngjoaa

end

section
/- Arguments that are slices of structs of whole numbers or of texts: their cells as a row of memory. -/
namespace Go.Proofs.Ytclnffpfbngjoaa
open Go Go.RowKit Go.ChangeShapes Go.WideShapes Go.ChangeAt Go.Joins Go.Deep

def I64 (z : Int) : Prop := -9223372036854775808 ≤ z ∧ z ≤ 9223372036854775807
theorem I64.of_wf {z : Int} (h : (Lit.int .i64 z).wf = true) : I64 z := by
  simpa [I64, Lit.wf, IntKind.min, IntKind.max, IntKind.signed, IntKind.bits] using h

/-- A choice of a number for each place. -/
theorem choose_list {R : Nat → Int → Prop} (m : Nat) (h : ∀ q, q < m → ∃ z, R q z) : ∃ xs : List Int, xs.length = m ∧ ∀ q z, xs[q]? = some z → R q z := by
  induction m with
  | zero => exact ⟨[], rfl, fun q z h => by simp at h⟩
  | succ m ih =>
    obtain ⟨xs, hl, hx⟩ := ih fun q hq => h q (by omega)
    obtain ⟨z, hz⟩ := h m (by omega)
    refine ⟨xs ++ [z], by simp [hl], fun q u hu => ?_⟩
    rcases Nat.lt_trichotomy q m with hq | hq | hq
    · rw [List.getElem?_append_left (by omega)] at hu
      exact hx q u hu
    · subst hq
      rw [List.getElem?_append_right (by omega), hl, Nat.sub_self] at hu
      simp at hu
      exact hu ▸ hz
    · rw [List.getElem?_eq_none (by simp; omega)] at hu
      cases hu

theorem pairs_of_ints : ∀ (n : Nat) (xs : List Int), xs.length = n * 2 → ∃ l : List (Int × Int), l.length = n ∧ cells2 l = xs.map (.int .i64) ∧ ∀ p ∈ l, p.1 ∈ xs ∧ p.2 ∈ xs
  | 0, xs, h => by
    obtain rfl : xs = [] := List.length_eq_zero_iff.1 (by simpa using h)
    exact ⟨[], rfl, rfl, by simp⟩
  | n + 1, xs, h => by
    match xs, h with
    | x :: y :: t, h =>
      obtain ⟨l, h1, h2, h3⟩ := pairs_of_ints n t (by simp at h; omega)
      refine ⟨(x, y) :: l, by simp [h1], by simpa [cells2] using h2, fun p hp => ?_⟩
      rcases List.mem_cons.1 hp with rfl | hp
      · simp
      · have := h3 p hp
        exact ⟨by simp [this.1], by simp [this.2]⟩
    | [_], h => simp at h; omega
    | [], h => simp at h

section
variable {H : Type} {enc : TypeId × Value → H} {P : Program} {w : World} {base : Nat} {spare : Nat → Bool} {held : Bool}
theorem open_slice_fields {t e : TypeId} {fs : Array Field} {fuel : Nat} {cs : List Value} {x : DataW H × List MemPlace} (ht : P.underlying t = some (.slice e)) (he : P.underlying e = some (.struct fs))
    (hone : oneCellFields P fs = true) (hC : P.cellsOf e = fs.size) (h : DataW.trod enc P w base spare held fuel t cs = some x) :
    (cs = [.slice none 0 0] ∧ x = (.nil, [])) ∨
    ∃ (a : Addr) (len cap : Nat), cs = [.slice (some a) len cap] ∧ (len ≤ cap ∧ cap ≤ maxLen) ∧
      ∀ i, i < len → ∀ (j : Nat) (f : Field), fs[j]? = some f → ∃ (v : Value) (y : DataW H × List MemPlace) (n : Nat), w.cell? (a.add (i * fs.size + j)) = some v ∧ DataW.trod enc P w base spare held n f.type [v] = some y := by
  rcases open_slice ht h with h0 | ⟨a, len, cap, m, n, D, Pl, hcs, hb, hl, hm, hmm, hx, hi⟩
  · exact .inl h0
  · have hlm : len ≤ m := by rw [hmm]; split <;> omega
    refine .inr ⟨a, len, cap, hcs, ⟨hl, hm⟩, fun i him => ?_⟩
    obtain ⟨cs', hc, ht'⟩ := hi i (by omega)
    rw [hC] at hc
    obtain ⟨ys, n', hn', hy, hlen, hyl, hf⟩ := DataW.trod_struct he ht'
    obtain ⟨_, hcl, hat⟩ := World.cells?_some hc
    intro j f hj
    obtain ⟨ho, hk⟩ := hone_of hone j f hj
    have hjl : j < fs.size := (Array.getElem?_eq_some_iff.1 hj).1
    have hcell := hat j hjl
    have hv : cs'[j]? = some (cs'[j]'(by omega)) := List.getElem?_eq_getElem (by omega)
    have h1 := hf j f hj
    rw [ho, hk] at h1
    have hone' : (cs'.drop j).take 1 = [cs'[j]'(by omega)] := by
      rw [List.drop_eq_getElem_cons (by omega)]
      rfl
    rw [hone'] at h1
    have hys : ys[j]? = some (ys[j]'(by omega)) := List.getElem?_eq_getElem (by omega)
    refine ⟨_, _, _, ?_, h1.trans hys⟩
    rw [← Go.Deep.add_add, hcell, hv]

theorem block_of_cell {p : Addr} {v : Value} (h : w.cell? p = some v) : p.block < w.heap.size := by
  unfold World.cell? at h
  split at h <;> first | cases h | (split at h <;> first | cases h | skip)
  all_goals
    first
    | (rename_i hh; exact (Array.getElem?_eq_some_iff.1 hh).1)
    | (rename_i hh _; exact (Array.getElem?_eq_some_iff.1 hh).1)
    | omega

/-- A slice of structs whose fields all are whole numbers. -/
theorem open_slice_ints {t e tI : TypeId} {fs : Array Field} {fuel : Nat} {cs : List Value} {x : DataW H × List MemPlace} (ht : P.underlying t = some (.slice e)) (he : P.underlying e = some (.struct fs))
    (hone : oneCellFields P fs = true) (hC : P.cellsOf e = fs.size) (hI : P.underlying tI = some (.int .i64)) (hf : fs.toList.all (fun f => f.type == tI) = true) (hk : 0 < fs.size) (h : DataW.trod enc P w base spare held fuel t cs = some x) :
    ∃ (A : Option Addr) (n c : Nat) (xs : List Int), cs = [.slice A n c] ∧ (n ≤ c ∧ c ≤ 9223372036854775807) ∧ xs.length = n * fs.size ∧ (∀ z ∈ xs, I64 z) ∧ Reads w w.heap.size fs.size A n (xs.map (.int .i64)) := by
  rcases open_slice_fields ht he hone hC h with ⟨h0, -⟩ | ⟨a, len, cap, hcs, hl, hi⟩
  · exact ⟨none, 0, 0, [], h0, by omega, by simp, by simp, Reads.none_⟩
  have hq : ∀ q, q < len * fs.size → ∃ z, w.cell? (a.add q) = some (.int .i64 z) ∧ I64 z := by
    intro q hq
    have h1 : q / fs.size < len := Nat.div_lt_of_lt_mul (by rwa [Nat.mul_comm])
    have h2 : q % fs.size < fs.size := Nat.mod_lt _ hk
    obtain ⟨v, y, n, hc, ht'⟩ := hi _ h1 _ _ (Array.getElem?_eq_getElem h2)
    have hft : fs[q % fs.size].type = tI := by simpa using List.all_eq_true.1 hf _ (Array.mem_toList_iff.2 (Array.getElem_mem h2))
    rw [hft] at ht'
    obtain ⟨z, e0, -, hwf⟩ := DataW.trod_int hI ht'
    rw [show q / fs.size * fs.size + q % fs.size = q by rw [Nat.mul_comm]; exact Nat.div_add_mod _ _] at hc
    simp at e0
    exact ⟨z, e0 ▸ hc, I64.of_wf hwf⟩
  obtain ⟨xs, hxl, hx⟩ := choose_list _ hq
  refine ⟨some a, len, cap, xs, hcs, ⟨hl.1, by simpa [maxLen] using hl.2⟩, hxl, fun z hz => ?_, ?_⟩
  · obtain ⟨q, hq⟩ := List.getElem?_of_mem hz
    exact (hx q z hq).2
  · rcases Nat.eq_zero_or_pos len with rfl | hp
    · obtain rfl : xs = [] := List.length_eq_zero_iff.1 (by simpa using hxl)
      exact Reads.none_
    refine Reads.of_adds hk (by simpa using hxl) ?_ (fun j u hu => ?_)
    · have h0 : 0 < xs.length := by rw [hxl]; exact Nat.mul_pos hp hk
      have := block_of_cell (hx 0 _ (List.getElem?_eq_getElem h0)).1
      simpa [Addr.add] using this
    · rw [List.getElem?_map] at hu
      cases hj : xs[j]? with
      | none => rw [hj] at hu; cases hu
      | some z => rw [hj] at hu; cases hu; exact (hx j z hj).1

/-- A slice of pairs of whole numbers. -/
theorem open_pairs {t e tI : TypeId} {fs : Array Field} {fuel : Nat} {cs : List Value} {x : DataW H × List MemPlace} (ht : P.underlying t = some (.slice e)) (he : P.underlying e = some (.struct fs))
    (hone : oneCellFields P fs = true) (hC : P.cellsOf e = fs.size) (hI : P.underlying tI = some (.int .i64)) (hf : fs.toList.all (fun f => f.type == tI) = true) (hk : fs.size = 2) (h : DataW.trod enc P w base spare held fuel t cs = some x) :
    ∃ (A : Option Addr) (n c : Nat) (l : List (Int × Int)), cs = [.slice A n c] ∧ (n ≤ c ∧ c ≤ 9223372036854775807) ∧ l.length = n ∧ (∀ p ∈ l, I64 p.1 ∧ I64 p.2) ∧ Reads w w.heap.size 2 A n (cells2 l) := by
  obtain ⟨A, n, c, xs, h1, h2, h3, h4, h5⟩ := open_slice_ints ht he hone hC hI hf (by omega) h
  rw [hk] at h3 h5
  obtain ⟨l, l1, l2, l3⟩ := pairs_of_ints n xs h3
  exact ⟨A, n, c, l, h1, h2, l1, fun p hp => ⟨h4 _ (l3 p hp).1, h4 _ (l3 p hp).2⟩, l2 ▸ h5⟩
end

section
variable {H : Type} {enc : TypeId × Value → H} {P : Program} {w : World} {base b0 : Nat} {spare : Nat → Bool} {held : Bool} {r : Reach} {t e tI : TypeId} {v : Value} {d : DataW H} {p : List MemPlace}
end

end Go.Proofs.Ytclnffpfbngjoaa

end

section
/- Lists of lists of numbers: how they lie in memory, as arguments; their copy. -/
namespace Go.Proofs.Ytclnffpfbngjoaa
open Go Go.RowKit Go.ChangeShapes Go.WideShapes Go.ChangeAt Go.Joins Go.Deep

/-- A list of numbers in memory. -/
structure TRow where
  A : Option Addr
  n : Nat
  c : Nat
  xs : List Int
def TRow.val (r : TRow) : Value := .slice r.A r.n r.c
def ReadsT (w : World) (N : Nat) (A : Option Addr) (n : Nat) (t : List TRow) : Prop :=
  Reads w N 1 A n (t.map TRow.val) ∧ ∀ r ∈ t, (r.n ≤ r.c ∧ r.c ≤ 9223372036854775807) ∧ Reads w N 1 r.A r.n (r.xs.map (.int .i64))
section
variable {w w' W W1 : World} {N N' n : Nat} {A : Option Addr} {t : List TRow}
theorem ReadsT.below (h : ReadsT w N A n t) (hb : Below N w w') : ReadsT w' N A n t := ⟨h.1.below hb, fun r hr => ⟨(h.2 r hr).1, (h.2 r hr).2.below hb⟩⟩
theorem ReadsT.more (h : ReadsT w N A n t) (hN : N ≤ N') : ReadsT w N' A n t := ⟨h.1.more hN, fun r hr => ⟨(h.2 r hr).1, (h.2 r hr).2.more hN⟩⟩
theorem ReadsT.len (h : ReadsT w N A n t) : t.length = n := by have := h.1.1; simpa using this
theorem ReadsT.rlen (h : ReadsT w N A n t) {r : TRow} (hr : r ∈ t) : r.xs.length = r.n := by have := (h.2 r hr).2.1; simpa using this
theorem ReadsT.at_ (h : ReadsT w N A n t) {i : Nat} (hi : i < n) : ∃ b o r, A = some ⟨b, o, none⟩ ∧ b < N ∧ t[i]? = some r ∧ w.cell? ⟨b, o + i, none⟩ = some (.slice r.A r.n r.c) ∧ (r.n ≤ r.c ∧ r.c ≤ 9223372036854775807) ∧ r.xs.length = r.n ∧ Reads w N 1 r.A r.n (r.xs.map (.int .i64)) := by
  obtain ⟨b, o, e, hb, hc⟩ := h.1.2 (by omega)
  have hl := h.len
  have hr := List.getElem?_eq_getElem (show i < t.length by omega)
  have hm := List.getElem_mem (show i < t.length by omega)
  exact ⟨b, o, _, e, hb, hr, hc i _ (by rw [List.getElem?_map, hr]; rfl), (h.2 _ hm).1, h.rlen hm, (h.2 _ hm).2⟩
theorem readsT_lay (hb : Below W.heap.size W W1) {wa : World} (ha : Below wa.heap.size wa W) (h : ReadsT wa wa.heap.size A n t) : ReadsT W1 W1.heap.size A n t :=
  ((h.below ha).below (hb.mono ha.size)).more (Nat.le_trans ha.size hb.size)
end

section
variable {H : Type} {enc : TypeId × Value → H} {P : Program} {w : World} {base b0 : Nat} {spare : Nat → Bool} {held : Bool} {r : Reach} {t e i : TypeId} {v : Value} {d : DataW H} {p : List MemPlace}
end

theorem own_apart {w w' : World} {base base' : Nat} {e e' : TypeId} {size size' n n' : Nat} {v v' : Value} {xs xs' : List Value} (h : w.ownsRow base e size v n xs) (h' : w.ownsRow base' e' size' v' n' xs') (hne : e ≠ e') (hg : w.grownBy w' v'.ownBlock) : w'.ownsRow base e size v n xs := by
  refine own_same h fun g hgv => ?_
  have hlt := (own_lt h hgv).2
  refine hg.block g hlt fun e1 => ?_
  rcases h.2 with ⟨rfl, _⟩ | ⟨g1, cap, cur, rfl, hb, hh, _⟩
  · cases hgv
  rcases h'.2 with ⟨rfl, _⟩ | ⟨g2, cap', cur', rfl, hb', hh', _⟩
  · cases e1
  have e2 : g1 = g := by simpa [Value.ownBlock] using hgv
  have e3 : g = g2 := by simpa [Value.ownBlock] using e1
  subst e2 e3
  rw [hh] at hh'
  injection hh' with h3
  injection h3 with _ h4
  exact hne h4
theorem own_mono {w : World} {base base' : Nat} {e : TypeId} {size n : Nat} {v : Value} {xs : List Value} (h : w.ownsRow base e size v n xs) (hb : base' ≤ base) : w.ownsRow base' e size v n xs := by
  refine ⟨h.1, ?_⟩
  rcases h.2 with h1 | ⟨g, cap, cur, h1, h2, h3⟩
  · exact .inl h1
  · exact .inr ⟨g, cap, cur, h1, Nat.le_trans hb h2, h3⟩
theorem own_cap {w : World} {base n size c : Nat} {A : Option Addr} {e : TypeId} {xs : List Value} (h : w.ownsRow base e size (.slice A n c) n xs) : n ≤ c ∧ c ≤ 9223372036854775807 := by
  rcases h.2 with ⟨h1, h2⟩ | ⟨g, cap, cur, h1, _, _, hc, hm, _⟩
  · injection h1 with _ h3 h4; omega
  · injection h1 with _ _ h4
    subst h4
    exact ⟨hc, by simpa [maxLen] using hm⟩

/-- A copy of a table. -/
def TabPost (t : List TRow) (n : Nat) (w : World) (e : Ending) (w' : World) : Prop :=
  Below w.heap.size w w' ∧ ∃ A' c' ts, e = .returned (.slice A' n c') ∧ ts.map TRow.xs = t.map TRow.xs ∧ ReadsT w' w'.heap.size A' n ts

theorem info_ints : (Try.prog.info? 31).map (fun i => (i.zero, i.size, i.bytes)) = some (some (.slice none 0 0), 1, 24) := by kernel_rfl


end Go.Proofs.Ytclnffpfbngjoaa

end

section
/- The class of worlds of a region whose order is left open and in which two lists are appended to, each with one new element: 'a, b = append(a, x), append(b, y)'. -/
namespace Go.Proofs.Ytclnffpfbngjoaa
open Go Go.RowKit

def rowV (g : Option Pick) (v : Value) (n : Nat) : Value := match g with | some y => .slice y.1 (n + 1) y.2 | none => v
def rowN (g : Option Pick) (n : Nat) : Nat := match g with | some _ => n + 1 | none => n
def rowX (g : Option Pick) (xs : List Value) (u : Value) : List Value := match g with | some _ => xs ++ [u] | none => xs

/-- The first list is appended to by operation pa, whose element lies in memory that operation sa makes; the second one by pb and sb. -/
structure Ap (B : Nat) (e e' : TypeId) (va vb : Value) (na nb : Nat) (xs ys : List Value) (u v : Value) (sa pa sb pb : Nat) (W : World) (g : Nat → Option Pick) (w' : World) : Prop where
  os : w'.os = W.os
  tape : w'.tape = W.tape
  output : w'.output = W.output
  size : W.heap.size ≤ w'.heap.size
  keep : ∀ i, i < W.heap.size → va.ownBlock ≠ some i → vb.ownBlock ≠ some i → w'.heap[i]? = W.heap[i]?
  ownA : w'.ownsRow B e 1 (rowV (g pa) va na) (rowN (g pa) na) (rowX (g pa) xs u)
  ownB : w'.ownsRow B e' 1 (rowV (g pb) vb nb) (rowN (g pb) nb) (rowX (g pb) ys v)
  litA : ∀ x, g sa = some x → g pa = none → ∃ b, x.1 = some ⟨b, 0, none⟩ ∧ W.heap.size ≤ b ∧ Blk w' b e #[u] ∧ (rowV (g pa) va na).ownBlock ≠ some b ∧ (rowV (g pb) vb nb).ownBlock ≠ some b
  litB : ∀ x, g sb = some x → g pb = none → ∃ b, x.1 = some ⟨b, 0, none⟩ ∧ W.heap.size ≤ b ∧ Blk w' b e' #[v] ∧ (rowV (g pb) vb nb).ownBlock ≠ some b ∧ (rowV (g pa) va na).ownBlock ≠ some b
  sep : ∀ q, (rowV (g pa) va na).ownBlock = some q → (rowV (g pb) vb nb).ownBlock ≠ some q

section
variable {B : Nat} {e e' : TypeId} {va vb : Value} {na nb : Nat} {xs ys : List Value} {u v : Value} {sa pa sb pb : Nat} {W w' : World} {g : Nat → Option Pick}

theorem Ap.symm (h : Ap B e e' va vb na nb xs ys u v sa pa sb pb W g w') : Ap B e' e vb va nb na ys xs v u sb pb sa pa W g w' :=
  ⟨h.os, h.tape, h.output, h.size, fun i hi h1 h2 => h.keep i hi h2 h1, h.ownB, h.ownA, h.litB, h.litA, fun q hq hp => h.sep q hp hq⟩

theorem Ap.start (hA : W.ownsRow B e 1 va na xs) (hB : W.ownsRow B e' 1 vb nb ys) (hs : ∀ q, va.ownBlock = some q → vb.ownBlock ≠ some q) (k : Nat) : Ap B e e' va vb na nb xs ys u v sa pa sb pb W (fun _ => none) (W.drewN k) :=
  ⟨rfl, rfl, rfl, Nat.le_refl _, fun _ _ _ _ => rfl, hA, hB, (fun x h => by cases h), (fun x h => by cases h), hs⟩

theorem Ap.lit (h : Ap B e e' va vb na nb xs ys u v sa pa sb pb W g w') (h1 : pa ≠ sa) (h2 : pb ≠ sa) (h3 : sb ≠ sa) :
    Ap B e e' va vb na nb xs ys u v sa pa sb pb W (Fx.upd g sa (some ⟨w'.heap.size, 0, none⟩, 0)) (w'.alloc (.cells #[u] e)) := by
  have e1 : Fx.upd g sa (some ⟨w'.heap.size, 0, none⟩, 0) pa = g pa := upd_ne h1
  have e2 : Fx.upd g sa (some ⟨w'.heap.size, 0, none⟩, 0) pb = g pb := upd_ne h2
  have e3 : Fx.upd g sa (some ⟨w'.heap.size, 0, none⟩, 0) sb = g sb := upd_ne h3
  have na' : ∀ {base : Nat} {ty : TypeId} {val : Value} {n : Nat} {l : List Value}, w'.ownsRow base ty 1 val n l → val.ownBlock ≠ some w'.heap.size := fun ho hq => by have := (own_lt ho hq).2; omega
  refine ⟨h.os, h.tape, h.output, Nat.le_trans h.size (by simp), fun i hi k1 k2 => (Below.heap_alloc w' _ i (Nat.lt_of_lt_of_le hi h.size)).trans (h.keep i hi k1 k2), ?_, ?_, ?_, ?_, ?_⟩
  · rw [e1]; exact h.ownA.alloc _
  · rw [e2]; exact h.ownB.alloc _
  · intro x hx hn
    rw [Fx.upd_same] at hx
    cases hx
    rw [e1, e2]
    exact ⟨w'.heap.size, rfl, h.size, Blk.new _ _ _, na' h.ownA, na' h.ownB⟩
  · intro x hx hn
    rw [e3] at hx
    rw [e2] at hn
    obtain ⟨b, hb, hle, hk, q1, q2⟩ := h.litB x hx hn
    rw [e1, e2]
    exact ⟨b, hb, hle, hk.alloc _, q1, q2⟩
  · rw [e1, e2]; exact h.sep

theorem Ap.app {P : Program} {t ty : TypeId} {z : Value} {bytes c : Nat} (h : Ap B e e' va vb na nb xs ys u v sa pa sb pb W g w') (ht : P.underlying t = some (.slice e)) (hi : (P.info? e).map (fun i => (i.zero, i.size, i.bytes)) = some (some z, 1, bytes)) (hzs : z.cells.size = 1) (hu : u.oneCell' = true)
    (hB : B ≤ W.heap.size) (hn : na + 1 ≤ maxLen) (hby : (na + 1) * bytes ≤ 140737488355328) {x : Pick} (hx : g sa = some x) (hp : g pa = none) (h1 : sa ≠ pa) (h2 : pb ≠ pa) (h3 : sb ≠ pa) :
    ∃ (y : Pick) (w2 : World), (Builtin.append_ #[t, t] ty #[va, .slice x.1 1 c]).run P w' = .ok (.slice y.1 (na + 1) y.2) w2 ∧ Ap B e e' va vb na nb xs ys u v sa pa sb pb W (Fx.upd g pa y) w2 := by
  obtain ⟨b, hb, hle, hk, q1, q2⟩ := h.litA x hx hp
  have ho := h.ownA
  have hlb := h.litB
  have hsep := h.sep
  simp only [hp, rowV, rowN, rowX] at ho q1 hlb hsep
  obtain ⟨i0, hi0, hz0, hz1, hz2⟩ := info_parts hi
  obtain ⟨v', w2, hrun, ho2, hg, hrow⟩ := run_append_any (P := P) w' B t ty e i0 z 1 bytes ht hi0 hz0 hz1 hz2 hzs (by omega) va na xs ho w'.heap.size x.1 1 c [u] (by rw [hb]; exact Blk.reads hk rfl) (by simpa using hu) hn hby (Nat.le_trans hB h.size)
  obtain ⟨A', c', rfl, -⟩ := own_reads ho2
  have e1 : Fx.upd g pa (A', c') pb = g pb := upd_ne h2
  have e2 : Fx.upd g pa (A', c') sb = g sb := upd_ne h3
  have e3 : Fx.upd g pa (A', c') pa = some (A', c') := Fx.upd_same
  have hbl : ∀ i, va.ownBlock ≠ some i → i < w'.heap.size → w2.heap[i]? = w'.heap[i]? := fun i hne hlt => hg.block i hlt (fun e => hne e.symm)
  have hob : w2.ownsRow B e' 1 (rowV (g pb) vb nb) (rowN (g pb) nb) (rowX (g pb) ys v) := own_same h.ownB fun q hq => hbl q (fun e => hsep q e hq) (own_lt h.ownB hq).2
  have hnew : ∀ q, (Value.slice A' (na + 1) c').ownBlock = some q → va.ownBlock = some q ∨ q = w'.heap.size := fun q hq => by
    rcases hrow with e | e
    · rw [e] at hq; exact .inl hq
    · rw [e] at hq; exact .inr (Option.some.inj hq).symm
  refine ⟨(A', c'), w2, hrun, ?_⟩
  refine ⟨hg.os.trans h.os, hg.tape.trans h.tape, hg.output.trans h.output, Nat.le_trans h.size hg.size, fun i hi k1 k2 => (hbl i k1 (Nat.lt_of_lt_of_le hi h.size)).trans (h.keep i hi k1 k2), ?_, ?_, ?_, ?_, ?_⟩
  · rw [e3]; exact ho2
  · rw [e1]; exact hob
  · intro y _ hn; rw [e3] at hn; cases hn
  · intro y hy hn
    rw [e2] at hy
    rw [e1] at hn
    obtain ⟨d, hd, hdle, hdk, r1, r2⟩ := hlb y hy hn
    rw [e1, e3]
    refine ⟨d, hd, hdle, (hbl d r2 hdk.lt).trans hdk, r1, fun hq => ?_⟩
    rcases hnew d hq with e | e
    · exact r2 e
    · have := hdk.lt; omega
  · rw [e1, e3]
    intro q hq hq2
    rcases hnew q hq with e | e
    · exact hsep q e hq2
    · have := (own_lt h.ownB hq2).2; omega

/-- All below B, and all that is neither of the two lists, is as it was. -/
theorem Ap.below (h : Ap B e e' va vb na nb xs ys u v sa pa sb pb W g w') (hA : ∀ q, va.ownBlock = some q → B ≤ q) (hB : ∀ q, vb.ownBlock = some q → B ≤ q) (hle : B ≤ W.heap.size) : Below B W w' :=
  ⟨h.os, h.tape, h.output, h.size, fun i hi => h.keep i (by omega) (fun e => by have := hA i e; omega) (fun e => by have := hB i e; omega)⟩
theorem Ap.blk (h : Ap B e e' va vb na nb xs ys u v sa pa sb pb W g w') {q : Nat} {t : TypeId} {cs : Array Value} (hq : Blk W q t cs) (h1 : va.ownBlock ≠ some q) (h2 : vb.ownBlock ≠ some q) : Blk w' q t cs := (h.keep q hq.lt h1 h2).trans hq
theorem Ap.ends {y z : Pick} (h : Ap B e e' va vb na nb xs ys u v sa pa sb pb W g w') (hy : g pa = some y) (hz : g pb = some z) :
    w'.ownsRow B e 1 (.slice y.1 (na + 1) y.2) (na + 1) (xs ++ [u]) ∧ w'.ownsRow B e' 1 (.slice z.1 (nb + 1) z.2) (nb + 1) (ys ++ [v]) ∧ (∀ q, (Value.slice y.1 (na + 1) y.2).ownBlock = some q → (Value.slice z.1 (nb + 1) z.2).ownBlock ≠ some q) := by
  have h1 := h.ownA
  have h2 := h.ownB
  have h3 := h.sep
  simp only [hy, hz, rowV, rowN, rowX] at h1 h2 h3
  exact ⟨h1, h2, h3⟩
/-- All orders end alike: what comes behind is walked once. -/
theorem share5 {α β : Type} {Fact : α → α → α → α → β → Prop} {G : Prop} {F : α → α → α → α → β → Prop} (main : (∀ x1 y x2 z w, Fact x1 y x2 z w → F x1 y x2 z w) → G) (rest : ∀ x1 y x2 z w, Fact x1 y x2 z w → F x1 y x2 z w) : G := main rest
end

end Go.Proofs.Ytclnffpfbngjoaa

end
