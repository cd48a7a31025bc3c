import Derived.Test.YtcggceincmljdaaRows
import Derived.Test.YtcggceincmljdaaQ1
import Derived.ProofKit
import Derived.OpenShut
import Derived.ReadAgain
import Derived.Lib.SmallJoins
import Derived.Deep.Slices
import Derived.Deep.Fields
import Derived.Test.YtcggceincmljdaaQ2
import Derived.JoinedOf
import Derived.Test.YtcggceincmljdaaQ3

section
/- What every row of a statement needs: the arguments of a call that only makes memory read behind it as they did before. -/
namespace Go.Proofs.Ytcggceincmljdaa
open Go.RowKit Go.ChangeShapes Go.WideShapes Go.ChangeAt

theorem own_knob : ownKnob Try.prog.godebug = none := by kernel_rfl
theorem laid_rows : laidOutB Try.prog = true := by kernel_rfl
theorem maps_rowed : mapsRowed Try.prog = true := by kernel_rfl
theorem slices_full : ∀ t e, t < Try.prog.types.size → Try.prog.underlying t = some (.slice e) → 0 < Try.prog.cellsOf e := slices_full_of _ (by kernel_rfl)

section
variable {H : Type} {enc : TypeId × Value → H} {P : Program} {W W' : World}

theorem sameAt_of_below {B : Nat} (hb : Below B W W') {p : MemPlace} (hp : p.block < B) : W.sameAt W' p := by
  cases p with
  | cell b o => exact hb.cell (p := ⟨b, o, none⟩) hp
  | map b => exact hb.block b hp

theorem trodAll_carry {base : Nat} {sp : Nat → Bool} {hd : Bool} : ∀ {ts : List TypeId} {vs : List Value} {ds : List (DataW H)} {ps : List MemPlace},
    DataW.TrodAll enc P W base sp hd ts vs ds ps → (∀ p ∈ ps, W.sameAt W' p) → DataW.TrodAll enc P W' base sp hd ts vs ds ps
  | [], [], [], _, h, _ => h
  | _ :: _, _ :: _, _ :: _, _, ⟨p, q, ⟨n, h1⟩, h2, e⟩, hs => ⟨p, q, ⟨n, DataW.trod_carry n _ _ _ h1 fun x hx => hs x (by rw [e]; exact List.mem_append_left _ hx)⟩,
      trodAll_carry h2 (fun x hx => hs x (by rw [e]; exact List.mem_append_right _ hx)), e⟩

set_option maxRecDepth 100000 in
/-- THE POST OF A LAW: it returned true, and made memory alone. -/
theorem post_law {f : Func} {s : ChangeSpec} {t : TypeId} {W W' : World} {args : Array Value} {ds gs : List (DataW H)} {before : List MemPlace}
    (hW : DataW.Whole enc Try.prog f.params.toList s.vars false W args.toList ds gs before) (hv : s.vars = []) (hr : f.resultTypes = #[t]) (ht : Try.prog.underlying t = some .bool)
    (hp : f.params.toList.all (fun t => decide (t < Try.prog.types.size)) = true) (hs : (s.fn H (ds ++ gs)).results = [.lit (.bool true)]) (ha : (s.fn H (ds ++ gs)).args = ds) (hg : (s.fn H (ds ++ gs)).vars = [])
    (hb : Below W.heap.size W W') : s.post enc Try.prog f false true false false W args (.bool true) W' := by
  have hW' := hW
  obtain ⟨p, q, hA, hV, rfl, hfz, hnd⟩ := hW'
  rw [hv] at hV
  have hV' : gs = [] ∧ q = [] := by
    cases gs with
    | nil => exact ⟨rfl, hV⟩
    | cons x l => exact hV.elim
  obtain ⟨rfl, rfl⟩ := hV'
  rw [List.append_nil] at hW
  have hT : ∀ t ∈ f.params.toList, t < Try.prog.types.size := fun t ht => by simpa using List.all_eq_true.1 hp t ht
  refine post_of_below (pa := p) (pv := []) hW (fun b sp hd => ?_) (fun sp hsp => ?_) (fun sp hsp => ?_) (by simp) hb ?_
  · rw [hr, hs]
    exact ⟨[], [], ⟨1, by simp [DataW.trod, ht, Value.cells]⟩, rfl, rfl⟩
  · rw [ha]
    exact trodAll_carry (DataW.TrodAll.respare (kids_rows laid_rows maps_rowed) slices_full hT hA hsp) fun x hx => sameAt_of_below hb (hW.lt x hx)
  · rw [hv, hg]
    rfl
  · exact ok_one hr rfl (okWide_bool_mk ht _)
end

end Go.Proofs.Ytcggceincmljdaa

end

section
/- Arguments that are slices of structs of whole numbers or of texts: their cells as a row of memory. -/
namespace Go.Proofs.Ytcggceincmljdaa
open Go Go.RowKit Go.ChangeShapes Go.WideShapes Go.ChangeAt Go.Joins Go.Deep

def I64 (z : Int) : Prop := -9223372036854775808 ≤ z ∧ z ≤ 9223372036854775807
theorem I64.of_wf {z : Int} (h : (Lit.int .i64 z).wf = true) : I64 z := by
  simpa [I64, Lit.wf, IntKind.min, IntKind.max, IntKind.signed, IntKind.bits] using h

section
variable {H : Type} {enc : TypeId × Value → H} {P : Program} {w : World} {base : Nat} {spare : Nat → Bool} {held : Bool}
theorem block_of_cell {p : Addr} {v : Value} (h : w.cell? p = some v) : p.block < w.heap.size := by
  unfold World.cell? at h
  split at h <;> first | cases h | (split at h <;> first | cases h | skip)
  all_goals
    first
    | (rename_i hh; exact (Array.getElem?_eq_some_iff.1 hh).1)
    | (rename_i hh _; exact (Array.getElem?_eq_some_iff.1 hh).1)
    | omega

end

section
variable {H : Type} {enc : TypeId × Value → H} {P : Program} {w : World} {base b0 : Nat} {spare : Nat → Bool} {held : Bool} {r : Reach} {t e tI : TypeId} {v : Value} {d : DataW H} {p : List MemPlace}
theorem arg_int (ht : P.underlying t = some (.int .i64)) (hv : Value.okWide P w r b0 t v) (h : DataW.Trod enc P w base spare held t v d p) : ∃ a, v = .int .i64 a ∧ I64 a := by
  obtain ⟨a, e0, -, -, wf⟩ := open_int ht hv h
  exact ⟨a, e0, I64.of_wf wf⟩
end

end Go.Proofs.Ytcggceincmljdaa

end

section
/- Lists of lists of numbers: how they lie in memory, as arguments; their copy. -/
namespace Go.Proofs.Ytcggceincmljdaa
open Go Go.RowKit Go.ChangeShapes Go.WideShapes Go.ChangeAt Go.Joins Go.Deep

/-- A list of numbers in memory. -/
structure TRow where
  A : Option Addr
  n : Nat
  c : Nat
  xs : List Int
def TRow.val (r : TRow) : Value := .slice r.A r.n r.c
def ReadsT (w : World) (N : Nat) (A : Option Addr) (n : Nat) (t : List TRow) : Prop :=
  Reads w N 1 A n (t.map TRow.val) ∧ ∀ r ∈ t, (r.n ≤ r.c ∧ r.c ≤ 9223372036854775807) ∧ Reads w N 1 r.A r.n (r.xs.map (.int .i64))
section
variable {w w' W W1 : World} {N N' n : Nat} {A : Option Addr} {t : List TRow}
theorem ReadsT.below (h : ReadsT w N A n t) (hb : Below N w w') : ReadsT w' N A n t := ⟨h.1.below hb, fun r hr => ⟨(h.2 r hr).1, (h.2 r hr).2.below hb⟩⟩
theorem ReadsT.more (h : ReadsT w N A n t) (hN : N ≤ N') : ReadsT w N' A n t := ⟨h.1.more hN, fun r hr => ⟨(h.2 r hr).1, (h.2 r hr).2.more hN⟩⟩
theorem ReadsT.len (h : ReadsT w N A n t) : t.length = n := by have := h.1.1; simpa using this
theorem ReadsT.rlen (h : ReadsT w N A n t) {r : TRow} (hr : r ∈ t) : r.xs.length = r.n := by have := (h.2 r hr).2.1; simpa using this
theorem ReadsT.at_ (h : ReadsT w N A n t) {i : Nat} (hi : i < n) : ∃ b o r, A = some ⟨b, o, none⟩ ∧ b < N ∧ t[i]? = some r ∧ w.cell? ⟨b, o + i, none⟩ = some (.slice r.A r.n r.c) ∧ (r.n ≤ r.c ∧ r.c ≤ 9223372036854775807) ∧ r.xs.length = r.n ∧ Reads w N 1 r.A r.n (r.xs.map (.int .i64)) := by
  obtain ⟨b, o, e, hb, hc⟩ := h.1.2 (by omega)
  have hl := h.len
  have hr := List.getElem?_eq_getElem (show i < t.length by omega)
  have hm := List.getElem_mem (show i < t.length by omega)
  exact ⟨b, o, _, e, hb, hr, hc i _ (by rw [List.getElem?_map, hr]; rfl), (h.2 _ hm).1, h.rlen hm, (h.2 _ hm).2⟩
theorem readsT_lay (hb : Below W.heap.size W W1) {wa : World} (ha : Below wa.heap.size wa W) (h : ReadsT wa wa.heap.size A n t) : ReadsT W1 W1.heap.size A n t :=
  ((h.below ha).below (hb.mono ha.size)).more (Nat.le_trans ha.size hb.size)
end

section
variable {H : Type} {enc : TypeId × Value → H} {P : Program} {w : World} {base b0 : Nat} {spare : Nat → Bool} {held : Bool} {r : Reach} {t e i : TypeId} {v : Value} {d : DataW H} {p : List MemPlace}
theorem row_ints {fuel : Nat} {cs : List Value} {x : DataW H × List MemPlace} (ht : P.underlying t = some (.slice e)) (he : P.underlying e = some (.int .i64)) (hc : P.cellsOf e = 1) (hf : DataW.trod enc P w base spare held fuel t cs = some x) :
    ∃ r : TRow, cs = [r.val] ∧ (r.n ≤ r.c ∧ r.c ≤ 9223372036854775807) ∧ (∀ z ∈ r.xs, I64 z) ∧ Reads w w.heap.size 1 r.A r.n (r.xs.map (.int .i64)) := by
  rcases open_ints ht he hc hf with ⟨h0, -⟩ | ⟨a, len, cap, zs, hcs, -, hl, hm, hzl, -, hcell, hwf⟩
  · exact ⟨⟨none, 0, 0, []⟩, h0, ⟨Nat.le_refl 0, by simp⟩, by simp, Reads.none_⟩
  have hlz : len ≤ zs.length := by rw [hzl]; split <;> omega
  refine ⟨⟨some a, len, cap, zs.take len⟩, hcs, ⟨hl, by simpa [maxLen] using hm⟩, fun z hz => I64.of_wf (hwf z (List.mem_of_mem_take hz)), ?_⟩
  rcases Nat.eq_zero_or_pos len with rfl | hp
  · exact Reads.none_
  refine Reads.of_adds (by omega) (by simp; omega) ?_ (fun j u hu => ?_)
  · have := block_of_cell (hcell 0 (by omega))
    simpa [Addr.add] using this
  · rw [List.getElem?_map, List.getElem?_take] at hu
    split at hu
    · rename_i hj
      have hz := List.getElem?_eq_getElem (show j < zs.length by omega)
      rw [hz] at hu
      simp at hu
      rw [← hu]
      have := hcell j (by omega)
      simpa [List.getD, hz] using this
    · cases hu
end

theorem own_apart {w w' : World} {base base' : Nat} {e e' : TypeId} {size size' n n' : Nat} {v v' : Value} {xs xs' : List Value} (h : w.ownsRow base e size v n xs) (h' : w.ownsRow base' e' size' v' n' xs') (hne : e ≠ e') (hg : w.grownBy w' v'.ownBlock) : w'.ownsRow base e size v n xs := by
  refine own_same h fun g hgv => ?_
  have hlt := (own_lt h hgv).2
  refine hg.block g hlt fun e1 => ?_
  rcases h.2 with ⟨rfl, _⟩ | ⟨g1, cap, cur, rfl, hb, hh, _⟩
  · cases hgv
  rcases h'.2 with ⟨rfl, _⟩ | ⟨g2, cap', cur', rfl, hb', hh', _⟩
  · cases e1
  have e2 : g1 = g := by simpa [Value.ownBlock] using hgv
  have e3 : g = g2 := by simpa [Value.ownBlock] using e1
  subst e2 e3
  rw [hh] at hh'
  injection hh' with h3
  injection h3 with _ h4
  exact hne h4
theorem own_mono {w : World} {base base' : Nat} {e : TypeId} {size n : Nat} {v : Value} {xs : List Value} (h : w.ownsRow base e size v n xs) (hb : base' ≤ base) : w.ownsRow base' e size v n xs := by
  refine ⟨h.1, ?_⟩
  rcases h.2 with h1 | ⟨g, cap, cur, h1, h2, h3⟩
  · exact .inl h1
  · exact .inr ⟨g, cap, cur, h1, Nat.le_trans hb h2, h3⟩
theorem own_cap {w : World} {base n size c : Nat} {A : Option Addr} {e : TypeId} {xs : List Value} (h : w.ownsRow base e size (.slice A n c) n xs) : n ≤ c ∧ c ≤ 9223372036854775807 := by
  rcases h.2 with ⟨h1, h2⟩ | ⟨g, cap, cur, h1, _, _, hc, hm, _⟩
  · injection h1 with _ h3 h4; omega
  · injection h1 with _ _ h4
    subst h4
    exact ⟨hc, by simpa [maxLen] using hm⟩

/-- A copy of a table. -/
def TabPost (t : List TRow) (n : Nat) (w : World) (e : Ending) (w' : World) : Prop :=
  Below w.heap.size w w' ∧ ∃ A' c' ts, e = .returned (.slice A' n c') ∧ ts.map TRow.xs = t.map TRow.xs ∧ ReadsT w' w'.heap.size A' n ts

theorem info_ints : (Try.prog.info? 22).map (fun i => (i.zero, i.size, i.bytes)) = some (some (.slice none 0 0), 1, 24) := by kernel_rfl


end Go.Proofs.Ytcggceincmljdaa

end

section
/- The contracts of the check of a train of gears, of its products, and of Returns. -/
namespace Go.Proofs.Ytcggceincmljdaa
open Go.RowKit

/-- Both numbers are those of teeth. -/
def okP (p : Int × Int) : Bool := withinB p.1 1 500 && withinB p.2 1 500
def trainErr (l : List (Int × Int)) : Int := if 12 < l.length then 8 else if l.all okP then 0 else 2

/-- What a train does: each product is handed to a step; false: one is not small. -/
def trainF {σ : Type} (step : σ → Int × Int → σ) : σ → Int × Int → List (Int × Int) → σ × Bool
  | s, _, [] => (s, true)
  | s, f, g :: l => if smallB (f.1 * g.1) (f.2 * g.2) then trainF step (step s (redN (f.1 * g.1) (f.2 * g.2), redD (f.1 * g.1) (f.2 * g.2))) (redN (f.1 * g.1) (f.2 * g.2), redD (f.1 * g.1) (f.2 * g.2)) l else (s, false)

/-- What a function value that is called leaves as it was: all blocks from B on. -/
structure Keeps (B : Nat) (w w' : World) : Prop where
  size : w.heap.size ≤ w'.heap.size
  block : ∀ k, B ≤ k → k < w.heap.size → w'.heap[k]? = w.heap[k]?

theorem Keeps.blk {B : Nat} {w w' : World} (h : Keeps B w w') {g : Nat} {t : TypeId} {cs : Array Value} (hg : Blk w g t cs) (hB : B ≤ g) : Blk w' g t cs := (h.block g hB hg.lt).trans hg

/-- What a function value does with a state that lies below B. -/
structure Each (B : Nat) (k : FuncId) (caps : Array Value) {σ : Type} (Inv : σ → World → Prop) (step : σ → Int × Int → σ) : Prop where
  ent : ∀ (args : Array Value) (w : World), (callFunc k args).run Try.prog w = .ok (.enter k args) w
  call : ∀ (s : σ) (w : World) (f : Int × Int), B ≤ w.heap.size → Inv s w → Part f.1 → Part f.2 →
    Calls Try.prog k (#[.agg #[.int .i64 f.1, .int .i64 f.2]] ++ caps) w fun e w' => e = .returned (.tuple #[]) ∧ Inv (step s f) w' ∧ Keeps B w w'
  keep : ∀ (s : σ) (w w' : World), Inv s w → Below B w w' → Inv s w'

end Go.Proofs.Ytcggceincmljdaa

end

section
/- Contracts of the search of a list by a function value, and of the copy of a train. -/
namespace Go.Proofs.Ytcggceincmljdaa
open Go Go.RowKit

/-- A function value that asks something of a number, and changes nothing. -/
structure Asks (k : FuncId) (pr : Int → Bool) : Prop where
  ent : ∀ (args : Array Value) (w : World), (callFunc k args).run Try.prog w = .ok (.enter k args) w
  call : ∀ (z : Int) (w : World), Calls Try.prog k #[.int .i64 z] w fun e w' => e = .returned (.bool (pr z)) ∧ w = w'

theorem Asks.is {k : FuncId} {pr : Int → Bool} (h : Asks k pr) (z : Int) (t : Bool) (ht : pr z = t) (w : World) : Calls Try.prog k #[.int .i64 z] w fun e w' => e = .returned (.bool t) ∧ w = w' := ht ▸ h.call z w

theorem any_take {pr : Int → Bool} {l : List Int} {k : Nat} {z : Int} (hz : l[k]? = some z) (h : (l.take k).any pr = false) (hp : pr z = false) : (l.take (k + 1)).any pr = false := by
  rw [List.take_add_one, hz]
  simp [List.any_append, h, hp]

set_option maxRecDepth 100000 in
theorem indexfunc_any (k : FuncId) (pr : Int → Bool) (hk : Asks k pr) (A : Option Addr) (n c N : Nat) (l : List Int) (w : World) (hx : Reads w N 1 A n (l.map (.int .i64))) (hN : N ≤ w.heap.size) (hn : n ≤ 9223372036854775807) :
    Calls Try.prog 32 #[.slice A n c, .func (.func k) #[] #[]] w fun e w' => (∃ r : Int, e = .returned (.int .i64 r) ∧ (0 ≤ r ↔ l.any pr = true)) ∧ Below w.heap.size w w' := by
  have hxl : l.length = n := by have := hx.1; simpa using this
  have HX := Lib.hid hx
  have HXL := Lib.hid hxl
  have hent := hk.ent
  have HK := Lib.hid hk
  clear hx hxl hk
  go_enter Try.func32, Try.ntmps32
  go_wp2
  go_loopw [8] (fun i wr => ∃ q : Nat, q ≤ n ∧ i = .int .i64 q ∧ (l.take q).any pr = false ∧ Below w.heap.size w wr) (fun i _ => n - (intOf i).toNat)
  case atStart => exact ⟨0, by omega, rfl, by simp, Below.refl _ _⟩
  case round =>
    obtain ⟨q, hq, rfl, ht, hb⟩ := hrel
    have HT := Lib.hid ht
    have HB := Lib.hid hb
    clear ht hb
    by_cases hlt : q < n
    · obtain ⟨xb, xo, u, rfl, hxb, hu, c0⟩ := (HX.out.belowLe HB.out hN).at_ hlt
      obtain ⟨z, hz, rfl⟩ : ∃ z, l[q]? = some z ∧ .int .i64 z = u := by
        rw [List.getElem?_map] at hu
        cases h : l[q]? with
        | none => rw [h] at hu; cases hu
        | some t => rw [h] at hu; exact ⟨t, rfl, Option.some.inj hu⟩
      have HZ := Lib.hid hz
      clear hu hz
      cases hp : pr z with
      | false =>
        have HP := Lib.hid hp
        clear hp
        go_wp2
        refine (HK.out.is z false HP.out _).mono ?_
        rintro e w' ⟨rfl, rfl⟩
        go_wp2
        go_roundw
        case rel => exact ⟨q + 1, by omega, by go_num, any_take HZ.out HT.out HP.out, HB.out⟩
        case measure => simp [intOf]; omega
      | true =>
        have HP := Lib.hid hp
        clear hp
        go_wp2
        refine (HK.out.is z true HP.out _).mono ?_
        rintro e w' ⟨rfl, rfl⟩
        go_wp2
        go_ret
        refine ⟨⟨_, rfl, ?_⟩, HB.out⟩
        have : l.any pr = true := List.any_eq_true.2 ⟨z, List.mem_of_getElem? HZ.out, HP.out⟩
        simp [this]
    · go_wp2
      go_ret
      refine ⟨⟨_, rfl, ?_⟩, HB.out⟩
      have ht := HT.out
      rw [List.take_of_length_le (by rw [HXL.out]; omega)] at ht
      rw [ht]
      simp

theorem containsfunc_any (k : FuncId) (pr : Int → Bool) (hk : Asks k pr) (A : Option Addr) (n c N : Nat) (l : List Int) (w : World) (hx : Reads w N 1 A n (l.map (.int .i64))) (hN : N ≤ w.heap.size) (hn : n ≤ 9223372036854775807) (t : Bool) (ht : l.any pr = t) :
    Calls Try.prog 22 #[.slice A n c, .func (.func k) #[] #[]] w fun e w' => e = .returned (.bool t) ∧ Below w.heap.size w w' := by
  have HX := Lib.hid hx
  have HT := Lib.hid ht
  have HI := Lib.hid (indexfunc_any k pr hk A n c N l)
  clear hx ht
  go_enter Try.func22, Try.ntmps22
  go_wp2_with fail
  refine (HI.out w HX.out hN hn).mono ?_
  rintro e w1 ⟨⟨r, rfl, hr⟩, hb⟩
  have HR := Lib.hid hr
  have HB := Lib.hid hb
  clear hr hb
  cases t with
  | false =>
    have h : ¬ 0 ≤ r := fun h => by have := HR.out.1 h; rw [HT.out] at this; cases this
    have h' : r < 0 := by omega
    go_wp2
    go_ret
    exact ⟨by first | rfl | (simp; done) | (simp; omega), HB.out⟩
  | true =>
    have h := HR.out.2 HT.out
    go_wp2
    go_ret
    exact ⟨by first | rfl | (simp; done) | (simp; omega), HB.out⟩






end Go.Proofs.Ytcggceincmljdaa

end

section
/- The checks of tables, the program's and the reference's; how large a table may be. -/
namespace Go.Proofs.Ytcggceincmljdaa
open Go Go.RowKit

def headLen (t : List TRow) : Nat := ((t[0]?).map TRow.n).getD 0
def oddB (t : List TRow) (r : TRow) : Bool := decide (r.n ≠ headLen t)
def outZ (z : Int) : Bool := !(withinB z (-10000) 10000)
def outR (r : TRow) : Bool := r.xs.any outZ
/-- The error of a table. -/
def tblErr (t : List TRow) : Int :=
  if withinB (t.length : Int) 1 40 = false then 10 else if t.any (oddB t) then 10 else if 41 < headLen t then 8 else if t.any outR then 2 else 0




end Go.Proofs.Ytcggceincmljdaa

end

section
/- Plain law of readings: the table of least lengths; with less errors it is nowhere more. -/
namespace Go.Proofs.Ytcggceincmljdaa

/-- More than any length: there is no way. -/
def farT : Int := 1099511627776
def tab0 : Nat → Nat → Int := fun i j => if i = j then 0 else farT
def mnT (a b : Int) : Int := if b < a then b else a
/-- An arc in the table. -/
def putT (T : Nat → Nat → Int) (a : Arc) : Nat → Nat → Int := fun i j => if i = a.1 ∧ j = a.2.1 then mnT (T i j) a.2.2 else T i j
/-- All ways over zone k. -/
def stgT (T : Nat → Nat → Int) (k : Nat) : Nat → Nat → Int := fun i j => if T i k < farT ∧ T k j < farT then mnT (T i j) (T i k + T k j) else T i j
def stgs (T : Nat → Nat → Int) : Nat → Nat → Nat → Int
  | 0 => T
  | k + 1 => stgT (stgs T k) k
def arcsT (ars : List Arc) : Nat → Nat → Int := ars.foldl putT tab0
def tabT (n : Nat) (ars : List Arc) : Nat → Nat → Int := stgs (arcsT ars) n
/-- A table of ways that heights keep. -/
structure TabOk (p : Nat → Int) (B : Int) (T : Nat → Nat → Int) : Prop where
  diag : ∀ i, T i i = 0
  ent : ∀ i j, T i j = farT ∨ (p j - p i ≤ T i j ∧ T i j ≤ B)
section
variable {p : Nat → Int} {B : Int} {T : Nat → Nat → Int}
theorem mnT_le (a b : Int) : mnT a b ≤ a ∧ mnT a b ≤ b ∧ (mnT a b = a ∨ mnT a b = b) := by unfold mnT; split <;> omega
theorem tab0_ok (hB : 0 ≤ B) : TabOk p B tab0 := by
  refine ⟨fun i => by unfold tab0; rw [if_pos rfl], fun i j => ?_⟩
  unfold tab0
  by_cases h : i = j
  · subst h; rw [if_pos rfl]; exact .inr ⟨by omega, hB⟩
  · rw [if_neg h]; exact .inl rfl
theorem put_ok {a : Arc} (h : TabOk p B T) (ha : p a.2.1 - p a.1 ≤ a.2.2) (hb : a.2.2 ≤ B) (hB : B < farT) (hne : a.1 ≠ a.2.1) : TabOk p B (putT T a) := by
  refine ⟨fun i => ?_, fun i j => ?_⟩
  · unfold putT; rw [if_neg (by rintro ⟨e1, e2⟩; exact hne (e1.symm.trans e2))]; exact h.diag i
  · unfold putT
    by_cases hij : i = a.1 ∧ j = a.2.1
    · rw [if_pos hij]
      obtain ⟨rfl, rfl⟩ := hij
      obtain ⟨m1, m2, m3⟩ := mnT_le (T a.1 a.2.1) a.2.2
      rcases h.ent a.1 a.2.1 with h1 | h1
      · refine .inr ⟨?_, by omega⟩
        rcases m3 with m3 | m3 <;> omega
      · refine .inr ⟨?_, by omega⟩
        rcases m3 with m3 | m3 <;> omega
    · rw [if_neg hij]; exact h.ent i j
theorem arcs_ok {ars : List Arc} (hB : 0 ≤ B) (hf : B < farT) (hk : KeepsA p ars) (hl : ∀ a ∈ ars, a.2.2 ≤ B ∧ a.1 ≠ a.2.1) : ∀ T, TabOk p B T → TabOk p B (ars.foldl putT T) := by
  induction ars with
  | nil => exact fun T h => h
  | cons a t ih => exact fun T h => ih (fun b hb => hk b (by simp [hb])) (fun b hb => hl b (by simp [hb])) _ (put_ok h (hk a (by simp)) (hl a (by simp)).1 hf (hl a (by simp)).2)
theorem stg_ok {k : Nat} (h : TabOk p B T) (hB : 0 ≤ B) (hf : B + B < farT) : TabOk p (B + B) (stgT T k) := by
  have key : ∀ i j, T i k < farT → T k j < farT → p j - p i ≤ T i k + T k j ∧ T i k + T k j ≤ B + B := fun i j h1 h2 => by
    rcases h.ent i k with e1 | e1
    · omega
    rcases h.ent k j with e2 | e2
    · omega
    omega
  refine ⟨fun i => ?_, fun i j => ?_⟩
  · unfold stgT
    split
    · rename_i hc
      have := key i i hc.1 hc.2
      have hd := h.diag i
      unfold mnT
      split <;> omega
    · exact h.diag i
  · unfold stgT
    split
    · rename_i hc
      obtain ⟨k1, k2⟩ := key i j hc.1 hc.2
      obtain ⟨m1, m2, m3⟩ := mnT_le (T i j) (T i k + T k j)
      refine .inr ⟨?_, by omega⟩
      rcases h.ent i j with e | e
      · rcases m3 with m3 | m3 <;> omega
      · rcases m3 with m3 | m3 <;> omega
    · rcases h.ent i j with e | e
      · exact .inl e
      · exact .inr ⟨e.1, by omega⟩
theorem stgs_ok (h : TabOk p B T) (hB : 0 ≤ B) : ∀ k, B * 2 ^ k < farT → TabOk p (B * 2 ^ k) (stgs T k)
  | 0, _ => by rw [Int.pow_zero, Int.mul_one]; exact h
  | k + 1, hf => by
    have e : B * 2 ^ (k + 1) = B * 2 ^ k + B * 2 ^ k := by rw [Int.pow_succ, ← Int.mul_assoc]; omega
    have hp : 0 ≤ B * 2 ^ k := Int.mul_nonneg hB (Int.pow_nonneg (by omega))
    rw [e] at hf ⊢
    exact stg_ok (stgs_ok h hB k (by omega)) hp hf
/-- In its place the table is changed entry by entry. -/
def midT (T : Nat → Nat → Int) (k i j : Nat) : Nat → Nat → Int := fun a b => if a < i ∨ (a = i ∧ b < j) then stgT T k a b else T a b
theorem mid_start (T : Nat → Nat → Int) (k : Nat) : midT T k 0 0 = T := by
  funext a b; unfold midT; rw [if_neg (by omega)]
theorem mid_row {n k i : Nat} (T : Nat → Nat → Int) {a b : Nat} (hb : b < n) : midT T k i n a b = midT T k (i + 1) 0 a b := by
  unfold midT
  by_cases h : a < i ∨ (a = i ∧ b < n)
  · rw [if_pos h, if_pos (by omega)]
  · rw [if_neg h, if_neg (by omega)]
theorem mid_end {n k : Nat} (T : Nat → Nat → Int) {a b : Nat} (ha : a < n) : midT T k n 0 a b = stgT T k a b := by
  unfold midT; rw [if_pos (by omega)]
theorem mid_col {k i j : Nat} (hd : T k k = 0) : midT T k i j i k = T i k := by
  unfold midT
  split
  · unfold stgT
    split
    · unfold mnT; rw [if_neg (by omega)]
    · rfl
  · rfl
theorem mid_rowk {k i j : Nat} (hd : T k k = 0) : midT T k i j k j = T k j := by
  unfold midT
  split
  · unfold stgT
    split
    · unfold mnT; rw [if_neg (by omega)]
    · rfl
  · rfl
theorem mid_here {k i j : Nat} : midT T k i j i j = T i j := by unfold midT; rw [if_neg (by omega)]
theorem mid_step {k i j a b : Nat} : midT T k i (j + 1) a b = if a = i ∧ b = j then stgT T k i j else midT T k i j a b := by
  unfold midT
  by_cases h : a = i ∧ b = j
  · rw [if_pos h, if_pos (by omega), h.1, h.2]
  · rw [if_neg h]
    by_cases h2 : a < i ∨ (a = i ∧ b < j)
    · rw [if_pos h2, if_pos (by omega)]
    · rw [if_neg h2, if_neg (by omega)]
end
/-- One table is nowhere more than another one, and has the same ways. -/
def TabLe (S T : Nat → Nat → Int) : Prop := ∀ i j, S i j ≤ T i j ∧ (S i j = farT ↔ T i j = farT)
section
variable {p : Nat → Int} {B : Int} {S T : Nat → Nat → Int}
end
end Go.Proofs.Ytcggceincmljdaa

end

section
/- Lists of four numbers each, as they lie. -/
namespace Go.Proofs.Ytcggceincmljdaa
open Go Go.RowKit

abbrev Quad := Int × Int × Int × Int
def cells4 (l : List Quad) : List Value := l.flatMap fun p => [.int .i64 p.1, .int .i64 p.2.1, .int .i64 p.2.2.1, .int .i64 p.2.2.2]
theorem cells4_len : ∀ l : List Quad, (cells4 l).length = l.length * 4
  | [] => rfl
  | p :: l => by
    have ih := cells4_len l
    unfold cells4 at ih ⊢
    rw [List.flatMap_cons, List.length_append, ih]
    simp
    omega
theorem cells4_cons (p : Quad) (l : List Quad) : cells4 (p :: l) = .int .i64 p.1 :: .int .i64 p.2.1 :: .int .i64 p.2.2.1 :: .int .i64 p.2.2.2 :: cells4 l := by
  unfold cells4
  rw [List.flatMap_cons]
  rfl
theorem cells4_append (a b : List Quad) : cells4 (a ++ b) = cells4 a ++ cells4 b := by unfold cells4; rw [List.flatMap_append]
theorem cells4_get : ∀ (l : List Quad) (k : Nat) (p : Quad), l[k]? = some p → (cells4 l)[k * 4]? = some (.int .i64 p.1) ∧ (cells4 l)[k * 4 + 1]? = some (.int .i64 p.2.1) ∧ (cells4 l)[k * 4 + 2]? = some (.int .i64 p.2.2.1) ∧ (cells4 l)[k * 4 + 3]? = some (.int .i64 p.2.2.2)
  | [], k, p, h => by simp at h
  | q :: l, 0, p, h => by
    obtain rfl : q = p := by simpa using h
    rw [cells4_cons]
    simp
  | q :: l, k + 1, p, h => by
    have ih := cells4_get l k p (by simpa using h)
    rw [cells4_cons, show (k + 1) * 4 = k * 4 + 1 + 1 + 1 + 1 by omega]
    simpa using ih
theorem one_cells4 (l : List Quad) : ∀ u ∈ cells4 l, u.oneCell' = true := by
  intro u hu
  unfold cells4 at hu
  obtain ⟨p, -, hp⟩ := List.mem_flatMap.1 hu
  simp at hp
  rcases hp with rfl | rfl | rfl | rfl <;> rfl
theorem Reads.len4 {w : World} {B n : Nat} {A : Option Addr} {l : List Quad} (h : Reads w B 4 A n (cells4 l)) : l.length = n := by
  have := h.1; rw [cells4_len] at this; omega
theorem Reads.quad {w : World} {B n : Nat} {A : Option Addr} {l : List Quad} (h : Reads w B 4 A n (cells4 l)) {k : Nat} (hk : k < n) : ∃ b o p, A = some ⟨b, o, none⟩ ∧ b < B ∧ l[k]? = some p ∧ w.cell? ⟨b, o + k * 4, none⟩ = some (.int .i64 p.1) ∧ w.cell? ⟨b, o + k * 4 + 1, none⟩ = some (.int .i64 p.2.1) ∧ w.cell? ⟨b, o + k * 4 + 2, none⟩ = some (.int .i64 p.2.2.1) ∧ w.cell? ⟨b, o + k * 4 + 3, none⟩ = some (.int .i64 p.2.2.2) := by
  obtain ⟨b, o, e, hb, hc⟩ := h.2 (by omega)
  have hl := h.len4
  have hr := List.getElem?_eq_getElem (show k < l.length by omega)
  obtain ⟨c0, c1, c2, c3⟩ := cells4_get l k _ hr
  exact ⟨b, o, _, e, hb, hr, hc _ _ c0, hc _ _ c1, hc _ _ c2, hc _ _ c3⟩
theorem cells4_set : ∀ (l : List Quad) (k : Nat) (p : Quad), k < l.length → ((((cells4 l).set (k * 4) (.int .i64 p.1)).set (k * 4 + 1) (.int .i64 p.2.1)).set (k * 4 + 2) (.int .i64 p.2.2.1)).set (k * 4 + 3) (.int .i64 p.2.2.2) = cells4 (l.set k p)
  | [], k, p, h => by simp at h
  | q :: l, 0, p, _ => by
    rw [cells4_cons, show (q :: l).set 0 p = p :: l from rfl, cells4_cons]
    rfl
  | q :: l, k + 1, p, h => by
    have ih := cells4_set l k p (by simpa using h)
    rw [cells4_cons, show (q :: l).set (k + 1) p = q :: l.set k p from rfl, cells4_cons, ← ih]
    rw [show (k + 1) * 4 = k * 4 + 1 + 1 + 1 + 1 by omega]
    simp only [List.set_cons_succ]
/-- The arcs of the first k readings. -/
def arcsK (l : List Quad) : Nat → List Quad
  | 0 => []
  | k + 1 => arcsK l k ++ match l[k]? with
    | some r => [(r.1, r.2.1, r.2.2.2, (k : Int) + 1), (r.2.1, r.1, -r.2.2.1, -(k : Int) - 1)]
    | none => []
theorem arcsK_succ {l : List Quad} {k : Nat} {r : Quad} (h : l[k]? = some r) : arcsK l (k + 1) = arcsK l k ++ [(r.1, r.2.1, r.2.2.2, (k : Int) + 1), (r.2.1, r.1, -r.2.2.1, -(k : Int) - 1)] := by
  show arcsK l k ++ (match l[k]? with | some r => _ | none => []) = _
  rw [h]
theorem arcsK_len {l : List Quad} : ∀ {k : Nat}, k ≤ l.length → (arcsK l k).length = 2 * k
  | 0, _ => rfl
  | k + 1, h => by
    rw [arcsK_succ (List.getElem?_eq_getElem (show k < l.length by omega)), List.length_append, arcsK_len (by omega)]
    simp
    omega
theorem arcsK_mem {l : List Quad} : ∀ {k : Nat} {a : Quad}, a ∈ arcsK l k → ∃ r ∈ l, (a.1 = r.1 ∧ a.2.1 = r.2.1 ∧ a.2.2.1 = r.2.2.2) ∨ (a.1 = r.2.1 ∧ a.2.1 = r.1 ∧ a.2.2.1 = -r.2.2.1)
  | 0, _, h => by simp [arcsK] at h
  | k + 1, a, h => by
    cases hk : l[k]? with
    | none =>
      have e : arcsK l (k + 1) = arcsK l k := by
        show arcsK l k ++ (match l[k]? with | some r => _ | none => []) = _
        rw [hk]; simp
      rw [e] at h
      exact arcsK_mem h
    | some r =>
      rw [arcsK_succ hk] at h
      rcases List.mem_append.1 h with h | h
      · exact arcsK_mem h
      · have hr := List.mem_of_getElem? hk
        rcases List.mem_cons.1 h with rfl | h
        · exact ⟨r, hr, .inl ⟨rfl, rfl, rfl⟩⟩
        · obtain rfl := List.mem_singleton.1 h
          exact ⟨r, hr, .inr ⟨rfl, rfl, rfl⟩⟩
end Go.Proofs.Ytcggceincmljdaa

end

section
/- Plain law of readings: what readings mean, as arcs; how low a height of the search goes. -/
namespace Go.Proofs.Ytcggceincmljdaa

def arcQ (q : Quad) : Arc := (q.1.toNat, q.2.1.toNat, q.2.2.1)
def arsOf (l : List Quad) : List Arc := (arcsK l l.length).map arcQ
/-- Readings of n zones that are right. -/
def RdOk (n : Nat) (l : List Quad) : Prop := ∀ r ∈ l, (0 ≤ r.1 ∧ r.1 < (n : Int)) ∧ (0 ≤ r.2.1 ∧ r.2.1 < (n : Int)) ∧ r.1 ≠ r.2.1 ∧ -1000000 ≤ r.2.2.1 ∧ r.2.2.1 ≤ r.2.2.2 ∧ r.2.2.2 ≤ 1000000
/-- A profile keeps readings. -/
def KeepQ (p : Nat → Int) (l : List Quad) : Prop := ∀ r ∈ l, r.2.2.1 ≤ p r.2.1.toNat - p r.1.toNat ∧ p r.2.1.toNat - p r.1.toNat ≤ r.2.2.2
section
variable {n : Nat} {p : Nat → Int} {l : List Quad} {H : Nat → Int}
theorem ars_keep (h : KeepQ p l) : KeepsA p (arsOf l) := by
  intro a ha
  obtain ⟨q, hq, rfl⟩ := List.mem_map.1 ha
  obtain ⟨r, hr, ⟨e1, e2, e3⟩ | ⟨e1, e2, e3⟩⟩ := arcsK_mem hq
  · obtain ⟨h1, h2⟩ := h r hr
    show p q.2.1.toNat - p q.1.toNat ≤ q.2.2.1
    rw [e1, e2, e3]; omega
  · obtain ⟨h1, h2⟩ := h r hr
    show p q.2.1.toNat - p q.1.toNat ≤ q.2.2.1
    rw [e1, e2, e3]; omega
/-- What an arc of right readings is. -/
theorem arc_in (h : RdOk n l) {k : Nat} {q : Quad} (hq : q ∈ arcsK l k) : (0 ≤ q.1 ∧ q.1 < (n : Int)) ∧ (0 ≤ q.2.1 ∧ q.2.1 < (n : Int)) ∧ q.1 ≠ q.2.1 ∧ -1000000 ≤ q.2.2.1 ∧ q.2.2.1 ≤ 1000000 := by
  obtain ⟨r, hr, ⟨e1, e2, e3⟩ | ⟨e1, e2, e3⟩⟩ := arcsK_mem hq
  · obtain ⟨h1, h2, h3, h4, h5, h6⟩ := h r hr
    rw [e1, e2, e3]
    exact ⟨h1, h2, h3, by omega, by omega⟩
  · obtain ⟨h1, h2, h3, h4, h5, h6⟩ := h r hr
    rw [e1, e2, e3]
    exact ⟨h2, h1, fun e => h3 e.symm, by omega, by omega⟩
def LowB (n : Nat) (p : Nat → Int) (H : Nat → Int) : Prop := ∀ v, v < n → H v ≤ 0 ∧ ∃ x, x < n ∧ p v - p x ≤ H v
theorem low_start : LowB n p (fun _ => 0) := fun v hv => ⟨Int.le_refl _, v, hv, by show p v - p v ≤ (0 : Int); omega⟩
theorem low_relax {ars : List Arc} (hk : KeepsA p ars) (h : LowB n p H) {a : Arc} (ha : a ∈ ars) (h1 : a.1 < n) (h2 : a.2.1 < n) (hl : H a.1 + a.2.2 < H a.2.1) : LowB n p (relax H a) := fun v hv => by
  unfold relax
  by_cases e : v = a.2.1
  · rw [if_pos e]
    obtain ⟨q1, x, hx, q2⟩ := h a.1 h1
    have := (h a.2.1 h2).1
    have hka := hk a ha
    exact ⟨by omega, x, hx, by rw [e]; omega⟩
  · rw [if_neg e]; exact h v hv
theorem low_in {P : Int} (h : LowB n p H) (hp : ∀ v, v < n → -P ≤ p v ∧ p v ≤ P) {v : Nat} (hv : v < n) : -(P + P) ≤ H v ∧ H v ≤ 0 := by
  obtain ⟨q1, x, hx, q2⟩ := h v hv
  have := hp v hv
  have := hp x hx
  omega
end
end Go.Proofs.Ytcggceincmljdaa

end

section
/- Readings: right ones are accepted; their arcs. -/
namespace Go.Proofs.Ytcggceincmljdaa
open Go Go.RowKit

theorem withinprof_is (n lo hi : Int) (t : Bool) (h : withinB n lo hi = t) (w : World) : Calls Try.prog 24 #[.int .i64 n, .int .i64 lo, .int .i64 hi] w fun e w' => e = .returned (.bool t) ∧ w = w' := by
  subst h
  unfold withinB
  by_cases h1 : lo ≤ n <;> by_cases h2 : n ≤ hi
  all_goals
    go_enter Try.func24, Try.ntmps24
    have d1 : decide (lo ≤ n) = decide (lo ≤ n) := rfl
    go_wp2
    go_ret
    exact ⟨by simp [h1, h2], rfl⟩

theorem within_mk' {n lo hi : Int} (h1 : lo ≤ n) (h2 : n ≤ hi) : withinB n lo hi = true := (withinB_iff n lo hi).2 ⟨h1, h2⟩
set_option maxRecDepth 100000 in
set_option maxHeartbeats 2000000 in
/-- Right readings are accepted. -/
theorem readings_ok (n : Nat) (hn : 1 ≤ n ∧ n ≤ 40) (A : Option Addr) (k c : Nat) (l : List Quad) (hk : k ≤ 100) (hl : RdOk n l) (w : World) (hx : Reads w w.heap.size 4 A k (cells4 l)) :
    Calls Try.prog 17 #[.int .i64 (n : Int), .slice A k c] w fun e w' => e = .returned (.int .i64 0) ∧ Below w.heap.size w w' := by
  have HX := Lib.hid hx
  have HL := Lib.hid hl
  have H1 := Lib.hid (within_mk' (show (1 : Int) ≤ (n : Int) by omega) (show (n : Int) ≤ 40 by omega))
  have e1 := IntWalk.i64_in ((n : Int) - 1) ⟨by omega, by omega⟩
  have d1 : decide ((100 : Int) < (k : Int)) = false := by simp; omega
  clear hx hl
  go_enter Try.func17, Try.ntmps17
  go_wp2_with fail
  refine (withinprof_is _ _ _ true H1.out _).mono ?_
  rintro e w' ⟨rfl, rfl⟩
  go_wp2
  go_loopw [17] (fun i wr => ∃ j : Nat, j ≤ k ∧ i = .int .i64 j ∧ Below w.heap.size w wr) (fun i _ => k - (intOf i).toNat)
  case atStart => exact ⟨0, by omega, rfl, Below.refl _ _⟩
  case round =>
    obtain ⟨j, hj, rfl, hb⟩ := hrel
    have HB := Lib.hid hb
    by_cases hlt : j < k
    rotate_left
    · clear hb
      go_wp2
      go_ret
      exact ⟨rfl, HB.out⟩
    have hjj : (j : Int) < (k : Int) := by omega
    obtain ⟨xb, xo, ⟨a, b, lo, hi⟩, hAe, hxb, hr, c0, c1, c2, c3⟩ := (HX.out.below hb).quad hlt
    simp only at c0 c1 c2 c3
    obtain ⟨q1, q2, q3, q4, q5, q6⟩ := HL.out _ (List.mem_of_getElem? hr)
    simp only at q1 q2 q3 q4 q5 q6
    subst hAe
    have W1 := Lib.hid (within_mk' q1.1 (show a ≤ (n : Int) - 1 by omega))
    have W2 := Lib.hid (within_mk' q2.1 (show b ≤ (n : Int) - 1 by omega))
    have W3 := Lib.hid (within_mk' q4 (show lo ≤ 1000000 by omega))
    have W4 := Lib.hid (within_mk' (show -1000000 ≤ hi by omega) q6)
    have hab : (a == b) = false := by simpa using q3
    have hlo : decide (hi < lo) = false := by simp; omega
    have hbs := HB.out.size
    clear hb hr
    go_wp2_with fail
    generalize hW : wr.alloc (.cells #[.int .i64 a, .int .i64 b, .int .i64 lo, .int .i64 hi] 57) = w1
    have HB1 := Lib.hid (show Below w.heap.size w w1 by rw [← hW]; exact HB.out.alloc hbs _)
    have hk1 : Blk w1 wr.heap.size 57 #[.int .i64 a, .int .i64 b, .int .i64 lo, .int .i64 hi] := by rw [← hW]; exact Blk.new _ _ _
    have z0 := hk1.cell 0
    have z1 := hk1.cell 1
    have z2 := hk1.cell 2
    have z3 := hk1.cell 3
    clear hW hk1 c0 c1 c2 c3
    refine (withinprof_is _ _ _ true W1.out _).mono ?_
    rintro e w' ⟨rfl, rfl⟩
    go_wp2_with fail
    refine (withinprof_is _ _ _ true W2.out _).mono ?_
    rintro e w' ⟨rfl, rfl⟩
    go_wp2_with fail
    refine (withinprof_is _ _ _ true W3.out _).mono ?_
    rintro e w' ⟨rfl, rfl⟩
    go_wp2_with fail
    refine (withinprof_is _ _ _ true W4.out _).mono ?_
    rintro e w' ⟨rfl, rfl⟩
    go_wp2
    go_roundw
    case rel => exact ⟨j + 1, by omega, by go_num, HB1.out⟩
    case measure => simp [intOf]; omega
end Go.Proofs.Ytcggceincmljdaa

end
