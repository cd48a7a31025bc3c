import Derived.Test.YtfigbdhfmlhjdaaQ17
import Derived.Test.YtfigbdhfmlhjdaaQ8
import Derived.Test.YtfigbdhfmlhjdaaQ10
import Derived.Test.YtfigbdhfmlhjdaaQ14
import Derived.Test.YtfigbdhfmlhjdaaQ13
import Derived.Deep.Cut

section
/- Worlds that differ in two blocks; the class of a drawn region whose blocks are made and stored into while calls change two blocks. -/
namespace Go.Proofs.Ytfigbdhfmlhjdaa
open Go Go.RowKit Go.Maps

/-- All blocks but a and b are as they were. -/
structure Two (a b : Nat) (w w' : World) : Prop where
  os : w'.os = w.os
  tape : w'.tape = w.tape
  output : w'.output = w.output
  size : w.heap.size ≤ w'.heap.size
  block : ∀ k, k < w.heap.size → k ≠ a → k ≠ b → w'.heap[k]? = w.heap[k]?
section
variable {a b : Nat} {w w' w'' : World}
theorem Two.refl (a b : Nat) (w : World) : Two a b w w := ⟨rfl, rfl, rfl, Nat.le_refl _, fun _ _ _ _ => rfl⟩
theorem Two.trans (h : Two a b w w') (k : Two a b w' w'') : Two a b w w'' :=
  ⟨k.os.trans h.os, k.tape.trans h.tape, k.output.trans h.output, Nat.le_trans h.size k.size, fun i hi ha hb => (k.block i (Nat.lt_of_lt_of_le hi h.size) ha hb).trans (h.block i hi ha hb)⟩
theorem Two.of (h : Below w.heap.size w w') : Two a b w w' := ⟨h.os, h.tape, h.output, h.size, fun i hi _ _ => h.block i hi⟩
theorem Two.of1 (h : w.grownBy w' (some a)) : Two a b w w' := ⟨h.os, h.tape, h.output, h.size, fun i hi ha _ => h.block i hi fun e => ha (Option.some.inj e)⟩
theorem Two.of2 (h : w.grownBy w' (some b)) : Two a b w w' := ⟨h.os, h.tape, h.output, h.size, fun i hi _ hb => h.block i hi fun e => hb (Option.some.inj e)⟩
theorem Two.below {B : Nat} (h : Two a b w w') (hB : B ≤ w.heap.size) (ha : B ≤ a) (hb : B ≤ b) : Below B w w' := ⟨h.os, h.tape, h.output, h.size, fun i hi => h.block i (by omega) (by omega) (by omega)⟩
theorem Two.blk (h : Two a b w w') {g : Nat} {t : TypeId} {cs : Array Value} (hk : Blk w g t cs) (ha : g ≠ a) (hb : g ≠ b) : Blk w' g t cs := (h.block g hk.lt ha hb).trans hk
theorem Two.lay (h : Two a b w w') (hb : Below w'.heap.size w' w'') : Two a b w w'' := h.trans (Two.of hb)
end

/-- The cells of a block, stored one after the other. -/
def setAll (x : Nat) : Nat → List Value → World → World
  | _, [], w => w
  | i, v :: vs, w => setAll x (i + 1) vs (w.setCell ⟨x, i, none⟩ v)
theorem setAll_blk {x : Nat} {T : TypeId} : ∀ (vs : List Value) (i : Nat) (es : List Value) (w : World), i + vs.length = es.length → Blk w x T es.toArray → Blk (setAll x i vs w) x T (es.take i ++ vs).toArray
  | [], i, es, w, h, hb => by
    have e : i = es.length := by simpa using h
    subst e
    simpa [setAll] using hb
  | v :: vs, i, es, w, h, hb => by
    have hi : i < es.length := by simp at h; omega
    have h1 : Blk (w.setCell ⟨x, i, none⟩ v) x T (es.set i v).toArray := by simpa using hb.set_ i v
    have h2 := setAll_blk vs (i + 1) (es.set i v) _ (by simp at h ⊢; omega) h1
    have e : (es.set i v).take (i + 1) ++ vs = es.take i ++ v :: vs := by
      have h3 : (es.set i v).take (i + 1) = es.take i ++ [v] := by
        rw [List.take_add_one, List.getElem?_set_self hi, List.take_set_of_le (Nat.le_refl _)]
        rfl
      rw [h3, List.append_assoc]
      rfl
    rw [e] at h2
    exact h2
theorem setAll_below {x B : Nat} (hB : B ≤ x) : ∀ (vs : List Value) (i : Nat) (w : World), Below B w (setAll x i vs w)
  | [], _, w => Below.refl _ _
  | v :: vs, i, w => ((Below.refl B w).setCell (show B ≤ (⟨x, i, none⟩ : Addr).block from hB) v).trans (setAll_below hB vs (i + 1) _)
theorem setAll_far {x y : Nat} {T : TypeId} {cs : Array Value} (hne : y ≠ x) : ∀ (vs : List Value) (i : Nat) (w : World), Blk w y T cs → Blk (setAll x i vs w) y T cs
  | [], _, _, h => h
  | v :: vs, i, w, h => setAll_far hne vs (i + 1) _ (h.far (p := ⟨x, i, none⟩) hne v)

/-- Blocks that a drawn region makes: (operation that makes it, operation that stores into it, type, values). -/
abbrev Made := List (Nat × Nat × TypeId × List Value)
/-- A drawn region in which calls change blocks gp and gm, of which L tells, and blocks ms are made. -/
structure KpP (gp gm : Nat) (L : (Nat → Bool) → World → Prop) (ms : Made) (W : World) (g : Nat → Option Nat) (f : Nat → Bool) (w' : World) : Prop where
  two : Two gp gm W w'
  loc : L f w'
  made : ∀ c s T vs, (c, s, T, vs) ∈ ms → ∀ x, g c = some x → W.heap.size ≤ x ∧ ∃ es : List Value, es.length = vs.length ∧ Blk w' x T es.toArray ∧ (f s = true → es = vs)
  inj : ∀ i j x, g i = some x → g j = some x → i = j
  dom : ∀ i x, g i = some x → ∃ m ∈ ms, m.1 = i
/-- What L tells is not of new blocks. -/
def StbL (W : World) (L : (Nat → Bool) → World → Prop) : Prop := ∀ f w w', Below W.heap.size w w' → L f w → L f w'
section
variable {gp gm : Nat} {L : (Nat → Bool) → World → Prop} {ms : Made} {W w' w'' : World} {g : Nat → Option Nat} {f : Nat → Bool} {k : Nat}
theorem KpP.start (hL : L f (W.drewN 1)) : KpP gp gm L ms W (fun _ => none) f (W.drewN 1) := ⟨Two.of (below_drewN (Below.refl _ _) 1), hL, fun _ _ _ _ _ _ h => (nomatch h), fun _ _ _ h => (nomatch h), fun _ _ h => (nomatch h)⟩
theorem KpP.same (h : KpP gp gm L ms W g f w') (hk : ∀ m ∈ ms, m.2.1 ≠ k) (hL : L (Fx.add f k) w') : KpP gp gm L ms W g (Fx.add f k) w' :=
  ⟨h.two, hL, fun c s T vs hm x hx => by
    obtain ⟨h1, es, h2, h3, h4⟩ := h.made c s T vs hm x hx
    exact ⟨h1, es, h2, h3, fun e => h4 (by rwa [add_ne' (Ne.symm (hk _ hm))] at e)⟩, h.inj, h.dom⟩
/-- A call that changes blocks gp and gm alone. -/
theorem KpP.call (h : KpP gp gm L ms W g f w') (hk : ∀ m ∈ ms, m.2.1 ≠ k) (hp : gp < W.heap.size) (hm : gm < W.heap.size) (h2 : Two gp gm w' w'') (hL : L (Fx.add f k) w'') : KpP gp gm L ms W g (Fx.add f k) w'' :=
  ⟨h.two.trans h2, hL, fun c s T vs hms x hx => by
    obtain ⟨h1, es, h3, h4, h5⟩ := h.made c s T vs hms x hx
    exact ⟨h1, es, h3, h2.blk h4 (by omega) (by omega), fun e => h5 (by rwa [add_ne' (Ne.symm (hk _ hms))] at e)⟩, h.inj, h.dom⟩
theorem KpP.make (h : KpP gp gm L ms W g f w') {c s : Nat} {T : TypeId} {vs : List Value} (hc : (c, s, T, vs) ∈ ms) (hu : ∀ m ∈ ms, m.1 = c → m = (c, s, T, vs)) (hk : ∀ m ∈ ms, m.2.1 ≠ c) (es : List Value) (hes : es.length = vs.length) (hf : f s = false)
    (hL : L (Fx.add f c) (w'.alloc (.cells es.toArray T))) : KpP gp gm L ms W (Fx.upd g c w'.heap.size) (Fx.add f c) (w'.alloc (.cells es.toArray T)) := by
  have lt : ∀ i x, g i = some x → x < w'.heap.size := fun i x hx => by
    obtain ⟨⟨c', s', T', vs'⟩, hm, rfl⟩ := h.dom i x hx
    obtain ⟨-, _, _, h3, _⟩ := h.made _ _ _ _ hm x hx
    exact h3.lt
  refine ⟨h.two.trans (Two.of ((Below.refl _ _).alloc (Nat.le_refl _) _)), hL, fun c' s' T' vs' hm x hx => ?_, fun i j x hi hj => ?_, fun i x hx => ?_⟩
  · by_cases e : c' = c
    · have h1 := hu _ hm e
      cases h1
      rw [Fx.upd_same] at hx
      cases hx
      exact ⟨h.two.size, es, hes, Blk.new _ _ _, fun e => by rw [add_ne' (Ne.symm (hk _ hc).symm).symm, hf] at e; cases e⟩
    · rw [upd_ne e] at hx
      obtain ⟨h1, es', h2, h3, h4⟩ := h.made c' s' T' vs' hm x hx
      exact ⟨h1, es', h2, h3.alloc _, fun e => h4 (by rwa [add_ne' (Ne.symm (hk _ hm))] at e)⟩
  · by_cases ei : i = c <;> by_cases ej : j = c
    · rw [ei, ej]
    · subst ei
      rw [Fx.upd_same] at hi
      cases hi
      rw [upd_ne ej] at hj
      exact absurd (lt _ _ hj) (by omega)
    · subst ej
      rw [Fx.upd_same] at hj
      cases hj
      rw [upd_ne ei] at hi
      exact absurd (lt _ _ hi) (by omega)
    · rw [upd_ne ei] at hi
      rw [upd_ne ej] at hj
      exact h.inj i j x hi hj
  · by_cases e : i = c
    · exact ⟨_, hc, e.symm⟩
    · rw [upd_ne e] at hx
      exact h.dom i x hx
theorem KpP.store (h : KpP gp gm L ms W g f w') (hS : StbL W L) {c s : Nat} {T : TypeId} {vs : List Value} (hc : (c, s, T, vs) ∈ ms) (hu : ∀ m ∈ ms, m.1 = c → m = (c, s, T, vs)) (hs : ∀ m ∈ ms, m.2.1 = s → m.1 = c) {x : Nat} (hx : g c = some x) (hL : ∀ w, L f w → L (Fx.add f s) w) :
    KpP gp gm L ms W g (Fx.add f s) (setAll x 0 vs w') := by
  obtain ⟨h1, es, h2, h3, -⟩ := h.made c s T vs hc x hx
  have hb := setAll_below h1 vs 0 w'
  refine ⟨⟨hb.os.trans h.two.os, hb.tape.trans h.two.tape, hb.output.trans h.two.output, Nat.le_trans h.two.size hb.size, fun k hk ha hb' => (hb.block k hk).trans (h.two.block k hk ha hb')⟩, hL _ (hS _ _ _ hb h.loc), fun c' s' T' vs' hm y hy => ?_, h.inj, h.dom⟩
  by_cases e : c' = c
  · subst e
    obtain rfl := Option.some.inj (hx.symm.trans hy)
    have e1 := hu _ hm rfl
    cases e1
    exact ⟨h1, vs, rfl, by have := setAll_blk vs 0 es w' (by simp [h2]) h3; simpa using this, fun _ => rfl⟩
  · obtain ⟨k1, es2, k2, k3, k4⟩ := h.made _ _ _ _ hm y hy
    have hne : y ≠ x := fun e' => e (h.inj _ _ _ hy (e' ▸ hx))
    have hne2 : s ≠ s' := fun es' => e (hs _ hm es'.symm)
    exact ⟨k1, es2, k2, setAll_far hne vs 0 w' k3, fun e' => k4 (by rwa [add_ne' hne2] at e')⟩
theorem KpP.cell (h : KpP gp gm L ms W g f w') {c s : Nat} {T : TypeId} {vs : List Value} (hc : (c, s, T, vs) ∈ ms) {x : Nat} (hx : g c = some x) (j : Nat) (hj : j < vs.length) : ∃ e, w'.cell? ⟨x, j, none⟩ = some e ∧ w'.frozen? ⟨x, j, none⟩ = false := by
  obtain ⟨-, es, h2, h3, -⟩ := h.made c s T vs hc x hx
  have h4 : j < es.length := by omega
  exact ⟨es[j], by rw [h3.cell j]; simp [h4], h3.frozen j⟩
theorem KpP.end_ (h : KpP gp gm L ms W g f w') {c s : Nat} {T : TypeId} {vs : List Value} (hc : (c, s, T, vs) ∈ ms) {x : Nat} (hx : g c = some x) (hf : f s = true) : W.heap.size ≤ x ∧ Blk w' x T vs.toArray := by
  obtain ⟨h1, es, h2, h3, h4⟩ := h.made c s T vs hc x hx
  rw [← h4 hf]
  exact ⟨h1, h3⟩
end
end Go.Proofs.Ytfigbdhfmlhjdaa

end

section
/- The place of a thing: what notices a number that is too large; the tree with the places that are known. -/
namespace Go.Proofs.Ytfigbdhfmlhjdaa
open Go Go.RowKit Go.Maps

def frV (p : Int × Int) : Value := .agg #[.int .i64 p.1, .int .i64 p.2]

set_option maxRecDepth 100000 in
set_option maxHeartbeats 1000000 in
theorem mustc_no (gp : Nat) (tp mp : Value) (lg : Bool) (x y E : Int) (hE : E ≠ 0) (w : World) (hg : Blk w gp 72 #[tp, mp, .bool lg]) :
    Calls Try.prog 54 #[.pointer (some ⟨gp, 0, none⟩), .agg #[.int .i64 x, .int .i64 y], .int .i64 E] w fun e w' => e = .returned (.agg #[.int .i64 0, .int .i64 1]) ∧ w.grownBy w' (some gp) ∧ Blk w' gp 72 #[tp, mp, .bool true] := by
  have q : (E != 0) = true := by simpa using hE
  have hlt := hg.lt
  have HG := Lib.hid hg
  clear hE hg
  go_enter Try.func54, Try.ntmps54
  go_upto_region 1 with fail
  generalize hwn : ((w.alloc (.cells #[.int .i64 (x), .int .i64 (y)] 35)).alloc (.cells #[.int .i64 (0), .int .i64 (0)] 35)) = w1
  have hbn : Below w.heap.size w w1 := by rw [← hwn]; repeat' (first | exact Below.refl _ _ | refine below_drewN ?_ _ | refine Below.drew ?_ | refine Below.alloc ?_ (by first | omega | (simp; done) | (simp; omega) | (simp [World.setCell]; omega)) _ | refine Below.setCell ?_ (by first | omega | (simp; done) | (simp; omega)) _)
  have HB1 := Lib.hid (show Below w.heap.size w w1 from hbn)
  have K0_1 := Lib.hid (show Blk w1 (w.heap.size) 35 #[.int .i64 (x), .int .i64 (y)] by rw [← hwn]; repeat' (first | exact Blk.at_ _ (by first | rfl | (simp; done) | (simp; omega)) _ _ | refine Blk.drewN ?_ _ | refine Blk.drew ?_ | refine Blk.alloc ?_ _ | refine Blk.far ?_ (by first | omega | (simp; done) | (simp; omega)) _ | assumption))
  have K1_1 := Lib.hid (show Blk w1 (w.heap.size + 1) 35 #[.int .i64 (0), .int .i64 (0)] by rw [← hwn]; repeat' (first | exact Blk.at_ _ (by first | rfl | (simp; done) | (simp; omega)) _ _ | refine Blk.drewN ?_ _ | refine Blk.drew ?_ | refine Blk.alloc ?_ _ | refine Blk.far ?_ (by first | omega | (simp; done) | (simp; omega)) _ | assumption))
  have HN1 := Lib.hid hbn
  have hz1 := hbn.size
  clear hwn hbn
  have l0_1 : w.heap.size < w1.heap.size := K0_1.out.lt
  have z0_0_1 : w1.cell? ⟨w.heap.size, 0, none⟩ = some (.int .i64 (x)) := K0_1.out.cell 0
  have z0_1_1 : w1.cell? ⟨w.heap.size, 1, none⟩ = some (.int .i64 (y)) := K0_1.out.cell 1
  have l1_1 : w.heap.size + 1 < w1.heap.size := K1_1.out.lt
  have z1_0_1 : w1.cell? ⟨w.heap.size + 1, 0, none⟩ = some (.int .i64 (0)) := K1_1.out.cell 0
  have z1_1_1 : w1.cell? ⟨w.heap.size + 1, 1, none⟩ = some (.int .i64 (0)) := K1_1.out.cell 1
  have h1 := HG.out.below HN1.out hlt
  obtain ⟨W1, hW1⟩ : ∃ W, W = w1.setCell ⟨gp, 2, none⟩ (.bool true) := ⟨_, rfl⟩
  obtain ⟨W2, hW2⟩ : ∃ W, W = W1.setCell ⟨w.heap.size + 1, 0, none⟩ (.int .i64 0) := ⟨_, rfl⟩
  obtain ⟨W3, hW3⟩ : ∃ W, W = W2.setCell ⟨w.heap.size + 1, 1, none⟩ (.int .i64 1) := ⟨_, rfl⟩
  have k1 : Blk W1 (w.heap.size + 1) 35 #[.int .i64 0, .int .i64 0] := by rw [hW1]; exact K1_1.out.far (by show w.heap.size + 1 ≠ gp; omega) _
  have k2 : Blk W2 (w.heap.size + 1) 35 #[.int .i64 0, .int .i64 0] := by rw [hW2]; simpa using k1.set_ 0 (.int .i64 0)
  have k3 : Blk W3 (w.heap.size + 1) 35 #[.int .i64 0, .int .i64 1] := by rw [hW3]; simpa using k2.set_ 1 (.int .i64 1)
  have g1 : Blk W1 gp 72 #[tp, mp, .bool true] := by rw [hW1]; simpa using h1.set_ 2 (.bool true)
  have g2 : Blk W2 gp 72 #[tp, mp, .bool true] := by rw [hW2]; exact g1.far (by show gp ≠ w.heap.size + 1; omega) _
  have g3 : Blk W3 gp 72 #[tp, mp, .bool true] := by rw [hW3]; exact g2.far (by show gp ≠ w.heap.size + 1; omega) _
  have hgr : w.grownBy W3 (some gp) := by
    have hb : Below gp w W3 := by
      rw [hW3, hW2, hW1]
      exact ((((HB1.out).mono (by omega)).setCell (by show gp ≤ gp; omega) _).setCell (by show gp ≤ w.heap.size + 1; omega) _).setCell (by show gp ≤ w.heap.size + 1; omega) _
    refine ⟨hb.os, hb.tape, hb.output, hb.size, fun k hk hne => ?_⟩
    have hne : k ≠ gp := fun e => hne (by rw [e])
    rw [hW3, Below.heap_setCell _ _ _ _ (by show k ≠ w.heap.size + 1; omega), hW2, Below.heap_setCell _ _ _ _ (by show k ≠ w.heap.size + 1; omega), hW1, Below.heap_setCell _ _ _ _ (by show k ≠ gp; exact hne)]
    exact HN1.out.block k hk
  have G3 := Lib.hid g3
  have GR := Lib.hid hgr
  have a0 := h1.cell 2
  have a1 := h1.frozen 2
  have b0 := k1.cell 0
  have b1 := k1.frozen 0
  have c0 := k2.cell 1
  have c1 := k2.frozen 1
  have d0 := k3.cell 0
  have d1 := k3.cell 1
  rw [hW1] at b0 b1
  rw [hW2, hW1] at c0 c1
  rw [hW3, hW2, hW1] at d0 d1
  clear h1 k1 k2 k3 g1 g2 g3 hgr
  go_wp2_with fail
  rw [hW3, hW2, hW1] at GR G3
  exact bodyPost_ret (v := .agg #[.int .i64 0, .int .i64 1]) (by simp [results, Try.results54, go_sem, d0, d1]) rfl ⟨rfl, GR.out, G3.out⟩
set_option maxRecDepth 100000 in
set_option maxHeartbeats 1000000 in
theorem mustc_ok (gp : Nat) (x y : Int) (w : World) :
    Calls Try.prog 54 #[.pointer (some ⟨gp, 0, none⟩), .agg #[.int .i64 x, .int .i64 y], .int .i64 0] w fun e w' => e = .returned (.agg #[.int .i64 x, .int .i64 y]) ∧ Below w.heap.size w w' := by
  go_enter Try.func54, Try.ntmps54
  go_upto_region 1 with fail
  generalize hwn : ((w.alloc (.cells #[.int .i64 (x), .int .i64 (y)] 35)).alloc (.cells #[.int .i64 (0), .int .i64 (0)] 35)) = w1
  have hbn : Below w.heap.size w w1 := by rw [← hwn]; repeat' (first | exact Below.refl _ _ | refine below_drewN ?_ _ | refine Below.drew ?_ | refine Below.alloc ?_ (by first | omega | (simp; done) | (simp; omega) | (simp [World.setCell]; omega)) _ | refine Below.setCell ?_ (by first | omega | (simp; done) | (simp; omega)) _)
  have HB1 := Lib.hid (show Below w.heap.size w w1 from hbn)
  have K0_1 := Lib.hid (show Blk w1 (w.heap.size) 35 #[.int .i64 (x), .int .i64 (y)] by rw [← hwn]; repeat' (first | exact Blk.at_ _ (by first | rfl | (simp; done) | (simp; omega)) _ _ | refine Blk.drewN ?_ _ | refine Blk.drew ?_ | refine Blk.alloc ?_ _ | refine Blk.far ?_ (by first | omega | (simp; done) | (simp; omega)) _ | assumption))
  have K1_1 := Lib.hid (show Blk w1 (w.heap.size + 1) 35 #[.int .i64 (0), .int .i64 (0)] by rw [← hwn]; repeat' (first | exact Blk.at_ _ (by first | rfl | (simp; done) | (simp; omega)) _ _ | refine Blk.drewN ?_ _ | refine Blk.drew ?_ | refine Blk.alloc ?_ _ | refine Blk.far ?_ (by first | omega | (simp; done) | (simp; omega)) _ | assumption))
  have HN1 := Lib.hid hbn
  have hz1 := hbn.size
  clear hwn hbn
  have l0_1 : w.heap.size < w1.heap.size := K0_1.out.lt
  have z0_0_1 : w1.cell? ⟨w.heap.size, 0, none⟩ = some (.int .i64 (x)) := K0_1.out.cell 0
  have z0_1_1 : w1.cell? ⟨w.heap.size, 1, none⟩ = some (.int .i64 (y)) := K0_1.out.cell 1
  have l1_1 : w.heap.size + 1 < w1.heap.size := K1_1.out.lt
  have z1_0_1 : w1.cell? ⟨w.heap.size + 1, 0, none⟩ = some (.int .i64 (0)) := K1_1.out.cell 0
  have z1_1_1 : w1.cell? ⟨w.heap.size + 1, 1, none⟩ = some (.int .i64 (0)) := K1_1.out.cell 1
  have b0 := K1_1.out.frozen 0
  have k1 : Blk (w1.setCell ⟨w.heap.size + 1, 0, none⟩ (.int .i64 x)) (w.heap.size + 1) 35 #[.int .i64 x, .int .i64 0] := by simpa using K1_1.out.set_ 0 (.int .i64 x)
  have k2 : Blk ((w1.setCell ⟨w.heap.size + 1, 0, none⟩ (.int .i64 x)).setCell ⟨w.heap.size + 1, 1, none⟩ (.int .i64 y)) (w.heap.size + 1) 35 #[.int .i64 x, .int .i64 y] := by simpa using k1.set_ 1 (.int .i64 y)
  have c0 := k1.cell 1
  have c1 := k1.frozen 1
  have d0 := k2.cell 0
  have d1 := k2.cell 1
  clear k1 k2
  go_wp2_with fail
  exact bodyPost_ret (v := .agg #[.int .i64 x, .int .i64 y]) (by simp [results, Try.results54, go_sem, d0, d1]) rfl ⟨rfl, (HB1.out.setCell (by show w.heap.size ≤ w.heap.size + 1; omega) _).setCell (by show w.heap.size ≤ w.heap.size + 1; omega) _⟩
end Go.Proofs.Ytfigbdhfmlhjdaa

end

section
/- The place of a thing: the tree with the places that are known; what is known is answered. -/
namespace Go.Proofs.Ytfigbdhfmlhjdaa
open Go Go.RowKit Go.Maps

def valP (l : List Rk) (g0 g1 : ByteArray → Int) (s : ByteArray) : Value := .agg #[.int .i64 (plV l g0 s).1, .int .i64 (plV l g0 s).2, .int .i64 (plV l g1 s).1, .int .i64 (plV l g1 s).2]
def knM (l : List Rk) (g0 g1 : ByteArray → Int) (K : ByteArray → Bool) (s : ByteArray) : Option Value := if K s then some (valP l g0 g1 s) else none
def fl2 (l : List Rk) (g0 g1 : ByteArray → Int) (s : ByteArray) : Bool := flV l g0 s || flV l g1 s
/-- The flag tells whether a step of what is known fails. -/
def Good (l : List Rk) (g0 g1 : ByteArray → Int) (K : ByteArray → Bool) (lg : Bool) : Prop := lg = true ↔ ∃ s, K s = true ∧ fl2 l g0 g1 s = true

/-- The tree, and the places that are known (block gp; map gm). -/
structure PivAt (l : List Rk) (g0 g1 : ByteArray → Int) (A : Option Addr) (n c tb mb : Nat) (top : Int) (n₀ gm gp : Nat) (K : ByteArray → Bool) (cnt : Nat) (lg : Bool) (w : World) : Prop where
  tree : TreeAt l A n c tb mb top n₀ w
  lo : n₀ ≤ gm
  lt : gm < gp
  blk : Blk w gp 72 #[.pointer (some ⟨tb, 0, none⟩), .map (some gm), .bool lg]
  map : MapIs Try.prog 9 w gm cnt (knM l g0 g1 K)

section
variable {l : List Rk} {g0 g1 : ByteArray → Int} {A : Option Addr} {n c tb mb : Nat} {top : Int} {n₀ gm gp : Nat} {K : ByteArray → Bool} {cnt : Nat} {lg : Bool} {w w' : World}
theorem PivAt.below (h : PivAt l g0 g1 A n c tb mb top n₀ gm gp K cnt lg w) {B : Nat} (hb : Below B w w') (hB : gp < B) : PivAt l g0 g1 A n c tb mb top n₀ gm gp K cnt lg w' :=
  ⟨h.tree.below (hb.mono (by have := h.lo; have := h.lt; omega)), h.lo, h.lt, h.blk.below hb hB, h.map.below hb (by have := h.lt; omega)⟩
theorem PivAt.gp_lt (h : PivAt l g0 g1 A n c tb mb top n₀ gm gp K cnt lg w) : gp < w.heap.size := h.blk.lt
/-- The flag is raised. -/
theorem PivAt.raise (h : PivAt l g0 g1 A n c tb mb top n₀ gm gp K cnt lg w) (hg : w.grownBy w' (some gp)) (hk : Blk w' gp 72 #[.pointer (some ⟨tb, 0, none⟩), .map (some gm), .bool true]) : PivAt l g0 g1 A n c tb mb top n₀ gm gp K cnt true w' :=
  ⟨h.tree.below ⟨hg.os, hg.tape, hg.output, hg.size, fun k hk => hg.block k (by have := h.lo; have := h.lt; have := h.gp_lt; omega) (fun e => by have := Option.some.inj e; have := h.lo; have := h.lt; omega)⟩, h.lo, h.lt, hk, h.map.kept hg (fun e => by have := Option.some.inj e; have := h.lt; omega)⟩
end

theorem zero_arr2f (w : World) : (zeroValue 36).run Try.prog w = .ok (.agg #[.int .i64 0, .int .i64 0, .int .i64 0, .int .i64 0]) w := by kernel_rfl

set_option maxRecDepth 100000 in
set_option maxHeartbeats 2000000 in
theorem place_known (l : List Rk) (g0 g1 : ByteArray → Int) (A : Option Addr) (n c tb mb : Nat) (top : Int) (n₀ gm gp : Nat) (K : ByteArray → Bool) (cnt : Nat) (lg : Bool) (w : World) (h : PivAt l g0 g1 A n c tb mb top n₀ gm gp K cnt lg w) (name : ByteArray) (hnm : name.size ≤ maxLen) (hk : K name = true) :
    Calls Try.prog 29 #[.pointer (some ⟨gp, 0, none⟩), .string name] w fun e w' => e = .returned (valP l g0 g1 name) ∧ Below w.heap.size w w' := by
  obtain ⟨⟨a0, b0⟩, hp0⟩ : ∃ p, plV l g0 name = p := ⟨_, rfl⟩
  obtain ⟨⟨a1, b1⟩, hp1⟩ : ∃ p, plV l g1 name = p := ⟨_, rfl⟩
  have hval : valP l g0 g1 name = .agg #[.int .i64 a0, .int .i64 b0, .int .i64 a1, .int .i64 b1] := by unfold valP; rw [hp0, hp1]
  have hkn : knM l g0 g1 K name = some (valP l g0 g1 name) := by unfold knM; rw [if_pos hk]
  have hu2 : (knM l g0 g1 K name).getD (.agg #[.int .i64 0, .int .i64 0, .int .i64 0, .int .i64 0]) = .agg #[.int .i64 a0, .int .i64 b0, .int .i64 a1, .int .i64 b1] := by rw [hkn, hval]; rfl
  have hu3 : (knM l g0 g1 K name).isSome = true := by rw [hkn]; rfl
  have HV := Lib.hid hval
  have hlt := h.gp_lt
  have hlt2 := h.lt
  have hb0 : Below w.heap.size w (w.alloc (.cells #[.int .i64 0, .int .i64 0, .int .i64 0, .int .i64 0] 36)) := (Below.refl _ _).alloc (Nat.le_refl _) _
  have hmap := h.map.below hb0 (by omega)
  have y1 := (h.blk.below hb0 hlt).cell 1
  have hrun := hmap.look Try.underlying9 Try.underlying70 (zero_arr2f _) name hnm
  rw [hu2, hu3] at hrun
  have H := Lib.hid h
  clear hmap h hval hkn hk hp0 hp1 hb0
  go_enter Try.func29, Try.ntmps29
  go_upto_region 2 with fail
  generalize hwn : ((w.alloc (.cells #[.int .i64 (0), .int .i64 (0), .int .i64 (0), .int .i64 (0)] 36)).alloc (.cells #[.int .i64 (a0), .int .i64 (b0), .int .i64 (a1), .int .i64 (b1)] 36)) = w1
  have hbn : Below w.heap.size w w1 := by rw [← hwn]; repeat' (first | exact Below.refl _ _ | refine below_drewN ?_ _ | refine Below.drew ?_ | refine Below.alloc ?_ (by first | omega | (simp; done) | (simp; omega) | (simp [World.setCell]; omega)) _ | refine Below.setCell ?_ (by first | omega | (simp; done) | (simp; omega)) _)
  have K0_1 := Lib.hid (show Blk w1 (w.heap.size) 36 #[.int .i64 (0), .int .i64 (0), .int .i64 (0), .int .i64 (0)] by rw [← hwn]; repeat' (first | exact Blk.at_ _ (by first | rfl | (simp; done) | (simp; omega)) _ _ | refine Blk.drewN ?_ _ | refine Blk.drew ?_ | refine Blk.alloc ?_ _ | refine Blk.far ?_ (by first | omega | (simp; done) | (simp; omega)) _ | assumption))
  have K1_1 := Lib.hid (show Blk w1 (w.heap.size + 1) 36 #[.int .i64 (a0), .int .i64 (b0), .int .i64 (a1), .int .i64 (b1)] by rw [← hwn]; repeat' (first | exact Blk.at_ _ (by first | rfl | (simp; done) | (simp; omega)) _ _ | refine Blk.drewN ?_ _ | refine Blk.drew ?_ | refine Blk.alloc ?_ _ | refine Blk.far ?_ (by first | omega | (simp; done) | (simp; omega)) _ | assumption))
  have hbT := Two.of (a := gp) (b := gm) hbn
  have HW1 := Lib.hid (show Two gp gm w w1 from hbT)
  have hz1 := hbT.size
  have HN1 := Lib.hid hbn
  clear hwn hbn hbT
  have l0_1 : w.heap.size < w1.heap.size := K0_1.out.lt
  have z0_0_1 : w1.cell? ⟨w.heap.size, 0, none⟩ = some (.int .i64 (0)) := K0_1.out.cell 0
  have z0_1_1 : w1.cell? ⟨w.heap.size, 1, none⟩ = some (.int .i64 (0)) := K0_1.out.cell 1
  have z0_2_1 : w1.cell? ⟨w.heap.size, 2, none⟩ = some (.int .i64 (0)) := K0_1.out.cell 2
  have z0_3_1 : w1.cell? ⟨w.heap.size, 3, none⟩ = some (.int .i64 (0)) := K0_1.out.cell 3
  have l1_1 : w.heap.size + 1 < w1.heap.size := K1_1.out.lt
  have z1_0_1 : w1.cell? ⟨w.heap.size + 1, 0, none⟩ = some (.int .i64 (a0)) := K1_1.out.cell 0
  have z1_1_1 : w1.cell? ⟨w.heap.size + 1, 1, none⟩ = some (.int .i64 (b0)) := K1_1.out.cell 1
  have z1_2_1 : w1.cell? ⟨w.heap.size + 1, 2, none⟩ = some (.int .i64 (a1)) := K1_1.out.cell 2
  have z1_3_1 : w1.cell? ⟨w.heap.size + 1, 3, none⟩ = some (.int .i64 (b1)) := K1_1.out.cell 3
  have sc0 := (K0_1.out).cell 0
  have sf0 := (K0_1.out).frozen 0
  have sk0 : Blk (w1.setCell ⟨w.heap.size, 0, none⟩ (.int .i64 (a0))) (w.heap.size) 36 #[.int .i64 (a0), .int .i64 (0), .int .i64 (0), .int .i64 (0)] := by simpa using (K0_1.out).set_ 0 (.int .i64 (a0))
  have sc1 := (sk0).cell 1
  have sf1 := (sk0).frozen 1
  have sk1 : Blk ((w1.setCell ⟨w.heap.size, 0, none⟩ (.int .i64 (a0))).setCell ⟨w.heap.size, 1, none⟩ (.int .i64 (b0))) (w.heap.size) 36 #[.int .i64 (a0), .int .i64 (b0), .int .i64 (0), .int .i64 (0)] := by simpa using (sk0).set_ 1 (.int .i64 (b0))
  have sc2 := (sk1).cell 2
  have sf2 := (sk1).frozen 2
  have sk2 : Blk (((w1.setCell ⟨w.heap.size, 0, none⟩ (.int .i64 (a0))).setCell ⟨w.heap.size, 1, none⟩ (.int .i64 (b0))).setCell ⟨w.heap.size, 2, none⟩ (.int .i64 (a1))) (w.heap.size) 36 #[.int .i64 (a0), .int .i64 (b0), .int .i64 (a1), .int .i64 (0)] := by simpa using (sk1).set_ 2 (.int .i64 (a1))
  have sc3 := (sk2).cell 3
  have sf3 := (sk2).frozen 3
  have sk3 : Blk ((((w1.setCell ⟨w.heap.size, 0, none⟩ (.int .i64 (a0))).setCell ⟨w.heap.size, 1, none⟩ (.int .i64 (b0))).setCell ⟨w.heap.size, 2, none⟩ (.int .i64 (a1))).setCell ⟨w.heap.size, 3, none⟩ (.int .i64 (b1))) (w.heap.size) 36 #[.int .i64 (a0), .int .i64 (b0), .int .i64 (a1), .int .i64 (b1)] := by simpa using (sk2).set_ 3 (.int .i64 (b1))
  have sK := Lib.hid sk3
  have sd0 := sk3.cell 0
  have sd1 := sk3.cell 1
  have sd2 := sk3.cell 2
  have sd3 := sk3.cell 3
  clear sk0 sk1 sk2 sk3
  go_wp2_with fail
  rw [HV.out]
  exact bodyPost_ret (v := .agg #[.int .i64 a0, .int .i64 b0, .int .i64 a1, .int .i64 b1]) (by simp [results, Try.results29, go_sem, sd0, sd1, sd2, sd3]) rfl ⟨rfl, by repeat' (first | exact HN1.out | refine Below.setCell ?_ (by first | omega | (simp; done) | (simp; omega)) _)⟩
end Go.Proofs.Ytfigbdhfmlhjdaa

end

section
/- The place of a thing: steps that may fail; what is known while the sides are placed. -/
namespace Go.Proofs.Ytfigbdhfmlhjdaa
open Go Go.RowKit Go.Maps

/-- The answer of a sum, a difference, a product. -/
def resV (o : Option (Int × Int)) : Int × Int := o.getD (0, 0)
def resE (o : Option (Int × Int)) : Int := if o.isSome then 0 else 8
def Op2 (f : (Int × Int) → (Int × Int) → Option (Int × Int)) (F : FuncId) : Prop := ∀ (a b : Int × Int) (o : Option (Int × Int)), FOk a → FOk b → f a b = o → ∀ w : World,
  Calls Try.prog F #[.agg #[.int .i64 a.1, .int .i64 a.2], .agg #[.int .i64 b.1, .int .i64 b.2]] w fun e w' => e = .returned (.tuple #[.agg #[.int .i64 (resV o).1, .int .i64 (resV o).2], .int .i64 (resE o)]) ∧ Below w.heap.size w w'
theorem sub_opt : Op2 subF 55 := fun a b o ha hb ho w => by
  cases o with
  | none => exact (numSub_no a b ha hb ho w).mono fun e w' h => h
  | some p => exact (numSub_ok a b ha hb p ho w).mono fun e w' h => h
theorem add_opt : Op2 addF 18 := fun a b o ha hb ho w => by
  cases o with
  | none => exact (numAdd_no a b ha hb ho w).mono fun e w' h => h
  | some p => exact (numAdd_ok a b ha hb p ho w).mono fun e w' h => h
theorem mul_opt : Op2 mulF 19 := fun a b o ha hb ho w => by
  cases o with
  | none => exact (numMul_no a b ha hb ho w).mono fun e w' h => h
  | some p => exact (numMul_ok a b ha hb p ho w).mono fun e w' h => h

section
variable {l : List Rk} {g0 g1 : ByteArray → Int} {A : Option Addr} {n c tb mb : Nat} {top : Int} {n₀ gm gp : Nat}
theorem must_opt {K : ByteArray → Bool} {cnt : Nat} {lg : Bool} (o : Option (Int × Int)) (x y : Int) (ho : mustF o = (x, y)) (w : World) (h : PivAt l g0 g1 A n c tb mb top n₀ gm gp K cnt lg w) :
    Calls Try.prog 54 #[.pointer (some ⟨gp, 0, none⟩), .agg #[.int .i64 (resV o).1, .int .i64 (resV o).2], .int .i64 (resE o)] w fun e w' => e = .returned (.agg #[.int .i64 x, .int .i64 y]) ∧ Two gp gm w w' ∧ PivAt l g0 g1 A n c tb mb top n₀ gm gp K cnt (lg || !o.isSome) w' := by
  cases o with
  | none =>
    obtain ⟨rfl, rfl⟩ := Prod.mk.inj ho
    refine (mustc_no gp _ _ lg 0 0 8 (by decide) w h.blk).mono ?_
    rintro e w' ⟨he, hg, hk⟩
    have e1 : (lg || !(none : Option (Int × Int)).isSome) = true := by simp
    rw [e1]
    exact ⟨he, Two.of1 hg, h.raise hg hk⟩
  | some p =>
    obtain rfl : p = (x, y) := ho
    refine (mustc_ok gp x y w).mono ?_
    rintro e w' ⟨he, hb⟩
    have e1 : (lg || !(some (x, y)).isSome) = lg := by simp
    rw [e1]
    exact ⟨he, Two.of hb, h.below hb h.gp_lt⟩

/-- The flag is a ahead of operation q, b behind it. -/
def PivL (l : List Rk) (g0 g1 : ByteArray → Int) (A : Option Addr) (n c tb mb : Nat) (top : Int) (n₀ gm gp : Nat) (K : ByteArray → Bool) (cnt : Nat) (q : Nat) (a b : Bool) (f : Nat → Bool) (w : World) : Prop :=
  PivAt l g0 g1 A n c tb mb top n₀ gm gp K cnt (if f q then b else a) w
theorem PivL.same {K : ByteArray → Bool} {cnt q k : Nat} {a b : Bool} {f : Nat → Bool} {w : World} (h : PivL l g0 g1 A n c tb mb top n₀ gm gp K cnt q a b f w) (hk : k ≠ q) : PivL l g0 g1 A n c tb mb top n₀ gm gp K cnt q a b (Fx.add f k) w := by
  unfold PivL
  rw [add_ne' hk]
  exact h
theorem PivL.below {K : ByteArray → Bool} {cnt q : Nat} {a b : Bool} {f : Nat → Bool} {w w' : World} {B : Nat} (h : PivL l g0 g1 A n c tb mb top n₀ gm gp K cnt q a b f w) (hb : Below B w w') (hB : gp < B) : PivL l g0 g1 A n c tb mb top n₀ gm gp K cnt q a b f w' := PivAt.below h hb hB
theorem PivL.must {K : ByteArray → Bool} {cnt q : Nat} {lg : Bool} {f : Nat → Bool} {w : World} (o : Option (Int × Int)) (x y : Int) (ho : mustF o = (x, y)) (h : PivL l g0 g1 A n c tb mb top n₀ gm gp K cnt q lg (lg || !o.isSome) f w) (hf : f q = false) :
    Calls Try.prog 54 #[.pointer (some ⟨gp, 0, none⟩), .agg #[.int .i64 (resV o).1, .int .i64 (resV o).2], .int .i64 (resE o)] w fun e w' => e = .returned (.agg #[.int .i64 x, .int .i64 y]) ∧ Two gp gm w w' ∧ PivL l g0 g1 A n c tb mb top n₀ gm gp K cnt q lg (lg || !o.isSome) (Fx.add f q) w' := by
  have h1 : PivAt l g0 g1 A n c tb mb top n₀ gm gp K cnt lg w := by unfold PivL at h; rw [hf] at h; exact h
  refine (must_opt o x y ho w h1).mono ?_
  rintro e w' ⟨he, ht, hp⟩
  refine ⟨he, ht, ?_⟩
  unfold PivL
  rw [add_same]
  exact hp

/-- What place answers at a thing with m points below it. -/
def PlacePost (l : List Rk) (g0 g1 : ByteArray → Int) (A : Option Addr) (n c tb mb : Nat) (top : Int) (n₀ gm gp : Nat) (s : ByteArray) (m : Nat) (K : ByteArray → Bool) (cnt : Nat) (w : World) (e : Ending) (w' : World) : Prop :=
  e = .returned (valP l g0 g1 s) ∧ ∃ K' cnt' lg', Two gp gm w w' ∧ PivAt l g0 g1 A n c tb mb top n₀ gm gp K' cnt' lg' w' ∧ Good l g0 g1 K' lg' ∧ (∀ x, K x = true → K' x = true) ∧ K' s = true ∧ cnt' + 1 ≤ cnt + m
def PlaceOk (l : List Rk) (g0 g1 : ByteArray → Int) (A : Option Addr) (n c tb mb : Nat) (top : Int) (n₀ gm gp : Nat) (s : ByteArray) (m : Nat) (pts : List ByteArray) : Prop :=
  ∀ K cnt lg w, PivAt l g0 g1 A n c tb mb top n₀ gm gp K cnt lg w → Good l g0 g1 K lg → (∀ x ∈ pts, K x = true) → cnt + m ≤ 1000000000000000 →
    Calls Try.prog 29 #[.pointer (some ⟨gp, 0, none⟩), .string s] w (PlacePost l g0 g1 A n c tb mb top n₀ gm gp s m K cnt w)

/-- What is known while both sides are placed (operations 3 and 7). -/
def P5 (l : List Rk) (g0 g1 : ByteArray → Int) (A : Option Addr) (n c tb mb : Nat) (top : Int) (n₀ gm gp : Nat) (sl sr : ByteArray) (ml mr : Nat) (K : ByteArray → Bool) (cnt : Nat) (f : Nat → Bool) (w : World) : Prop :=
  ∃ K' cnt' lg', PivAt l g0 g1 A n c tb mb top n₀ gm gp K' cnt' lg' w ∧ Good l g0 g1 K' lg' ∧ (∀ x, K x = true → K' x = true) ∧ (f 3 = true → K' sl = true) ∧ (f 7 = true → K' sr = true) ∧
    (f 7 = true → cnt' + 2 ≤ cnt + (ml + mr)) ∧ (f 7 = false → f 3 = true → cnt' + 1 ≤ cnt + ml) ∧ (f 7 = false → f 3 = false → cnt' = cnt)
variable {sl sr : ByteArray} {ml mr : Nat} {K : ByteArray → Bool} {cnt : Nat} {f : Nat → Bool} {w w' : World}
theorem P5.same {k : Nat} (h : P5 l g0 g1 A n c tb mb top n₀ gm gp sl sr ml mr K cnt f w) (h3 : k ≠ 3) (h7 : k ≠ 7) : P5 l g0 g1 A n c tb mb top n₀ gm gp sl sr ml mr K cnt (Fx.add f k) w := by
  unfold P5
  rw [add_ne' h3, add_ne' h7]
  exact h
theorem P5.below {B : Nat} (h : P5 l g0 g1 A n c tb mb top n₀ gm gp sl sr ml mr K cnt f w) (hb : Below B w w') (hB : gp < B) : P5 l g0 g1 A n c tb mb top n₀ gm gp sl sr ml mr K cnt f w' := by
  obtain ⟨K', cnt', lg', h1, h2⟩ := h
  exact ⟨K', cnt', lg', h1.below hb hB, h2⟩
theorem P5.start {lg : Bool} (h : PivAt l g0 g1 A n c tb mb top n₀ gm gp K cnt lg w) (hg : Good l g0 g1 K lg) (h3 : f 3 = false) (h7 : f 7 = false) : P5 l g0 g1 A n c tb mb top n₀ gm gp sl sr ml mr K cnt f w :=
  ⟨K, cnt, lg, h, hg, fun _ h => h, fun e => absurd e (by rw [h3]; decide), fun e => absurd e (by rw [h7]; decide), fun e => absurd e (by rw [h7]; decide), fun _ e => absurd e (by rw [h3]; decide), fun _ _ => rfl⟩
theorem P5.left {pl : List ByteArray} (h : P5 l g0 g1 A n c tb mb top n₀ gm gp sl sr ml mr K cnt f w) (h3 : f 3 = false) (h7 : f 7 = false) (hL : PlaceOk l g0 g1 A n c tb mb top n₀ gm gp sl ml pl) (hp : ∀ x ∈ pl, K x = true) (hc : cnt + (ml + mr) ≤ 1000000000000000) :
    Calls Try.prog 29 #[.pointer (some ⟨gp, 0, none⟩), .string sl] w fun e w' => e = .returned (valP l g0 g1 sl) ∧ Two gp gm w w' ∧ P5 l g0 g1 A n c tb mb top n₀ gm gp sl sr ml mr K cnt (Fx.add f 3) w' := by
  obtain ⟨K', cnt', lg', k1, k2, k3, -, -, -, -, k8⟩ := h
  have hcc := k8 h7 h3
  refine (hL K' cnt' lg' w k1 k2 (fun x hx => k3 x (hp x hx)) (by omega)).mono ?_
  rintro e w' ⟨he, K2, cnt2, lg2, t1, t2, t3, t4, t5, t6⟩
  have e7 : Fx.add f 3 7 = false := by rw [add_ne' (by decide)]; exact h7
  exact ⟨he, t1, K2, cnt2, lg2, t2, t3, fun x hx => t4 x (k3 x hx), fun _ => t5, fun e => absurd e (by rw [e7]; decide), fun e => absurd e (by rw [e7]; decide), fun _ _ => by omega, fun _ e => absurd e (by rw [add_same]; decide)⟩
theorem P5.right {pr : List ByteArray} (h : P5 l g0 g1 A n c tb mb top n₀ gm gp sl sr ml mr K cnt f w) (h3 : f 3 = true) (h7 : f 7 = false) (hR : PlaceOk l g0 g1 A n c tb mb top n₀ gm gp sr mr pr) (hp : ∀ x ∈ pr, K x = true) (hc : cnt + (ml + mr) ≤ 1000000000000000) :
    Calls Try.prog 29 #[.pointer (some ⟨gp, 0, none⟩), .string sr] w fun e w' => e = .returned (valP l g0 g1 sr) ∧ Two gp gm w w' ∧ P5 l g0 g1 A n c tb mb top n₀ gm gp sl sr ml mr K cnt (Fx.add f 7) w' := by
  obtain ⟨K', cnt', lg', k1, k2, k3, k4, -, -, k7, -⟩ := h
  have hcc := k7 h7 h3
  refine (hR K' cnt' lg' w k1 k2 (fun x hx => k3 x (hp x hx)) (by omega)).mono ?_
  rintro e w' ⟨he, K2, cnt2, lg2, t1, t2, t3, t4, t5, t6⟩
  exact ⟨he, t1, K2, cnt2, lg2, t2, t3, fun x hx => t4 x (k3 x hx), fun _ => t4 _ (k4 h3), fun _ => t5, fun _ => by omega, fun e => absurd e (by rw [add_same]; decide), fun e => absurd e (by rw [add_same]; decide)⟩
theorem P5.end_ (h : P5 l g0 g1 A n c tb mb top n₀ gm gp sl sr ml mr K cnt f w) (h3 : f 3 = true) (h7 : f 7 = true) :
    ∃ K' cnt' lg', PivAt l g0 g1 A n c tb mb top n₀ gm gp K' cnt' lg' w ∧ Good l g0 g1 K' lg' ∧ (∀ x, K x = true → K' x = true) ∧ K' sl = true ∧ K' sr = true ∧ cnt' + 2 ≤ cnt + (ml + mr) := by
  obtain ⟨K', cnt', lg', k1, k2, k3, k4, k5, k6, -, -⟩ := h
  exact ⟨K', cnt', lg', k1, k2, k3, k4 h3, k5 h7, k6 h7⟩
end

theorem Two.set {a b : Nat} {w w' : World} (h : Two a b w w') {p : Addr} (hp : w.heap.size ≤ p.block) (u : Value) : Two a b w (w'.setCell p u) :=
  have hb : Below w.heap.size w' (w'.setCell p u) := (Below.refl _ _).setCell hp u
  ⟨hb.os.trans h.os, hb.tape.trans h.tape, hb.output.trans h.output, Nat.le_trans h.size hb.size, fun k hk ha hb' => (hb.block k hk).trans (h.block k hk ha hb')⟩
theorem PivAt.put {l : List Rk} {g0 g1 : ByteArray → Int} {A : Option Addr} {n c tb mb : Nat} {top : Int} {n₀ gm gp : Nat} {K : ByteArray → Bool} {cnt : Nat} {lg : Bool} {w : World} (h : PivAt l g0 g1 A n c tb mb top n₀ gm gp K cnt lg w) (name : ByteArray) (hnm : name.size ≤ maxLen) (hc : cnt < maxLen) :
    ∃ w', (Instr.mapUpdate 70 (.map (some gm)) (.string name) (valP l g0 g1 name)).run Try.prog w = .ok () w' ∧ PivAt l g0 g1 A n c tb mb top n₀ gm gp (fun u => u = name || K u) (cnt + 1) lg w' ∧ w.grownBy w' (some gm) := by
  obtain ⟨w', hrun, hm, hg⟩ := h.map.put Try.underlying9 Try.underlying70 name hnm hc (valP l g0 g1 name)
  have hlo := h.lo
  have hlt := h.lt
  have hgl := h.gp_lt
  refine ⟨w', hrun, ⟨h.tree.below ⟨hg.os, hg.tape, hg.output, hg.size, fun k hk => hg.block k (by omega) (fun e => by have := Option.some.inj e; omega)⟩, h.lo, h.lt, h.blk.grown hg (fun e => by have := Option.some.inj e; omega), ?_⟩, hg⟩
  have e : (fun u => if u = name then some (valP l g0 g1 name) else knM l g0 g1 K u) = knM l g0 g1 (fun u => u = name || K u) := by
    funext u
    unfold knM
    by_cases hu : u = name
    · subst hu; simp
    · rw [if_neg hu]; simp [hu]
  rw [← e]
  exact hm
/-- One more known thing. -/
theorem good_more {l : List Rk} {g0 g1 : ByteArray → Int} (h0 : openErr l = 0) {K : ByteArray → Bool} {lg : Bool} {s : ByteArray} {i : Nat} {r : Rk} (hi : idxOf l s = some i) (hr : l[i]? = some r) (hG : Good l g0 g1 K lg) (hl : K r.left = true) (hrt : K r.right = true) :
    Good l g0 g1 (fun u => u = s || K u) ((lg || !stepOK (plV l g0 r.left) (plV l g0 r.right) r.al r.ar) || !stepOK (plV l g1 r.left) (plV l g1 r.right) r.al r.ar) := by
  have e0 := (plV_step h0 g0 hi hr).2
  have e1 := (plV_step h0 g1 hi hr).2
  have hf : fl2 l g0 g1 s = (fl2 l g0 g1 r.left || fl2 l g0 g1 r.right || !stepOK (plV l g0 r.left) (plV l g0 r.right) r.al r.ar || !stepOK (plV l g1 r.left) (plV l g1 r.right) r.al r.ar) := by
    unfold fl2
    rw [e0, e1]
    cases flV l g0 r.left <;> cases flV l g0 r.right <;> cases flV l g1 r.left <;> cases flV l g1 r.right <;> cases stepOK (plV l g0 r.left) (plV l g0 r.right) r.al r.ar <;> cases stepOK (plV l g1 r.left) (plV l g1 r.right) r.al r.ar <;> rfl
  unfold Good at hG ⊢
  constructor
  · intro h
    simp only [Bool.or_eq_true, or_assoc] at h
    rcases h with h | h | h
    · obtain ⟨x, hx, hfx⟩ := hG.1 h
      exact ⟨x, by simp [hx], hfx⟩
    · exact ⟨s, by simp, by rw [hf]; simp only [Bool.or_eq_true]; exact .inl (.inr h)⟩
    · exact ⟨s, by simp, by rw [hf]; simp only [Bool.or_eq_true]; exact .inr h⟩
  · rintro ⟨x, hx, hfx⟩
    simp only [Bool.or_eq_true, decide_eq_true_eq] at hx
    rcases hx with rfl | hx
    · rw [hf] at hfx
      simp only [Bool.or_eq_true] at hfx ⊢
      rcases hfx with ((h | h) | h) | h
      · exact .inl (.inl (hG.2 ⟨_, hl, h⟩))
      · exact .inl (.inl (hG.2 ⟨_, hrt, h⟩))
      · exact .inl (.inr h)
      · exact .inr h
    · simp only [Bool.or_eq_true]
      exact .inl (.inl (hG.2 ⟨x, hx, hfx⟩))
end Go.Proofs.Ytfigbdhfmlhjdaa

end
