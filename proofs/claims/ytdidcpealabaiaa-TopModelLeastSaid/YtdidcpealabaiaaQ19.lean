import Derived.Test.YtdidcpealabaiaaQ17
import Derived.Test.YtdidcpealabaiaaQ18
import Derived.Test.YtdidcpealabaiaaQ14
import Derived.Test.YtdidcpealabaiaaQ16
import Derived.Test.YtdidcpealabaiaaQ9

section
/- Copies of stars and of a model, each in memory of its own. -/
namespace Go.Proofs.Ytdidcpealabaiaa
open Go Go.RowKit

def Star.own (B : Nat) (w : World) (r : Star) : Prop := w.ownsRow B 3 1 (.slice r.A r.n r.c) r.n (r.xs.map (.int .i64))
/-- Stars in memory of their own. -/
structure StarsOwn (B : Nat) (S : List Star) (u : Value) (k : Nat) (w : World) : Prop where
  row : w.ownsRow B 112 2 u k (starCells S)
  each : ∀ r ∈ S, r.own B w
theorem StarsOwn.nil (B : Nat) (w : World) : StarsOwn B [] (.slice none 0 0) 0 w := ⟨World.ownsRow_nil _ _ _ _, fun _ h => absurd h (by simp)⟩
theorem StarsOwn.below {B : Nat} {S : List Star} {u : Value} {k : Nat} {w w' : World} (h : StarsOwn B S u k w) (hb : Below w.heap.size w w') : StarsOwn B S u k w' :=
  ⟨own_below h.row hb (Nat.le_refl _), fun r hr => own_below (h.each r hr) hb (Nat.le_refl _)⟩
theorem StarsOwn.at_ {B : Nat} {S : List Star} {A : Option Addr} {k c : Nat} {w : World} (h : StarsOwn B S (.slice A k c) k w) : StarsAt S A k w :=
  ⟨own_reads2 h.row, fun r hr => ⟨own_cap (h.each r hr), own_reads2 (h.each r hr)⟩⟩
theorem starCells_snoc (S : List Star) (s : Star) : starCells (S ++ [s]) = starCells S ++ s.cells := by unfold starCells; simp

structure SrD (B k : Nat) (u : Value) (S : List Star) (xs : List Int) (er : Int) (sn : Nat) (W : World) (g : Nat → Option Pick2) (f : Nat → Bool) (w' : World) : Prop where
  bel : Below B W w'
  pre : f 14 = false → Below W.heap.size W w'
  c6 : f 14 = false → ∀ x, g 6 = some x → w'.ownsRow B 3 1 (.slice x.1.1 sn x.1.2) sn (xs.map (.int .i64))
  c13 : f 14 = false → ∀ x y, g 6 = some x → g 13 = some y → ∃ q, y.1.1 = some ⟨q, 0, none⟩ ∧ Blk w' q 112 #[.slice x.1.1 sn x.1.2, .int .i64 er]
  post : ∀ x z, g 6 = some x → g 14 = some z → StarsOwn B (S ++ [⟨x.1.1, sn, x.1.2, xs, er⟩]) (.slice z.1.1 (k + 1) z.1.2) (k + 1) w'
section
variable {B k sn i : Nat} {u : Value} {S : List Star} {xs : List Int} {er : Int} {W w' w'' : World} {g : Nat → Option Pick2} {f : Nat → Bool}
theorem SrD.start : SrD B k u S xs er sn W (fun _ => none) f (W.drewN 1) := ⟨below_drewN (Below.refl _ _) 1, fun _ => below_drewN (Below.refl _ _) 1, fun _ _ h => (nomatch h), fun _ _ _ h => (nomatch h), fun _ _ h => (nomatch h)⟩
theorem SrD.same (h : SrD B k u S xs er sn W g f w') (hi : i ≠ 14) : SrD B k u S xs er sn W g (Fx.add f i) w' :=
  ⟨h.bel, fun hf => h.pre (by rwa [add_ne' hi] at hf), fun hf => h.c6 (by rwa [add_ne' hi] at hf), fun hf => h.c13 (by rwa [add_ne' hi] at hf), h.post⟩
theorem SrD.copy (h : SrD B k u S xs er sn W g f w') (hB : B ≤ W.heap.size) (h14 : f 14 = false) (g13 : g 13 = none) (g14 : g 14 = none) (hb : Below w'.heap.size w' w'') (x : Pick2) (ho : w''.ownsRow w'.heap.size 3 1 (.slice x.1.1 sn x.1.2) sn (xs.map (.int .i64))) :
    SrD B k u S xs er sn W (Fx.upd g 6 x) (Fx.add f 6) w'' := by
  have hz := (h.pre h14).size
  refine ⟨h.bel.trans (hb.mono (by omega)), fun _ => step_below hb (h.pre h14), fun _ y hy => ?_, fun _ y z hy hz => ?_, fun y z hy hz => ?_⟩
  · rw [Fx.upd_same] at hy
    cases hy
    exact own_mono ho (by omega)
  · rw [upd_ne (by decide), g13] at hz
    cases hz
  · rw [upd_ne (by decide), g14] at hz
    cases hz
theorem SrD.lit (h : SrD B k u S xs er sn W g f w') (hB : B ≤ W.heap.size) (h14 : f 14 = false) (g14 : g 14 = none) {x : Pick2} (hx : g 6 = some x) :
    SrD B k u S xs er sn W (Fx.upd g 13 ((some ⟨w'.heap.size, 0, none⟩, 1), (none, 0))) (Fx.add f 13) (w'.alloc (.cells #[.slice x.1.1 sn x.1.2, .int .i64 er] 112)) := by
  have hb : Below w'.heap.size w' (w'.alloc (.cells #[.slice x.1.1 sn x.1.2, .int .i64 er] 112)) := (Below.refl _ _).alloc (Nat.le_refl _) _
  have hz := (h.pre h14).size
  refine ⟨h.bel.trans (hb.mono (by omega)), fun _ => step_below hb (h.pre h14), fun _ y hy => ?_, fun _ y z hy hz => ?_, fun y z hy hz => ?_⟩
  · rw [upd_ne (by decide)] at hy
    exact own_below (h.c6 h14 y hy) hb (Nat.le_refl _)
  · rw [upd_ne (by decide), hx] at hy
    cases hy
    rw [Fx.upd_same] at hz
    cases hz
    exact ⟨_, rfl, Blk.new _ _ _⟩
  · rw [upd_ne (by decide), g14] at hz
    cases hz
theorem info_star : (Try.prog.info? 112).map (fun i => (i.zero, i.size, i.bytes)) = some (some (.agg #[.slice none 0 0, .int .i64 0]), 2, 32) := by kernel_rfl
theorem SrD.app (h : SrD B k u S xs er sn W g f w') (hB : B ≤ W.heap.size) (hS : StarsOwn B S u k W) (hk : k ≤ 100000) (h14 : f 14 = false) {x y : Pick2} (hx : g 6 = some x) (hy : g 13 = some y) :
    ∃ (z : Pick2) (w'' : World), (Builtin.append_ #[38, 38] 38 #[u, .slice y.1.1 1 1]).run Try.prog w' = .ok (.slice z.1.1 (k + 1) z.1.2) w'' ∧ SrD B k u S xs er sn W (Fx.upd g 14 z) (Fx.add f 14) w'' := by
  obtain ⟨i0, hi0, hz0, hz1, hz2⟩ := info_parts info_star
  obtain ⟨q, hq, hblk⟩ := h.c13 h14 x y hx hy
  have hz := (h.pre h14).size
  have ho := (hS.below (h.pre h14))
  have hr : Reads w' w'.heap.size 2 (some ⟨q, 0, none⟩) 1 [.slice x.1.1 sn x.1.2, .int .i64 er] := Blk.reads hblk rfl
  rw [hq]
  obtain ⟨v', W2, hrun, o2', hg2, -⟩ := run_append_any (P := Try.prog) w' B 38 38 112 i0 _ 2 32 Try.underlying38 hi0 hz0 hz1 hz2 rfl (by omega) u k (starCells S) ho.row w'.heap.size (some ⟨q, 0, none⟩) 1 1 [.slice x.1.1 sn x.1.2, .int .i64 er] hr (by simp [Value.oneCell']) (by unfold maxLen; omega) (by omega) (by omega)
  obtain ⟨A2, c2, rfl, -⟩ := own_reads o2'
  refine ⟨((A2, c2), (none, 0)), W2, hrun, h.bel.grown hg2 (by omega) (fun q hq => (own_lt ho.row hq).1), fun hf => ?_, fun hf => ?_, fun hf => ?_, fun x' z hx' hz => ?_⟩
  · rw [add_same] at hf; cases hf
  · rw [add_same] at hf; cases hf
  · rw [add_same] at hf; cases hf
  · rw [upd_ne (by decide), hx] at hx'
    cases hx'
    rw [Fx.upd_same] at hz
    cases hz
    refine ⟨by rw [starCells_snoc]; exact o2', fun r hr => ?_⟩
    rcases List.mem_append.1 hr with hr | hr
    · exact own_apart (ho.each r hr) ho.row (by decide) hg2
    · obtain rfl : r = _ := by simpa using hr
      exact own_apart (h.c6 h14 x hx) ho.row (by decide) hg2
end

/-- The stars of a copy. -/
def StarsPost (l : List Star) (n : Nat) (w : World) (e : Ending) (w' : World) : Prop :=
  ∃ A c S, e = .returned (.slice A n c) ∧ Below w.heap.size w w' ∧ S.map (fun s => (s.xs, s.er)) = l.map (fun s => (s.xs, s.er)) ∧ StarsOwn w.heap.size S (.slice A n c) n w'

end Go.Proofs.Ytdidcpealabaiaa

end

section
/- Stores into stars in memory of their own. -/
namespace Go.Proofs.Ytdidcpealabaiaa
open Go Go.RowKit

theorem own_store {w : World} {base : Nat} {e : TypeId} {size n : Nat} {v : Value} {xs : List Value} (h : w.ownsRow base e size v n xs) (hn : 0 < n) (q : Nat) (u : Value) :
    ∃ g cap, v = .slice (some ⟨g, 0, none⟩) n cap ∧ base ≤ g ∧ g < w.heap.size ∧ w.frozen? ⟨g, q, none⟩ = false ∧ (w.setCell ⟨g, q, none⟩ u).ownsRow base e size v n (xs.set q u) := by
  obtain ⟨h1, h2⟩ := h
  rcases h2 with ⟨-, h0⟩ | ⟨g, cap, cur, hv, hg, hh, hc, hm, hs, ht⟩
  · omega
  have hb : Blk w g e cur := hh
  refine ⟨g, cap, hv, hg, hb.lt, hb.frozen q, by rw [List.length_set]; exact h1, .inr ⟨g, cap, cur.setIfInBounds q u, hv, hg, (hb.set_ q u), hc, hm, by simpa using hs, ?_⟩⟩
  rw [Array.toList_setIfInBounds, List.take_set, ht]
theorem own_other {w : World} {base base' : Nat} {e e' : TypeId} {size size' n n' g cap : Nat} {v : Value} {xs xs' : List Value} (h : w.ownsRow base e size v n xs) (h' : w.ownsRow base' e' size' (.slice (some ⟨g, 0, none⟩) n' cap) n' xs') (hne : e ≠ e') : v.ownBlock ≠ some g := by
  intro e1
  rcases h.2 with ⟨rfl, _⟩ | ⟨g1, cap, cur, rfl, hb, hh, _⟩
  · cases e1
  rcases h'.2 with ⟨h0, _⟩ | ⟨g2, cap', cur', h0, hb', hh', _⟩
  · cases h0
  have e2 : g1 = g := by simpa [Value.ownBlock] using e1
  cases h0
  subst e2
  rw [hh] at hh'
  injection hh' with h3
  injection h3 with _ h4
  exact hne h4
theorem starCells_set (z : Int) : ∀ (S : List Star) (i : Nat) (s : Star), S[i]? = some s → starCells (S.set i { s with er := z }) = (starCells S).set (i * 2 + 1) (.int .i64 z)
  | [], _, _, h => by simp at h
  | t :: S, 0, s, h => by
    obtain rfl : t = s := by simpa using h
    rfl
  | t :: S, i + 1, s, h => by
    have ih := starCells_set z S i s (by simpa using h)
    show t.cells ++ starCells (S.set i _) = (t.cells ++ starCells S).set _ _
    rw [ih, List.set_append_right _ _ (by show 2 ≤ _; omega)]
    congr 2
    show _ = (i + 1) * 2 + 1 - 2
    omega
/-- A store of an error. -/
theorem StarsOwn.store {B n i : Nat} {S : List Star} {v : Value} {w : World} {s : Star} (h : StarsOwn B S v n w) (hs : S[i]? = some s) (hn : 0 < n) (z : Int) :
    ∃ g cap, v = .slice (some ⟨g, 0, none⟩) n cap ∧ B ≤ g ∧ g < w.heap.size ∧ w.frozen? ⟨g, i * 2 + 1, none⟩ = false ∧ StarsOwn B (S.set i { s with er := z }) v n (w.setCell ⟨g, i * 2 + 1, none⟩ (.int .i64 z)) := by
  obtain ⟨g, cap, rfl, h1, h2, h3, h4⟩ := own_store h.row hn (i * 2 + 1) (.int .i64 z)
  refine ⟨g, cap, rfl, h1, h2, h3, by rw [starCells_set z S i s hs]; exact h4, fun r hr => ?_⟩
  have key : ∀ t ∈ S, t.own B (w.setCell ⟨g, i * 2 + 1, none⟩ (.int .i64 z)) := fun t ht => own_set (h.each t ht) (own_other (h.each t ht) h.row (by decide)) _
  rcases List.mem_or_eq_of_mem_set hr with hr | rfl
  · exact key r hr
  · exact key s (List.mem_of_getElem? hs)
/-- A store into another block of stars. -/
theorem StarsOwn.far {B n g q : Nat} {S : List Star} {A : Option Addr} {c : Nat} {w : World} (h : StarsOwn B S (.slice A n c) n w) (hA : ∀ b o, A = some ⟨b, o, none⟩ → b ≠ g) (ht : ∀ t ∈ S, (Value.slice t.A t.n t.c).ownBlock ≠ some g) (u : Value) : StarsOwn B S (.slice A n c) n (w.setCell ⟨g, q, none⟩ u) := by
  refine ⟨own_set h.row (fun e => ?_) _, fun t h' => own_set (h.each t h') (ht t h') _⟩
  rcases h.row.2 with ⟨h0, _⟩ | ⟨g1, cap, cur, h0, _⟩
  · cases h0; cases e
  · cases h0
    have : g1 = g := by simpa [Value.ownBlock] using e
    exact hA g1 0 rfl this
theorem stars_lay {l : List Star} {A : Option Addr} {n : Nat} {W W1 : World} (hb : Below W.heap.size W W1) {wa : World} (ha : Below wa.heap.size wa W) (h : StarsAt l A n wa) : StarsAt l A n W1 := (h.lay ha).lay hb
end Go.Proofs.Ytdidcpealabaiaa

end

section
/- The copy of a model, of the statements. -/
namespace Go.Proofs.Ytdidcpealabaiaa
open Go Go.RowKit

/-- The region that copies the terms of a model and stores the copy into the block of the result. -/
structure MdD (B n : Nat) (xs : List Value) (D : Int) (W : World) (g : Nat → Option Pick2) (f : Nat → Bool) (w' : World) : Prop where
  bel : Below B W w'
  own : ∀ x, g 2 = some x → w'.ownsRow W.heap.size 3 1 (.slice x.1.1 n x.1.2) n xs
  blk0 : f 6 = false → Blk w' B 45 #[.slice none 0 0, .int .i64 0]
  blk1 : f 6 = true → ∀ x, g 2 = some x → Blk w' B 45 #[.slice x.1.1 n x.1.2, .int .i64 D]
section
variable {B n i : Nat} {xs : List Value} {D : Int} {W w' w'' : World} {g : Nat → Option Pick2} {f : Nat → Bool}
theorem MdD.start (hB : Blk W B 45 #[.slice none 0 0, .int .i64 0]) (h6 : f 6 = false) : MdD B n xs D W (fun _ => none) f (W.drewN 1) :=
  ⟨below_drewN (Below.refl _ _) 1, fun _ h => (nomatch h), fun _ => Blk.drewN hB 1, fun e => (by rw [h6] at e; cases e)⟩
theorem MdD.same (h : MdD B n xs D W g f w') (hi : i ≠ 6) : MdD B n xs D W g (Fx.add f i) w' :=
  ⟨h.bel, h.own, fun hf => h.blk0 (by rwa [add_ne' hi] at hf), fun hf => h.blk1 (by rwa [add_ne' hi] at hf)⟩
theorem MdD.copy (h : MdD B n xs D W g f w') (hB : B < W.heap.size) (h6 : f 6 = false) (hb : Below w'.heap.size w' w'') (x : Pick2) (ho : w''.ownsRow w'.heap.size 3 1 (.slice x.1.1 n x.1.2) n xs) : MdD B n xs D W (Fx.upd g 2 x) (Fx.add f 2) w'' := by
  have hz := h.bel.size
  refine ⟨h.bel.trans (hb.mono (by omega)), fun y hy => ?_, fun _ => Blk.below (h.blk0 h6) hb (by omega), fun e => ?_⟩
  · rw [Fx.upd_same] at hy
    cases hy
    exact own_mono ho hz
  · rw [add_ne' (by decide), h6] at e; cases e
theorem MdD.store (h : MdD B n xs D W g f w') (hB : B < W.heap.size) (h6 : f 6 = false) {x : Pick2} (hx : g 2 = some x) :
    MdD B n xs D W g (Fx.add f 6) ((w'.setCell ⟨B, 0, none⟩ (.slice x.1.1 n x.1.2)).setCell ⟨B, 1, none⟩ (.int .i64 D)) := by
  refine ⟨(h.bel.setCell (p := ⟨B, 0, none⟩) (Nat.le_refl _) _).setCell (p := ⟨B, 1, none⟩) (Nat.le_refl _) _, fun y hy => ?_, fun e => ?_, fun _ y hy => ?_⟩
  · have ho := h.own y hy
    have hne : (Value.slice y.1.1 n y.1.2).ownBlock ≠ some B := fun e => by have := (own_lt ho e).1; omega
    exact own_set (own_set ho hne _) hne _
  · rw [add_same] at e; cases e
  · rw [hx] at hy
    cases hy
    have := ((h.blk0 h6).set_ 0 (.slice x.1.1 n x.1.2)).set_ 1 (.int .i64 D)
    simpa only [List.setIfInBounds_toArray, List.set_cons_zero, List.set_cons_succ] using this
end

end Go.Proofs.Ytdidcpealabaiaa

end

section
/- The plain law of exact errors: Gram determinants, Cramer's rule, doubling. -/
namespace Go.Proofs.Ytdidcpealabaiaa
open Go Go.RowKit

/-- Sums over all stars. -/
def nrm (l : List Star) (i k : Nat) : Int := (l.map fun s => shp s i * shp s k).sum
def rgt (l : List Star) (i : Nat) : Int := (l.map fun s => shp s i * s.er).sum
theorem nrmTo_all (l : List Star) (i k : Nat) : nrmTo l l.length i k = nrm l i k := by unfold nrmTo nrm; rw [List.take_length]
theorem rgtTo_all (l : List Star) (i : Nat) : rgtTo l l.length i = rgt l i := by unfold rgtTo rgt; rw [List.take_length]
theorem nrm_sym (l : List Star) (i k : Nat) : nrm l i k = nrm l k i := by
  unfold nrm
  congr 1
  exact List.map_congr_left fun s _ => Int.mul_comm _ _
theorem nrm_cons (s : Star) (l : List Star) (i k : Nat) : nrm (s :: l) i k = shp s i * shp s k + nrm l i k := rfl
theorem rgt_cons (s : Star) (l : List Star) (i : Nat) : rgt (s :: l) i = shp s i * s.er + rgt l i := rfl
/-- The squares of the sums of shapes. -/
def quad (l : List Star) (u v w : Int) : Int := (l.map fun s => (u * shp s 0 + v * shp s 1 + w * shp s 2) * (u * shp s 0 + v * shp s 1 + w * shp s 2)).sum
theorem quad_cons (s : Star) (l : List Star) (u v w : Int) : quad (s :: l) u v w = (u * shp s 0 + v * shp s 1 + w * shp s 2) * (u * shp s 0 + v * shp s 1 + w * shp s 2) + quad l u v w := rfl
theorem sq_nonneg (x : Int) : 0 ≤ x * x := by
  have : x * x = ((x.natAbs * x.natAbs : Nat) : Int) := (Int.natAbs_mul_self).symm
  omega
theorem quad_eq (u v w : Int) : ∀ (l : List Star), quad l u v w = u * u * nrm l 0 0 + v * v * nrm l 1 1 + w * w * nrm l 2 2 + 2 * (u * v * nrm l 0 1) + 2 * (u * w * nrm l 0 2) + 2 * (v * w * nrm l 1 2)
  | [] => by simp [quad, nrm]
  | s :: l => by
    rw [quad_cons, quad_eq u v w l]
    simp only [nrm_cons]
    grind
theorem quad_nonneg (u v w : Int) : ∀ (l : List Star), 0 ≤ quad l u v w
  | [] => by simp [quad]
  | s :: l => by
    have h1 := quad_nonneg u v w l
    have h2 := sq_nonneg (u * shp s 0 + v * shp s 1 + w * shp s 2)
    rw [quad_cons]
    omega
theorem quad_zero (u v w : Int) : ∀ (l : List Star), quad l u v w = 0 → ∀ s ∈ l, u * shp s 0 + v * shp s 1 + w * shp s 2 = 0
  | [], _ => by simp
  | s :: l, h => by
    have h1 := quad_nonneg u v w l
    have h2 := sq_nonneg (u * shp s 0 + v * shp s 1 + w * shp s 2)
    rw [quad_cons] at h
    intro x hx
    rcases List.mem_cons.1 hx with rfl | hx
    · have : (u * shp x 0 + v * shp x 1 + w * shp x 2) * (u * shp x 0 + v * shp x 1 + w * shp x 2) = 0 := by omega
      rcases Int.mul_eq_zero.1 this with h | h <;> exact h
    · exact quad_zero u v w l (by omega) x hx
theorem kern (u v w : Int) (i : Nat) : ∀ (l : List Star), (∀ s ∈ l, u * shp s 0 + v * shp s 1 + w * shp s 2 = 0) → u * nrm l i 0 + v * nrm l i 1 + w * nrm l i 2 = 0
  | [], _ => by simp [nrm]
  | s :: l, h => by
    have ih := kern u v w i l fun x hx => h x (List.mem_cons_of_mem _ hx)
    have h0 := h s (by simp)
    simp only [nrm_cons]
    have : u * (shp s i * shp s 0 + nrm l i 0) + v * (shp s i * shp s 1 + nrm l i 1) + w * (shp s i * shp s 2 + nrm l i 2)
        = shp s i * (u * shp s 0 + v * shp s 1 + w * shp s 2) + (u * nrm l i 0 + v * nrm l i 1 + w * nrm l i 2) := by grind
    rw [this, ih, h0]
    simp

theorem gram1 (l : List Star) : 0 ≤ nrm l 0 0 := by
  have h := quad_nonneg 1 0 0 l
  rw [quad_eq] at h
  simp at h
  exact h
theorem gram1_zero (l : List Star) (h : nrm l 0 0 = 0) (i : Nat) : nrm l i 0 = 0 := by
  have h1 := quad_zero 1 0 0 l (by rw [quad_eq, h]; simp)
  have h2 := kern 1 0 0 i l h1
  simpa using h2
def gr2 (l : List Star) : Int := nrm l 0 0 * nrm l 1 1 - nrm l 1 0 * nrm l 0 1
theorem nonneg_of_mul {a b : Int} (ha : 0 < a) (h : 0 ≤ a * b) : 0 ≤ b := by
  rcases Int.lt_or_le b 0 with hb | hb
  · have := Int.mul_neg_of_pos_of_neg ha hb
    omega
  · exact hb
theorem ring2 (a b c d e f : Int) : -b * -b * a + a * a * d + 0 * 0 * f + 2 * (-b * a * b) + 2 * (-b * 0 * c) + 2 * (a * 0 * e) = a * (a * d - b * b) := by grind
theorem ring3 (a b c d e f : Int) : (b * e - c * d) * (b * e - c * d) * a + (b * c - a * e) * (b * c - a * e) * d + (a * d - b * b) * (a * d - b * b) * f
    + 2 * ((b * e - c * d) * (b * c - a * e) * b) + 2 * ((b * e - c * d) * (a * d - b * b) * c) + 2 * ((b * c - a * e) * (a * d - b * b) * e)
    = (a * d - b * b) * det3E a b c b d e c e f := by unfold det3E; grind
theorem ring3z (a b c d e f : Int) : a * det3E a b c b d e c e f = (a * d - b * b) * (a * f - c * c) - (-b * c + a * e + 0 * f) * (-b * c + a * e + 0 * f) := by unfold det3E; grind
theorem gram2 (l : List Star) : 0 ≤ gr2 l := by
  have h1 := gram1 l
  rcases Int.lt_or_le 0 (nrm l 0 0) with hp | hp
  · have h := quad_nonneg (-nrm l 0 1) (nrm l 0 0) 0 l
    rw [quad_eq, ring2] at h
    unfold gr2
    rw [nrm_sym l 1 0]
    exact nonneg_of_mul hp h
  · have h0 : nrm l 0 0 = 0 := by omega
    have hs := gram1_zero l h0 1
    unfold gr2
    rw [h0, hs]
    simp
theorem gram3 (l : List Star) : 0 ≤ det3E (nrm l 0 0) (nrm l 0 1) (nrm l 0 2) (nrm l 1 0) (nrm l 1 1) (nrm l 1 2) (nrm l 2 0) (nrm l 2 1) (nrm l 2 2) := by
  have h2 := gram2 l
  have e1 := gram1_zero l
  unfold gr2 at h2
  rcases Int.lt_or_le 0 (nrm l 0 0 * nrm l 1 1 - nrm l 1 0 * nrm l 0 1) with hp | hp
  · have h := quad_nonneg (nrm l 0 1 * nrm l 1 2 - nrm l 0 2 * nrm l 1 1) (nrm l 0 1 * nrm l 0 2 - nrm l 0 0 * nrm l 1 2) (nrm l 0 0 * nrm l 1 1 - nrm l 0 1 * nrm l 0 1) l
    rw [quad_eq, ring3] at h
    rw [nrm_sym l 1 0, nrm_sym l 2 0, nrm_sym l 2 1]
    rw [nrm_sym l 1 0] at hp
    exact nonneg_of_mul hp h
  · have h0 : nrm l 0 0 * nrm l 1 1 - nrm l 1 0 * nrm l 0 1 = 0 := by omega
    rw [nrm_sym l 1 0] at h0
    have q : quad l (-nrm l 0 1) (nrm l 0 0) 0 = 0 := by rw [quad_eq, ring2, h0]; simp
    have k2 := kern _ _ _ 2 l (quad_zero _ _ _ l q)
    rw [nrm_sym l 2 0, nrm_sym l 2 1] at k2
    rcases Int.lt_or_le 0 (nrm l 0 0) with hz | hz
    · have h := ring3z (nrm l 0 0) (nrm l 0 1) (nrm l 0 2) (nrm l 1 1) (nrm l 1 2) (nrm l 2 2)
      rw [h0, k2] at h
      rw [nrm_sym l 1 0, nrm_sym l 2 0, nrm_sym l 2 1]
      exact nonneg_of_mul hz (by rw [h]; simp)
    · have hz : nrm l 0 0 = 0 := by have := gram1 l; omega
      unfold det3E
      rw [hz, e1 hz 1, e1 hz 2]
      simp

/-- The determinant of the normal equations of N terms. -/
theorem fitM_one (l : List Star) : fitM l 1 = [[nrm l 0 0]] := by simp [fitM, colL, nrmTo_all, List.range_succ]
theorem fitM_two (l : List Star) : fitM l 2 = [[nrm l 0 0, nrm l 0 1], [nrm l 1 0, nrm l 1 1]] := by simp [fitM, colL, nrmTo_all, List.range_succ]
theorem fitM_three (l : List Star) : fitM l 3 = [[nrm l 0 0, nrm l 0 1, nrm l 0 2], [nrm l 1 0, nrm l 1 1, nrm l 1 2], [nrm l 2 0, nrm l 2 1, nrm l 2 2]] := by simp [fitM, colL, nrmTo_all, List.range_succ]
theorem rgtL_one (l : List Star) : rgtL l 1 = [rgt l 0] := by simp [rgtL, rgtTo_all, List.range_succ]
theorem rgtL_two (l : List Star) : rgtL l 2 = [rgt l 0, rgt l 1] := by simp [rgtL, rgtTo_all, List.range_succ]
theorem rgtL_three (l : List Star) : rgtL l 3 = [rgt l 0, rgt l 1, rgt l 2] := by simp [rgtL, rgtTo_all, List.range_succ]
theorem gram_nonneg (l : List Star) {N : Nat} (h1 : 1 ≤ N) (h3 : N ≤ 3) : 0 ≤ detM (fitM l N) := by
  rcases (show N = 1 ∨ N = 2 ∨ N = 3 by omega) with rfl | rfl | rfl
  · rw [fitM_one]; exact gram1 l
  · rw [fitM_two]; exact gram2 l
  · rw [fitM_three]; exact gram3 l
/-- What a model of whole terms predicts. -/
def dotS (t : List Int) (s : Star) : Int := t.getD 0 0 * shp s 0 + t.getD 1 0 * shp s 1 + t.getD 2 0 * shp s 2
theorem fitM_congr {l m : List Star} (h : l.map Star.xs = m.map Star.xs) (N : Nat) : fitM l N = fitM m N := by
  have hn : ∀ i k, nrm l i k = nrm m i k := by
    intro i k
    have e : ∀ x : List Star, nrm x i k = ((x.map Star.xs).map fun r => r.getD i 0 * r.getD k 0).sum := by
      intro x; unfold nrm shp; rw [List.map_map]; rfl
    rw [e, e, h]
  unfold fitM colL
  refine List.map_congr_left fun i _ => List.map_congr_left fun k _ => ?_
  rw [nrmTo_all, nrmTo_all, hn]
theorem termsN_congr {l m : List Star} (h : l.map Star.xs = m.map Star.xs) : termsN l = termsN m := by
  have := congrArg (fun z => z[0]?) h
  simp only [List.getElem?_map] at this
  unfold termsN
  cases h1 : l[0]? <;> cases h2 : m[0]? <;> simp_all
theorem fit_ok {l : List Star} (h : (fitF l).2 = 0) : detM (fitM l (termsN l)) ≠ 0 ∧ (fitF l).1.1 = (fitT l (termsN l)).map (· / fitG l (termsN l)) ∧ (fitF l).1.2 = detM (fitM l (termsN l)) / fitG l (termsN l) := by
  unfold fitF at h ⊢
  by_cases h0 : detM (fitM l (termsN l)) = 0
  · rw [if_pos h0] at h; cases h
  rw [if_neg h0] at h ⊢
  split at h
  · cases h
  · rename_i h2
    rw [if_neg h2]
    exact ⟨h0, rfl, rfl⟩
/-- The first k products of terms and shapes. -/
def dotP (ts xs : List Int) (k : Nat) : Int := (((ts.zip xs).take k).map fun p => p.1 * p.2).sum
theorem dotP_all {ts : List Int} {s : Star} (h : s.xs.length = ts.length) (h3 : ts.length ≤ 3) : dotP ts s.xs ts.length = dotS ts s := by
  obtain ⟨A, n, c, xs, er⟩ := s
  simp only at h
  unfold dotP dotS shp
  match ts, xs, h, h3 with
  | [], [], _, _ => simp
  | [a], [x], _, _ => simp
  | [a, b], [x, y], _, _ => simp
  | [a, b, d], [x, y, z], _, _ => simp; omega
end Go.Proofs.Ytdidcpealabaiaa

end

section
/- The walk of the statement on the check of models and on predictions. -/
namespace Go.Proofs.Ytdidcpealabaiaa
open Go Go.RowKit

/-- What is known of copies: of stars (operation ci), of a model (operation ki). -/
def PfM (l : List Star) (n : Nat) (T : List Int) (m ci ki : Nat) (i : Nat) (x : Pick2) (w : World) : Prop :=
  (i = ci → ∃ S : List Star, S.map (fun s => (s.xs, s.er)) = l.map (fun s => (s.xs, s.er)) ∧ StarsAt S x.1.1 n w) ∧ (i = ki → Reads w w.heap.size 1 x.1.1 m (T.map (.int .i64)))
end Go.Proofs.Ytdidcpealabaiaa

end

section
/- Determinants by the first row: plain law. -/
namespace Go.Proofs.Ytdidcpealabaiaa
open Go Go.RowKit

def sgn (c : Nat) : Int := if c % 2 = 0 then 1 else -1
def cut (c : Nat) (r : List Int) : List Int := r.take c ++ r.drop (c + 1)
def minorM (c : Nat) (M : List (List Int)) : List (List Int) := (M.drop 1).map (cut c)
def detR : Nat → List (List Int) → Int
  | 0, _ => 1
  | n + 1, M => ((List.range (n + 1)).map fun c => sgn c * (M.headD []).getD c 0 * detR n (minorM c M)).sum
def detTo (n : Nat) (M : List (List Int)) (k : Nat) : Int := ((List.range k).map fun c => sgn c * (M.headD []).getD c 0 * detR n (minorM c M)).sum
theorem detTo_zero (n : Nat) (M : List (List Int)) : detTo n M 0 = 0 := rfl
theorem detTo_succ (n : Nat) (M : List (List Int)) (k : Nat) : detTo n M (k + 1) = detTo n M k + sgn k * (M.headD []).getD k 0 * detR n (minorM k M) := by
  unfold detTo
  rw [List.range_succ, List.map_append, List.sum_append]
  simp
def InW (z : Int) : Prop := -9223372036854775808 ≤ z ∧ z ≤ 9223372036854775807
/-- No step of the computation leaves the numbers. -/
def DetOk : Nat → List (List Int) → Prop
  | 0, _ => True
  | n + 1, M => ∀ c, c < n + 1 → InW (sgn c * (M.headD []).getD c 0) ∧ InW (sgn c * (M.headD []).getD c 0 * detR n (minorM c M)) ∧ InW (detTo n M (c + 1)) ∧ DetOk n (minorM c M)
end Go.Proofs.Ytdidcpealabaiaa

end

section
/- Contract of the reference's determinant. -/
namespace Go.Proofs.Ytdidcpealabaiaa
open Go Go.RowKit

structure RowsOwn (B : Nat) (ts : List TRow) (u : Value) (k : Nat) (w : World) : Prop where
  row : w.ownsRow B 43 1 u k (ts.map TRow.val)
  each : ∀ r ∈ ts, w.ownsRow B 3 1 r.val r.n (r.xs.map (.int .i64))
theorem RowsOwn.below {B : Nat} {ts : List TRow} {u : Value} {k : Nat} {w w' : World} (h : RowsOwn B ts u k w) (hb : Below w.heap.size w w') : RowsOwn B ts u k w' :=
  ⟨own_below h.row hb (Nat.le_refl _), fun r hr => own_below (h.each r hr) hb (Nat.le_refl _)⟩
theorem RowsOwn.at_ {B : Nat} {ts : List TRow} {A : Option Addr} {k c : Nat} {w : World} (h : RowsOwn B ts (.slice A k c) k w) : ReadsT w w.heap.size A k ts :=
  ⟨own_reads2 h.row, fun r hr => ⟨own_cap (h.each r hr), own_reads2 (h.each r hr)⟩⟩
/-- The region that cuts a number out of a row and appends the rest. -/
structure CutD (B k p q : Nat) (u : Value) (ts : List TRow) (xs ys : List Int) (W : World) (g : Nat → Option Pick2) (f : Nat → Bool) (w' : World) : Prop where
  bel : Below B W w'
  pre : f 18 = false → Below W.heap.size W w'
  c1 : f 18 = false → ∀ x, g 1 = some x → g 8 = none → w'.ownsRow W.heap.size 3 1 (.slice x.1.1 0 0) 0 []
  c8 : f 18 = false → ∀ x, g 8 = some x → g 16 = none → w'.ownsRow W.heap.size 3 1 (.slice x.1.1 p x.1.2) p (xs.map (.int .i64))
  c16 : f 18 = false → ∀ y, g 16 = some y → w'.ownsRow W.heap.size 3 1 (.slice y.1.1 (p + q) y.1.2) (p + q) ((xs ++ ys).map (.int .i64))
  c17 : f 18 = false → ∀ y z, g 16 = some y → g 17 = some z → ∃ b, z.1.1 = some ⟨b, 0, none⟩ ∧ Blk w' b 43 #[.slice y.1.1 (p + q) y.1.2]
  post : ∀ y z, g 16 = some y → g 18 = some z → RowsOwn B (ts ++ [⟨y.1.1, p + q, y.1.2, xs ++ ys⟩]) (.slice z.1.1 (k + 1) z.1.2) (k + 1) w'
section
variable {B k p q i : Nat} {u : Value} {ts : List TRow} {xs ys : List Int} {W w' : World} {g : Nat → Option Pick2} {f : Nat → Bool}
theorem CutD.start : CutD B k p q u ts xs ys W (fun _ => none) f (W.drewN 1) :=
  ⟨below_drewN (Below.refl _ _) 1, fun _ => below_drewN (Below.refl _ _) 1, fun _ _ h => (nomatch h), fun _ _ h => (nomatch h), fun _ _ h => (nomatch h), fun _ _ _ h => (nomatch h), fun _ _ h => (nomatch h)⟩
theorem CutD.same (h : CutD B k p q u ts xs ys W g f w') (hi : i ≠ 18) : CutD B k p q u ts xs ys W g (Fx.add f i) w' :=
  ⟨h.bel, fun hf => h.pre (by rwa [add_ne' hi] at hf), fun hf => h.c1 (by rwa [add_ne' hi] at hf), fun hf => h.c8 (by rwa [add_ne' hi] at hf), fun hf => h.c16 (by rwa [add_ne' hi] at hf), fun hf => h.c17 (by rwa [add_ne' hi] at hf), h.post⟩
end

/-- The rows that are cut, of the first k behind the first. -/
def cutRows (c k : Nat) (t : List TRow) : List (List Int) := ((t.drop 1).take k).map fun r => cut c r.xs
end Go.Proofs.Ytdidcpealabaiaa

end

section
/- Contract of the reference's normal equations. -/
namespace Go.Proofs.Ytdidcpealabaiaa
open Go Go.RowKit

end Go.Proofs.Ytdidcpealabaiaa

end

section
/- A copy of lists of numbers in memory of its own, no two of them in one block. -/
namespace Go.Proofs.Ytdidcpealabaiaa
open Go Go.RowKit

def RowsSep (ts : List TRow) : Prop := ts.Pairwise fun r s => ∀ q, r.val.ownBlock = some q → s.val.ownBlock ≠ some q
def OwnPost (t : List TRow) (n : Nat) (w : World) (e : Ending) (w' : World) : Prop :=
  Below w.heap.size w w' ∧ ∃ A' c' ts, e = .returned (.slice A' n c') ∧ ts.map TRow.xs = t.map TRow.xs ∧ RowsOwn w.heap.size ts (.slice A' n c') n w' ∧ RowsSep ts


end Go.Proofs.Ytdidcpealabaiaa

end

section
/- Determinants by the first row are those of the package's; no step of them leaves the numbers; the best model is accepted. -/
namespace Go.Proofs.Ytdidcpealabaiaa
open Go Go.RowKit

theorem ok_one {a : Int} (h : InB 1000000000000 a) : DetOk 1 [[a]] := by
  unfold InB at h
  intro c hc
  have hc : c < 1 := hc
  obtain rfl : c = 0 := by omega
  refine ⟨?_, ?_, ?_, trivial⟩
  · show InW (1 * a); unfold InW; omega
  · show InW (1 * a * 1); unfold InW; omega
  · rw [detTo_succ, detTo_zero]; show InW (0 + 1 * a * 1); unfold InW; omega
/-- Column k of a matrix is replaced. -/
def colSet (k : Nat) (M : List (List Int)) (R : List Int) : List (List Int) := M.mapIdx fun i r => r.set k (R.getD i 0)

theorem gcdF_div {g : Int} (hg : 0 < g) : ∀ (l : List Int) (d : Int), g ∣ d → (∀ z ∈ l, g ∣ z) → gcdF (d / g) (l.map (· / g)) * g = gcdF d l
  | [], d, hd, _ => Int.ediv_mul_cancel hd
  | z :: r, d, hd, h => by
    have hz := h z (by simp)
    have ih := gcdF_div hg r (Int.gcd d z : Int) (Int.dvd_coe_gcd hd hz) fun x hx => h x (by simp [hx])
    have e : (Int.gcd (d / g) (z / g) : Int) = (Int.gcd d z : Int) / g := by
      rw [Int.gcd_ediv hd hz]
      have : (g.natAbs : Int) = g := by omega
      rw [Int.natCast_ediv, this]
    show gcdF (Int.gcd (d / g) (z / g) : Int) (r.map (· / g)) * g = gcdF (Int.gcd d z : Int) r
    rw [e, ih]
theorem chk_lin (T : List Int) (D : Int) (k : Nat) (h3 : T.length ≤ 3) : ∀ (l : List Star), (∀ s ∈ l, s.xs.length = T.length) → (l.map (chkS T D k)).sum = D * rgt l k - (T.getD 0 0 * nrm l k 0 + T.getD 1 0 * nrm l k 1 + T.getD 2 0 * nrm l k 2)
  | [], _ => by simp [rgt, nrm]
  | s :: l, h => by
    have ih := chk_lin T D k h3 l fun x hx => h x (by simp [hx])
    have hd : dotTo T s.xs T.length = dotS T s := dotP_all (h s (by simp)) h3
    rw [List.map_cons, List.sum_cons, ih, rgt_cons, nrm_cons, nrm_cons, nrm_cons]
    unfold chkS
    rw [hd]
    unfold dotS
    grind
theorem cramer {l : List Star} {N k : Nat} (h1 : 1 ≤ N) (h3 : N ≤ 3) (hk : k < N) : detM (fitM l N) * rgt l k = (fitT l N).getD 0 0 * nrm l k 0 + (fitT l N).getD 1 0 * nrm l k 1 + (fitT l N).getD 2 0 * nrm l k 2 := by
  rcases (show N = 1 ∨ N = 2 ∨ N = 3 by omega) with rfl | rfl | rfl
  · obtain rfl : k = 0 := by omega
    simp [fitT, fitM_one, rgtL_one, List.range_succ, detM]
    grind
  · have s := nrm_sym l 1 0
    rcases (show k = 0 ∨ k = 1 by omega) with rfl | rfl
    · simp [fitT, fitM_two, rgtL_two, List.range_succ, detM, det2E]
      rw [s]
      grind
    · simp [fitT, fitM_two, rgtL_two, List.range_succ, detM, det2E]
      rw [s]
      grind
  · have s1 := nrm_sym l 1 0
    have s2 := nrm_sym l 2 0
    have s3 := nrm_sym l 2 1
    rcases (show k = 0 ∨ k = 1 ∨ k = 2 by omega) with rfl | rfl | rfl
    · simp [fitT, fitM_three, rgtL_three, List.range_succ, detM, det3E]
      rw [s1, s2, s3]
      grind
    · simp [fitT, fitM_three, rgtL_three, List.range_succ, detM, det3E]
      rw [s1, s2, s3]
      grind
    · simp [fitT, fitM_three, rgtL_three, List.range_succ, detM, det3E]
      rw [s1, s2, s3]
      grind

theorem div_get {g : Int} {t : List Int} (h : ∀ z ∈ t, g ∣ z) (i : Nat) : (t.map (· / g)).getD i 0 * g = t.getD i 0 := by
  rw [List.getD_eq_getElem?_getD, List.getD_eq_getElem?_getD, List.getElem?_map]
  cases hi : t[i]? with
  | none => simp
  | some z => simp only [Option.map_some, Option.getD_some]; exact Int.ediv_mul_cancel (h z (List.mem_of_getElem? hi))
theorem fit_accepted {l : List Star} {T : List Int} {D : Int} (hE : (starsF l).2 = 0) (hf : fitF l = ((T, D), 0)) : T.length = termsN l ∧ mdlErr T D = 0 ∧ chkErr l T D = 0 := by
  obtain ⟨⟨N0, E0⟩, hS⟩ : ∃ z, starsF l = z := ⟨_, rfl⟩
  have hE0 : E0 = 0 := by rw [hS] at hE; exact hE
  obtain ⟨s1, s2, s3, s4⟩ := stars_right hS hE0
  obtain ⟨s0, hs0⟩ := List.exists_mem_of_length_pos (show 0 < l.length by omega)
  obtain ⟨-, n1, n3, -⟩ := star_right (s4 s0 hs0)
  obtain ⟨N, hN⟩ : ∃ N, termsN l = N := ⟨_, rfl⟩
  rw [hN] at s4 n1 n3
  obtain ⟨k0, k1, k2⟩ := fit_ok (l := l) (by rw [hf])
  rw [hf, hN] at k1 k2
  rw [hN] at k0
  simp only at k1 k2
  have hp : 0 < detM (fitM l N) := by have := gram_nonneg l n1 n3; omega
  have hsm : smallL 1000000000000 (D :: T) = true := by
    unfold fitF at hf
    rw [hN, if_neg k0] at hf
    split at hf
    · exact absurd (Prod.mk.inj hf).2 (by decide)
    · rename_i h2
      rw [← k1, ← k2] at h2
      simpa using h2
  obtain ⟨g, hg⟩ : ∃ g, fitG l N = g := ⟨_, rfl⟩
  rw [hg] at k1 k2
  have hgd : gcdF (detM (fitM l N)) (fitT l N) = g := hg
  have hgi := gcdF_in (fitT l N) (detM (fitM l N)) (by omega)
  have hgv := gcdF_dvd (fitT l N) (detM (fitM l N))
  rw [hgd] at hgi hgv
  have hg0 : 0 < g := by omega
  have hTl : T.length = N := by rw [k1]; simp [fitT]
  have hDg : D * g = detM (fitM l N) := by rw [k2]; exact Int.ediv_mul_cancel hgv.1
  have hD1 : 1 ≤ D := by rw [k2]; exact Int.ediv_pos_of_pos_of_dvd hp (by omega) hgv.1
  have hsm' := List.all_eq_true.1 hsm
  have hD2 := (withinB_iff _ _ _).1 (hsm' D (by simp))
  have hTs : smallL 1000000000000 T = true := List.all_eq_true.2 fun z hz => hsm' z (by simp [hz])
  have hgc : gcdF D T = 1 := by
    have h := gcdF_div hg0 (fitT l N) (detM (fitM l N)) hgv.1 hgv.2
    rw [← k1, ← k2, hgd] at h
    have h2 : (gcdF D T - 1) * g = 0 := by rw [Int.sub_mul, h]; omega
    rcases Int.mul_eq_zero.1 h2 with h3 | h3
    · omega
    · omega
  have hm : mdlErr T D = 0 := by
    unfold mdlErr
    rw [if_neg (by rw [hTl, show withinB (N : Int) 1 3 = true from (withinB_iff _ _ _).2 ⟨by omega, by omega⟩]; simp), if_neg (by rw [hTs, show withinB D 1 1000000000000 = true from (withinB_iff _ _ _).2 ⟨hD1, hD2.2⟩]; simp), if_neg (by rw [hgc]; simp)]
  refine ⟨by rw [hTl, hN], hm, ?_⟩
  unfold chkErr
  rw [hS, hm]
  simp only
  rw [if_neg (by rw [hE0]; simp), if_neg (by simp)]
  unfold fitErr
  rw [hN, if_neg (by rw [hTl]; simp), if_pos]
  intro k hk
  unfold chkTo
  rw [List.take_length, chk_lin T D k (by omega) l (fun s hs => by rw [hTl]; exact (star_right (s4 s hs)).1)]
  have c := cramer (l := l) n1 n3 (show k < N by omega)
  have a0 := div_get hgv.2 0
  have a1 := div_get hgv.2 1
  have a2 := div_get hgv.2 2
  rw [← k1] at a0 a1 a2
  rw [← hDg, ← a0, ← a1, ← a2] at c
  have h2 : (D * rgt l k - (T.getD 0 0 * nrm l k 0 + T.getD 1 0 * nrm l k 1 + T.getD 2 0 * nrm l k 2)) * g = 0 := by grind
  rcases Int.mul_eq_zero.1 h2 with h3 | h3
  · exact h3
  · omega
end Go.Proofs.Ytdidcpealabaiaa

end

section
/- Contract of the reference's best model. -/
namespace Go.Proofs.Ytdidcpealabaiaa
open Go Go.RowKit

def RFitPost (l : List Star) (w : World) (e : Ending) (w' : World) : Prop :=
  ∃ A c, e = .returned (.tuple #[.agg #[.slice A (fitF l).1.1.length c, .int .i64 (fitF l).1.2], .int .i64 (fitF l).2]) ∧ Below w.heap.size w w' ∧ Reads w' w'.heap.size 1 A (fitF l).1.1.length ((fitF l).1.1.map (.int .i64)) ∧ ∀ b o, A = some ⟨b, o, none⟩ → w.heap.size ≤ b
theorem RFitPost.mk' {l : List Star} {w w' : World} {e : Ending} {T : List Int} {D E : Int} {A : Option Addr} {c : Nat} (h : fitF l = ((T, D), E)) (he : e = .returned (.tuple #[.agg #[.slice A T.length c, .int .i64 D], .int .i64 E])) (hb : Below w.heap.size w w') (hr : Reads w' w'.heap.size 1 A T.length (T.map (.int .i64))) (hA : ∀ b o, A = some ⟨b, o, none⟩ → w.heap.size ≤ b) : RFitPost l w e w' := by
  unfold RFitPost
  rw [h]
  exact ⟨A, c, he, hb, hr, hA⟩
/-- The rows of a copy, with column k replaced in the first i of them. -/
def colTo (k i : Nat) (M : List (List Int)) (R : List Int) : List (List Int) := M.mapIdx fun j r => if j < i then r.set k (R.getD j 0) else r
theorem sep_at {ts : List TRow} (h : RowsSep ts) {i j : Nat} {r s : TRow} (hr : ts[i]? = some r) (hs : ts[j]? = some s) (hne : i ≠ j) : ∀ q, r.val.ownBlock = some q → s.val.ownBlock ≠ some q := by
  obtain ⟨hi, rfl⟩ := List.getElem?_eq_some_iff.1 hr
  obtain ⟨hj, rfl⟩ := List.getElem?_eq_some_iff.1 hs
  have hp := List.pairwise_iff_getElem.1 h
  intro q h1 h2
  rcases Nat.lt_or_ge i j with hlt | hge
  · exact hp i j hi hj hlt q h1 h2
  · exact hp j i hj hi (by omega) q h2 h1
theorem vals_set {ts : List TRow} {i : Nat} {r : TRow} (hr : ts[i]? = some r) (xs : List Int) : (ts.set i { r with xs := xs }).map TRow.val = ts.map TRow.val := by
  apply List.ext_getElem?
  intro j
  rw [List.getElem?_map, List.getElem?_map]
  by_cases hj : i = j
  · subst hj
    rw [List.getElem?_set_self (List.getElem?_eq_some_iff.1 hr).1, hr]
    rfl
  · rw [List.getElem?_set_ne hj]
theorem RowsOwn.store {B n i k : Nat} {ts : List TRow} {u : Value} {w : World} (h : RowsOwn B ts u n w) (hs : RowsSep ts) {r : TRow} (hr : ts[i]? = some r) (hN : 0 < r.n) (z : Int) :
    ∃ g cap, r.val = .slice (some ⟨g, 0, none⟩) r.n cap ∧ B ≤ g ∧ g < w.heap.size ∧ w.frozen? ⟨g, k, none⟩ = false ∧ RowsOwn B (ts.set i { r with xs := r.xs.set k z }) u n (w.setCell ⟨g, k, none⟩ (.int .i64 z)) := by
  have hm := h.each r (List.mem_of_getElem? hr)
  obtain ⟨g, cap, hv, h1, h2, h3, h4⟩ := own_store hm hN k (.int .i64 z)
  have hg : r.val.ownBlock = some g := by rw [hv]; rfl
  refine ⟨g, cap, hv, h1, h2, h3, ⟨by rw [vals_set hr]; exact own_set h.row (fun e => own_ne hm h.row (by decide) g hg e) _, fun r' hr' => ?_⟩⟩
  obtain ⟨j, hj⟩ := List.getElem?_of_mem hr'
  by_cases e : i = j
  · subst e
    rw [List.getElem?_set_self (List.getElem?_eq_some_iff.1 hr).1] at hj
    cases hj
    rw [List.map_set]
    exact h4
  · rw [List.getElem?_set_ne e] at hj
    exact own_set (h.each r' (List.mem_of_getElem? hj)) (sep_at hs hr hj e g hg) _

theorem RowsOwn.keep {B n : Nat} {ts : List TRow} {u : Value} {w w' : World} (h : RowsOwn B ts u n w) (hk : ∀ q, B ≤ q → q < w.heap.size → w'.heap[q]? = w.heap[q]?) : RowsOwn B ts u n w' :=
  ⟨own_same h.row fun q hq => hk q (own_lt h.row hq).1 (own_lt h.row hq).2, fun r hr => own_same (h.each r hr) fun q hq => hk q (own_lt (h.each r hr) hq).1 (own_lt (h.each r hr) hq).2⟩

end Go.Proofs.Ytdidcpealabaiaa

end
