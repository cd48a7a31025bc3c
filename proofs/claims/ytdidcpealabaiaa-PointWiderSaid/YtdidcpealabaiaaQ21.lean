import Derived.Test.YtdidcpealabaiaaQ20
import Derived.Test.YtdidcpealabaiaaQ19
import Derived.Test.YtdidcpealabaiaaQ14
import Derived.Test.YtdidcpealabaiaaQ15
import Derived.Test.YtdidcpealabaiaaQ16
import Derived.Test.YtdidcpealabaiaaQ1
import Derived.RangeFuncNested
import Derived.RangeFuncBound
import Derived.RangeFuncCalls
import Derived.RangeFuncLeaves
import Derived.OrdersIn
import Derived.WalkKit
import Derived.OwnWalkIn
import Derived.TacticsInMore
import Derived.LoopNIn
import Derived.LoopIn

section
/- Contract of the reference's determinant. -/
namespace Go.Proofs.Ytdidcpealabaiaa
open Go Go.RowKit

structure RowsOwn (B : Nat) (ts : List TRow) (u : Value) (k : Nat) (w : World) : Prop where
  row : w.ownsRow B 43 1 u k (ts.map TRow.val)
  each : ∀ r ∈ ts, w.ownsRow B 3 1 r.val r.n (r.xs.map (.int .i64))
theorem RowsOwn.below {B : Nat} {ts : List TRow} {u : Value} {k : Nat} {w w' : World} (h : RowsOwn B ts u k w) (hb : Below w.heap.size w w') : RowsOwn B ts u k w' :=
  ⟨own_below h.row hb (Nat.le_refl _), fun r hr => own_below (h.each r hr) hb (Nat.le_refl _)⟩
theorem RowsOwn.at_ {B : Nat} {ts : List TRow} {A : Option Addr} {k c : Nat} {w : World} (h : RowsOwn B ts (.slice A k c) k w) : ReadsT w w.heap.size A k ts :=
  ⟨own_reads2 h.row, fun r hr => ⟨own_cap (h.each r hr), own_reads2 (h.each r hr)⟩⟩
/-- The region that cuts a number out of a row and appends the rest. -/
structure CutD (B k p q : Nat) (u : Value) (ts : List TRow) (xs ys : List Int) (W : World) (g : Nat → Option Pick2) (f : Nat → Bool) (w' : World) : Prop where
  bel : Below B W w'
  pre : f 18 = false → Below W.heap.size W w'
  c1 : f 18 = false → ∀ x, g 1 = some x → g 8 = none → w'.ownsRow W.heap.size 3 1 (.slice x.1.1 0 0) 0 []
  c8 : f 18 = false → ∀ x, g 8 = some x → g 16 = none → w'.ownsRow W.heap.size 3 1 (.slice x.1.1 p x.1.2) p (xs.map (.int .i64))
  c16 : f 18 = false → ∀ y, g 16 = some y → w'.ownsRow W.heap.size 3 1 (.slice y.1.1 (p + q) y.1.2) (p + q) ((xs ++ ys).map (.int .i64))
  c17 : f 18 = false → ∀ y z, g 16 = some y → g 17 = some z → ∃ b, z.1.1 = some ⟨b, 0, none⟩ ∧ Blk w' b 43 #[.slice y.1.1 (p + q) y.1.2]
  post : ∀ y z, g 16 = some y → g 18 = some z → RowsOwn B (ts ++ [⟨y.1.1, p + q, y.1.2, xs ++ ys⟩]) (.slice z.1.1 (k + 1) z.1.2) (k + 1) w'
section
variable {B k p q i : Nat} {u : Value} {ts : List TRow} {xs ys : List Int} {W w' : World} {g : Nat → Option Pick2} {f : Nat → Bool}
theorem CutD.start : CutD B k p q u ts xs ys W (fun _ => none) f (W.drewN 1) :=
  ⟨below_drewN (Below.refl _ _) 1, fun _ => below_drewN (Below.refl _ _) 1, fun _ _ h => (nomatch h), fun _ _ h => (nomatch h), fun _ _ h => (nomatch h), fun _ _ _ h => (nomatch h), fun _ _ h => (nomatch h)⟩
theorem CutD.same (h : CutD B k p q u ts xs ys W g f w') (hi : i ≠ 18) : CutD B k p q u ts xs ys W g (Fx.add f i) w' :=
  ⟨h.bel, fun hf => h.pre (by rwa [add_ne' hi] at hf), fun hf => h.c1 (by rwa [add_ne' hi] at hf), fun hf => h.c8 (by rwa [add_ne' hi] at hf), fun hf => h.c16 (by rwa [add_ne' hi] at hf), fun hf => h.c17 (by rwa [add_ne' hi] at hf), h.post⟩
end

/-- The rows that are cut, of the first k behind the first. -/
def cutRows (c k : Nat) (t : List TRow) : List (List Int) := ((t.drop 1).take k).map fun r => cut c r.xs
end Go.Proofs.Ytdidcpealabaiaa

end

section
/- A copy of lists of numbers in memory of its own, no two of them in one block. -/
namespace Go.Proofs.Ytdidcpealabaiaa
open Go Go.RowKit

def RowsSep (ts : List TRow) : Prop := ts.Pairwise fun r s => ∀ q, r.val.ownBlock = some q → s.val.ownBlock ≠ some q
def OwnPost (t : List TRow) (n : Nat) (w : World) (e : Ending) (w' : World) : Prop :=
  Below w.heap.size w w' ∧ ∃ A' c' ts, e = .returned (.slice A' n c') ∧ ts.map TRow.xs = t.map TRow.xs ∧ RowsOwn w.heap.size ts (.slice A' n c') n w' ∧ RowsSep ts


end Go.Proofs.Ytdidcpealabaiaa

end

section
/- Contract of the reference's check of stars. -/
namespace Go.Proofs.Ytdidcpealabaiaa
open Go Go.RowKit

end Go.Proofs.Ytdidcpealabaiaa

end

section
/- Contract of the reference's normal equations. -/
namespace Go.Proofs.Ytdidcpealabaiaa
open Go Go.RowKit

theorem own_of_rb {w : World} {base g n : Nat} {t : TypeId} {f : Nat → Value} (h : RB w g t n f) (hb : base ≤ g) (hn : n ≤ maxLen) : w.ownsRow base t 1 (.slice (some ⟨g, 0, none⟩) n n) n ((List.range n).map f) := by
  refine ⟨by simp, .inr ⟨g, n, _, rfl, hb, h, Nat.le_refl _, hn, by simp, ?_⟩⟩
  rw [Nat.mul_one]
  exact List.take_of_length_le (by simp)
theorem RowsOwn.tch {X : Nat → Prop} {B k : Nat} {ts : List TRow} {u : Value} {w w' : World} (h : RowsOwn B ts u k w) (ht : Tch X w w') (hX : ∀ q, B ≤ q → q < w.heap.size → ¬ X q) : RowsOwn B ts u k w' :=
  ⟨ht.own h.row fun q hq => hX q (own_lt h.row hq).1 (own_lt h.row hq).2, fun r hr => ht.own (h.each r hr) fun q hq => hX q (own_lt (h.each r hr) hq).1 (own_lt (h.each r hr) hq).2⟩

end Go.Proofs.Ytdidcpealabaiaa

end

section
/- The plain law of exact errors: Gram determinants, Cramer's rule, doubling. -/
namespace Go.Proofs.Ytdidcpealabaiaa
open Go Go.RowKit

/-- Sums over all stars. -/
def nrm (l : List Star) (i k : Nat) : Int := (l.map fun s => shp s i * shp s k).sum
def rgt (l : List Star) (i : Nat) : Int := (l.map fun s => shp s i * s.er).sum
/-- The squares of the sums of shapes. -/
def quad (l : List Star) (u v w : Int) : Int := (l.map fun s => (u * shp s 0 + v * shp s 1 + w * shp s 2) * (u * shp s 0 + v * shp s 1 + w * shp s 2)).sum
def gr2 (l : List Star) : Int := nrm l 0 0 * nrm l 1 1 - nrm l 1 0 * nrm l 0 1
/-- What a model of whole terms predicts. -/
def dotS (t : List Int) (s : Star) : Int := t.getD 0 0 * shp s 0 + t.getD 1 0 * shp s 1 + t.getD 2 0 * shp s 2
/-- The first k products of terms and shapes. -/
def dotP (ts xs : List Int) (k : Nat) : Int := (((ts.zip xs).take k).map fun p => p.1 * p.2).sum
end Go.Proofs.Ytdidcpealabaiaa

end

section
/- The check of a model as the best one of stars, and predictions: the package's contracts. -/
namespace Go.Proofs.Ytdidcpealabaiaa
open Go Go.RowKit

/-- The part of a star in the check of term k. -/
def chkS (T : List Int) (D : Int) (k : Nat) (s : Star) : Int := shp s k * (s.er * D - dotTo T s.xs T.length)
def chkTo (l : List Star) (T : List Int) (D : Int) (k q : Nat) : Int := ((l.take q).map (chkS T D k)).sum
/-- The error of a right model as the best one of right stars. -/
def fitErr (l : List Star) (T : List Int) (D : Int) : Int := if T.length ≠ termsN l then 10 else if ∀ k, k < T.length → chkTo l T D k l.length = 0 then 0 else 22
/-- The error of a model as the best one of stars. -/
def chkErr (l : List Star) (T : List Int) (D : Int) : Int := if (starsF l).2 ≠ 0 then (starsF l).2 else if mdlErr T D ≠ 0 then mdlErr T D else fitErr l T D

end Go.Proofs.Ytdidcpealabaiaa

end

section
/- Determinants by the first row are those of the package's; no step of them leaves the numbers; the best model is accepted. -/
namespace Go.Proofs.Ytdidcpealabaiaa
open Go Go.RowKit

theorem ok_one {a : Int} (h : InB 1000000000000 a) : DetOk 1 [[a]] := by
  unfold InB at h
  intro c hc
  have hc : c < 1 := hc
  obtain rfl : c = 0 := by omega
  refine ⟨?_, ?_, ?_, trivial⟩
  · show InW (1 * a); unfold InW; omega
  · show InW (1 * a * 1); unfold InW; omega
  · rw [detTo_succ, detTo_zero]; show InW (0 + 1 * a * 1); unfold InW; omega
/-- Column k of a matrix is replaced. -/
def colSet (k : Nat) (M : List (List Int)) (R : List Int) : List (List Int) := M.mapIdx fun i r => r.set k (R.getD i 0)

end Go.Proofs.Ytdidcpealabaiaa

end

section
/- Stars as arguments: the guard Few. -/
namespace Go.Proofs.Ytdidcpealabaiaa
open Go Go.RowKit

/-- Few stars, or too many, with few shapes. -/
def fewStars (l : List Star) : Bool := l.all (fun s => decide (s.n ≤ 6)) && (decide (l.length ≤ 8) || (decide (20 < l.length) && decide (l.length ≤ 23)))
end Go.Proofs.Ytdidcpealabaiaa

end

section
/- Copies of stars and of a model, each in memory of its own. -/
namespace Go.Proofs.Ytdidcpealabaiaa
open Go Go.RowKit

def Star.own (B : Nat) (w : World) (r : Star) : Prop := w.ownsRow B 3 1 (.slice r.A r.n r.c) r.n (r.xs.map (.int .i64))
/-- Stars in memory of their own. -/
structure StarsOwn (B : Nat) (S : List Star) (u : Value) (k : Nat) (w : World) : Prop where
  row : w.ownsRow B 112 2 u k (starCells S)
  each : ∀ r ∈ S, r.own B w
theorem StarsOwn.nil (B : Nat) (w : World) : StarsOwn B [] (.slice none 0 0) 0 w := ⟨World.ownsRow_nil _ _ _ _, fun _ h => absurd h (by simp)⟩
theorem StarsOwn.below {B : Nat} {S : List Star} {u : Value} {k : Nat} {w w' : World} (h : StarsOwn B S u k w) (hb : Below w.heap.size w w') : StarsOwn B S u k w' :=
  ⟨own_below h.row hb (Nat.le_refl _), fun r hr => own_below (h.each r hr) hb (Nat.le_refl _)⟩
theorem StarsOwn.at_ {B : Nat} {S : List Star} {A : Option Addr} {k c : Nat} {w : World} (h : StarsOwn B S (.slice A k c) k w) : StarsAt S A k w :=
  ⟨own_reads2 h.row, fun r hr => ⟨own_cap (h.each r hr), own_reads2 (h.each r hr)⟩⟩
theorem starCells_snoc (S : List Star) (s : Star) : starCells (S ++ [s]) = starCells S ++ s.cells := by unfold starCells; simp

structure SrD (B k : Nat) (u : Value) (S : List Star) (xs : List Int) (er : Int) (sn : Nat) (W : World) (g : Nat → Option Pick2) (f : Nat → Bool) (w' : World) : Prop where
  bel : Below B W w'
  pre : f 14 = false → Below W.heap.size W w'
  c6 : f 14 = false → ∀ x, g 6 = some x → w'.ownsRow B 3 1 (.slice x.1.1 sn x.1.2) sn (xs.map (.int .i64))
  c13 : f 14 = false → ∀ x y, g 6 = some x → g 13 = some y → ∃ q, y.1.1 = some ⟨q, 0, none⟩ ∧ Blk w' q 112 #[.slice x.1.1 sn x.1.2, .int .i64 er]
  post : ∀ x z, g 6 = some x → g 14 = some z → StarsOwn B (S ++ [⟨x.1.1, sn, x.1.2, xs, er⟩]) (.slice z.1.1 (k + 1) z.1.2) (k + 1) w'
section
variable {B k sn i : Nat} {u : Value} {S : List Star} {xs : List Int} {er : Int} {W w' w'' : World} {g : Nat → Option Pick2} {f : Nat → Bool}
theorem SrD.start : SrD B k u S xs er sn W (fun _ => none) f (W.drewN 1) := ⟨below_drewN (Below.refl _ _) 1, fun _ => below_drewN (Below.refl _ _) 1, fun _ _ h => (nomatch h), fun _ _ _ h => (nomatch h), fun _ _ h => (nomatch h)⟩
theorem SrD.same (h : SrD B k u S xs er sn W g f w') (hi : i ≠ 14) : SrD B k u S xs er sn W g (Fx.add f i) w' :=
  ⟨h.bel, fun hf => h.pre (by rwa [add_ne' hi] at hf), fun hf => h.c6 (by rwa [add_ne' hi] at hf), fun hf => h.c13 (by rwa [add_ne' hi] at hf), h.post⟩
theorem SrD.copy (h : SrD B k u S xs er sn W g f w') (hB : B ≤ W.heap.size) (h14 : f 14 = false) (g13 : g 13 = none) (g14 : g 14 = none) (hb : Below w'.heap.size w' w'') (x : Pick2) (ho : w''.ownsRow w'.heap.size 3 1 (.slice x.1.1 sn x.1.2) sn (xs.map (.int .i64))) :
    SrD B k u S xs er sn W (Fx.upd g 6 x) (Fx.add f 6) w'' := by
  have hz := (h.pre h14).size
  refine ⟨h.bel.trans (hb.mono (by omega)), fun _ => step_below hb (h.pre h14), fun _ y hy => ?_, fun _ y z hy hz => ?_, fun y z hy hz => ?_⟩
  · rw [Fx.upd_same] at hy
    cases hy
    exact own_mono ho (by omega)
  · rw [upd_ne (by decide), g13] at hz
    cases hz
  · rw [upd_ne (by decide), g14] at hz
    cases hz
theorem SrD.lit (h : SrD B k u S xs er sn W g f w') (hB : B ≤ W.heap.size) (h14 : f 14 = false) (g14 : g 14 = none) {x : Pick2} (hx : g 6 = some x) :
    SrD B k u S xs er sn W (Fx.upd g 13 ((some ⟨w'.heap.size, 0, none⟩, 1), (none, 0))) (Fx.add f 13) (w'.alloc (.cells #[.slice x.1.1 sn x.1.2, .int .i64 er] 112)) := by
  have hb : Below w'.heap.size w' (w'.alloc (.cells #[.slice x.1.1 sn x.1.2, .int .i64 er] 112)) := (Below.refl _ _).alloc (Nat.le_refl _) _
  have hz := (h.pre h14).size
  refine ⟨h.bel.trans (hb.mono (by omega)), fun _ => step_below hb (h.pre h14), fun _ y hy => ?_, fun _ y z hy hz => ?_, fun y z hy hz => ?_⟩
  · rw [upd_ne (by decide)] at hy
    exact own_below (h.c6 h14 y hy) hb (Nat.le_refl _)
  · rw [upd_ne (by decide), hx] at hy
    cases hy
    rw [Fx.upd_same] at hz
    cases hz
    exact ⟨_, rfl, Blk.new _ _ _⟩
  · rw [upd_ne (by decide), g14] at hz
    cases hz
theorem info_star : (Try.prog.info? 112).map (fun i => (i.zero, i.size, i.bytes)) = some (some (.agg #[.slice none 0 0, .int .i64 0]), 2, 32) := by kernel_rfl
theorem SrD.app (h : SrD B k u S xs er sn W g f w') (hB : B ≤ W.heap.size) (hS : StarsOwn B S u k W) (hk : k ≤ 100000) (h14 : f 14 = false) {x y : Pick2} (hx : g 6 = some x) (hy : g 13 = some y) :
    ∃ (z : Pick2) (w'' : World), (Builtin.append_ #[38, 38] 38 #[u, .slice y.1.1 1 1]).run Try.prog w' = .ok (.slice z.1.1 (k + 1) z.1.2) w'' ∧ SrD B k u S xs er sn W (Fx.upd g 14 z) (Fx.add f 14) w'' := by
  obtain ⟨i0, hi0, hz0, hz1, hz2⟩ := info_parts info_star
  obtain ⟨q, hq, hblk⟩ := h.c13 h14 x y hx hy
  have hz := (h.pre h14).size
  have ho := (hS.below (h.pre h14))
  have hr : Reads w' w'.heap.size 2 (some ⟨q, 0, none⟩) 1 [.slice x.1.1 sn x.1.2, .int .i64 er] := Blk.reads hblk rfl
  rw [hq]
  obtain ⟨v', W2, hrun, o2', hg2, -⟩ := run_append_any (P := Try.prog) w' B 38 38 112 i0 _ 2 32 Try.underlying38 hi0 hz0 hz1 hz2 rfl (by omega) u k (starCells S) ho.row w'.heap.size (some ⟨q, 0, none⟩) 1 1 [.slice x.1.1 sn x.1.2, .int .i64 er] hr (by simp [Value.oneCell']) (by unfold maxLen; omega) (by omega) (by omega)
  obtain ⟨A2, c2, rfl, -⟩ := own_reads o2'
  refine ⟨((A2, c2), (none, 0)), W2, hrun, h.bel.grown hg2 (by omega) (fun q hq => (own_lt ho.row hq).1), fun hf => ?_, fun hf => ?_, fun hf => ?_, fun x' z hx' hz => ?_⟩
  · rw [add_same] at hf; cases hf
  · rw [add_same] at hf; cases hf
  · rw [add_same] at hf; cases hf
  · rw [upd_ne (by decide), hx] at hx'
    cases hx'
    rw [Fx.upd_same] at hz
    cases hz
    refine ⟨by rw [starCells_snoc]; exact o2', fun r hr => ?_⟩
    rcases List.mem_append.1 hr with hr | hr
    · exact own_apart (ho.each r hr) ho.row (by decide) hg2
    · obtain rfl : r = _ := by simpa using hr
      exact own_apart (h.c6 h14 x hx) ho.row (by decide) hg2
end

/-- The stars of a copy. -/
def StarsPost (l : List Star) (n : Nat) (w : World) (e : Ending) (w' : World) : Prop :=
  ∃ A c S, e = .returned (.slice A n c) ∧ Below w.heap.size w w' ∧ S.map (fun s => (s.xs, s.er)) = l.map (fun s => (s.xs, s.er)) ∧ StarsOwn w.heap.size S (.slice A n c) n w'

end Go.Proofs.Ytdidcpealabaiaa

end

section
/- Stores into stars in memory of their own. -/
namespace Go.Proofs.Ytdidcpealabaiaa
open Go Go.RowKit

theorem own_store {w : World} {base : Nat} {e : TypeId} {size n : Nat} {v : Value} {xs : List Value} (h : w.ownsRow base e size v n xs) (hn : 0 < n) (q : Nat) (u : Value) :
    ∃ g cap, v = .slice (some ⟨g, 0, none⟩) n cap ∧ base ≤ g ∧ g < w.heap.size ∧ w.frozen? ⟨g, q, none⟩ = false ∧ (w.setCell ⟨g, q, none⟩ u).ownsRow base e size v n (xs.set q u) := by
  obtain ⟨h1, h2⟩ := h
  rcases h2 with ⟨-, h0⟩ | ⟨g, cap, cur, hv, hg, hh, hc, hm, hs, ht⟩
  · omega
  have hb : Blk w g e cur := hh
  refine ⟨g, cap, hv, hg, hb.lt, hb.frozen q, by rw [List.length_set]; exact h1, .inr ⟨g, cap, cur.setIfInBounds q u, hv, hg, (hb.set_ q u), hc, hm, by simpa using hs, ?_⟩⟩
  rw [Array.toList_setIfInBounds, List.take_set, ht]
theorem own_other {w : World} {base base' : Nat} {e e' : TypeId} {size size' n n' g cap : Nat} {v : Value} {xs xs' : List Value} (h : w.ownsRow base e size v n xs) (h' : w.ownsRow base' e' size' (.slice (some ⟨g, 0, none⟩) n' cap) n' xs') (hne : e ≠ e') : v.ownBlock ≠ some g := by
  intro e1
  rcases h.2 with ⟨rfl, _⟩ | ⟨g1, cap, cur, rfl, hb, hh, _⟩
  · cases e1
  rcases h'.2 with ⟨h0, _⟩ | ⟨g2, cap', cur', h0, hb', hh', _⟩
  · cases h0
  have e2 : g1 = g := by simpa [Value.ownBlock] using e1
  cases h0
  subst e2
  rw [hh] at hh'
  injection hh' with h3
  injection h3 with _ h4
  exact hne h4
theorem starCells_set (z : Int) : ∀ (S : List Star) (i : Nat) (s : Star), S[i]? = some s → starCells (S.set i { s with er := z }) = (starCells S).set (i * 2 + 1) (.int .i64 z)
  | [], _, _, h => by simp at h
  | t :: S, 0, s, h => by
    obtain rfl : t = s := by simpa using h
    rfl
  | t :: S, i + 1, s, h => by
    have ih := starCells_set z S i s (by simpa using h)
    show t.cells ++ starCells (S.set i _) = (t.cells ++ starCells S).set _ _
    rw [ih, List.set_append_right _ _ (by show 2 ≤ _; omega)]
    congr 2
    show _ = (i + 1) * 2 + 1 - 2
    omega
/-- A store of an error. -/
theorem StarsOwn.store {B n i : Nat} {S : List Star} {v : Value} {w : World} {s : Star} (h : StarsOwn B S v n w) (hs : S[i]? = some s) (hn : 0 < n) (z : Int) :
    ∃ g cap, v = .slice (some ⟨g, 0, none⟩) n cap ∧ B ≤ g ∧ g < w.heap.size ∧ w.frozen? ⟨g, i * 2 + 1, none⟩ = false ∧ StarsOwn B (S.set i { s with er := z }) v n (w.setCell ⟨g, i * 2 + 1, none⟩ (.int .i64 z)) := by
  obtain ⟨g, cap, rfl, h1, h2, h3, h4⟩ := own_store h.row hn (i * 2 + 1) (.int .i64 z)
  refine ⟨g, cap, rfl, h1, h2, h3, by rw [starCells_set z S i s hs]; exact h4, fun r hr => ?_⟩
  have key : ∀ t ∈ S, t.own B (w.setCell ⟨g, i * 2 + 1, none⟩ (.int .i64 z)) := fun t ht => own_set (h.each t ht) (own_other (h.each t ht) h.row (by decide)) _
  rcases List.mem_or_eq_of_mem_set hr with hr | rfl
  · exact key r hr
  · exact key s (List.mem_of_getElem? hs)
/-- A store into another block of stars. -/
theorem StarsOwn.far {B n g q : Nat} {S : List Star} {A : Option Addr} {c : Nat} {w : World} (h : StarsOwn B S (.slice A n c) n w) (hA : ∀ b o, A = some ⟨b, o, none⟩ → b ≠ g) (ht : ∀ t ∈ S, (Value.slice t.A t.n t.c).ownBlock ≠ some g) (u : Value) : StarsOwn B S (.slice A n c) n (w.setCell ⟨g, q, none⟩ u) := by
  refine ⟨own_set h.row (fun e => ?_) _, fun t h' => own_set (h.each t h') (ht t h') _⟩
  rcases h.row.2 with ⟨h0, _⟩ | ⟨g1, cap, cur, h0, _⟩
  · cases h0; cases e
  · cases h0
    have : g1 = g := by simpa [Value.ownBlock] using e
    exact hA g1 0 rfl this
end Go.Proofs.Ytdidcpealabaiaa

end

section
/- Contract of the reference's best model. -/
namespace Go.Proofs.Ytdidcpealabaiaa
open Go Go.RowKit

def RFitPost (l : List Star) (w : World) (e : Ending) (w' : World) : Prop :=
  ∃ A c, e = .returned (.tuple #[.agg #[.slice A (fitF l).1.1.length c, .int .i64 (fitF l).1.2], .int .i64 (fitF l).2]) ∧ Below w.heap.size w w' ∧ Reads w' w'.heap.size 1 A (fitF l).1.1.length ((fitF l).1.1.map (.int .i64)) ∧ ∀ b o, A = some ⟨b, o, none⟩ → w.heap.size ≤ b
theorem RFitPost.mk' {l : List Star} {w w' : World} {e : Ending} {T : List Int} {D E : Int} {A : Option Addr} {c : Nat} (h : fitF l = ((T, D), E)) (he : e = .returned (.tuple #[.agg #[.slice A T.length c, .int .i64 D], .int .i64 E])) (hb : Below w.heap.size w w') (hr : Reads w' w'.heap.size 1 A T.length (T.map (.int .i64))) (hA : ∀ b o, A = some ⟨b, o, none⟩ → w.heap.size ≤ b) : RFitPost l w e w' := by
  unfold RFitPost
  rw [h]
  exact ⟨A, c, he, hb, hr, hA⟩
/-- The rows of a copy, with column k replaced in the first i of them. -/
def colTo (k i : Nat) (M : List (List Int)) (R : List Int) : List (List Int) := M.mapIdx fun j r => if j < i then r.set k (R.getD j 0) else r
theorem sep_at {ts : List TRow} (h : RowsSep ts) {i j : Nat} {r s : TRow} (hr : ts[i]? = some r) (hs : ts[j]? = some s) (hne : i ≠ j) : ∀ q, r.val.ownBlock = some q → s.val.ownBlock ≠ some q := by
  obtain ⟨hi, rfl⟩ := List.getElem?_eq_some_iff.1 hr
  obtain ⟨hj, rfl⟩ := List.getElem?_eq_some_iff.1 hs
  have hp := List.pairwise_iff_getElem.1 h
  intro q h1 h2
  rcases Nat.lt_or_ge i j with hlt | hge
  · exact hp i j hi hj hlt q h1 h2
  · exact hp j i hj hi (by omega) q h2 h1
theorem vals_set {ts : List TRow} {i : Nat} {r : TRow} (hr : ts[i]? = some r) (xs : List Int) : (ts.set i { r with xs := xs }).map TRow.val = ts.map TRow.val := by
  apply List.ext_getElem?
  intro j
  rw [List.getElem?_map, List.getElem?_map]
  by_cases hj : i = j
  · subst hj
    rw [List.getElem?_set_self (List.getElem?_eq_some_iff.1 hr).1, hr]
    rfl
  · rw [List.getElem?_set_ne hj]
theorem RowsOwn.store {B n i k : Nat} {ts : List TRow} {u : Value} {w : World} (h : RowsOwn B ts u n w) (hs : RowsSep ts) {r : TRow} (hr : ts[i]? = some r) (hN : 0 < r.n) (z : Int) :
    ∃ g cap, r.val = .slice (some ⟨g, 0, none⟩) r.n cap ∧ B ≤ g ∧ g < w.heap.size ∧ w.frozen? ⟨g, k, none⟩ = false ∧ RowsOwn B (ts.set i { r with xs := r.xs.set k z }) u n (w.setCell ⟨g, k, none⟩ (.int .i64 z)) := by
  have hm := h.each r (List.mem_of_getElem? hr)
  obtain ⟨g, cap, hv, h1, h2, h3, h4⟩ := own_store hm hN k (.int .i64 z)
  have hg : r.val.ownBlock = some g := by rw [hv]; rfl
  refine ⟨g, cap, hv, h1, h2, h3, ⟨by rw [vals_set hr]; exact own_set h.row (fun e => own_ne hm h.row (by decide) g hg e) _, fun r' hr' => ?_⟩⟩
  obtain ⟨j, hj⟩ := List.getElem?_of_mem hr'
  by_cases e : i = j
  · subst e
    rw [List.getElem?_set_self (List.getElem?_eq_some_iff.1 hr).1] at hj
    cases hj
    rw [List.map_set]
    exact h4
  · rw [List.getElem?_set_ne e] at hj
    exact own_set (h.each r' (List.mem_of_getElem? hj)) (sep_at hs hr hj e g hg) _

theorem RowsOwn.keep {B n : Nat} {ts : List TRow} {u : Value} {w w' : World} (h : RowsOwn B ts u n w) (hk : ∀ q, B ≤ q → q < w.heap.size → w'.heap[q]? = w.heap[q]?) : RowsOwn B ts u n w' :=
  ⟨own_same h.row fun q hq => hk q (own_lt h.row hq).1 (own_lt h.row hq).2, fun r hr => own_same (h.each r hr) fun q hq => hk q (own_lt (h.each r hr) hq).1 (own_lt (h.each r hr) hq).2⟩

end Go.Proofs.Ytdidcpealabaiaa

end

section
/- The rule for a region whose order is left open, in a round of a range over a function; the marks that such ranges leave among the deferred calls. -/
namespace Go.Proofs.Ytdidcpealabaiaa.Fx
open Go Go.RowKit

section
variable {P : Program} {ops : Array Oper} {md : Region.Mode}

def noDefer (l : List Oper) : Bool := l.all fun o => match o.op with | .defer _ => false | _ => true
theorem noDefer_spec {l : List Oper} (h : noDefer l = true) {i : Nat} {o : Oper} (ho : l[i]? = some o) (c : Call) : o.op ≠ .defer c := by
  intro e
  have := List.all_eq_true.1 h o (List.mem_of_getElem? ho)
  rw [e] at this
  cases this

theorem Gives.wpIn {r n : Nat} {o : Oper} {a : Act} {w : World} {v : Value} {R : World → Prop} {K : Act → World → Prop} {Q : Exit → Act → World → Prop} (hd : ∀ c, o.op ≠ .defer c) (h : Gives P o a w v R) (hk : ∀ w', R w' → K (a.put o.dst v) w') : o.wpIn (Fence.wide.inRound r) n P a w K Q := by
  unfold Oper.wpIn
  refine ⟨fun f _ => trivial, ?_⟩
  rw [Oper.semAt_eq _ _ _ hd]
  unfold Gives at h
  generalize (execOp a.eval o).run P w = q at *
  cases q with
  | halt x w' => exact h.elim
  | ok m w' =>
    cases m
    case value u => obtain ⟨rfl, hr⟩ := h; exact hk _ hr
    case skip => obtain ⟨rfl, hr⟩ := h; exact hk _ hr
    case enter f args =>
      refine ⟨(fun h => by cases h), CallsIn.inRound r (callsIn_wide.2 (Calls.mono h fun e w'' ⟨he, hr⟩ => ?_))⟩
      subst he
      exact hk _ hr
    all_goals exact h.elim

theorem wpAnyIn_of_anyF {r m : Nat} {C : Array Bool → World → Prop} {Q : Array Bool → Act → Prop} {Q' : Exit → Act → World → Prop} (hd : ∀ (i : Nat) (o : Oper), ops[i]? = some o → ∀ c, o.op ≠ .defer c) (hQ : ∀ L a w, C L w → Q L a → Q' .normal a w) :
    ∀ (n : Nat) (L : Array Bool) (a : Act) (w : World), C L w → anyF P md ops C Q n L a → wpAnyIn (Fence.wide.inRound r) m P md ops Q' n L a w
  | 0, _, _, _, hc, h => ⟨h.1, hQ _ _ _ hc h.2⟩
  | n + 1, L, a, w, hc, h => ⟨fun h0 => hQ _ _ _ hc (h.1 h0), fun i hi => by
      obtain ⟨o, v, ho, hs, hn⟩ := h.2 i hi
      unfold wpOpIn
      simp only [ho]
      rcases hs with ⟨h1, h2⟩ | ⟨h1, h2, h3⟩
      · rw [if_pos h1]
        exact (h2 L w hc hi).wpIn (hd i o ho) fun w' hw' => wpAnyIn_of_anyF hd hQ n _ _ w' hw' hn
      · rw [if_neg (by rw [h1]; exact Bool.false_ne_true)]
        subst h2
        exact ⟨fun f _ => trivial, wpAnyIn_of_anyF hd hQ n _ _ w (h3 L w hc hi) hn⟩⟩

/-- THE RULE, in a round. -/
theorem regionIn {r m id : Nat} {Q : Exit → Act → World → Prop} {a : Act} {w : World} {l : List Oper} (D : (Nat → Bool) → World → Prop) (hm : P.follows .mixedOrders = true) (hB : Region.lexB .any l.toArray = true) (hnd : noDefer l = true)
    (h0 : ∀ f, (∀ j, f j = false) → D f (w.drewN 1)) (h : lexD P .any l.toArray D (fun a' => ∀ f w', (∀ j, j < l.length → f j = true) → D f w' → Q .normal a' w') l 0 a) :
    (Code.region id l.toArray true).wpIn (Fence.wide.inRound r) m P Q a w := by
  simp only [Region.lexB, Bool.and_eq_true] at hB
  refine wpIn_region_any hm (wpAnyIn_of_anyF (C := fun L w => Closed .any l.toArray L ∧ D (fun j => L.getD j false) w)
    (Q := fun L a' => ∀ w', D (fun j => L.getD j false) w' → Q .normal a' w') (fun i o ho => noDefer_spec hnd (by simpa using ho)) (fun L a w hc hq => hq w hc.2) _ _ _ _ ⟨Closed.start _ _, h0 _ (fun j => ?_)⟩ ?_)
  · simp only [Array.getD_eq_getD_getElem?, Array.getElem?_replicate]; split <;> rfl
  · have := anyF_lex (C := fun L w => Closed .any l.toArray L ∧ D (fun j => L.getD j false) w) (Q := fun L a' => ∀ w', D (fun j => L.getD j false) w' → Q .normal a' w')
      (P := P) hB.1 l 0 (Array.replicate l.toArray.size false) a (by simp) (by simpa using hB.2)
      (lexF_of_lexD l.length (by simp) (fun L a hL hq w' hd => hq _ w' hL hd) l 0 _ a (by simp) (by simp) (by omega) h)
    simpa using this
end

/-! Marks. -/
/-- The deferred calls that ranges over functions have left: blocks Ds. -/
def marks (Ds : List Nat) : List Deferred := Ds.map fun D => { target := .collected D, args := #[] }
/-- The blocks of the marks are there, each for itself, from B on. -/
def MarksAt (B : Nat) (Ds : List Nat) (w : World) : Prop := Ds.Nodup ∧ ∀ D ∈ Ds, B ≤ D ∧ w.heap[D]? = some (.deferred (some []))

theorem MarksAt.nil (B : Nat) (w : World) : MarksAt B [] w := ⟨by simp, fun D h => by cases h⟩
theorem MarksAt.keep {B : Nat} {Ds : List Nat} {w w' : World} (h : MarksAt B Ds w) (hk : ∀ D, B ≤ D → D < w.heap.size → w'.heap[D]? = w.heap[D]?) : MarksAt B Ds w' :=
  ⟨h.1, fun D hD => ⟨(h.2 D hD).1, (hk D (h.2 D hD).1 (Array.getElem?_eq_some_iff.1 (h.2 D hD).2).1).trans (h.2 D hD).2⟩⟩
theorem MarksAt.cons {B D : Nat} {Ds : List Nat} {w : World} (h : MarksAt B Ds w) (hB : B ≤ D) (hD : w.heap[D]? = some (.deferred (some []))) (hn : D ∉ Ds) : MarksAt B (D :: Ds) w :=
  ⟨List.nodup_cons.2 ⟨hn, h.1⟩, fun E hE => by
    rcases List.mem_cons.1 hE with rfl | hE
    · exact ⟨hB, hD⟩
    · exact h.2 E hE⟩

/-- A function that leaves with marks alone. -/
theorem leaves_marks {P : Program} {fn : Func} {n : Nat} {tmps : Array Value} {R : Ending → World → Prop} {B : Nat} : ∀ (Ds : List Nat) (w : World), MarksAt B Ds w →
    (∀ w', (∀ k, k < w.heap.size → (∀ D ∈ Ds, k ≠ D) → w'.heap[k]? = w.heap[k]?) → w'.os = w.os → w'.tape = w.tape → w'.output = w.output → w'.heap.size = w.heap.size → LeavesIn Fence.wide n P fn tmps R [] .returning w') →
    LeavesInM Fence.wide n P fn tmps R (marks Ds) .returning w
  | [], w, _, h => h w (fun _ _ _ => rfl) rfl rfl rfl rfl
  | D :: Ds, w, hm, h => by
    have hD := (hm.2 D (by simp)).2
    have hlt := (Array.getElem?_eq_some_iff.1 hD).1
    have hnd := List.nodup_cons.1 hm.1
    refine ⟨by simp, .inl ⟨D, _, rfl, run_takeDeferred hD, ?_⟩⟩
    have hput : ∀ k, k ≠ D → (w.putObj D (.deferred none)).heap[k]? = w.heap[k]? := fun k hk => World.putObj_heap_other hk
    have hsz : (w.putObj D (.deferred none)).heap.size = w.heap.size := by simp [World.putObj]
    refine leaves_marks Ds _ ⟨hnd.2, fun E hE => ⟨(hm.2 E (by simp [hE])).1, ?_⟩⟩ fun w' h1 h2 h3 h4 h5 => h w' (fun k hk hne => ?_) h2 h3 h4 (h5.trans hsz)
    · rw [hput E (fun e => hnd.1 (e ▸ hE))]
      exact (hm.2 E (by simp [hE])).2
    · rw [h1 k (by omega) (fun E hE => hne E (by simp [hE])), hput k (hne D (by simp))]
end Go.Proofs.Ytdidcpealabaiaa.Fx

end

section
/- A range over a function whose rounds are told apart by their numbers; slices.Backward over the stops of a tour. -/
namespace Go.Proofs.Ytdidcpealabaiaa
open Go Go.RowKit

attribute [local go_sem] Oper.semAt_some

theorem Tch.putObj {X : Nat → Prop} {w w' : World} (h : Tch X w w') {l : Nat} (hl : X l ∨ w.heap.size ≤ l) (o : Obj) : Tch X w (w'.putObj l o) :=
  ⟨h.os, h.tape, h.output, by simpa using h.size, fun i hi hx => (World.putObj_heap_other (by rintro rfl; rcases hl with hl | hl; exact hx hl; omega)).trans (h.block i hi hx)⟩

/-- How the body of round j ends: it goes on, and leaves all blocks from B on as they were. -/
def stepPost (B : Nat) (I : World → Prop) (W : World) : Exit → Act → World → Prop
  | .normal, _, W' => Tch (fun g => g < B) W W' ∧ I W'
  | _, _, _ => False

/-- The iterator: round j is called with encs j; J holds between the rounds. -/
def StepsK (m : Nat) (P : Program) (gf : Nat) (lb : Array Value) (encs : Nat → Array Value) (N : Nat) (K : World → Prop) : Prop :=
  ∀ (l : Nat) (J : Nat → World → Prop) (W : World), (∀ j W, J j W → K W) →
    (∀ j W1, j < N → J j W1 → YieldAt Fence.wide (m - 1) P l (encs j) W1 fun e W' => e = .returned (.bool true) ∧ J (j + 1) W') → J 0 W →
    CallsIn Fence.wide m P gf (#[.func (.yield l) #[] #[]] ++ lb) W fun e W' => (∃ v, e = .returned v) ∧ J N W'

theorem range_steps {P : Program} {g : Operand} {ps : Array Tmp} {assign body : Code} {Q : Exit → Act → World → Prop} {a : Act} {w : World} {n : Nat} {gf : Nat} {lb : Array Value} (hg : a.eval g = .func (.func gf) #[] lb)
    (eg : ∀ args w, (callFunc gf args).run P w = .ok (.enter gf args) w) {encs : Nat → Array Value} {N : Nat} {K : World → Prop} (hseq : StepsK (n - 1) P gf lb encs N K) (hps : ∀ j, (encs j).size = ps.size)
    (I : Nat → World → Prop) (hI : ∀ j W W', Tch (fun g => w.heap.size ≤ g) W W' → I j W → I j W') (hK : ∀ j W, I j W → K W) (h0 : I 0 w)
    (hround : ∀ (l j : Nat) (W : World), w.heap.size < l → l < W.heap.size → j < N → I j W → assign.wpIn (Fence.wide.inRound l) (n - 1 - 1) P
      (Exit.then (fun a' W1 => Tch (fun _ => False) W W1 ∧ ∀ W2, Tch (fun g => g = l) W1 W2 → I j W2 → body.wpIn (Fence.wide.inRound l) (n - 1 - 1) P (stepPost w.heap.size (I (j + 1)) W2) a' W2) (fun _ _ _ => False))
      { tmps := (ps.zip (encs j)).foldl (fun t (p, v) => t.setIfInBounds p v) a.tmps, defers := [] } W)
    (hdone : ∀ (D : Nat) (W : World), w.heap.size ≤ D → I N W → W.heap[D]? = some (.deferred (some [])) → Q .normal { a with defers := { target := .collected D, args := #[] } :: a.defers } W) :
    (Code.rangeFunc g ps assign body).wpIn Fence.wide n P Q a w := by
  refine wpIn_rangeFunc fun fn _ => ?_
  obtain ⟨B, hB⟩ : ∃ B, w.heap.size = B := ⟨_, rfl⟩
  let rec_ : LoopState → Option Code → Loop := fun st pe => { state := st, pending := pe, fn, tmps := a.tmps, params := ps, assign, body, defers := B }
  let V := (w.alloc (.deferred (some []))).alloc (.loop (rec_ .ready none))
  have hVs : V.heap.size = B + 2 := by simp [V, hB]
  have hVD : V.heap[B]? = some (.deferred (some [])) := by
    rw [← hB]
    exact (((Below.refl (w.heap.size + 1) _).alloc (by simp) _).block _ (by omega)).trans (World.alloc_heap_new w _)
  have hVL : V.heap[B + 1]? = some (.loop (rec_ .ready none)) := by
    have h := World.alloc_heap_new (w.alloc (.deferred (some []))) (.loop (rec_ .ready none))
    rwa [World.size_alloc, hB] at h
  have hVI : I 0 V := hI 0 w V ((Tch.refl _ w).alloc _ |>.alloc _) h0
  refine ⟨B + 1, [{ target := .collected B, args := #[] }], V, { target := .fn (.func gf) lb, args := #[.func (.yield (B + 1)) #[] #[]] }, V, gf, _, V, by rw [← hB]; simpa [rec_, V, hB] using run_enterLoop_outer (P := P) (w := w) fn a.tmps ps assign body, ?_, fun _ _ => trivial, by simp [invoke, go_sem, eg]; rfl, fun h => (by cases h), ?_⟩
  · simp only [resolve, hg]
    simp [go_sem]
  refine (hseq (B + 1) (fun j W => I j W ∧ W.heap[B + 1]? = some (.loop (rec_ .ready none)) ∧ W.heap[B]? = some (.deferred (some []))) V (fun j W h => hK j W h.1) ?_ ⟨hVI, hVL, hVD⟩).mono ?_
  · rintro j W hj ⟨hi, hl, hd⟩
    have hlt := (Array.getElem?_eq_some_iff.1 hl).1
    refine ⟨fn, _, assign, body, run_yield (P := P) (args := encs j) hl (hps j), roundIn_of_wpIn trivial (wpIn_mono (hround (B + 1) j W (by omega) hlt hj hi) ?_)⟩
    rintro e a' W1 hq
    cases e with
    | normal =>
      obtain ⟨h1, h2⟩ := hq
      have hl1 : W1.heap[B + 1]? = some (.loop (rec_ .ready none)) := (h1.block _ hlt (by simp)).trans hl
      have hd1 : W1.heap[B]? = some (.deferred (some [])) := (h1.block _ (by omega) (by simp)).trans hd
      have hlt1 := (Array.getElem?_eq_some_iff.1 hl1).1
      have hbusy : Tch (fun g => g = B + 1) W1 (W1.putObj (B + 1) (.loop { rec_ .ready none with state := .busy })) := (Tch.refl (fun g => g = B + 1) W1).putObj (l := B + 1) (.inl rfl) _
      refine ⟨_, run_beginRound hl1 rfl, wpIn_mono (h2 _ hbusy (hI j W _ ((h1.mono (Y := fun g => B ≤ g) (fun _ _ h => h.elim)).trans (hbusy.mono (fun i _ (e : i = B + 1) => by show B ≤ i; omega)) |> fun t => hB ▸ t) hi)) ?_⟩
      rintro e a3 W3 hq3
      cases e with
      | normal =>
        obtain ⟨h3, h4⟩ := hq3
        rw [hB] at h3
        have hl3 : W3.heap[B + 1]? = some (.loop { rec_ .ready none with state := .busy }) := (h3.block _ (by simpa using hlt1) (by omega)).trans (World.putObj_heap_same hlt1)
        have hd3 : W3.heap[B]? = some (.deferred (some [])) := (h3.block _ (by simp; omega) (by omega)).trans ((World.putObj_heap_other (by omega)).trans hd1)
        have hlt3 := (Array.getElem?_eq_some_iff.1 hl3).1
        refine ⟨_, _, run_endRound (P := P) none hl3, rfl, hI _ W3 _ ((Tch.refl _ W3).putObj (.inl (by show w.heap.size ≤ _; omega)) _) h4, World.putObj_heap_same hlt3, (World.putObj_heap_other (by omega)).trans hd3⟩
      | _ => exact hq3.elim
    | _ => exact hq.elim
  · rintro e W ⟨⟨v, rfl⟩, hi, hl, hd⟩
    refine ⟨none, _, run_endLoop (P := P) hl (by simp [rec_]), ?_⟩
    exact hdone B _ (by omega) (hI N W _ ((Tch.refl _ W).putObj (.inl (by show w.heap.size ≤ _; omega)) _) hi) ((World.putObj_heap_other (by omega)).trans hd)

def Stp.val (s : Stp) : Value := .agg s.cells.toArray
def stpAt (S : List Stp) (i : Nat) : Value := ((S[i]?).map Stp.val).getD undef

set_option maxRecDepth 100000 in
set_option maxHeartbeats 2000000 in
theorem back1_in (S : List Stp) (A : Option Addr) (n c Bs m : Nat) (hn : n ≤ 1000) :
    StepsK m Try.prog 175 #[.pointer (some ⟨Bs, 0, none⟩)] (fun j => #[.int .i64 (((n - 1 - j : Nat) : Int)), stpAt S (n - 1 - j)]) n
      (fun W => W.cell? ⟨Bs, 0, none⟩ = some (.slice A n c) ∧ Reads W W.heap.size 8 A n (stpCells S)) := by
  intro l J W hJ hY h0
  have hc := (hJ 0 W h0).1
  refine callsIn_of_wp Try.func175 rfl trivial ?_ rfl
  simp only [Try.ntmps175, List.size_toArray, List.length_cons, List.length_nil, Nat.reduceAdd, Nat.reduceSub, Array.replicate_succ, Array.replicate_zero, List.push_toArray, List.append_toArray, List.nil_append, List.cons_append]
  have v0 : IntKind.i64.wrap ((n : Int) - 1) = (n : Int) - 1 := IntWalk.i64_in ((n : Int) - 1) ⟨by omega, by omega⟩
  gi_wp2
  gi_loopw [3] (fun i wr => ∃ j : Nat, j ≤ n ∧ i = .int .i64 ((n : Int) - 1 - j) ∧ J j wr) (fun i _ => (intOf i + 1).toNat)
  case atStart => exact ⟨0, by omega, by simp, h0⟩
  case round =>
    obtain ⟨j, hj, rfl, hJs⟩ := hrel
    obtain ⟨hc1, hr1⟩ := hJ j wr hJs
    by_cases hlt : j < n
    · obtain ⟨q, hq⟩ : ∃ q, q + j + 1 = n := ⟨n - 1 - j, by omega⟩
      have ej : (n : Int) - 1 - (j : Int) = (q : Int) := by omega
      have eq2 : n - 1 - j = q := by omega
      obtain ⟨sb, so, s, rfl, hsb, hs, c6, c7, hcs⟩ := hr1.stp (show q < n by omega)
      have d0 : wr.cell? ⟨sb, so + q * 8, none⟩ = some (.string s.t.name) := hcs 0 _ (by omega) rfl
      have d1 : wr.cell? ⟨sb, so + q * 8 + 1, none⟩ = some (.int .i64 s.t.az) := hcs 1 _ (by omega) rfl
      have d2 : wr.cell? ⟨sb, so + q * 8 + 2, none⟩ = some (.int .i64 s.t.ht) := hcs 2 _ (by omega) rfl
      have d3 : wr.cell? ⟨sb, so + q * 8 + 3, none⟩ = some (.int .i64 s.t.fr) := hcs 3 _ (by omega) rfl
      have d4 : wr.cell? ⟨sb, so + q * 8 + 4, none⟩ = some (.int .i64 s.t.to) := hcs 4 _ (by omega) rfl
      have d5 : wr.cell? ⟨sb, so + q * 8 + 5, none⟩ = some (.int .i64 s.t.dw) := hcs 5 _ (by omega) rfl
      obtain ⟨fn, tmps, assign, body, hy, hR⟩ := hY j wr hlt hJs
      have hsv : stpAt S q = .agg #[.string s.t.name, .int .i64 s.t.az, .int .i64 s.t.ht, .int .i64 s.t.fr, .int .i64 s.t.to, .int .i64 s.t.dw, .slice s.A s.n s.c, .slice s.A' s.n s.c'] := by unfold stpAt; rw [hs]; rfl
      rw [eq2, hsv] at hy
      rw [ej]
      have hqn : (q : Int) < (n : Int) := by omega
      have v1 : IntKind.i64.wrap ((q : Int) - 1) = (q : Int) - 1 := IntWalk.i64_in ((q : Int) - 1) ⟨by omega, by omega⟩
      clear hcs hr1 hs hsv hY
      gi_wp2
      refine ⟨fun h => (by cases h), ?_⟩
      refine hR.mono ?_
      rintro e W3 ⟨rfl, hJ3⟩
      gi_wp2
      go_roundw
      case rel => exact ⟨j + 1, by omega, by congr 1; push_cast; omega, hJ3⟩
      case measure => simp [intOf]
    · obtain rfl : j = n := by omega
      have ej : (j : Int) - 1 - (j : Int) = -1 := by omega
      rw [ej]
      gi_wp2
      go_end0
      exact ⟨⟨_, rfl⟩, hJs⟩

theorem back_any (A : Option Addr) (n c : Nat) (w : World) : Calls Try.prog 147 #[.slice A n c] w fun e w' => e = .returned (.func (.func 175) #[] #[.pointer (some ⟨w.heap.size, 0, none⟩)]) ∧ w' = w.alloc (.cells #[.slice A n c] 170) := by
  have hmf : ∀ (fn : Fn) (first cap : Array Value) (w : World), (Instr.makeFunc fn first cap).run Try.prog w = .ok (.func fn first cap) w := fun _ _ _ _ => rfl
  go_enter Try.func147, Try.ntmps147
  go_wp2
  go_ret
  exact ⟨rfl, rfl⟩
end Go.Proofs.Ytdidcpealabaiaa

end
