import Derived.Test.YtdidcpealabaiaaQ20
import Derived.Test.YtdidcpealabaiaaQ19
import Derived.Test.YtdidcpealabaiaaQ14
import Derived.Test.YtdidcpealabaiaaQ17
import Derived.Test.YtdidcpealabaiaaQ18
import Derived.Test.YtdidcpealabaiaaQ9

section
/- Stores into stars in memory of their own. -/
namespace Go.Proofs.Ytdidcpealabaiaa
open Go Go.RowKit

theorem own_store {w : World} {base : Nat} {e : TypeId} {size n : Nat} {v : Value} {xs : List Value} (h : w.ownsRow base e size v n xs) (hn : 0 < n) (q : Nat) (u : Value) :
    ∃ g cap, v = .slice (some ⟨g, 0, none⟩) n cap ∧ base ≤ g ∧ g < w.heap.size ∧ w.frozen? ⟨g, q, none⟩ = false ∧ (w.setCell ⟨g, q, none⟩ u).ownsRow base e size v n (xs.set q u) := by
  obtain ⟨h1, h2⟩ := h
  rcases h2 with ⟨-, h0⟩ | ⟨g, cap, cur, hv, hg, hh, hc, hm, hs, ht⟩
  · omega
  have hb : Blk w g e cur := hh
  refine ⟨g, cap, hv, hg, hb.lt, hb.frozen q, by rw [List.length_set]; exact h1, .inr ⟨g, cap, cur.setIfInBounds q u, hv, hg, (hb.set_ q u), hc, hm, by simpa using hs, ?_⟩⟩
  rw [Array.toList_setIfInBounds, List.take_set, ht]
theorem own_other {w : World} {base base' : Nat} {e e' : TypeId} {size size' n n' g cap : Nat} {v : Value} {xs xs' : List Value} (h : w.ownsRow base e size v n xs) (h' : w.ownsRow base' e' size' (.slice (some ⟨g, 0, none⟩) n' cap) n' xs') (hne : e ≠ e') : v.ownBlock ≠ some g := by
  intro e1
  rcases h.2 with ⟨rfl, _⟩ | ⟨g1, cap, cur, rfl, hb, hh, _⟩
  · cases e1
  rcases h'.2 with ⟨h0, _⟩ | ⟨g2, cap', cur', h0, hb', hh', _⟩
  · cases h0
  have e2 : g1 = g := by simpa [Value.ownBlock] using e1
  cases h0
  subst e2
  rw [hh] at hh'
  injection hh' with h3
  injection h3 with _ h4
  exact hne h4
theorem starCells_set (z : Int) : ∀ (S : List Star) (i : Nat) (s : Star), S[i]? = some s → starCells (S.set i { s with er := z }) = (starCells S).set (i * 2 + 1) (.int .i64 z)
  | [], _, _, h => by simp at h
  | t :: S, 0, s, h => by
    obtain rfl : t = s := by simpa using h
    rfl
  | t :: S, i + 1, s, h => by
    have ih := starCells_set z S i s (by simpa using h)
    show t.cells ++ starCells (S.set i _) = (t.cells ++ starCells S).set _ _
    rw [ih, List.set_append_right _ _ (by show 2 ≤ _; omega)]
    congr 2
    show _ = (i + 1) * 2 + 1 - 2
    omega
/-- A store of an error. -/
theorem StarsOwn.store {B n i : Nat} {S : List Star} {v : Value} {w : World} {s : Star} (h : StarsOwn B S v n w) (hs : S[i]? = some s) (hn : 0 < n) (z : Int) :
    ∃ g cap, v = .slice (some ⟨g, 0, none⟩) n cap ∧ B ≤ g ∧ g < w.heap.size ∧ w.frozen? ⟨g, i * 2 + 1, none⟩ = false ∧ StarsOwn B (S.set i { s with er := z }) v n (w.setCell ⟨g, i * 2 + 1, none⟩ (.int .i64 z)) := by
  obtain ⟨g, cap, rfl, h1, h2, h3, h4⟩ := own_store h.row hn (i * 2 + 1) (.int .i64 z)
  refine ⟨g, cap, rfl, h1, h2, h3, by rw [starCells_set z S i s hs]; exact h4, fun r hr => ?_⟩
  have key : ∀ t ∈ S, t.own B (w.setCell ⟨g, i * 2 + 1, none⟩ (.int .i64 z)) := fun t ht => own_set (h.each t ht) (own_other (h.each t ht) h.row (by decide)) _
  rcases List.mem_or_eq_of_mem_set hr with hr | rfl
  · exact key r hr
  · exact key s (List.mem_of_getElem? hs)
/-- A store into another block of stars. -/
theorem StarsOwn.far {B n g q : Nat} {S : List Star} {A : Option Addr} {c : Nat} {w : World} (h : StarsOwn B S (.slice A n c) n w) (hA : ∀ b o, A = some ⟨b, o, none⟩ → b ≠ g) (ht : ∀ t ∈ S, (Value.slice t.A t.n t.c).ownBlock ≠ some g) (u : Value) : StarsOwn B S (.slice A n c) n (w.setCell ⟨g, q, none⟩ u) := by
  refine ⟨own_set h.row (fun e => ?_) _, fun t h' => own_set (h.each t h') (ht t h') _⟩
  rcases h.row.2 with ⟨h0, _⟩ | ⟨g1, cap, cur, h0, _⟩
  · cases h0; cases e
  · cases h0
    have : g1 = g := by simpa [Value.ownBlock] using e
    exact hA g1 0 rfl this
theorem stars_lay {l : List Star} {A : Option Addr} {n : Nat} {W W1 : World} (hb : Below W.heap.size W W1) {wa : World} (ha : Below wa.heap.size wa W) (h : StarsAt l A n wa) : StarsAt l A n W1 := (h.lay ha).lay hb
end Go.Proofs.Ytdidcpealabaiaa

end

section
/- The copy of a model, of the statements. -/
namespace Go.Proofs.Ytdidcpealabaiaa
open Go Go.RowKit

/-- The region that copies the terms of a model and stores the copy into the block of the result. -/
structure MdD (B n : Nat) (xs : List Value) (D : Int) (W : World) (g : Nat → Option Pick2) (f : Nat → Bool) (w' : World) : Prop where
  bel : Below B W w'
  own : ∀ x, g 2 = some x → w'.ownsRow W.heap.size 3 1 (.slice x.1.1 n x.1.2) n xs
  blk0 : f 6 = false → Blk w' B 45 #[.slice none 0 0, .int .i64 0]
  blk1 : f 6 = true → ∀ x, g 2 = some x → Blk w' B 45 #[.slice x.1.1 n x.1.2, .int .i64 D]
section
variable {B n i : Nat} {xs : List Value} {D : Int} {W w' w'' : World} {g : Nat → Option Pick2} {f : Nat → Bool}
theorem MdD.start (hB : Blk W B 45 #[.slice none 0 0, .int .i64 0]) (h6 : f 6 = false) : MdD B n xs D W (fun _ => none) f (W.drewN 1) :=
  ⟨below_drewN (Below.refl _ _) 1, fun _ h => (nomatch h), fun _ => Blk.drewN hB 1, fun e => (by rw [h6] at e; cases e)⟩
theorem MdD.same (h : MdD B n xs D W g f w') (hi : i ≠ 6) : MdD B n xs D W g (Fx.add f i) w' :=
  ⟨h.bel, h.own, fun hf => h.blk0 (by rwa [add_ne' hi] at hf), fun hf => h.blk1 (by rwa [add_ne' hi] at hf)⟩
theorem MdD.copy (h : MdD B n xs D W g f w') (hB : B < W.heap.size) (h6 : f 6 = false) (hb : Below w'.heap.size w' w'') (x : Pick2) (ho : w''.ownsRow w'.heap.size 3 1 (.slice x.1.1 n x.1.2) n xs) : MdD B n xs D W (Fx.upd g 2 x) (Fx.add f 2) w'' := by
  have hz := h.bel.size
  refine ⟨h.bel.trans (hb.mono (by omega)), fun y hy => ?_, fun _ => Blk.below (h.blk0 h6) hb (by omega), fun e => ?_⟩
  · rw [Fx.upd_same] at hy
    cases hy
    exact own_mono ho hz
  · rw [add_ne' (by decide), h6] at e; cases e
theorem MdD.store (h : MdD B n xs D W g f w') (hB : B < W.heap.size) (h6 : f 6 = false) {x : Pick2} (hx : g 2 = some x) :
    MdD B n xs D W g (Fx.add f 6) ((w'.setCell ⟨B, 0, none⟩ (.slice x.1.1 n x.1.2)).setCell ⟨B, 1, none⟩ (.int .i64 D)) := by
  refine ⟨(h.bel.setCell (p := ⟨B, 0, none⟩) (Nat.le_refl _) _).setCell (p := ⟨B, 1, none⟩) (Nat.le_refl _) _, fun y hy => ?_, fun e => ?_, fun _ y hy => ?_⟩
  · have ho := h.own y hy
    have hne : (Value.slice y.1.1 n y.1.2).ownBlock ≠ some B := fun e => by have := (own_lt ho e).1; omega
    exact own_set (own_set ho hne _) hne _
  · rw [add_same] at e; cases e
  · rw [hx] at hy
    cases hy
    have := ((h.blk0 h6).set_ 0 (.slice x.1.1 n x.1.2)).set_ 1 (.int .i64 D)
    simpa only [List.setIfInBounds_toArray, List.set_cons_zero, List.set_cons_succ] using this
end

set_option maxRecDepth 100000 in
theorem cmodel_any (A : Option Addr) (n c : Nat) (T : List Int) (D : Int) (w : World) (hx : Reads w w.heap.size 1 A n (T.map (.int .i64))) (hn : n ≤ 100000) :
    Calls Try.prog 27 #[.agg #[.slice A n c, .int .i64 D]] w fun e w' => ∃ A' c', e = .returned (.agg #[.slice A' n c', .int .i64 D]) ∧ Below w.heap.size w w' ∧ w'.ownsRow w.heap.size 3 1 (.slice A' n c') n (T.map (.int .i64)) := by
  have HX := Lib.hid hx
  clear hx
  go_enter Try.func27, Try.ntmps27
  go_wp2
  generalize hwn : ((w.alloc (.cells #[.slice A n c, .int .i64 (D)] 45)).alloc (.cells #[.slice none 0 0, .int .i64 (0)] 45)) = w1
  have hbn : Below w.heap.size w w1 := by rw [← hwn]; repeat' (first | exact Below.refl _ _ | refine below_drewN ?_ _ | refine Below.drew ?_ | refine Below.alloc ?_ (by first | omega | (simp; done) | (simp; omega) | (simp [World.setCell]; omega)) _ | refine Below.setCell ?_ (by first | omega | (simp; done) | (simp; omega)) _)
  have HB1 := Lib.hid (show Below w.heap.size w w1 from hbn)
  have K0_1 := Lib.hid (show Blk w1 (w.heap.size) 45 #[.slice A n c, .int .i64 (D)] by rw [← hwn]; repeat' (first | exact Blk.at_ _ (by first | rfl | (simp; done) | (simp; omega)) _ _ | refine Blk.drewN ?_ _ | refine Blk.drew ?_ | refine Blk.alloc ?_ _ | refine Blk.far ?_ (by first | omega | (simp; done) | (simp; omega)) _ | assumption))
  have K1_1 := Lib.hid (show Blk w1 (w.heap.size + 1) 45 #[.slice none 0 0, .int .i64 (0)] by rw [← hwn]; repeat' (first | exact Blk.at_ _ (by first | rfl | (simp; done) | (simp; omega)) _ _ | refine Blk.drewN ?_ _ | refine Blk.drew ?_ | refine Blk.alloc ?_ _ | refine Blk.far ?_ (by first | omega | (simp; done) | (simp; omega)) _ | assumption))
  have HN1 := Lib.hid hbn
  have hz1 := hbn.size
  clear hwn hbn
  have l0_1 : w.heap.size < w1.heap.size := K0_1.out.lt
  have z0_0_1 : w1.cell? ⟨w.heap.size, 0, none⟩ = some (.slice A n c) := K0_1.out.cell 0
  have z0_1_1 : w1.cell? ⟨w.heap.size, 1, none⟩ = some (.int .i64 (D)) := K0_1.out.cell 1
  have l1_1 : w.heap.size + 1 < w1.heap.size := K1_1.out.lt
  have z1_0_1 : w1.cell? ⟨w.heap.size + 1, 0, none⟩ = some (.slice none 0 0) := K1_1.out.cell 0
  have z1_1_1 : w1.cell? ⟨w.heap.size + 1, 1, none⟩ = some (.int .i64 (0)) := K1_1.out.cell 1
  have hB := K1_1.out.lt
  refine Fx.regionM (fun W (g : Nat → Option Pick2) f w' => MdD (w.heap.size + 1) n (T.map (.int .i64)) D W g f w') (fun i (x : Pick2) => .slice x.1.1 n x.1.2) (by kernel_rfl) ?_ ?_
  · intro f hf0
    exact MdD.start K1_1.out (hf0 6)
  first
  | (refine Fx.WM.skip 0 (by rfl) (by kernel_rfl) (by kernel_rfl) (by kernel_rfl) (by rfl) (fun g f w h => h.same (by decide)) ?_; simp only [Act.put, List.setIfInBounds_toArray, List.set_cons_zero, List.set_cons_succ])
  | (refine Fx.WM.val_ 0 ?_ (by rfl) (by kernel_rfl) (by kernel_rfl) (by kernel_rfl) (by rfl) ?_ (fun g f w h => h.same (by decide)) ?_
     rotate_left
     · intro g f w' hx hD hk
       obtain hmd := id hD
       have kk := Blk.below K0_1.out hmd.bel (by omega)
       have y0 := kk.cell 0
       have y1 := kk.cell 1
       clear hx hk hD hmd kk
       go_simp
       try rfl
     simp only [Act.put, List.setIfInBounds_toArray, List.set_cons_zero, List.set_cons_succ])
  first
  | (refine Fx.WM.skip 1 (by rfl) (by kernel_rfl) (by kernel_rfl) (by kernel_rfl) (by rfl) (fun g f w h => h.same (by decide)) ?_; simp only [Act.put, List.setIfInBounds_toArray, List.set_cons_zero, List.set_cons_succ])
  | (refine Fx.WM.val_ 1 ?_ (by rfl) (by kernel_rfl) (by kernel_rfl) (by kernel_rfl) (by rfl) ?_ (fun g f w h => h.same (by decide)) ?_
     rotate_left
     · intro g f w' hx hD hk
       obtain hmd := id hD
       have kk := Blk.below K0_1.out hmd.bel (by omega)
       have y0 := kk.cell 0
       have y1 := kk.cell 1
       clear hx hk hD hmd kk
       go_simp
       try rfl
     simp only [Act.put, List.setIfInBounds_toArray, List.set_cons_zero, List.set_cons_succ])
  first
  | (refine Fx.WM.skip 3 (by rfl) (by kernel_rfl) (by kernel_rfl) (by kernel_rfl) (by rfl) (fun g f w h => h.same (by decide)) ?_; simp only [Act.put, List.setIfInBounds_toArray, List.set_cons_zero, List.set_cons_succ])
  | (refine Fx.WM.val_ 3 ?_ (by rfl) (by kernel_rfl) (by kernel_rfl) (by kernel_rfl) (by rfl) ?_ (fun g f w h => h.same (by decide)) ?_
     rotate_left
     · intro g f w' hx hD hk
       obtain hmd := id hD
       have kk := Blk.below K0_1.out hmd.bel (by omega)
       have y0 := kk.cell 0
       have y1 := kk.cell 1
       clear hx hk hD hmd kk
       go_simp
       try rfl
     simp only [Act.put, List.setIfInBounds_toArray, List.set_cons_zero, List.set_cons_succ])
  first
  | (refine Fx.WM.skip 4 (by rfl) (by kernel_rfl) (by kernel_rfl) (by kernel_rfl) (by rfl) (fun g f w h => h.same (by decide)) ?_; simp only [Act.put, List.setIfInBounds_toArray, List.set_cons_zero, List.set_cons_succ])
  | (refine Fx.WM.val_ 4 ?_ (by rfl) (by kernel_rfl) (by kernel_rfl) (by kernel_rfl) (by rfl) ?_ (fun g f w h => h.same (by decide)) ?_
     rotate_left
     · intro g f w' hx hD hk
       obtain hmd := id hD
       have kk := Blk.below K0_1.out hmd.bel (by omega)
       have y0 := kk.cell 0
       have y1 := kk.cell 1
       clear hx hk hD hmd kk
       go_simp
       try rfl
     simp only [Act.put, List.setIfInBounds_toArray, List.set_cons_zero, List.set_cons_succ])
  refine Fx.WM.choose 2 (by rfl) (by kernel_rfl) (by rfl) ?_ ?_
  · skip
    refine Fx.Chooses.call ?_ ?_ (by rfl) ?_ ?_
    rotate_left 2
    · intro w'
      go_simp
      refine ⟨?_, ?_⟩ <;> rfl
    · intro f w' hD hk
      exact (copyints_any A n c w'.heap.size T w' ((HX.out.below (HB1.out.trans (hD.bel.mono (by omega)))).more (HB1.out.trans (hD.bel.mono (by omega))).size) (Nat.le_refl _) (by omega)).mono fun e w'' ⟨A', c', he, hb, hr, ho⟩ => ⟨((A', c'), (none, 0)), he, hD.copy hB (hk.2.1 6 (by kernel_rfl)) hb _ ho⟩
  intro x
  simp only [Act.put, List.setIfInBounds_toArray, List.set_cons_zero, List.set_cons_succ]
  first
  | (refine Fx.WM.skip 5 (by rfl) (by kernel_rfl) (by kernel_rfl) (by kernel_rfl) (by rfl) (fun g f w h => h.same (by decide)) ?_; simp only [Act.put, List.setIfInBounds_toArray, List.set_cons_zero, List.set_cons_succ])
  | (refine Fx.WM.val_ 5 ?_ (by rfl) (by kernel_rfl) (by kernel_rfl) (by kernel_rfl) (by rfl) ?_ (fun g f w h => h.same (by decide)) ?_
     rotate_left
     · intro g f w' hx hD hk
       obtain hmd := id hD
       have kk := Blk.below K0_1.out hmd.bel (by omega)
       have y0 := kk.cell 0
       have y1 := kk.cell 1
       clear hx hk hD hmd kk
       go_simp
       try rfl
     simp only [Act.put, List.setIfInBounds_toArray, List.set_cons_zero, List.set_cons_succ])
  refine Fx.WM.eff 6 undef (by rfl) (by kernel_rfl) (by kernel_rfl) (by kernel_rfl) (by rfl) ?_ ?_
  · intro g f w' hx hD hk
    have kb := hD.blk0 hk.1
    have e0 := kb.cell 0
    have e1 := kb.cell 1
    have r4 := kb.frozen 0
    have r5 := kb.frozen 1
    refine Fx.gives_skip (w' := ((w'.setCell ⟨w.heap.size + 1, 0, none⟩ (.slice x.1.1 n x.1.2)).setCell ⟨w.heap.size + 1, 1, none⟩ (.int .i64 D))) ?_ ?_
    · clear hx hk hD kb
      go_simp
      try rfl
    · exact hD.store hB hk.1 (hx 2 _ (by rfl))
  simp only [Act.put, List.setIfInBounds_toArray, List.set_cons_zero, List.set_cons_succ]
  refine Fx.WM.nil (by kernel_rfl) ?_
  intro wz hmd
  have hq := hmd.blk1 (by rfl) x (by rfl)
  have ho := hmd.own x (by rfl)
  have hbz := HB1.out.trans (hmd.bel.mono (show w.heap.size ≤ w.heap.size + 1 by omega))
  have HO := Lib.hid (own_mono ho HB1.out.size)
  clear hmd ho
  obtain ⟨w2, hnm⟩ : ∃ z : World, z = wz := ⟨_, rfl⟩
  subst hnm
  have HB2 := Lib.hid hbz
  have K0_2 := Lib.hid (show Blk w2 (w.heap.size + 1) 45 #[.slice x.1.1 n x.1.2, .int .i64 (D)] from hq)
  clear hbz hq
  have l0_2 : w.heap.size + 1 < w2.heap.size := K0_2.out.lt
  have z0_0_2 : w2.cell? ⟨w.heap.size + 1, 0, none⟩ = some (.slice x.1.1 n x.1.2) := K0_2.out.cell 0
  have z0_1_2 : w2.cell? ⟨w.heap.size + 1, 1, none⟩ = some (.int .i64 (D)) := K0_2.out.cell 1
  go_wp2
  exact bodyPost_ret (v := .agg #[.slice x.1.1 n x.1.2, .int .i64 D]) (by simp [results, Try.results27, go_sem, z0_0_2, z0_1_2, l0_2]) rfl ⟨_, _, rfl, HB2.out, HO.out⟩
end Go.Proofs.Ytdidcpealabaiaa

end

section
/- The plain law of exact errors: Gram determinants, Cramer's rule, doubling. -/
namespace Go.Proofs.Ytdidcpealabaiaa
open Go Go.RowKit

/-- Sums over all stars. -/
def nrm (l : List Star) (i k : Nat) : Int := (l.map fun s => shp s i * shp s k).sum
def rgt (l : List Star) (i : Nat) : Int := (l.map fun s => shp s i * s.er).sum
theorem nrmTo_all (l : List Star) (i k : Nat) : nrmTo l l.length i k = nrm l i k := by unfold nrmTo nrm; rw [List.take_length]
theorem rgtTo_all (l : List Star) (i : Nat) : rgtTo l l.length i = rgt l i := by unfold rgtTo rgt; rw [List.take_length]
theorem nrm_sym (l : List Star) (i k : Nat) : nrm l i k = nrm l k i := by
  unfold nrm
  congr 1
  exact List.map_congr_left fun s _ => Int.mul_comm _ _
theorem nrm_cons (s : Star) (l : List Star) (i k : Nat) : nrm (s :: l) i k = shp s i * shp s k + nrm l i k := rfl
theorem rgt_cons (s : Star) (l : List Star) (i : Nat) : rgt (s :: l) i = shp s i * s.er + rgt l i := rfl
/-- The squares of the sums of shapes. -/
def quad (l : List Star) (u v w : Int) : Int := (l.map fun s => (u * shp s 0 + v * shp s 1 + w * shp s 2) * (u * shp s 0 + v * shp s 1 + w * shp s 2)).sum
theorem quad_cons (s : Star) (l : List Star) (u v w : Int) : quad (s :: l) u v w = (u * shp s 0 + v * shp s 1 + w * shp s 2) * (u * shp s 0 + v * shp s 1 + w * shp s 2) + quad l u v w := rfl
theorem sq_nonneg (x : Int) : 0 ≤ x * x := by
  have : x * x = ((x.natAbs * x.natAbs : Nat) : Int) := (Int.natAbs_mul_self).symm
  omega
theorem quad_eq (u v w : Int) : ∀ (l : List Star), quad l u v w = u * u * nrm l 0 0 + v * v * nrm l 1 1 + w * w * nrm l 2 2 + 2 * (u * v * nrm l 0 1) + 2 * (u * w * nrm l 0 2) + 2 * (v * w * nrm l 1 2)
  | [] => by simp [quad, nrm]
  | s :: l => by
    rw [quad_cons, quad_eq u v w l]
    simp only [nrm_cons]
    grind
theorem quad_nonneg (u v w : Int) : ∀ (l : List Star), 0 ≤ quad l u v w
  | [] => by simp [quad]
  | s :: l => by
    have h1 := quad_nonneg u v w l
    have h2 := sq_nonneg (u * shp s 0 + v * shp s 1 + w * shp s 2)
    rw [quad_cons]
    omega
theorem quad_zero (u v w : Int) : ∀ (l : List Star), quad l u v w = 0 → ∀ s ∈ l, u * shp s 0 + v * shp s 1 + w * shp s 2 = 0
  | [], _ => by simp
  | s :: l, h => by
    have h1 := quad_nonneg u v w l
    have h2 := sq_nonneg (u * shp s 0 + v * shp s 1 + w * shp s 2)
    rw [quad_cons] at h
    intro x hx
    rcases List.mem_cons.1 hx with rfl | hx
    · have : (u * shp x 0 + v * shp x 1 + w * shp x 2) * (u * shp x 0 + v * shp x 1 + w * shp x 2) = 0 := by omega
      rcases Int.mul_eq_zero.1 this with h | h <;> exact h
    · exact quad_zero u v w l (by omega) x hx
theorem kern (u v w : Int) (i : Nat) : ∀ (l : List Star), (∀ s ∈ l, u * shp s 0 + v * shp s 1 + w * shp s 2 = 0) → u * nrm l i 0 + v * nrm l i 1 + w * nrm l i 2 = 0
  | [], _ => by simp [nrm]
  | s :: l, h => by
    have ih := kern u v w i l fun x hx => h x (List.mem_cons_of_mem _ hx)
    have h0 := h s (by simp)
    simp only [nrm_cons]
    have : u * (shp s i * shp s 0 + nrm l i 0) + v * (shp s i * shp s 1 + nrm l i 1) + w * (shp s i * shp s 2 + nrm l i 2)
        = shp s i * (u * shp s 0 + v * shp s 1 + w * shp s 2) + (u * nrm l i 0 + v * nrm l i 1 + w * nrm l i 2) := by grind
    rw [this, ih, h0]
    simp

theorem gram1 (l : List Star) : 0 ≤ nrm l 0 0 := by
  have h := quad_nonneg 1 0 0 l
  rw [quad_eq] at h
  simp at h
  exact h
theorem gram1_zero (l : List Star) (h : nrm l 0 0 = 0) (i : Nat) : nrm l i 0 = 0 := by
  have h1 := quad_zero 1 0 0 l (by rw [quad_eq, h]; simp)
  have h2 := kern 1 0 0 i l h1
  simpa using h2
def gr2 (l : List Star) : Int := nrm l 0 0 * nrm l 1 1 - nrm l 1 0 * nrm l 0 1
theorem nonneg_of_mul {a b : Int} (ha : 0 < a) (h : 0 ≤ a * b) : 0 ≤ b := by
  rcases Int.lt_or_le b 0 with hb | hb
  · have := Int.mul_neg_of_pos_of_neg ha hb
    omega
  · exact hb
theorem ring2 (a b c d e f : Int) : -b * -b * a + a * a * d + 0 * 0 * f + 2 * (-b * a * b) + 2 * (-b * 0 * c) + 2 * (a * 0 * e) = a * (a * d - b * b) := by grind
theorem ring3 (a b c d e f : Int) : (b * e - c * d) * (b * e - c * d) * a + (b * c - a * e) * (b * c - a * e) * d + (a * d - b * b) * (a * d - b * b) * f
    + 2 * ((b * e - c * d) * (b * c - a * e) * b) + 2 * ((b * e - c * d) * (a * d - b * b) * c) + 2 * ((b * c - a * e) * (a * d - b * b) * e)
    = (a * d - b * b) * det3E a b c b d e c e f := by unfold det3E; grind
theorem ring3z (a b c d e f : Int) : a * det3E a b c b d e c e f = (a * d - b * b) * (a * f - c * c) - (-b * c + a * e + 0 * f) * (-b * c + a * e + 0 * f) := by unfold det3E; grind
theorem gram2 (l : List Star) : 0 ≤ gr2 l := by
  have h1 := gram1 l
  rcases Int.lt_or_le 0 (nrm l 0 0) with hp | hp
  · have h := quad_nonneg (-nrm l 0 1) (nrm l 0 0) 0 l
    rw [quad_eq, ring2] at h
    unfold gr2
    rw [nrm_sym l 1 0]
    exact nonneg_of_mul hp h
  · have h0 : nrm l 0 0 = 0 := by omega
    have hs := gram1_zero l h0 1
    unfold gr2
    rw [h0, hs]
    simp
theorem gram3 (l : List Star) : 0 ≤ det3E (nrm l 0 0) (nrm l 0 1) (nrm l 0 2) (nrm l 1 0) (nrm l 1 1) (nrm l 1 2) (nrm l 2 0) (nrm l 2 1) (nrm l 2 2) := by
  have h2 := gram2 l
  have e1 := gram1_zero l
  unfold gr2 at h2
  rcases Int.lt_or_le 0 (nrm l 0 0 * nrm l 1 1 - nrm l 1 0 * nrm l 0 1) with hp | hp
  · have h := quad_nonneg (nrm l 0 1 * nrm l 1 2 - nrm l 0 2 * nrm l 1 1) (nrm l 0 1 * nrm l 0 2 - nrm l 0 0 * nrm l 1 2) (nrm l 0 0 * nrm l 1 1 - nrm l 0 1 * nrm l 0 1) l
    rw [quad_eq, ring3] at h
    rw [nrm_sym l 1 0, nrm_sym l 2 0, nrm_sym l 2 1]
    rw [nrm_sym l 1 0] at hp
    exact nonneg_of_mul hp h
  · have h0 : nrm l 0 0 * nrm l 1 1 - nrm l 1 0 * nrm l 0 1 = 0 := by omega
    rw [nrm_sym l 1 0] at h0
    have q : quad l (-nrm l 0 1) (nrm l 0 0) 0 = 0 := by rw [quad_eq, ring2, h0]; simp
    have k2 := kern _ _ _ 2 l (quad_zero _ _ _ l q)
    rw [nrm_sym l 2 0, nrm_sym l 2 1] at k2
    rcases Int.lt_or_le 0 (nrm l 0 0) with hz | hz
    · have h := ring3z (nrm l 0 0) (nrm l 0 1) (nrm l 0 2) (nrm l 1 1) (nrm l 1 2) (nrm l 2 2)
      rw [h0, k2] at h
      rw [nrm_sym l 1 0, nrm_sym l 2 0, nrm_sym l 2 1]
      exact nonneg_of_mul hz (by rw [h]; simp)
    · have hz : nrm l 0 0 = 0 := by have := gram1 l; omega
      unfold det3E
      rw [hz, e1 hz 1, e1 hz 2]
      simp

/-- The determinant of the normal equations of N terms. -/
theorem fitM_one (l : List Star) : fitM l 1 = [[nrm l 0 0]] := by simp [fitM, colL, nrmTo_all, List.range_succ]
theorem fitM_two (l : List Star) : fitM l 2 = [[nrm l 0 0, nrm l 0 1], [nrm l 1 0, nrm l 1 1]] := by simp [fitM, colL, nrmTo_all, List.range_succ]
theorem fitM_three (l : List Star) : fitM l 3 = [[nrm l 0 0, nrm l 0 1, nrm l 0 2], [nrm l 1 0, nrm l 1 1, nrm l 1 2], [nrm l 2 0, nrm l 2 1, nrm l 2 2]] := by simp [fitM, colL, nrmTo_all, List.range_succ]
theorem rgtL_one (l : List Star) : rgtL l 1 = [rgt l 0] := by simp [rgtL, rgtTo_all, List.range_succ]
theorem rgtL_two (l : List Star) : rgtL l 2 = [rgt l 0, rgt l 1] := by simp [rgtL, rgtTo_all, List.range_succ]
theorem rgtL_three (l : List Star) : rgtL l 3 = [rgt l 0, rgt l 1, rgt l 2] := by simp [rgtL, rgtTo_all, List.range_succ]
theorem gram_nonneg (l : List Star) {N : Nat} (h1 : 1 ≤ N) (h3 : N ≤ 3) : 0 ≤ detM (fitM l N) := by
  rcases (show N = 1 ∨ N = 2 ∨ N = 3 by omega) with rfl | rfl | rfl
  · rw [fitM_one]; exact gram1 l
  · rw [fitM_two]; exact gram2 l
  · rw [fitM_three]; exact gram3 l
/-- What a model of whole terms predicts. -/
def dotS (t : List Int) (s : Star) : Int := t.getD 0 0 * shp s 0 + t.getD 1 0 * shp s 1 + t.getD 2 0 * shp s 2
theorem fitM_congr {l m : List Star} (h : l.map Star.xs = m.map Star.xs) (N : Nat) : fitM l N = fitM m N := by
  have hn : ∀ i k, nrm l i k = nrm m i k := by
    intro i k
    have e : ∀ x : List Star, nrm x i k = ((x.map Star.xs).map fun r => r.getD i 0 * r.getD k 0).sum := by
      intro x; unfold nrm shp; rw [List.map_map]; rfl
    rw [e, e, h]
  unfold fitM colL
  refine List.map_congr_left fun i _ => List.map_congr_left fun k _ => ?_
  rw [nrmTo_all, nrmTo_all, hn]
theorem termsN_congr {l m : List Star} (h : l.map Star.xs = m.map Star.xs) : termsN l = termsN m := by
  have := congrArg (fun z => z[0]?) h
  simp only [List.getElem?_map] at this
  unfold termsN
  cases h1 : l[0]? <;> cases h2 : m[0]? <;> simp_all
theorem fit_ok {l : List Star} (h : (fitF l).2 = 0) : detM (fitM l (termsN l)) ≠ 0 ∧ (fitF l).1.1 = (fitT l (termsN l)).map (· / fitG l (termsN l)) ∧ (fitF l).1.2 = detM (fitM l (termsN l)) / fitG l (termsN l) := by
  unfold fitF at h ⊢
  by_cases h0 : detM (fitM l (termsN l)) = 0
  · rw [if_pos h0] at h; cases h
  rw [if_neg h0] at h ⊢
  split at h
  · cases h
  · rename_i h2
    rw [if_neg h2]
    exact ⟨h0, rfl, rfl⟩
/-- The check of stars looks at shapes and errors alone. -/
theorem starErr_alike {s t : Star} (h : (s.xs, s.er) = (t.xs, t.er)) (n : Nat) : starErr n s = starErr n t := by
  have h1 : s.xs = t.xs := congrArg Prod.fst h
  have h2 : s.er = t.er := congrArg Prod.snd h
  unfold starErr
  rw [h1, h2]
theorem first_alike (N : Nat) : ∀ (S l : List Star) (i : Nat), S.map (fun s => (s.xs, s.er)) = l.map (fun s => (s.xs, s.er)) → firstStep (fun _ s => starErr N s) i S = firstStep (fun _ s => starErr N s) i l
  | [], [], _, _ => rfl
  | [], _ :: _, _, h => by simp at h
  | _ :: _, [], _, h => by simp at h
  | s :: S, t :: l, i, h => by
    have h1 : (s.xs, s.er) = (t.xs, t.er) := by
      have := (List.cons.inj (by simpa only [List.map_cons] using h)).1
      exact this
    have h2 := (List.cons.inj (by simpa only [List.map_cons] using h)).2
    have ih := first_alike N S l (i + 1) h2
    unfold firstStep
    rw [starErr_alike h1 N, ih]
theorem stars_alike {S l : List Star} {T E : Int} (h : S.map (fun s => (s.xs, s.er)) = l.map (fun s => (s.xs, s.er))) (hE : starsF l = (T, E)) : starsF S = (T, E) := by
  have hl : S.length = l.length := by simpa using congrArg List.length h
  have hx : S.map Star.xs = l.map Star.xs := by
    have := congrArg (List.map Prod.fst) h
    rw [List.map_map, List.map_map] at this
    exact this
  rw [← hE]
  unfold starsF
  rw [hl, termsN_congr hx, first_alike (termsN l) S l 0 h]
/-- The first k products of terms and shapes. -/
def dotP (ts xs : List Int) (k : Nat) : Int := (((ts.zip xs).take k).map fun p => p.1 * p.2).sum
theorem dotP_all {ts : List Int} {s : Star} (h : s.xs.length = ts.length) (h3 : ts.length ≤ 3) : dotP ts s.xs ts.length = dotS ts s := by
  obtain ⟨A, n, c, xs, er⟩ := s
  simp only at h
  unfold dotP dotS shp
  match ts, xs, h, h3 with
  | [], [], _, _ => simp
  | [a], [x], _, _ => simp
  | [a, b], [x, y], _, _ => simp
  | [a, b, d], [x, y, z], _, _ => simp; omega
end Go.Proofs.Ytdidcpealabaiaa

end

section
/- The walk of the statement on the check of models and on predictions. -/
namespace Go.Proofs.Ytdidcpealabaiaa
open Go Go.RowKit

/-- What is known of copies: of stars (operation ci), of a model (operation ki). -/
def PfM (l : List Star) (n : Nat) (T : List Int) (m ci ki : Nat) (i : Nat) (x : Pick2) (w : World) : Prop :=
  (i = ci → ∃ S : List Star, S.map (fun s => (s.xs, s.er)) = l.map (fun s => (s.xs, s.er)) ∧ StarsAt S x.1.1 n w) ∧ (i = ki → Reads w w.heap.size 1 x.1.1 m (T.map (.int .i64)))
theorem PfM.stb {l : List Star} {n : Nat} {T : List Int} {m ci ki : Nat} : Stb (PfM l n T m ci ki) := fun _ _ _ _ hb h =>
  ⟨fun e => by obtain ⟨S, h1, h2⟩ := h.1 e; exact ⟨S, h1, h2.lay hb⟩, fun e => ((h.2 e).below hb).more hb.size⟩
theorem chk_alike {S l : List Star} (h : S.map (fun s => (s.xs, s.er)) = l.map (fun s => (s.xs, s.er))) (T : List Int) (D : Int) : chkErr S T D = chkErr l T D := by
  obtain ⟨⟨T0, E0⟩, hE⟩ : ∃ z, starsF l = z := ⟨_, rfl⟩
  have hS := stars_alike h hE
  have hx : S.map Star.xs = l.map Star.xs := by
    have := congrArg (List.map Prod.fst) h
    rw [List.map_map, List.map_map] at this
    exact this
  have hN := termsN_congr hx
  have hl : S.length = l.length := by simpa using congrArg List.length h
  have hc : ∀ k q, chkTo S T D k q = chkTo l T D k q := fun k q => by
    have e : ∀ L : List Star, (L.take q).map (chkS T D k) = ((L.map (fun s => (s.xs, s.er))).take q).map (fun p : List Int × Int => p.1.getD k 0 * (p.2 * D - dotTo T p.1 T.length)) := fun L => by
      rw [← List.map_take, List.map_map]; rfl
    unfold chkTo
    rw [e, e, h]
  unfold chkErr fitErr
  rw [hE, hS, hN, hl]
  simp only [hc]
theorem pcheckfit_like {l : List Star} {n m : Nat} {T : List Int} {D E : Int} (hE : chkErr l T D = E) (A : Option Addr) (c : Nat) (B : Option Addr) (cb : Nat) (w : World) (hx : ∃ S : List Star, S.map (fun s => (s.xs, s.er)) = l.map (fun s => (s.xs, s.er)) ∧ StarsAt S A n w) (hy : Reads w w.heap.size 1 B m (T.map (.int .i64))) (hn : n ≤ 9223372036854775807) (hm : m ≤ 9223372036854775807) :
    Calls Try.prog 28 #[.slice A n c, .agg #[.slice B m cb, .int .i64 D]] w fun e w' => e = .returned (.int .i64 E) ∧ Below w.heap.size w w' := by
  obtain ⟨S, h1, h2⟩ := hx
  exact pcheckfit_is S A n c B m cb T D E (by rw [chk_alike h1, hE]) w h2 hy hn hm

end Go.Proofs.Ytdidcpealabaiaa

end

section
/- Determinants by the first row: plain law. -/
namespace Go.Proofs.Ytdidcpealabaiaa
open Go Go.RowKit

def sgn (c : Nat) : Int := if c % 2 = 0 then 1 else -1
theorem sgn_succ (c : Nat) : sgn (c + 1) = -sgn c := by unfold sgn; split <;> split <;> omega
theorem sgn_in (c : Nat) : -1 ≤ sgn c ∧ sgn c ≤ 1 := by unfold sgn; split <;> omega
def cut (c : Nat) (r : List Int) : List Int := r.take c ++ r.drop (c + 1)
def minorM (c : Nat) (M : List (List Int)) : List (List Int) := (M.drop 1).map (cut c)
def detR : Nat → List (List Int) → Int
  | 0, _ => 1
  | n + 1, M => ((List.range (n + 1)).map fun c => sgn c * (M.headD []).getD c 0 * detR n (minorM c M)).sum
def detTo (n : Nat) (M : List (List Int)) (k : Nat) : Int := ((List.range k).map fun c => sgn c * (M.headD []).getD c 0 * detR n (minorM c M)).sum
theorem detTo_zero (n : Nat) (M : List (List Int)) : detTo n M 0 = 0 := rfl
theorem detTo_succ (n : Nat) (M : List (List Int)) (k : Nat) : detTo n M (k + 1) = detTo n M k + sgn k * (M.headD []).getD k 0 * detR n (minorM k M) := by
  unfold detTo
  rw [List.range_succ, List.map_append, List.sum_append]
  simp
def InW (z : Int) : Prop := -9223372036854775808 ≤ z ∧ z ≤ 9223372036854775807
/-- No step of the computation leaves the numbers. -/
def DetOk : Nat → List (List Int) → Prop
  | 0, _ => True
  | n + 1, M => ∀ c, c < n + 1 → InW (sgn c * (M.headD []).getD c 0) ∧ InW (sgn c * (M.headD []).getD c 0 * detR n (minorM c M)) ∧ InW (detTo n M (c + 1)) ∧ DetOk n (minorM c M)
end Go.Proofs.Ytdidcpealabaiaa

end
