import Derived.Test.YtgamepmipoociaaQ29
import Derived.Test.YtgamepmipoociaaQ26

section
/- Copies of stars and of a model, each in memory of its own. -/
namespace Go.Proofs.Ytgamepmipoociaa
open Go Go.RowKit

def Star.own (B : Nat) (w : World) (r : Star) : Prop := w.ownsRow B 3 1 (.slice r.A r.n r.c) r.n (r.xs.map (.int .i64))
/-- Stars in memory of their own. -/
structure StarsOwn (B : Nat) (S : List Star) (u : Value) (k : Nat) (w : World) : Prop where
  row : w.ownsRow B 121 2 u k (starCells S)
  each : ∀ r ∈ S, r.own B w
theorem StarsOwn.nil (B : Nat) (w : World) : StarsOwn B [] (.slice none 0 0) 0 w := ⟨World.ownsRow_nil _ _ _ _, fun _ h => absurd h (by simp)⟩
theorem StarsOwn.below {B : Nat} {S : List Star} {u : Value} {k : Nat} {w w' : World} (h : StarsOwn B S u k w) (hb : Below w.heap.size w w') : StarsOwn B S u k w' :=
  ⟨own_below h.row hb (Nat.le_refl _), fun r hr => own_below (h.each r hr) hb (Nat.le_refl _)⟩
theorem StarsOwn.at_ {B : Nat} {S : List Star} {A : Option Addr} {k c : Nat} {w : World} (h : StarsOwn B S (.slice A k c) k w) : StarsAt S A k w :=
  ⟨own_reads2 h.row, fun r hr => ⟨own_cap (h.each r hr), own_reads2 (h.each r hr)⟩⟩
theorem starCells_snoc (S : List Star) (s : Star) : starCells (S ++ [s]) = starCells S ++ s.cells := by unfold starCells; simp

structure SrD (B k : Nat) (u : Value) (S : List Star) (xs : List Int) (er : Int) (sn : Nat) (W : World) (g : Nat → Option Pick2) (f : Nat → Bool) (w' : World) : Prop where
  bel : Below B W w'
  pre : f 14 = false → Below W.heap.size W w'
  c6 : f 14 = false → ∀ x, g 6 = some x → w'.ownsRow B 3 1 (.slice x.1.1 sn x.1.2) sn (xs.map (.int .i64))
  c13 : f 14 = false → ∀ x y, g 6 = some x → g 13 = some y → ∃ q, y.1.1 = some ⟨q, 0, none⟩ ∧ Blk w' q 121 #[.slice x.1.1 sn x.1.2, .int .i64 er]
  post : ∀ x z, g 6 = some x → g 14 = some z → StarsOwn B (S ++ [⟨x.1.1, sn, x.1.2, xs, er⟩]) (.slice z.1.1 (k + 1) z.1.2) (k + 1) w'
section
variable {B k sn i : Nat} {u : Value} {S : List Star} {xs : List Int} {er : Int} {W w' w'' : World} {g : Nat → Option Pick2} {f : Nat → Bool}
theorem SrD.start : SrD B k u S xs er sn W (fun _ => none) f (W.drewN 1) := ⟨below_drewN (Below.refl _ _) 1, fun _ => below_drewN (Below.refl _ _) 1, fun _ _ h => (nomatch h), fun _ _ _ h => (nomatch h), fun _ _ h => (nomatch h)⟩
theorem SrD.same (h : SrD B k u S xs er sn W g f w') (hi : i ≠ 14) : SrD B k u S xs er sn W g (Fx.add f i) w' :=
  ⟨h.bel, fun hf => h.pre (by rwa [add_ne' hi] at hf), fun hf => h.c6 (by rwa [add_ne' hi] at hf), fun hf => h.c13 (by rwa [add_ne' hi] at hf), h.post⟩
theorem SrD.copy (h : SrD B k u S xs er sn W g f w') (hB : B ≤ W.heap.size) (h14 : f 14 = false) (g13 : g 13 = none) (g14 : g 14 = none) (hb : Below w'.heap.size w' w'') (x : Pick2) (ho : w''.ownsRow w'.heap.size 3 1 (.slice x.1.1 sn x.1.2) sn (xs.map (.int .i64))) :
    SrD B k u S xs er sn W (Fx.upd g 6 x) (Fx.add f 6) w'' := by
  have hz := (h.pre h14).size
  refine ⟨h.bel.trans (hb.mono (by omega)), fun _ => step_below hb (h.pre h14), fun _ y hy => ?_, fun _ y z hy hz => ?_, fun y z hy hz => ?_⟩
  · rw [Fx.upd_same] at hy
    cases hy
    exact own_mono ho (by omega)
  · rw [upd_ne (by decide), g13] at hz
    cases hz
  · rw [upd_ne (by decide), g14] at hz
    cases hz
theorem SrD.lit (h : SrD B k u S xs er sn W g f w') (hB : B ≤ W.heap.size) (h14 : f 14 = false) (g14 : g 14 = none) {x : Pick2} (hx : g 6 = some x) :
    SrD B k u S xs er sn W (Fx.upd g 13 ((some ⟨w'.heap.size, 0, none⟩, 1), (none, 0))) (Fx.add f 13) (w'.alloc (.cells #[.slice x.1.1 sn x.1.2, .int .i64 er] 121)) := by
  have hb : Below w'.heap.size w' (w'.alloc (.cells #[.slice x.1.1 sn x.1.2, .int .i64 er] 121)) := (Below.refl _ _).alloc (Nat.le_refl _) _
  have hz := (h.pre h14).size
  refine ⟨h.bel.trans (hb.mono (by omega)), fun _ => step_below hb (h.pre h14), fun _ y hy => ?_, fun _ y z hy hz => ?_, fun y z hy hz => ?_⟩
  · rw [upd_ne (by decide)] at hy
    exact own_below (h.c6 h14 y hy) hb (Nat.le_refl _)
  · rw [upd_ne (by decide), hx] at hy
    cases hy
    rw [Fx.upd_same] at hz
    cases hz
    exact ⟨_, rfl, Blk.new _ _ _⟩
  · rw [upd_ne (by decide), g14] at hz
    cases hz
theorem info_star : (Try.prog.info? 121).map (fun i => (i.zero, i.size, i.bytes)) = some (some (.agg #[.slice none 0 0, .int .i64 0]), 2, 32) := by kernel_rfl
theorem one_stars (l : List Star) : ∀ u ∈ starCells l, u.oneCell' = true := by
  intro u hu
  unfold starCells at hu
  rw [List.mem_flatMap] at hu
  obtain ⟨p, -, hp⟩ := hu
  simp [Star.cells] at hp
  rcases hp with rfl | rfl <;> rfl
theorem SrD.app (h : SrD B k u S xs er sn W g f w') (hB : B ≤ W.heap.size) (hS : StarsOwn B S u k W) (hk : k ≤ 100000) (h14 : f 14 = false) {x y : Pick2} (hx : g 6 = some x) (hy : g 13 = some y) :
    ∃ (z : Pick2) (w'' : World), (Builtin.append_ #[97, 97] 97 #[u, .slice y.1.1 1 1]).run Try.prog w' = .ok (.slice z.1.1 (k + 1) z.1.2) w'' ∧ SrD B k u S xs er sn W (Fx.upd g 14 z) (Fx.add f 14) w'' := by
  obtain ⟨i0, hi0, hz0, hz1, hz2⟩ := info_parts info_star
  obtain ⟨q, hq, hblk⟩ := h.c13 h14 x y hx hy
  have hz := (h.pre h14).size
  have ho := (hS.below (h.pre h14))
  have hr : Reads w' w'.heap.size 2 (some ⟨q, 0, none⟩) 1 [.slice x.1.1 sn x.1.2, .int .i64 er] := Blk.reads hblk rfl
  rw [hq]
  obtain ⟨v', W2, hrun, o2', hg2, -⟩ := run_append_any (P := Try.prog) w' B 97 97 121 i0 _ 2 32 Try.underlying97 hi0 hz0 hz1 hz2 rfl (by omega) u k (starCells S) ho.row w'.heap.size (some ⟨q, 0, none⟩) 1 1 [.slice x.1.1 sn x.1.2, .int .i64 er] hr (by simp [Value.oneCell']) (by unfold maxLen; omega) (by omega) (by omega)
  obtain ⟨A2, c2, rfl, -⟩ := own_reads o2'
  refine ⟨((A2, c2), (none, 0)), W2, hrun, h.bel.grown hg2 (by omega) (fun q hq => (own_lt ho.row hq).1), fun hf => ?_, fun hf => ?_, fun hf => ?_, fun x' z hx' hz => ?_⟩
  · rw [add_same] at hf; cases hf
  · rw [add_same] at hf; cases hf
  · rw [add_same] at hf; cases hf
  · rw [upd_ne (by decide), hx] at hx'
    cases hx'
    rw [Fx.upd_same] at hz
    cases hz
    refine ⟨by rw [starCells_snoc]; exact o2', fun r hr => ?_⟩
    rcases List.mem_append.1 hr with hr | hr
    · exact own_apart (ho.each r hr) ho.row (by decide) hg2
    · obtain rfl : r = _ := by simpa using hr
      exact own_apart (h.c6 h14 x hx) ho.row (by decide) hg2
end

/-- The stars of a copy. -/
def StarsPost (l : List Star) (n : Nat) (w : World) (e : Ending) (w' : World) : Prop :=
  ∃ A c S, e = .returned (.slice A n c) ∧ Below w.heap.size w w' ∧ S.map (fun s => (s.xs, s.er)) = l.map (fun s => (s.xs, s.er)) ∧ StarsOwn w.heap.size S (.slice A n c) n w'

set_option maxRecDepth 100000 in
set_option maxHeartbeats 4000000 in
theorem cstars_any (l : List Star) (A : Option Addr) (n c : Nat) (w : World) (hx : StarsAt l A n w) (hn : n ≤ 1000) (h6 : ∀ s ∈ l, s.n ≤ 1000) :
    Calls Try.prog 60 #[.slice A n c] w (StarsPost l n w) := by
  have hl := hx.len
  have HX := Lib.hid hx
  have HL := Lib.hid hl
  have H6 := Lib.hid h6
  clear hx hl h6
  go_enter Try.func60, Try.ntmps60
  go_wp2
  go_loopw [3, 4] (fun o i wr => ∃ (k : Nat) (S : List Star), k ≤ n ∧ i = .int .i64 k ∧ Below w.heap.size w wr ∧ S.map (fun s => (s.xs, s.er)) = (l.take k).map (fun s => (s.xs, s.er)) ∧ StarsOwn w.heap.size S o k wr) (fun _ i _ => n - (intOf i).toNat)
  case atStart => exact ⟨0, [], by omega, rfl, Below.refl _ _, by simp, StarsOwn.nil _ _⟩
  case round =>
    obtain ⟨k, S, hk, rfl, hb, hS, ho⟩ := hrel
    have HO := Lib.hid ho
    have HBR := Lib.hid hb
    have HS := Lib.hid hS
    have hbr := hb.size
    clear ho hb hS
    by_cases hlt : k < n
    · obtain ⟨xb, xo, s, rfl, hxb, hs, c0, c1, ⟨sc1, sc2⟩, hsl, hsr⟩ := HX.out.at_ hlt
      have hsn := H6.out s (List.mem_of_getElem? hs)
      obtain ⟨sA, sn, sc, sx, se⟩ := s
      simp only at c0 c1 sc1 sc2 hsl hsr hsn
      have HSR := Lib.hid ((hsr.below HBR.out).more hbr)
      have HSS := Lib.hid hs
      have C0 := Lib.hid ((HBR.out.cell (p := ⟨xb, xo + k * 2, none⟩) hxb).trans c0)
      have C1 := Lib.hid ((HBR.out.cell (p := ⟨xb, xo + k * 2 + 1, none⟩) hxb).trans c1)
      have hkk : (k : Int) < (n : Int) := by omega
      clear hsl hsr hs c0 c1
      go_wp2_with fail
      refine Fx.regionM (fun W (g : Nat → Option Pick2) f w' => SrD w.heap.size k u3 S sx se sn W g f w') (fun i (x : Pick2) => if i = 14 then .slice x.1.1 (k + 1) x.1.2 else if i = 13 then .slice x.1.1 1 1 else .slice x.1.1 sn x.1.2) (by kernel_rfl) ?_ ?_
      · intro f hf0
        exact SrD.start
      first
      | (refine Fx.WM.skip 0 (by rfl) (by kernel_rfl) (by kernel_rfl) (by kernel_rfl) (by rfl) (fun g f w h => h.same (by decide)) ?_; simp only [Act.put, List.setIfInBounds_toArray, List.set_cons_zero, List.set_cons_succ])
      | (refine Fx.WM.val_ 0 ?_ (by rfl) (by kernel_rfl) (by kernel_rfl) (by kernel_rfl) (by rfl) ?_ (fun g f w h => h.same (by decide)) ?_
         rotate_left
         · intro g f w' hx hD hk
           obtain hsd := id hD
           have y0 := (hsd.bel.cell (p := ⟨xb, xo + k * 2, none⟩) hxb).trans C0.out
           have y1 := (hsd.bel.cell (p := ⟨xb, xo + k * 2 + 1, none⟩) hxb).trans C1.out
           clear hx hk hD hsd
           go_simp
           try rfl
         simp only [Act.put, List.setIfInBounds_toArray, List.set_cons_zero, List.set_cons_succ])
      first
      | (refine Fx.WM.skip 1 (by rfl) (by kernel_rfl) (by kernel_rfl) (by kernel_rfl) (by rfl) (fun g f w h => h.same (by decide)) ?_; simp only [Act.put, List.setIfInBounds_toArray, List.set_cons_zero, List.set_cons_succ])
      | (refine Fx.WM.val_ 1 ?_ (by rfl) (by kernel_rfl) (by kernel_rfl) (by kernel_rfl) (by rfl) ?_ (fun g f w h => h.same (by decide)) ?_
         rotate_left
         · intro g f w' hx hD hk
           obtain hsd := id hD
           have y0 := (hsd.bel.cell (p := ⟨xb, xo + k * 2, none⟩) hxb).trans C0.out
           have y1 := (hsd.bel.cell (p := ⟨xb, xo + k * 2 + 1, none⟩) hxb).trans C1.out
           clear hx hk hD hsd
           go_simp
           try rfl
         simp only [Act.put, List.setIfInBounds_toArray, List.set_cons_zero, List.set_cons_succ])
      first
      | (refine Fx.WM.skip 2 (by rfl) (by kernel_rfl) (by kernel_rfl) (by kernel_rfl) (by rfl) (fun g f w h => h.same (by decide)) ?_; simp only [Act.put, List.setIfInBounds_toArray, List.set_cons_zero, List.set_cons_succ])
      | (refine Fx.WM.val_ 2 ?_ (by rfl) (by kernel_rfl) (by kernel_rfl) (by kernel_rfl) (by rfl) ?_ (fun g f w h => h.same (by decide)) ?_
         rotate_left
         · intro g f w' hx hD hk
           obtain hsd := id hD
           have y0 := (hsd.bel.cell (p := ⟨xb, xo + k * 2, none⟩) hxb).trans C0.out
           have y1 := (hsd.bel.cell (p := ⟨xb, xo + k * 2 + 1, none⟩) hxb).trans C1.out
           clear hx hk hD hsd
           go_simp
           try rfl
         simp only [Act.put, List.setIfInBounds_toArray, List.set_cons_zero, List.set_cons_succ])
      first
      | (refine Fx.WM.skip 3 (by rfl) (by kernel_rfl) (by kernel_rfl) (by kernel_rfl) (by rfl) (fun g f w h => h.same (by decide)) ?_; simp only [Act.put, List.setIfInBounds_toArray, List.set_cons_zero, List.set_cons_succ])
      | (refine Fx.WM.val_ 3 ?_ (by rfl) (by kernel_rfl) (by kernel_rfl) (by kernel_rfl) (by rfl) ?_ (fun g f w h => h.same (by decide)) ?_
         rotate_left
         · intro g f w' hx hD hk
           obtain hsd := id hD
           have y0 := (hsd.bel.cell (p := ⟨xb, xo + k * 2, none⟩) hxb).trans C0.out
           have y1 := (hsd.bel.cell (p := ⟨xb, xo + k * 2 + 1, none⟩) hxb).trans C1.out
           clear hx hk hD hsd
           go_simp
           try rfl
         simp only [Act.put, List.setIfInBounds_toArray, List.set_cons_zero, List.set_cons_succ])
      first
      | (refine Fx.WM.skip 4 (by rfl) (by kernel_rfl) (by kernel_rfl) (by kernel_rfl) (by rfl) (fun g f w h => h.same (by decide)) ?_; simp only [Act.put, List.setIfInBounds_toArray, List.set_cons_zero, List.set_cons_succ])
      | (refine Fx.WM.val_ 4 ?_ (by rfl) (by kernel_rfl) (by kernel_rfl) (by kernel_rfl) (by rfl) ?_ (fun g f w h => h.same (by decide)) ?_
         rotate_left
         · intro g f w' hx hD hk
           obtain hsd := id hD
           have y0 := (hsd.bel.cell (p := ⟨xb, xo + k * 2, none⟩) hxb).trans C0.out
           have y1 := (hsd.bel.cell (p := ⟨xb, xo + k * 2 + 1, none⟩) hxb).trans C1.out
           clear hx hk hD hsd
           go_simp
           try rfl
         simp only [Act.put, List.setIfInBounds_toArray, List.set_cons_zero, List.set_cons_succ])
      first
      | (refine Fx.WM.skip 5 (by rfl) (by kernel_rfl) (by kernel_rfl) (by kernel_rfl) (by rfl) (fun g f w h => h.same (by decide)) ?_; simp only [Act.put, List.setIfInBounds_toArray, List.set_cons_zero, List.set_cons_succ])
      | (refine Fx.WM.val_ 5 ?_ (by rfl) (by kernel_rfl) (by kernel_rfl) (by kernel_rfl) (by rfl) ?_ (fun g f w h => h.same (by decide)) ?_
         rotate_left
         · intro g f w' hx hD hk
           obtain hsd := id hD
           have y0 := (hsd.bel.cell (p := ⟨xb, xo + k * 2, none⟩) hxb).trans C0.out
           have y1 := (hsd.bel.cell (p := ⟨xb, xo + k * 2 + 1, none⟩) hxb).trans C1.out
           clear hx hk hD hsd
           go_simp
           try rfl
         simp only [Act.put, List.setIfInBounds_toArray, List.set_cons_zero, List.set_cons_succ])
      first
      | (refine Fx.WM.skip 7 (by rfl) (by kernel_rfl) (by kernel_rfl) (by kernel_rfl) (by rfl) (fun g f w h => h.same (by decide)) ?_; simp only [Act.put, List.setIfInBounds_toArray, List.set_cons_zero, List.set_cons_succ])
      | (refine Fx.WM.val_ 7 ?_ (by rfl) (by kernel_rfl) (by kernel_rfl) (by kernel_rfl) (by rfl) ?_ (fun g f w h => h.same (by decide)) ?_
         rotate_left
         · intro g f w' hx hD hk
           obtain hsd := id hD
           have y0 := (hsd.bel.cell (p := ⟨xb, xo + k * 2, none⟩) hxb).trans C0.out
           have y1 := (hsd.bel.cell (p := ⟨xb, xo + k * 2 + 1, none⟩) hxb).trans C1.out
           clear hx hk hD hsd
           go_simp
           try rfl
         simp only [Act.put, List.setIfInBounds_toArray, List.set_cons_zero, List.set_cons_succ])
      first
      | (refine Fx.WM.skip 8 (by rfl) (by kernel_rfl) (by kernel_rfl) (by kernel_rfl) (by rfl) (fun g f w h => h.same (by decide)) ?_; simp only [Act.put, List.setIfInBounds_toArray, List.set_cons_zero, List.set_cons_succ])
      | (refine Fx.WM.val_ 8 ?_ (by rfl) (by kernel_rfl) (by kernel_rfl) (by kernel_rfl) (by rfl) ?_ (fun g f w h => h.same (by decide)) ?_
         rotate_left
         · intro g f w' hx hD hk
           obtain hsd := id hD
           have y0 := (hsd.bel.cell (p := ⟨xb, xo + k * 2, none⟩) hxb).trans C0.out
           have y1 := (hsd.bel.cell (p := ⟨xb, xo + k * 2 + 1, none⟩) hxb).trans C1.out
           clear hx hk hD hsd
           go_simp
           try rfl
         simp only [Act.put, List.setIfInBounds_toArray, List.set_cons_zero, List.set_cons_succ])
      first
      | (refine Fx.WM.skip 9 (by rfl) (by kernel_rfl) (by kernel_rfl) (by kernel_rfl) (by rfl) (fun g f w h => h.same (by decide)) ?_; simp only [Act.put, List.setIfInBounds_toArray, List.set_cons_zero, List.set_cons_succ])
      | (refine Fx.WM.val_ 9 ?_ (by rfl) (by kernel_rfl) (by kernel_rfl) (by kernel_rfl) (by rfl) ?_ (fun g f w h => h.same (by decide)) ?_
         rotate_left
         · intro g f w' hx hD hk
           obtain hsd := id hD
           have y0 := (hsd.bel.cell (p := ⟨xb, xo + k * 2, none⟩) hxb).trans C0.out
           have y1 := (hsd.bel.cell (p := ⟨xb, xo + k * 2 + 1, none⟩) hxb).trans C1.out
           clear hx hk hD hsd
           go_simp
           try rfl
         simp only [Act.put, List.setIfInBounds_toArray, List.set_cons_zero, List.set_cons_succ])
      first
      | (refine Fx.WM.skip 10 (by rfl) (by kernel_rfl) (by kernel_rfl) (by kernel_rfl) (by rfl) (fun g f w h => h.same (by decide)) ?_; simp only [Act.put, List.setIfInBounds_toArray, List.set_cons_zero, List.set_cons_succ])
      | (refine Fx.WM.val_ 10 ?_ (by rfl) (by kernel_rfl) (by kernel_rfl) (by kernel_rfl) (by rfl) ?_ (fun g f w h => h.same (by decide)) ?_
         rotate_left
         · intro g f w' hx hD hk
           obtain hsd := id hD
           have y0 := (hsd.bel.cell (p := ⟨xb, xo + k * 2, none⟩) hxb).trans C0.out
           have y1 := (hsd.bel.cell (p := ⟨xb, xo + k * 2 + 1, none⟩) hxb).trans C1.out
           clear hx hk hD hsd
           go_simp
           try rfl
         simp only [Act.put, List.setIfInBounds_toArray, List.set_cons_zero, List.set_cons_succ])
      first
      | (refine Fx.WM.skip 11 (by rfl) (by kernel_rfl) (by kernel_rfl) (by kernel_rfl) (by rfl) (fun g f w h => h.same (by decide)) ?_; simp only [Act.put, List.setIfInBounds_toArray, List.set_cons_zero, List.set_cons_succ])
      | (refine Fx.WM.val_ 11 ?_ (by rfl) (by kernel_rfl) (by kernel_rfl) (by kernel_rfl) (by rfl) ?_ (fun g f w h => h.same (by decide)) ?_
         rotate_left
         · intro g f w' hx hD hk
           obtain hsd := id hD
           have y0 := (hsd.bel.cell (p := ⟨xb, xo + k * 2, none⟩) hxb).trans C0.out
           have y1 := (hsd.bel.cell (p := ⟨xb, xo + k * 2 + 1, none⟩) hxb).trans C1.out
           clear hx hk hD hsd
           go_simp
           try rfl
         simp only [Act.put, List.setIfInBounds_toArray, List.set_cons_zero, List.set_cons_succ])
      refine Fx.WM.choose 6 (by rfl) (by kernel_rfl) (by rfl) ?_ ?_
      · skip
        refine Fx.Chooses.call ?_ ?_ (by rfl) ?_ ?_
        rotate_left 2
        · intro w'
          go_simp
          refine ⟨?_, ?_⟩ <;> rfl
        · intro f w' hD hk
          exact (copyints_any sA sn sc w'.heap.size sx w' ((HSR.out.below (hD.pre (hk.2.1 14 (by kernel_rfl)))).more (hD.pre (hk.2.1 14 (by kernel_rfl))).size) (Nat.le_refl _) (by omega)).mono fun e w'' ⟨A', c', he, hb, hr, ho⟩ => ⟨((A', c'), (none, 0)), he, hD.copy hbr (hk.2.1 14 (by kernel_rfl)) (by rfl) (by rfl) hb _ ho⟩
      intro x
      simp only [Act.put, List.setIfInBounds_toArray, List.set_cons_zero, List.set_cons_succ]
      first
      | (refine Fx.WM.skip 12 (by rfl) (by kernel_rfl) (by kernel_rfl) (by kernel_rfl) (by rfl) (fun g f w h => h.same (by decide)) ?_; simp only [Act.put, List.setIfInBounds_toArray, List.set_cons_zero, List.set_cons_succ])
      | (refine Fx.WM.val_ 12 ?_ (by rfl) (by kernel_rfl) (by kernel_rfl) (by kernel_rfl) (by rfl) ?_ (fun g f w h => h.same (by decide)) ?_
         rotate_left
         · intro g f w' hx hD hk
           obtain hsd := id hD
           clear hx hk hD hsd
           go_simp
           try rfl
         simp only [Act.put, List.setIfInBounds_toArray, List.set_cons_zero, List.set_cons_succ])
      refine Fx.WM.choose 13 (by rfl) (by kernel_rfl) (by rfl) ?_ ?_
      · skip
        refine Fx.Chooses.make (by rfl) ?_
        intro f w' hD hk
        refine ⟨((some ⟨w'.heap.size, 0, none⟩, 1), (none, 0)), w'.alloc (.cells #[.slice x.1.1 sn x.1.2, .int .i64 se] 121), ?_, ?_⟩
        · clear hk hD
          go_simp
          try rfl
        · exact hD.lit hbr (hk.2.1 14 (by kernel_rfl)) (by rfl) (by rfl)
      intro y
      simp only [Act.put, List.setIfInBounds_toArray, List.set_cons_zero, List.set_cons_succ]
      refine Fx.WM.choose 14 (by rfl) (by kernel_rfl) (by rfl) ?_ ?_
      · skip
        refine Fx.Chooses.make (by rfl) ?_
        intro f w' hD hk
        obtain ⟨z', w2', hrun, hD2⟩ := SrD.app hD hbr HO.out (by omega) hk.1 (by rfl) (by rfl)
        exact ⟨z', w2', exec_append _ _ _ rfl hrun, hD2⟩
      intro z
      simp only [Act.put, List.setIfInBounds_toArray, List.set_cons_zero, List.set_cons_succ]
      first
      | (refine Fx.WM.skip 15 (by rfl) (by kernel_rfl) (by kernel_rfl) (by kernel_rfl) (by rfl) (fun g f w h => h.same (by decide)) ?_; simp only [Act.put, List.setIfInBounds_toArray, List.set_cons_zero, List.set_cons_succ])
      | (refine Fx.WM.val_ 15 ?_ (by rfl) (by kernel_rfl) (by kernel_rfl) (by kernel_rfl) (by rfl) ?_ (fun g f w h => h.same (by decide)) ?_
         rotate_left
         · intro g f w' hx hD hk
           obtain hsd := id hD
           clear hx hk hD hsd
           go_simp
           try rfl
         simp only [Act.put, List.setIfInBounds_toArray, List.set_cons_zero, List.set_cons_succ])
      refine Fx.WM.nil (by kernel_rfl) ?_
      intro wz hsd
      have hpost := hsd.post x z (by rfl) (by rfl)
      have HPOST := Lib.hid hpost
      have HBZ := Lib.hid (HBR.out.trans hsd.bel)
      clear hpost hsd
      go_wp2
      go_roundw
      case rel =>
        refine ⟨k + 1, S ++ [⟨x.1.1, sn, x.1.2, sx, se⟩], by omega, by go_num, HBZ.out, ?_, HPOST.out⟩
        rw [List.map_append, HS.out, List.take_add_one, HSS.out, List.map_append]
        rfl
      case measure => simp [intOf]; omega
    · have hkn : k = n := by omega
      rw [hkn] at HO HS
      clear hkn
      obtain ⟨A3, c3, rfl, -⟩ := own_reads HO.out.row
      go_wp2
      go_ret
      exact ⟨A3, c3, S, rfl, HBR.out, by rw [HS.out, List.take_of_length_le (by rw [HL.out]; omega)], HO.out⟩
end Go.Proofs.Ytgamepmipoociaa

end

section
/- Stores into stars in memory of their own. -/
namespace Go.Proofs.Ytgamepmipoociaa
open Go Go.RowKit

theorem own_store {w : World} {base : Nat} {e : TypeId} {size n : Nat} {v : Value} {xs : List Value} (h : w.ownsRow base e size v n xs) (hn : 0 < n) (q : Nat) (u : Value) :
    ∃ g cap, v = .slice (some ⟨g, 0, none⟩) n cap ∧ base ≤ g ∧ g < w.heap.size ∧ w.frozen? ⟨g, q, none⟩ = false ∧ (w.setCell ⟨g, q, none⟩ u).ownsRow base e size v n (xs.set q u) := by
  obtain ⟨h1, h2⟩ := h
  rcases h2 with ⟨-, h0⟩ | ⟨g, cap, cur, hv, hg, hh, hc, hm, hs, ht⟩
  · omega
  have hb : Blk w g e cur := hh
  refine ⟨g, cap, hv, hg, hb.lt, hb.frozen q, by rw [List.length_set]; exact h1, .inr ⟨g, cap, cur.setIfInBounds q u, hv, hg, (hb.set_ q u), hc, hm, by simpa using hs, ?_⟩⟩
  rw [Array.toList_setIfInBounds, List.take_set, ht]
theorem own_other {w : World} {base base' : Nat} {e e' : TypeId} {size size' n n' g cap : Nat} {v : Value} {xs xs' : List Value} (h : w.ownsRow base e size v n xs) (h' : w.ownsRow base' e' size' (.slice (some ⟨g, 0, none⟩) n' cap) n' xs') (hne : e ≠ e') : v.ownBlock ≠ some g := by
  intro e1
  rcases h.2 with ⟨rfl, _⟩ | ⟨g1, cap, cur, rfl, hb, hh, _⟩
  · cases e1
  rcases h'.2 with ⟨h0, _⟩ | ⟨g2, cap', cur', h0, hb', hh', _⟩
  · cases h0
  have e2 : g1 = g := by simpa [Value.ownBlock] using e1
  cases h0
  subst e2
  rw [hh] at hh'
  injection hh' with h3
  injection h3 with _ h4
  exact hne h4
theorem starCells_set (z : Int) : ∀ (S : List Star) (i : Nat) (s : Star), S[i]? = some s → starCells (S.set i { s with er := z }) = (starCells S).set (i * 2 + 1) (.int .i64 z)
  | [], _, _, h => by simp at h
  | t :: S, 0, s, h => by
    obtain rfl : t = s := by simpa using h
    rfl
  | t :: S, i + 1, s, h => by
    have ih := starCells_set z S i s (by simpa using h)
    show t.cells ++ starCells (S.set i _) = (t.cells ++ starCells S).set _ _
    rw [ih, List.set_append_right _ _ (by show 2 ≤ _; omega)]
    congr 2
    show _ = (i + 1) * 2 + 1 - 2
    omega
/-- A store of an error. -/
theorem StarsOwn.store {B n i : Nat} {S : List Star} {v : Value} {w : World} {s : Star} (h : StarsOwn B S v n w) (hs : S[i]? = some s) (hn : 0 < n) (z : Int) :
    ∃ g cap, v = .slice (some ⟨g, 0, none⟩) n cap ∧ B ≤ g ∧ g < w.heap.size ∧ w.frozen? ⟨g, i * 2 + 1, none⟩ = false ∧ StarsOwn B (S.set i { s with er := z }) v n (w.setCell ⟨g, i * 2 + 1, none⟩ (.int .i64 z)) := by
  obtain ⟨g, cap, rfl, h1, h2, h3, h4⟩ := own_store h.row hn (i * 2 + 1) (.int .i64 z)
  refine ⟨g, cap, rfl, h1, h2, h3, by rw [starCells_set z S i s hs]; exact h4, fun r hr => ?_⟩
  have key : ∀ t ∈ S, t.own B (w.setCell ⟨g, i * 2 + 1, none⟩ (.int .i64 z)) := fun t ht => own_set (h.each t ht) (own_other (h.each t ht) h.row (by decide)) _
  rcases List.mem_or_eq_of_mem_set hr with hr | rfl
  · exact key r hr
  · exact key s (List.mem_of_getElem? hs)
/-- A store into another block of stars. -/
theorem StarsOwn.far {B n g q : Nat} {S : List Star} {A : Option Addr} {c : Nat} {w : World} (h : StarsOwn B S (.slice A n c) n w) (hA : ∀ b o, A = some ⟨b, o, none⟩ → b ≠ g) (ht : ∀ t ∈ S, (Value.slice t.A t.n t.c).ownBlock ≠ some g) (u : Value) : StarsOwn B S (.slice A n c) n (w.setCell ⟨g, q, none⟩ u) := by
  refine ⟨own_set h.row (fun e => ?_) _, fun t h' => own_set (h.each t h') (ht t h') _⟩
  rcases h.row.2 with ⟨h0, _⟩ | ⟨g1, cap, cur, h0, _⟩
  · cases h0; cases e
  · cases h0
    have : g1 = g := by simpa [Value.ownBlock] using e
    exact hA g1 0 rfl this
theorem stars_lay {l : List Star} {A : Option Addr} {n : Nat} {W W1 : World} (hb : Below W.heap.size W W1) {wa : World} (ha : Below wa.heap.size wa W) (h : StarsAt l A n wa) : StarsAt l A n W1 := (h.lay ha).lay hb
end Go.Proofs.Ytgamepmipoociaa

end
