import Derived.Test.YtclnffpfbngjoaaQ9
import Derived.Test.YtclnffpfbngjoaaQ13
import Derived.Test.YtclnffpfbngjoaaQ4

section
/- Contracts of what the statements on pointing do with their arguments: guards and copies. -/
namespace Go.Proofs.Ytclnffpfbngjoaa
open Go Go.RowKit

theorem low {P : Program} {f : FuncId} {args : Array Value} {w : World} {E : Ending} (h : Calls P f args w fun e w' => e = E ∧ ∃ q, w' = w.drewN q) : Calls P f args w fun e w' => e = E ∧ Below w.heap.size w w' :=
  h.mono fun e w' ⟨he, q, hw⟩ => ⟨he, by rw [hw]; exact below_drewN (Below.refl _ _) q⟩

def rowsB (n : Nat) : Bool := decide (n ≤ 6) || (decide (40 < n) && decide (n ≤ 43))
theorem rowsB_le {n : Nat} (h : rowsB n = true) : n ≤ 43 := by unfold rowsB at h; simp at h; omega
theorem rows_is (A : Option Addr) (n c : Nat) (t : Bool) (h : rowsB n = t) (w : World) : Calls Try.prog 40 #[.slice A n c] w fun e w' => e = .returned (.bool t) ∧ w = w' := by
  have h0 := h
  unfold rowsB at h
  by_cases h6 : n ≤ 6
  · have ht : t = true := by simpa [h6] using h.symm
    subst ht
    have k1 : (n : Int) ≤ 6 := by omega
    clear h h0 h6
    go_enter Try.func40, Try.ntmps40
    go_wp2
    go_ret
    exact ⟨rfl, rfl⟩
  have k1 : ¬ (n : Int) ≤ 6 := by omega
  by_cases h40 : 40 < n
  · have k2 : (40 : Int) < n := by omega
    by_cases h43 : n ≤ 43
    · have ht : t = true := by simpa [h6, h40, h43] using h.symm
      subst ht
      have k3 : (n : Int) ≤ 43 := by omega
      clear h h0 h6 h40 h43
      go_enter Try.func40, Try.ntmps40
      go_wp2
      go_ret
      exact ⟨rfl, rfl⟩
    · have ht : t = false := by simpa [h6, h40, h43] using h.symm
      subst ht
      have k3 : ¬ (n : Int) ≤ 43 := by omega
      clear h h0 h6 h40 h43
      go_enter Try.func40, Try.ntmps40
      go_wp2
      go_ret
      exact ⟨rfl, rfl⟩
  · have k2 : ¬ (40 : Int) < n := by omega
    have ht : t = false := by simpa [h6, h40] using h.symm
    subst ht
    clear h h0 h6 h40
    go_enter Try.func40, Try.ntmps40
    go_wp2
    go_ret
    exact ⟨rfl, rfl⟩

theorem info_row : (Try.prog.info? 60).map (fun i => (i.zero, i.size, i.bytes)) = some (some (.agg #[.int .i64 0, .int .i64 0]), 2, 16) := by kernel_rfl
theorem ctable_any (A : Option Addr) (n c N : Nat) (l : List (Int × Int)) (w : World) (hx : Reads w N 2 A n (cells2 l)) (hN : N ≤ w.heap.size) (hn : n ≤ 1000000) :
    Calls Try.prog 23 #[.slice A n c] w (CopyPost w 60 2 n (cells2 l)) := by
  obtain ⟨v', W2, hrun, ho, hb⟩ := copy_run (P := Try.prog) 22 22 60 _ 2 16 Try.underlying22 info_row rfl (by omega) w N A n c (cells2 l) hx hN (one_cells2 l) (by unfold maxLen; omega) (by omega)
  have HRUN := Lib.hid hrun
  have HO := Lib.hid ho
  have HB := Lib.hid hb
  clear hrun ho hb
  go_enter Try.func23, Try.ntmps23
  go_wp2_with (first | (at_builtin; refine wpList_app _ W2 v' rfl _ _ _ rfl _ _ rfl rfl HRUN.out ?_))
  go_ret
  exact CopyPost.of HO.out HB.out

theorem info_tgt : (Try.prog.info? 62).map (fun i => (i.zero, i.size, i.bytes)) = some (some (.agg #[.string ByteArray.empty, .int .i64 0, .int .i64 0, .int .i64 0, .int .i64 0, .int .i64 0]), 6, 56) := by kernel_rfl
theorem one_tgts (l : List Tgt) : ∀ u ∈ tgtCells l, u.oneCell' = true := by
  intro u hu
  unfold tgtCells at hu
  rw [List.mem_flatMap] at hu
  obtain ⟨p, -, hp⟩ := hu
  simp [Tgt.cells] at hp
  rcases hp with rfl | rfl | rfl | rfl | rfl | rfl <;> rfl
theorem ctargets_any (A : Option Addr) (n c N : Nat) (l : List Tgt) (w : World) (hx : Reads w N 6 A n (tgtCells l)) (hN : N ≤ w.heap.size) (hn : n ≤ 1000000) :
    Calls Try.prog 8 #[.slice A n c] w (CopyPost w 62 6 n (tgtCells l)) := by
  obtain ⟨v', W2, hrun, ho, hb⟩ := copy_run (P := Try.prog) 25 25 62 _ 6 56 Try.underlying25 info_tgt rfl (by omega) w N A n c (tgtCells l) hx hN (one_tgts l) (by unfold maxLen; omega) (by omega)
  have HRUN := Lib.hid hrun
  have HO := Lib.hid ho
  have HB := Lib.hid hb
  clear hrun ho hb
  go_enter Try.func8, Try.ntmps8
  go_wp2_with (first | (at_builtin; refine wpList_app _ W2 v' rfl _ _ _ rfl _ _ rfl rfl HRUN.out ?_))
  go_ret
  exact CopyPost.of HO.out HB.out

def lightB (m : Mnt) : Bool := rowsB m.n1 && rowsB m.n2
theorem light_is (m : Mnt) (t : Bool) (h : lightB m = t) (w : World) : Calls Try.prog 18 #[m.val] w fun e w' => e = .returned (.bool t) ∧ Below w.heap.size w w' := by
  obtain ⟨ls, ms, lo, hi, sp, A1, n1, c1, l1, A2, n2, c2, l2⟩ := m
  unfold lightB at h
  simp only at h
  unfold Mnt.val
  simp only
  cases h1 : rowsB n1
  · rw [h1] at h
    have ht : t = false := by simpa using h.symm
    subst ht
    have H1 := Lib.hid h1
    clear h h1
    go_enter Try.func18, Try.ntmps18
    go_wp2_with fail
    refine (rows_is A1 n1 c1 false H1.out _).mono ?_
    rintro e w' ⟨rfl, rfl⟩
    go_wp2
    go_ret
    exact ⟨rfl, by repeat' (first | exact Below.refl _ _ | refine below_drewN ?_ _ | refine Below.drew ?_ | refine Below.alloc ?_ (by first | omega | (simp; done) | (simp; omega) | (simp [World.setCell]; omega)) _ | refine Below.setCell ?_ (by first | omega | (simp; done) | (simp; omega)) _)⟩
  · rw [h1, Bool.true_and] at h
    have H1 := Lib.hid h1
    have H := Lib.hid h
    clear h h1
    go_enter Try.func18, Try.ntmps18
    go_wp2_with fail
    refine (rows_is A1 n1 c1 true H1.out _).mono ?_
    rintro e w' ⟨rfl, rfl⟩
    go_wp2_with fail
    refine (rows_is A2 n2 c2 t H.out _).mono ?_
    rintro e w' ⟨rfl, rfl⟩
    go_wp2
    go_ret
    exact ⟨rfl, by repeat' (first | exact Below.refl _ _ | refine below_drewN ?_ _ | refine Below.drew ?_ | refine Below.alloc ?_ (by first | omega | (simp; done) | (simp; omega) | (simp [World.setCell]; omega)) _ | refine Below.setCell ?_ (by first | omega | (simp; done) | (simp; omega)) _)⟩

/-- A mounting with its tables elsewhere. -/
def Mnt.to (m : Mnt) (A1 : Option Addr) (c1 : Nat) (A2 : Option Addr) (c2 : Nat) : Mnt := { m with A1 := A1, c1 := c1, A2 := A2, c2 := c2 }
def MountPost (m : Mnt) (w : World) (e : Ending) (w' : World) : Prop := ∃ A1 c1 A2 c2, e = .returned (m.to A1 c1 A2 c2).val ∧ Below w.heap.size w w' ∧ MntAt (m.to A1 c1 A2 c2) w'

/-- The mounting in its block, while its tables are copied. -/
def slC (n : Nat) (u : Value) (f : Bool) : Option Pick → Value
  | some x => if f then .slice x.1 n x.2 else u
  | none => u
theorem slC_no (n : Nat) (u : Value) (o : Option Pick) : slC n u false o = u := by cases o <;> rfl
structure MtD (rs : Array Value) (T e : TypeId) (b n1 n2 : Nat) (l1 l2 : List Value) (v0 v1 v2 v3 v4 u1 u2 : Value) (W : World) (g : Nat → Option Pick) (f : Nat → Bool) (w' : World) : Prop where
  bel : Below b W w'
  two : Blk w' (b + 1) T rs
  blk : Blk w' b T #[v0, v1, v2, v3, v4, slC n1 u1 (f 7) (g 2), slC n2 u2 (f 9) (g 5)]
  o1 : ∀ x, g 2 = some x → w'.ownsRow (b + 2) e 2 (.slice x.1 n1 x.2) n1 l1
  o2 : ∀ x, g 5 = some x → w'.ownsRow (b + 2) e 2 (.slice x.1 n2 x.2) n2 l2
section
variable {rs : Array Value} {T e : TypeId} {b n1 n2 k : Nat} {l1 l2 : List Value} {v0 v1 v2 v3 v4 u1 u2 : Value} {W w' w'' : World} {g : Nat → Option Pick} {f : Nat → Bool}
theorem MtD.same (h : MtD rs T e b n1 n2 l1 l2 v0 v1 v2 v3 v4 u1 u2 W g f w') (k7 : k ≠ 7) (k9 : k ≠ 9) : MtD rs T e b n1 n2 l1 l2 v0 v1 v2 v3 v4 u1 u2 W g (Fx.add f k) w' :=
  ⟨h.bel, h.two, by rw [add_ne' k7, add_ne' k9]; exact h.blk, h.o1, h.o2⟩
theorem MtD.call1 {x : Pick} (h : MtD rs T e b n1 n2 l1 l2 v0 v1 v2 v3 v4 u1 u2 W g f w') (hf : f 7 = false) (hg : g 2 = none) (hb : Below w'.heap.size w' w'') (ho : w''.ownsRow w'.heap.size e 2 (.slice x.1 n1 x.2) n1 l1) : MtD rs T e b n1 n2 l1 l2 v0 v1 v2 v3 v4 u1 u2 W (Fx.upd g 2 x) (Fx.add f 2) w'' := by
  have hlt := h.blk.lt
  have hlt2 := h.two.lt
  refine ⟨h.bel.trans (hb.mono (by omega)), h.two.below hb h.two.lt, ?_, fun y hy => ?_, fun y hy => ?_⟩
  · rw [add_ne' (by decide), add_ne' (by decide), Fx.upd_same, upd_ne (by decide), hf]
    have := h.blk.below hb hlt
    rw [hg] at this
    exact this
  · rw [Fx.upd_same] at hy
    cases hy
    exact own_base (by omega) ho
  · rw [upd_ne (by decide)] at hy
    exact own_below (h.o2 y hy) hb (Nat.le_refl _)
theorem MtD.call2 {x : Pick} (h : MtD rs T e b n1 n2 l1 l2 v0 v1 v2 v3 v4 u1 u2 W g f w') (hf : f 9 = false) (hg : g 5 = none) (hb : Below w'.heap.size w' w'') (ho : w''.ownsRow w'.heap.size e 2 (.slice x.1 n2 x.2) n2 l2) : MtD rs T e b n1 n2 l1 l2 v0 v1 v2 v3 v4 u1 u2 W (Fx.upd g 5 x) (Fx.add f 5) w'' := by
  have hlt := h.blk.lt
  have hlt2 := h.two.lt
  refine ⟨h.bel.trans (hb.mono (by omega)), h.two.below hb h.two.lt, ?_, fun y hy => ?_, fun y hy => ?_⟩
  · rw [add_ne' (by decide), add_ne' (by decide), Fx.upd_same, upd_ne (by decide), hf]
    have := h.blk.below hb hlt
    rw [hg] at this
    exact this
  · rw [upd_ne (by decide)] at hy
    exact own_below (h.o1 y hy) hb (Nat.le_refl _)
  · rw [Fx.upd_same] at hy
    cases hy
    exact own_base (by omega) ho
theorem own_far {w : World} {v : Value} {size n : Nat} {xs : List Value} (h : w.ownsRow (b + 2) e size v n xs) (q i : Nat) (hq : q ≤ b + 1) (u : Value) : (w.setCell ⟨q, i, none⟩ u).ownsRow (b + 2) e size v n xs :=
  own_set h (fun e => by have := (own_lt h e).1; simp at this; omega) u
theorem MtD.store1 {x : Pick} (h : MtD rs T e b n1 n2 l1 l2 v0 v1 v2 v3 v4 u1 u2 W g f w') (hg : g 2 = some x) : MtD rs T e b n1 n2 l1 l2 v0 v1 v2 v3 v4 u1 u2 W g (Fx.add f 7) (w'.setCell ⟨b, 5, none⟩ (.slice x.1 n1 x.2)) := by
  refine ⟨h.bel.setCell (p := ⟨b, 5, none⟩) (Nat.le_refl _) _, h.two.far (p := ⟨b, 5, none⟩) (by simp) _, ?_, fun y hy => own_far (h.o1 y hy) _ _ (by omega) _, fun y hy => own_far (h.o2 y hy) _ _ (by omega) _⟩
  rw [add_same, add_ne' (by decide)]
  have := h.blk.set_ 5 (.slice x.1 n1 x.2)
  simp only [List.setIfInBounds_toArray, List.set_cons_zero, List.set_cons_succ] at this
  rw [show slC n1 u1 true (g 2) = .slice x.1 n1 x.2 by rw [hg]; rfl]
  exact this
theorem MtD.store2 {x : Pick} (h : MtD rs T e b n1 n2 l1 l2 v0 v1 v2 v3 v4 u1 u2 W g f w') (hg : g 5 = some x) : MtD rs T e b n1 n2 l1 l2 v0 v1 v2 v3 v4 u1 u2 W g (Fx.add f 9) (w'.setCell ⟨b, 6, none⟩ (.slice x.1 n2 x.2)) := by
  refine ⟨h.bel.setCell (p := ⟨b, 6, none⟩) (Nat.le_refl _) _, h.two.far (p := ⟨b, 6, none⟩) (by simp) _, ?_, fun y hy => own_far (h.o1 y hy) _ _ (by omega) _, fun y hy => own_far (h.o2 y hy) _ _ (by omega) _⟩
  rw [add_same, add_ne' (by decide)]
  have := h.blk.set_ 6 (.slice x.1 n2 x.2)
  simp only [List.setIfInBounds_toArray, List.set_cons_zero, List.set_cons_succ] at this
  rw [show slC n2 u2 true (g 5) = .slice x.1 n2 x.2 by rw [hg]; rfl]
  exact this
end

set_option maxRecDepth 100000 in
set_option maxHeartbeats 2000000 in
theorem mount_any (m : Mnt) (w : World) (hx : MntAt m w) (h1 : m.n1 ≤ 1000) (h2 : m.n2 ≤ 1000) : Calls Try.prog 7 #[m.val] w (MountPost m w) := by
  obtain ⟨ls, ms, lo, hi, sp, A1, n1, c1, l1, A2, n2, c2, l2⟩ := m
  have HX := Lib.hid hx
  simp only at h1 h2
  unfold Mnt.val
  simp only
  clear hx
  go_enter Try.func7, Try.ntmps7
  go_wp2
  refine Fx.regionM (fun W g f w' => MtD #[.int .i64 0, .int .i64 0, .int .i64 0, .int .i64 0, .int .i64 0, .slice none 0 0, .slice none 0 0] 24 60 w.heap.size n1 n2 (cells2 l1) (cells2 l2) (.int .i64 ls) (.int .i64 ms) (.int .i64 lo) (.int .i64 hi) (.int .i64 sp) (.slice A1 n1 c1) (.slice A2 n2 c2) w g f w') (fun i (x : Pick) => if i = 2 then .slice x.1 n1 x.2 else .slice x.1 n2 x.2) (by kernel_rfl) ?_ ?_
  · intro f hf0
    refine ⟨by repeat' (first | exact Below.refl _ _ | refine below_drewN ?_ _ | refine Below.drew ?_ | refine Below.alloc ?_ (by first | omega | (simp; done) | (simp; omega) | (simp [World.setCell]; omega)) _ | refine Below.setCell ?_ (by first | omega | (simp; done) | (simp; omega)) _), by repeat' (first | assumption | exact Blk.at_ _ (by first | rfl | (simp; done) | (simp; omega)) _ _ | refine Blk.drewN ?_ _ | refine Blk.drew ?_ | refine Blk.alloc ?_ _ | refine Blk.far ?_ (by first | omega | (simp; done) | (simp; omega)) _), ?_, fun x h => (nomatch h), fun x h => (nomatch h)⟩
    rw [hf0 7, hf0 9]
    repeat' (first | assumption | exact Blk.at_ _ (by first | rfl | (simp; done) | (simp; omega)) _ _ | refine Blk.drewN ?_ _ | refine Blk.drew ?_ | refine Blk.alloc ?_ _ | refine Blk.far ?_ (by first | omega | (simp; done) | (simp; omega)) _)
  first
  | (refine Fx.WM.skip 0 (by rfl) (by kernel_rfl) (by kernel_rfl) (by kernel_rfl) (by rfl) (fun g f w h => h.same (by decide) (by decide)) ?_; simp only [Act.put, List.setIfInBounds_toArray, List.set_cons_zero, List.set_cons_succ])
  | (refine Fx.WM.val_ 0 ?_ (by rfl) (by kernel_rfl) (by kernel_rfl) (by kernel_rfl) (by rfl) ?_ (fun g f w h => h.same (by decide) (by decide)) ?_
     rotate_left
     · intro g f w' hx hD hk
       obtain hmt := id hD
       clear hx hk hD hmt
       go_simp
       try rfl
     simp only [Act.put, List.setIfInBounds_toArray, List.set_cons_zero, List.set_cons_succ])
  first
  | (refine Fx.WM.skip 1 (by rfl) (by kernel_rfl) (by kernel_rfl) (by kernel_rfl) (by rfl) (fun g f w h => h.same (by decide) (by decide)) ?_; simp only [Act.put, List.setIfInBounds_toArray, List.set_cons_zero, List.set_cons_succ])
  | (refine Fx.WM.val_ 1 ?_ (by rfl) (by kernel_rfl) (by kernel_rfl) (by kernel_rfl) (by rfl) ?_ (fun g f w h => h.same (by decide) (by decide)) ?_
     rotate_left
     · intro g f w' hx hD hk
       obtain hmt := id hD
       have h7 : f 7 = false := hk.2.1 7 (by kernel_rfl)
       have y5 := hmt.blk.cell 5
       simp only [h7, slC_no] at y5
       clear hx hk hD hmt h7
       go_simp
       try rfl
     simp only [Act.put, List.setIfInBounds_toArray, List.set_cons_zero, List.set_cons_succ])
  first
  | (refine Fx.WM.skip 3 (by rfl) (by kernel_rfl) (by kernel_rfl) (by kernel_rfl) (by rfl) (fun g f w h => h.same (by decide) (by decide)) ?_; simp only [Act.put, List.setIfInBounds_toArray, List.set_cons_zero, List.set_cons_succ])
  | (refine Fx.WM.val_ 3 ?_ (by rfl) (by kernel_rfl) (by kernel_rfl) (by kernel_rfl) (by rfl) ?_ (fun g f w h => h.same (by decide) (by decide)) ?_
     rotate_left
     · intro g f w' hx hD hk
       obtain hmt := id hD
       clear hx hk hD hmt
       go_simp
       try rfl
     simp only [Act.put, List.setIfInBounds_toArray, List.set_cons_zero, List.set_cons_succ])
  first
  | (refine Fx.WM.skip 4 (by rfl) (by kernel_rfl) (by kernel_rfl) (by kernel_rfl) (by rfl) (fun g f w h => h.same (by decide) (by decide)) ?_; simp only [Act.put, List.setIfInBounds_toArray, List.set_cons_zero, List.set_cons_succ])
  | (refine Fx.WM.val_ 4 ?_ (by rfl) (by kernel_rfl) (by kernel_rfl) (by kernel_rfl) (by rfl) ?_ (fun g f w h => h.same (by decide) (by decide)) ?_
     rotate_left
     · intro g f w' hx hD hk
       obtain hmt := id hD
       have h9 : f 9 = false := hk.2.1 9 (by kernel_rfl)
       have y6 := hmt.blk.cell 6
       simp only [h9, slC_no] at y6
       clear hx hk hD hmt h9
       go_simp
       try rfl
     simp only [Act.put, List.setIfInBounds_toArray, List.set_cons_zero, List.set_cons_succ])
  refine Fx.WM.choose 2 (by rfl) (by kernel_rfl) (by rfl) ?_ ?_
  · skip
    refine Fx.Chooses.call ?_ ?_ (by rfl) ?_ ?_
    rotate_left 2
    · intro w'
      go_simp
      refine ⟨?_, ?_⟩ <;> rfl
    · intro f w' hD hk
      exact (ctable_any A1 n1 c1 w.heap.size l1 w' (HX.out.r1.below hD.bel) hD.bel.size (by omega)).mono fun e w'' ⟨A', c', he, hb, _, ho⟩ => ⟨(A', c'), he, hD.call1 (hk.2.1 7 (by kernel_rfl)) (by rfl) hb ho⟩
  intro x
  simp only [Act.put, List.setIfInBounds_toArray, List.set_cons_zero, List.set_cons_succ]
  first
  | (refine Fx.WM.skip 6 (by rfl) (by kernel_rfl) (by kernel_rfl) (by kernel_rfl) (by rfl) (fun g f w h => h.same (by decide) (by decide)) ?_; simp only [Act.put, List.setIfInBounds_toArray, List.set_cons_zero, List.set_cons_succ])
  | (refine Fx.WM.val_ 6 ?_ (by rfl) (by kernel_rfl) (by kernel_rfl) (by kernel_rfl) (by rfl) ?_ (fun g f w h => h.same (by decide) (by decide)) ?_
     rotate_left
     · intro g f w' hx hD hk
       obtain hmt := id hD
       clear hx hk hD hmt
       go_simp
       try rfl
     simp only [Act.put, List.setIfInBounds_toArray, List.set_cons_zero, List.set_cons_succ])
  refine Fx.WM.choose 5 (by rfl) (by kernel_rfl) (by rfl) ?_ ?_
  · skip
    refine Fx.Chooses.call ?_ ?_ (by rfl) ?_ ?_
    rotate_left 2
    · intro w'
      go_simp
      refine ⟨?_, ?_⟩ <;> rfl
    · intro f w' hD hk
      exact (ctable_any A2 n2 c2 w.heap.size l2 w' (HX.out.r2.below hD.bel) hD.bel.size (by omega)).mono fun e w'' ⟨A', c', he, hb, _, ho⟩ => ⟨(A', c'), he, hD.call2 (hk.2.1 9 (by kernel_rfl)) (by rfl) hb ho⟩
  intro y
  simp only [Act.put, List.setIfInBounds_toArray, List.set_cons_zero, List.set_cons_succ]
  refine Fx.WM.eff 7 undef (by rfl) (by kernel_rfl) (by kernel_rfl) (by kernel_rfl) (by rfl) ?_ ?_
  · intro g f w' hx hD hk
    have hmt := hD
    have h7 : f 7 = false := hk.1
    have y5 := hmt.blk.cell 5
    simp only [h7, slC_no] at y5
    have f5 := hmt.blk.frozen 5
    refine Fx.gives_skip (w' := (w'.setCell ⟨w.heap.size, 5, none⟩ (.slice x.1 n1 x.2))) ?_ ?_
    · clear hx hk hD hmt h7
      go_simp
      try rfl
    · exact MtD.store1 hD (hx 2 _ (by rfl))
  simp only [Act.put, List.setIfInBounds_toArray, List.set_cons_zero, List.set_cons_succ]
  first
  | (refine Fx.WM.skip 8 (by rfl) (by kernel_rfl) (by kernel_rfl) (by kernel_rfl) (by rfl) (fun g f w h => h.same (by decide) (by decide)) ?_; simp only [Act.put, List.setIfInBounds_toArray, List.set_cons_zero, List.set_cons_succ])
  | (refine Fx.WM.val_ 8 ?_ (by rfl) (by kernel_rfl) (by kernel_rfl) (by kernel_rfl) (by rfl) ?_ (fun g f w h => h.same (by decide) (by decide)) ?_
     rotate_left
     · intro g f w' hx hD hk
       obtain hmt := id hD
       clear hx hk hD hmt
       go_simp
       try rfl
     simp only [Act.put, List.setIfInBounds_toArray, List.set_cons_zero, List.set_cons_succ])
  refine Fx.WM.eff 9 undef (by rfl) (by kernel_rfl) (by kernel_rfl) (by kernel_rfl) (by rfl) ?_ ?_
  · intro g f w' hx hD hk
    have hmt := hD
    have h9 : f 9 = false := hk.1
    have y6 := hmt.blk.cell 6
    simp only [h9, slC_no] at y6
    have f6 := hmt.blk.frozen 6
    refine Fx.gives_skip (w' := (w'.setCell ⟨w.heap.size, 6, none⟩ (.slice y.1 n2 y.2))) ?_ ?_
    · clear hx hk hD hmt h9
      go_simp
      try rfl
    · exact MtD.store2 hD (hx 5 _ (by rfl))
  simp only [Act.put, List.setIfInBounds_toArray, List.set_cons_zero, List.set_cons_succ]
  refine Fx.WM.nil (by kernel_rfl) ?_
  intro wz hmt
  have hb := hmt.bel
  have hblk : Blk wz w.heap.size 24 #[.int .i64 ls, .int .i64 ms, .int .i64 lo, .int .i64 hi, .int .i64 sp, .slice x.1 n1 x.2, .slice y.1 n2 y.2] := hmt.blk
  have hr1 := hmt.o1 x (by rfl)
  have hr2 := hmt.o2 y (by rfl)
  have hres := hmt.two
  clear hmt
  obtain ⟨B1, d1⟩ := x
  obtain ⟨B2, d2⟩ := y
  simp only at hblk hr1 hr2
  simp only [if_true, show ((5 : Nat) = 2) = False from by simp, if_false]
  have HB1 := Lib.hid hb
  have K0_1 := Lib.hid (show Blk wz (w.heap.size) 24 #[.int .i64 (ls), .int .i64 (ms), .int .i64 (lo), .int .i64 (hi), .int .i64 (sp), .slice B1 n1 d1, .slice B2 n2 d2] from hblk)
  have K1_1 := Lib.hid (show Blk wz (w.heap.size + 1) 24 #[.int .i64 (0), .int .i64 (0), .int .i64 (0), .int .i64 (0), .int .i64 (0), .slice none 0 0, .slice none 0 0] from hres)
  clear hb hblk hres
  have l0_1 : w.heap.size < wz.heap.size := K0_1.out.lt
  have z0_0_1 : wz.cell? ⟨w.heap.size, 0, none⟩ = some (.int .i64 (ls)) := K0_1.out.cell 0
  have z0_1_1 : wz.cell? ⟨w.heap.size, 1, none⟩ = some (.int .i64 (ms)) := K0_1.out.cell 1
  have z0_2_1 : wz.cell? ⟨w.heap.size, 2, none⟩ = some (.int .i64 (lo)) := K0_1.out.cell 2
  have z0_3_1 : wz.cell? ⟨w.heap.size, 3, none⟩ = some (.int .i64 (hi)) := K0_1.out.cell 3
  have z0_4_1 : wz.cell? ⟨w.heap.size, 4, none⟩ = some (.int .i64 (sp)) := K0_1.out.cell 4
  have z0_5_1 : wz.cell? ⟨w.heap.size, 5, none⟩ = some (.slice B1 n1 d1) := K0_1.out.cell 5
  have z0_6_1 : wz.cell? ⟨w.heap.size, 6, none⟩ = some (.slice B2 n2 d2) := K0_1.out.cell 6
  have l1_1 : w.heap.size + 1 < wz.heap.size := K1_1.out.lt
  have z1_0_1 : wz.cell? ⟨w.heap.size + 1, 0, none⟩ = some (.int .i64 (0)) := K1_1.out.cell 0
  have z1_1_1 : wz.cell? ⟨w.heap.size + 1, 1, none⟩ = some (.int .i64 (0)) := K1_1.out.cell 1
  have z1_2_1 : wz.cell? ⟨w.heap.size + 1, 2, none⟩ = some (.int .i64 (0)) := K1_1.out.cell 2
  have z1_3_1 : wz.cell? ⟨w.heap.size + 1, 3, none⟩ = some (.int .i64 (0)) := K1_1.out.cell 3
  have z1_4_1 : wz.cell? ⟨w.heap.size + 1, 4, none⟩ = some (.int .i64 (0)) := K1_1.out.cell 4
  have z1_5_1 : wz.cell? ⟨w.heap.size + 1, 5, none⟩ = some (.slice none 0 0) := K1_1.out.cell 5
  have z1_6_1 : wz.cell? ⟨w.heap.size + 1, 6, none⟩ = some (.slice none 0 0) := K1_1.out.cell 6
  have zf1_0 := K1_1.out.frozen 0
  have zf1_1 := K1_1.out.frozen 1
  have zf1_2 := K1_1.out.frozen 2
  have zf1_3 := K1_1.out.frozen 3
  have zf1_4 := K1_1.out.frozen 4
  have zf1_5 := K1_1.out.frozen 5
  have zf1_6 := K1_1.out.frozen 6
  have HR1 := Lib.hid hr1
  have HR2 := Lib.hid hr2
  clear hr1 hr2
  go_wp2
  generalize hwq : World.setCell _ _ _ = wq
  have hq : Blk wq (w.heap.size + 1) 24 #[.int .i64 ls, .int .i64 ms, .int .i64 lo, .int .i64 hi, .int .i64 sp, .slice B1 n1 d1, .slice B2 n2 d2] := by
    rw [← hwq]
    have := ((((((K1_1.out.set_ 0 (.int .i64 ls)).set_ 1 (.int .i64 ms)).set_ 2 (.int .i64 lo)).set_ 3 (.int .i64 hi)).set_ 4 (.int .i64 sp)).set_ 5 (.slice B1 n1 d1)).set_ 6 (.slice B2 n2 d2)
    simpa only [List.setIfInBounds_toArray, List.set_cons_zero, List.set_cons_succ] using this
  have hbq : Below (w.heap.size + 1) wz wq := by rw [← hwq]; exact (Below.setCell (Below.setCell (Below.setCell (Below.setCell (Below.setCell (Below.setCell (Below.setCell (Below.refl _ _) (p := ⟨w.heap.size + 1, 0, none⟩) (Nat.le_refl _) _) (p := ⟨w.heap.size + 1, 1, none⟩) (Nat.le_refl _) _) (p := ⟨w.heap.size + 1, 2, none⟩) (Nat.le_refl _) _) (p := ⟨w.heap.size + 1, 3, none⟩) (Nat.le_refl _) _) (p := ⟨w.heap.size + 1, 4, none⟩) (Nat.le_refl _) _) (p := ⟨w.heap.size + 1, 5, none⟩) (Nat.le_refl _) _) (p := ⟨w.heap.size + 1, 6, none⟩) (Nat.le_refl _) _)
  have HWQ := Lib.hid hwq
  clear hwq
  have hbz : Below w.heap.size w wq := HB1.out.trans (hbq.mono (by omega))
  have hr1 : Reads wq wq.heap.size 2 B1 n1 (cells2 l1) := own_reads2 (show wq.ownsRow (w.heap.size + 2) 60 2 _ _ _ by rw [← HWQ.out]; exact own_far (own_far (own_far (own_far (own_far (own_far (own_far HR1.out _ _ (Nat.le_refl _) _) _ _ (Nat.le_refl _) _) _ _ (Nat.le_refl _) _) _ _ (Nat.le_refl _) _) _ _ (Nat.le_refl _) _) _ _ (Nat.le_refl _) _) _ _ (Nat.le_refl _) _)
  have hr2 : Reads wq wq.heap.size 2 B2 n2 (cells2 l2) := own_reads2 (show wq.ownsRow (w.heap.size + 2) 60 2 _ _ _ by rw [← HWQ.out]; exact own_far (own_far (own_far (own_far (own_far (own_far (own_far HR2.out _ _ (Nat.le_refl _) _) _ _ (Nat.le_refl _) _) _ _ (Nat.le_refl _) _) _ _ (Nat.le_refl _) _) _ _ (Nat.le_refl _) _) _ _ (Nat.le_refl _) _) _ _ (Nat.le_refl _) _)
  have q0 := hq.cell 0
  have q1 := hq.cell 1
  have q2 := hq.cell 2
  have q3 := hq.cell 3
  have q4 := hq.cell 4
  have q5 := hq.cell 5
  have q6 := hq.cell 6
  have ql := hq.lt
  refine bodyPost_ret (v := .agg #[.int .i64 ls, .int .i64 ms, .int .i64 lo, .int .i64 hi, .int .i64 sp, .slice B1 n1 d1, .slice B2 n2 d2]) ?_ rfl ?_
  · simp [results, Try.results7, go_sem, q0, q1, q2, q3, q4, q5, q6, ql]
  · exact ⟨B1, d1, B2, d2, rfl, hbz, hr1, hr2, by show n1 ≤ _; omega, by show n2 ≤ _; omega⟩
end Go.Proofs.Ytclnffpfbngjoaa

end

section
/- Classes of worlds for a drawn region of calls whose results are known only behind them: what is chosen keeps its facts. -/
namespace Go.Proofs.Ytclnffpfbngjoaa
open Go Go.RowKit

@[go_sem] theorem held_arr2 : Try.prog.stoodInHeld 26 = false := by kernel_rfl
@[go_sem] theorem guard_arr2 : Try.prog.eqGuardType Try.prog.depth 26 = false := by kernel_rfl
theorem eq_arr2 (a b c d : Int) (w : World) : (Op.equalIn 10000 26 (.agg #[.int .i64 a, .int .i64 b]) (.agg #[.int .i64 c, .int .i64 d])).run Try.prog w = .ok (decide ((a, b) = (c, d))) w := by
  have h0 : (sizeOf 3).run Try.prog w = .ok 1 w := by kernel_rfl
  have p0 : ∀ u v : Value, (part 3 #[u, v] 0).run Try.prog w = .ok u w := fun _ _ => by kernel_rfl
  have p1 : ∀ u v : Value, (part 3 #[u, v] 1).run Try.prog w = .ok v w := fun _ _ => by kernel_rfl
  have q : ∀ u v : Int, (Op.equalIn 9999 3 (.int .i64 u) (.int .i64 v)).run Try.prog w = .ok (u == v) w := fun u v => run_equalIn_int w 9998 _ .i64 .i64 u v Try.underlying3
  show (Op.equalIn (9999 + 1) _ _ _).run _ w = _
  rw [Op.equalIn.eq_def]
  simp only [Sem.run_bind, run_underlying Try.underlying26, Result.andThen_ok, h0]
  rw [Std.Legacy.Range.forIn_eq_forIn_range']
  simp [List.range', p0, p1, q, Sem.run_bind]
  by_cases h1 : a = c <;> by_cases h2 : b = d <;> simp [h1, h2, p0, p1, q]
@[go_sem ↓ high] theorem eql_arr2 (a b c d : Int) (w : World) : (binOp .eql 26 (.agg #[.int .i64 a, .int .i64 b]) (.agg #[.int .i64 c, .int .i64 d])).run Try.prog w = .ok (.bool (decide ((a, b) = (c, d)))) w := by
  rw [run_eql_struct, eq_arr2]; rfl
@[go_sem ↓ high] theorem neq_arr2 (a b c d : Int) (w : World) : (binOp .neq 26 (.agg #[.int .i64 a, .int .i64 b]) (.agg #[.int .i64 c, .int .i64 d])).run Try.prog w = .ok (.bool (!decide ((a, b) = (c, d)))) w := by
  rw [run_neq_struct, eq_arr2]; rfl

abbrev Pick2 := Pick × Pick
def Stb (Pf : Nat → Pick2 → World → Prop) : Prop := ∀ i x (w w' : World), Below w.heap.size w w' → Pf i x w → Pf i x w'
structure Kp (Pf : Nat → Pick2 → World → Prop) (W : World) (g : Nat → Option Pick2) (w' : World) : Prop where
  bel : Below W.heap.size W w'
  has : ∀ i x, g i = some x → Pf i x w'
section
variable {Pf : Nat → Pick2 → World → Prop} {W w' w'' : World} {g : Nat → Option Pick2} {f : Nat → Bool}
theorem Kp.start : Kp Pf W (fun _ => none) (W.drewN 1) := ⟨below_drewN (Below.refl _ _) 1, fun _ _ h => nomatch h⟩
theorem Kp.call (h : Kp Pf W g w') (hs : Stb Pf) (hb : Below w'.heap.size w' w'') : Kp Pf W g w'' := ⟨step_below hb h.bel, fun i x hx => hs i x _ _ hb (h.has i x hx)⟩
theorem Kp.choose (h : Kp Pf W g w') (hs : Stb Pf) (hb : Below w'.heap.size w' w'') (i : Nat) (x : Pick2) (hx : Pf i x w'') : Kp Pf W (Fx.upd g i x) w'' := ⟨step_below hb h.bel, fun j y hy => by
  by_cases e : j = i
  · subst e
    rw [Fx.upd_same] at hy
    cases hy
    exact hx
  · rw [upd_ne e] at hy
    exact hs j y _ _ hb (h.has j y hy)⟩
/-- The same, with a block of two cells that operation c makes and operation s stores into. -/
structure KpS (Pf : Nat → Pick2 → World → Prop) (T : TypeId) (v0 v1 : Value) (c s : Nat) (W : World) (g : Nat → Option Pick2) (f : Nat → Bool) (w' : World) : Prop where
  bel : Below W.heap.size W w'
  has : f s = false → ∀ i x, g i = some x → i ≠ c → Pf i x w'
  made : ∀ x, g c = some x → ∃ b, x.1.1 = some ⟨b, 0, none⟩ ∧ W.heap.size ≤ b ∧ ∃ e0 e1, Blk w' b T #[e0, e1] ∧ (f s = true → e0 = v0 ∧ e1 = v1)
variable {T : TypeId} {v0 v1 : Value} {c s k : Nat}
theorem KpS.start : KpS Pf T v0 v1 c s W (fun _ => none) f (W.drewN 1) := ⟨below_drewN (Below.refl _ _) 1, fun _ _ _ h => (nomatch h), fun _ h => (nomatch h)⟩
theorem KpS.same (h : KpS Pf T v0 v1 c s W g f w') (hk : k ≠ s) : KpS Pf T v0 v1 c s W g (Fx.add f k) w' := ⟨h.bel, fun hf => h.has (by rwa [add_ne' hk] at hf), fun x hx => by
  obtain ⟨b, h0, h1, e0, e1, h2, h3⟩ := h.made x hx
  exact ⟨b, h0, h1, e0, e1, h2, fun hf => h3 (by rwa [add_ne' hk] at hf)⟩⟩
theorem KpS.call (h : KpS Pf T v0 v1 c s W g f w') (hs : Stb Pf) (hk : k ≠ s) (hb : Below w'.heap.size w' w'') : KpS Pf T v0 v1 c s W g (Fx.add f k) w'' := ⟨step_below hb h.bel, fun hf i x hx hi => hs i x _ _ hb (h.has (by rwa [add_ne' hk] at hf) i x hx hi), fun x hx => by
  obtain ⟨b, h0, h1, e0, e1, h2, h3⟩ := h.made x hx
  exact ⟨b, h0, h1, e0, e1, h2.below hb h2.lt, fun hf => h3 (by rwa [add_ne' hk] at hf)⟩⟩
theorem KpS.choose (h : KpS Pf T v0 v1 c s W g f w') (hs : Stb Pf) (hb : Below w'.heap.size w' w'') (i : Nat) (x : Pick2) (hi : i ≠ s) (hc : i ≠ c) (hx : Pf i x w'') : KpS Pf T v0 v1 c s W (Fx.upd g i x) (Fx.add f i) w'' := ⟨step_below hb h.bel, fun hf j y hy hj => by
  by_cases e : j = i
  · subst e
    rw [Fx.upd_same] at hy
    cases hy
    exact hx
  · rw [upd_ne e] at hy
    exact hs j y _ _ hb (h.has (by rwa [add_ne' hi] at hf) j y hy hj), fun y hy => by
  rw [upd_ne hc.symm] at hy
  obtain ⟨b, h0, h1, e0, e1, h2, h3⟩ := h.made y hy
  exact ⟨b, h0, h1, e0, e1, h2.below hb h2.lt, fun hf => h3 (by rwa [add_ne' hi] at hf)⟩⟩
theorem KpS.make {a b : Value} (h : KpS Pf T v0 v1 c s W g f w') (hs : Stb Pf) (hf : f s = false) (hc : c ≠ s) : KpS Pf T v0 v1 c s W (Fx.upd g c ((some ⟨w'.heap.size, 0, none⟩, 0), (none, 0))) (Fx.add f c) (w'.alloc (.cells #[a, b] T)) := ⟨h.bel.alloc h.bel.size _, fun _ j y hy hj => by
  rw [upd_ne hj] at hy
  exact hs j y _ _ ((Below.refl _ _).alloc (Nat.le_refl _) _) (h.has hf j y hy hj), fun y hy => by
  rw [Fx.upd_same] at hy
  cases hy
  refine ⟨w'.heap.size, rfl, h.bel.size, a, b, Blk.new _ _ _, fun e => ?_⟩
  rw [add_ne' hc, hf] at e
  cases e⟩
theorem KpS.cells {x : Pick2} (h : KpS Pf T v0 v1 c s W g f w') (hx : g c = some x) : ∃ b e0 e1, x.1.1 = some ⟨b, 0, none⟩ ∧ W.heap.size ≤ b ∧ w'.cell? ⟨b, 0, none⟩ = some e0 ∧ w'.cell? ⟨b, 1, none⟩ = some e1 ∧ w'.frozen? ⟨b, 0, none⟩ = false ∧ w'.frozen? ⟨b, 1, none⟩ = false := by
  obtain ⟨b, h0, h1, e0, e1, h2, -⟩ := h.made x hx
  exact ⟨b, e0, e1, h0, h1, h2.cell 0, h2.cell 1, h2.frozen 0, h2.frozen 1⟩
theorem KpS.store {x : Pick2} {b : Nat} (h : KpS Pf T v0 v1 c s W g f w') (hx : g c = some x) (hb : x.1.1 = some ⟨b, 0, none⟩) : KpS Pf T v0 v1 c s W g (Fx.add f s) ((w'.setCell ⟨b, 0, none⟩ v0).setCell ⟨b, 1, none⟩ v1) := by
  obtain ⟨b', h0, h1, e0, e1, h2, -⟩ := h.made x hx
  rw [hb] at h0
  cases h0
  refine ⟨below_store h.bel h1, fun hf => (by rw [add_same] at hf; cases hf), fun y hy => ?_⟩
  rw [hx] at hy
  cases hy
  refine ⟨b, hb, h1, v0, v1, ?_, fun _ => ⟨rfl, rfl⟩⟩
  have := (h2.set_ 0 v0).set_ 1 v1
  simpa using this
theorem KpS.end_ {x : Pick2} (h : KpS Pf T v0 v1 c s W g f w') (hx : g c = some x) (hf : f s = true) : ∃ b, x.1.1 = some ⟨b, 0, none⟩ ∧ W.heap.size ≤ b ∧ Blk w' b T #[v0, v1] := by
  obtain ⟨b, h0, h1, e0, e1, h2, h3⟩ := h.made x hx
  obtain ⟨rfl, rfl⟩ := h3 hf
  exact ⟨b, h0, h1, h2⟩
end

theorem mnt_lay {m : Mnt} {W W1 : World} (hb : Below W.heap.size W W1) {wa : World} (ha : Below wa.heap.size wa W) (h : MntAt m wa) : MntAt m W1 := (h.lay ha).lay hb
/-- What is known of copies: of a mounting (operation ci), of targets (operation ti), of numbers (operation ki). -/
def PfT (m : Mnt) (n : Nat) (l : List Tgt) (q : Nat) (ks : List Int) (ci ti ki : Nat) (i : Nat) (x : Pick2) (w : World) : Prop :=
  (i = ci → MntAt (m.to x.1.1 x.1.2 x.2.1 x.2.2) w) ∧ (i = ti → Reads w w.heap.size 6 x.1.1 n (tgtCells l) ∧ (n ≤ x.1.2 ∧ x.1.2 ≤ 9223372036854775807)) ∧ (i = ki → Reads w w.heap.size 1 x.1.1 q (ks.map (.int .i64)) ∧ (q ≤ x.1.2 ∧ x.1.2 ≤ 9223372036854775807))
theorem PfT.stb {m : Mnt} {n : Nat} {l : List Tgt} {q : Nat} {ks : List Int} {ci ti ki : Nat} : Stb (PfT m n l q ks ci ti ki) := fun _ _ _ _ hb h =>
  ⟨fun e => (h.1 e).lay hb, fun e => ⟨((h.2.1 e).1.below hb).more hb.size, (h.2.1 e).2⟩, fun e => ⟨((h.2.2 e).1.below hb).more hb.size, (h.2.2 e).2⟩⟩
def valT (m : Mnt) (n q ci ti : Nat) (i : Nat) (x : Pick2) : Value := if i = ci then (m.to x.1.1 x.1.2 x.2.1 x.2.2).val else if i = ti then .slice x.1.1 n x.1.2 else .slice x.1.1 q x.1.2
/-- What is known of a copy of a mounting (operation ci) and of a list of numbers (operation ki). -/
def PfQ (m : Mnt) (q : Nat) (ks : List Int) (ci ki : Nat) (i : Nat) (x : Pick2) (w : World) : Prop :=
  (i = ci → MntAt (m.to x.1.1 x.1.2 x.2.1 x.2.2) w) ∧ (i = ki → Reads w w.heap.size 1 x.1.1 q (ks.map (.int .i64)))
theorem PfQ.stb {m : Mnt} {q : Nat} {ks : List Int} {ci ki : Nat} : Stb (PfQ m q ks ci ki) := fun _ _ _ _ hb h =>
  ⟨fun e => (h.1 e).lay hb, fun e => ((h.2 e).below hb).more hb.size⟩
end Go.Proofs.Ytclnffpfbngjoaa

end
