import Derived.Test.YtgamepmipoociaaQ11
import Derived.Test.YtgamepmipoociaaQ18
import Derived.Test.YtgamepmipoociaaQ5
import Derived.Test.YtgamepmipoociaaQ14
import Derived.Test.YtgamepmipoociaaQ3

section
/- Contracts of what the statements on pointing do with their arguments: guards and copies. -/
namespace Go.Proofs.Ytgamepmipoociaa
open Go Go.RowKit

theorem low {P : Program} {f : FuncId} {args : Array Value} {w : World} {E : Ending} (h : Calls P f args w fun e w' => e = E ∧ ∃ q, w' = w.drewN q) : Calls P f args w fun e w' => e = E ∧ Below w.heap.size w w' :=
  h.mono fun e w' ⟨he, q, hw⟩ => ⟨he, by rw [hw]; exact below_drewN (Below.refl _ _) q⟩

def rowsB (n : Nat) : Bool := decide (n ≤ 6) || (decide (40 < n) && decide (n ≤ 43))
theorem rowsB_le {n : Nat} (h : rowsB n = true) : n ≤ 43 := by unfold rowsB at h; simp at h; omega
theorem rows_is (A : Option Addr) (n c : Nat) (t : Bool) (h : rowsB n = t) (w : World) : Calls Try.prog 19 #[.slice A n c] w fun e w' => e = .returned (.bool t) ∧ w = w' := by
  have h0 := h
  unfold rowsB at h
  by_cases h6 : n ≤ 6
  · have ht : t = true := by simpa [h6] using h.symm
    subst ht
    have k1 : (n : Int) ≤ 6 := by omega
    clear h h0 h6
    go_enter Try.func19, Try.ntmps19
    go_wp2
    go_ret
    exact ⟨rfl, rfl⟩
  have k1 : ¬ (n : Int) ≤ 6 := by omega
  by_cases h40 : 40 < n
  · have k2 : (40 : Int) < n := by omega
    by_cases h43 : n ≤ 43
    · have ht : t = true := by simpa [h6, h40, h43] using h.symm
      subst ht
      have k3 : (n : Int) ≤ 43 := by omega
      clear h h0 h6 h40 h43
      go_enter Try.func19, Try.ntmps19
      go_wp2
      go_ret
      exact ⟨rfl, rfl⟩
    · have ht : t = false := by simpa [h6, h40, h43] using h.symm
      subst ht
      have k3 : ¬ (n : Int) ≤ 43 := by omega
      clear h h0 h6 h40 h43
      go_enter Try.func19, Try.ntmps19
      go_wp2
      go_ret
      exact ⟨rfl, rfl⟩
  · have k2 : ¬ (40 : Int) < n := by omega
    have ht : t = false := by simpa [h6, h40] using h.symm
    subst ht
    clear h h0 h6 h40
    go_enter Try.func19, Try.ntmps19
    go_wp2
    go_ret
    exact ⟨rfl, rfl⟩

theorem info_row : (Try.prog.info? 38).map (fun i => (i.zero, i.size, i.bytes)) = some (some (.agg #[.int .i64 0, .int .i64 0]), 2, 16) := by kernel_rfl
theorem ctable_any (A : Option Addr) (n c N : Nat) (l : List (Int × Int)) (w : World) (hx : Reads w N 2 A n (cells2 l)) (hN : N ≤ w.heap.size) (hn : n ≤ 1000000) :
    Calls Try.prog 21 #[.slice A n c] w (CopyPost w 38 2 n (cells2 l)) := by
  obtain ⟨v', W2, hrun, ho, hb⟩ := copy_run (P := Try.prog) 30 30 38 _ 2 16 Try.underlying30 info_row rfl (by omega) w N A n c (cells2 l) hx hN (one_cells2 l) (by unfold maxLen; omega) (by omega)
  have HRUN := Lib.hid hrun
  have HO := Lib.hid ho
  have HB := Lib.hid hb
  clear hrun ho hb
  go_enter Try.func21, Try.ntmps21
  go_wp2_with (first | (at_builtin; refine wpList_app _ W2 v' rfl _ _ _ rfl _ _ rfl rfl HRUN.out ?_))
  go_ret
  exact CopyPost.of HO.out HB.out

theorem info_tgt : (Try.prog.info? 44).map (fun i => (i.zero, i.size, i.bytes)) = some (some (.agg #[.string ByteArray.empty, .int .i64 0, .int .i64 0, .int .i64 0, .int .i64 0, .int .i64 0]), 6, 56) := by kernel_rfl
theorem one_tgts (l : List Tgt) : ∀ u ∈ tgtCells l, u.oneCell' = true := by
  intro u hu
  unfold tgtCells at hu
  rw [List.mem_flatMap] at hu
  obtain ⟨p, -, hp⟩ := hu
  simp [Tgt.cells] at hp
  rcases hp with rfl | rfl | rfl | rfl | rfl | rfl <;> rfl
theorem ctargets_any (A : Option Addr) (n c N : Nat) (l : List Tgt) (w : World) (hx : Reads w N 6 A n (tgtCells l)) (hN : N ≤ w.heap.size) (hn : n ≤ 1000000) :
    Calls Try.prog 40 #[.slice A n c] w (CopyPost w 44 6 n (tgtCells l)) := by
  obtain ⟨v', W2, hrun, ho, hb⟩ := copy_run (P := Try.prog) 62 62 44 _ 6 56 Try.underlying62 info_tgt rfl (by omega) w N A n c (tgtCells l) hx hN (one_tgts l) (by unfold maxLen; omega) (by omega)
  have HRUN := Lib.hid hrun
  have HO := Lib.hid ho
  have HB := Lib.hid hb
  clear hrun ho hb
  go_enter Try.func40, Try.ntmps40
  go_wp2_with (first | (at_builtin; refine wpList_app _ W2 v' rfl _ _ _ rfl _ _ rfl rfl HRUN.out ?_))
  go_ret
  exact CopyPost.of HO.out HB.out

def lightB (m : Mnt) : Bool := rowsB m.n1 && rowsB m.n2
theorem light_is (m : Mnt) (t : Bool) (h : lightB m = t) (w : World) : Calls Try.prog 26 #[m.val] w fun e w' => e = .returned (.bool t) ∧ Below w.heap.size w w' := by
  obtain ⟨ls, ms, lo, hi, sp, A1, n1, c1, l1, A2, n2, c2, l2⟩ := m
  unfold lightB at h
  simp only at h
  unfold Mnt.val
  simp only
  cases h1 : rowsB n1
  · rw [h1] at h
    have ht : t = false := by simpa using h.symm
    subst ht
    have H1 := Lib.hid h1
    clear h h1
    go_enter Try.func26, Try.ntmps26
    go_wp2_with fail
    refine (rows_is A1 n1 c1 false H1.out _).mono ?_
    rintro e w' ⟨rfl, rfl⟩
    go_wp2
    go_ret
    exact ⟨rfl, by repeat' (first | exact Below.refl _ _ | refine below_drewN ?_ _ | refine Below.drew ?_ | refine Below.alloc ?_ (by first | omega | (simp; done) | (simp; omega) | (simp [World.setCell]; omega)) _ | refine Below.setCell ?_ (by first | omega | (simp; done) | (simp; omega)) _)⟩
  · rw [h1, Bool.true_and] at h
    have H1 := Lib.hid h1
    have H := Lib.hid h
    clear h h1
    go_enter Try.func26, Try.ntmps26
    go_wp2_with fail
    refine (rows_is A1 n1 c1 true H1.out _).mono ?_
    rintro e w' ⟨rfl, rfl⟩
    go_wp2_with fail
    refine (rows_is A2 n2 c2 t H.out _).mono ?_
    rintro e w' ⟨rfl, rfl⟩
    go_wp2
    go_ret
    exact ⟨rfl, by repeat' (first | exact Below.refl _ _ | refine below_drewN ?_ _ | refine Below.drew ?_ | refine Below.alloc ?_ (by first | omega | (simp; done) | (simp; omega) | (simp [World.setCell]; omega)) _ | refine Below.setCell ?_ (by first | omega | (simp; done) | (simp; omega)) _)⟩

/-- A mounting with its tables elsewhere. -/
def Mnt.to (m : Mnt) (A1 : Option Addr) (c1 : Nat) (A2 : Option Addr) (c2 : Nat) : Mnt := { m with A1 := A1, c1 := c1, A2 := A2, c2 := c2 }
def MountPost (m : Mnt) (w : World) (e : Ending) (w' : World) : Prop := ∃ A1 c1 A2 c2, e = .returned (m.to A1 c1 A2 c2).val ∧ Below w.heap.size w w' ∧ MntAt (m.to A1 c1 A2 c2) w'

/-- The mounting in its block, while its tables are copied. -/
def slC (n : Nat) (u : Value) (f : Bool) : Option Pick → Value
  | some x => if f then .slice x.1 n x.2 else u
  | none => u
theorem slC_no (n : Nat) (u : Value) (o : Option Pick) : slC n u false o = u := by cases o <;> rfl
structure MtD (rs : Array Value) (T e : TypeId) (b n1 n2 : Nat) (l1 l2 : List Value) (v0 v1 v2 v3 v4 u1 u2 : Value) (W : World) (g : Nat → Option Pick) (f : Nat → Bool) (w' : World) : Prop where
  bel : Below b W w'
  two : Blk w' (b + 1) T rs
  blk : Blk w' b T #[v0, v1, v2, v3, v4, slC n1 u1 (f 7) (g 2), slC n2 u2 (f 9) (g 5)]
  o1 : ∀ x, g 2 = some x → w'.ownsRow (b + 2) e 2 (.slice x.1 n1 x.2) n1 l1
  o2 : ∀ x, g 5 = some x → w'.ownsRow (b + 2) e 2 (.slice x.1 n2 x.2) n2 l2
section
variable {rs : Array Value} {T e : TypeId} {b n1 n2 k : Nat} {l1 l2 : List Value} {v0 v1 v2 v3 v4 u1 u2 : Value} {W w' w'' : World} {g : Nat → Option Pick} {f : Nat → Bool}
theorem MtD.same (h : MtD rs T e b n1 n2 l1 l2 v0 v1 v2 v3 v4 u1 u2 W g f w') (k7 : k ≠ 7) (k9 : k ≠ 9) : MtD rs T e b n1 n2 l1 l2 v0 v1 v2 v3 v4 u1 u2 W g (Fx.add f k) w' :=
  ⟨h.bel, h.two, by rw [add_ne' k7, add_ne' k9]; exact h.blk, h.o1, h.o2⟩
theorem MtD.call1 {x : Pick} (h : MtD rs T e b n1 n2 l1 l2 v0 v1 v2 v3 v4 u1 u2 W g f w') (hf : f 7 = false) (hg : g 2 = none) (hb : Below w'.heap.size w' w'') (ho : w''.ownsRow w'.heap.size e 2 (.slice x.1 n1 x.2) n1 l1) : MtD rs T e b n1 n2 l1 l2 v0 v1 v2 v3 v4 u1 u2 W (Fx.upd g 2 x) (Fx.add f 2) w'' := by
  have hlt := h.blk.lt
  have hlt2 := h.two.lt
  refine ⟨h.bel.trans (hb.mono (by omega)), h.two.below hb h.two.lt, ?_, fun y hy => ?_, fun y hy => ?_⟩
  · rw [add_ne' (by decide), add_ne' (by decide), Fx.upd_same, upd_ne (by decide), hf]
    have := h.blk.below hb hlt
    rw [hg] at this
    exact this
  · rw [Fx.upd_same] at hy
    cases hy
    exact own_base (by omega) ho
  · rw [upd_ne (by decide)] at hy
    exact own_below (h.o2 y hy) hb (Nat.le_refl _)
theorem MtD.call2 {x : Pick} (h : MtD rs T e b n1 n2 l1 l2 v0 v1 v2 v3 v4 u1 u2 W g f w') (hf : f 9 = false) (hg : g 5 = none) (hb : Below w'.heap.size w' w'') (ho : w''.ownsRow w'.heap.size e 2 (.slice x.1 n2 x.2) n2 l2) : MtD rs T e b n1 n2 l1 l2 v0 v1 v2 v3 v4 u1 u2 W (Fx.upd g 5 x) (Fx.add f 5) w'' := by
  have hlt := h.blk.lt
  have hlt2 := h.two.lt
  refine ⟨h.bel.trans (hb.mono (by omega)), h.two.below hb h.two.lt, ?_, fun y hy => ?_, fun y hy => ?_⟩
  · rw [add_ne' (by decide), add_ne' (by decide), Fx.upd_same, upd_ne (by decide), hf]
    have := h.blk.below hb hlt
    rw [hg] at this
    exact this
  · rw [upd_ne (by decide)] at hy
    exact own_below (h.o1 y hy) hb (Nat.le_refl _)
  · rw [Fx.upd_same] at hy
    cases hy
    exact own_base (by omega) ho
theorem own_far {w : World} {v : Value} {size n : Nat} {xs : List Value} (h : w.ownsRow (b + 2) e size v n xs) (q i : Nat) (hq : q ≤ b + 1) (u : Value) : (w.setCell ⟨q, i, none⟩ u).ownsRow (b + 2) e size v n xs :=
  own_set h (fun e => by have := (own_lt h e).1; simp at this; omega) u
theorem MtD.store1 {x : Pick} (h : MtD rs T e b n1 n2 l1 l2 v0 v1 v2 v3 v4 u1 u2 W g f w') (hg : g 2 = some x) : MtD rs T e b n1 n2 l1 l2 v0 v1 v2 v3 v4 u1 u2 W g (Fx.add f 7) (w'.setCell ⟨b, 5, none⟩ (.slice x.1 n1 x.2)) := by
  refine ⟨h.bel.setCell (p := ⟨b, 5, none⟩) (Nat.le_refl _) _, h.two.far (p := ⟨b, 5, none⟩) (by simp) _, ?_, fun y hy => own_far (h.o1 y hy) _ _ (by omega) _, fun y hy => own_far (h.o2 y hy) _ _ (by omega) _⟩
  rw [add_same, add_ne' (by decide)]
  have := h.blk.set_ 5 (.slice x.1 n1 x.2)
  simp only [List.setIfInBounds_toArray, List.set_cons_zero, List.set_cons_succ] at this
  rw [show slC n1 u1 true (g 2) = .slice x.1 n1 x.2 by rw [hg]; rfl]
  exact this
theorem MtD.store2 {x : Pick} (h : MtD rs T e b n1 n2 l1 l2 v0 v1 v2 v3 v4 u1 u2 W g f w') (hg : g 5 = some x) : MtD rs T e b n1 n2 l1 l2 v0 v1 v2 v3 v4 u1 u2 W g (Fx.add f 9) (w'.setCell ⟨b, 6, none⟩ (.slice x.1 n2 x.2)) := by
  refine ⟨h.bel.setCell (p := ⟨b, 6, none⟩) (Nat.le_refl _) _, h.two.far (p := ⟨b, 6, none⟩) (by simp) _, ?_, fun y hy => own_far (h.o1 y hy) _ _ (by omega) _, fun y hy => own_far (h.o2 y hy) _ _ (by omega) _⟩
  rw [add_same, add_ne' (by decide)]
  have := h.blk.set_ 6 (.slice x.1 n2 x.2)
  simp only [List.setIfInBounds_toArray, List.set_cons_zero, List.set_cons_succ] at this
  rw [show slC n2 u2 true (g 5) = .slice x.1 n2 x.2 by rw [hg]; rfl]
  exact this
end

set_option maxRecDepth 100000 in
set_option maxHeartbeats 2000000 in
theorem mount_any (m : Mnt) (w : World) (hx : MntAt m w) (h1 : m.n1 ≤ 1000) (h2 : m.n2 ≤ 1000) : Calls Try.prog 28 #[m.val] w (MountPost m w) := by
  obtain ⟨ls, ms, lo, hi, sp, A1, n1, c1, l1, A2, n2, c2, l2⟩ := m
  have HX := Lib.hid hx
  simp only at h1 h2
  unfold Mnt.val
  simp only
  clear hx
  go_enter Try.func28, Try.ntmps28
  go_wp2
  refine Fx.regionM (fun W g f w' => MtD #[.int .i64 0, .int .i64 0, .int .i64 0, .int .i64 0, .int .i64 0, .slice none 0 0, .slice none 0 0] 42 38 w.heap.size n1 n2 (cells2 l1) (cells2 l2) (.int .i64 ls) (.int .i64 ms) (.int .i64 lo) (.int .i64 hi) (.int .i64 sp) (.slice A1 n1 c1) (.slice A2 n2 c2) w g f w') (fun i (x : Pick) => if i = 2 then .slice x.1 n1 x.2 else .slice x.1 n2 x.2) (by kernel_rfl) ?_ ?_
  · intro f hf0
    refine ⟨by repeat' (first | exact Below.refl _ _ | refine below_drewN ?_ _ | refine Below.drew ?_ | refine Below.alloc ?_ (by first | omega | (simp; done) | (simp; omega) | (simp [World.setCell]; omega)) _ | refine Below.setCell ?_ (by first | omega | (simp; done) | (simp; omega)) _), by repeat' (first | assumption | exact Blk.at_ _ (by first | rfl | (simp; done) | (simp; omega)) _ _ | refine Blk.drewN ?_ _ | refine Blk.drew ?_ | refine Blk.alloc ?_ _ | refine Blk.far ?_ (by first | omega | (simp; done) | (simp; omega)) _), ?_, fun x h => (nomatch h), fun x h => (nomatch h)⟩
    rw [hf0 7, hf0 9]
    repeat' (first | assumption | exact Blk.at_ _ (by first | rfl | (simp; done) | (simp; omega)) _ _ | refine Blk.drewN ?_ _ | refine Blk.drew ?_ | refine Blk.alloc ?_ _ | refine Blk.far ?_ (by first | omega | (simp; done) | (simp; omega)) _)
  first
  | (refine Fx.WM.skip 0 (by rfl) (by kernel_rfl) (by kernel_rfl) (by kernel_rfl) (by rfl) (fun g f w h => h.same (by decide) (by decide)) ?_; simp only [Act.put, List.setIfInBounds_toArray, List.set_cons_zero, List.set_cons_succ])
  | (refine Fx.WM.val_ 0 ?_ (by rfl) (by kernel_rfl) (by kernel_rfl) (by kernel_rfl) (by rfl) ?_ (fun g f w h => h.same (by decide) (by decide)) ?_
     rotate_left
     · intro g f w' hx hD hk
       obtain hmt := id hD
       clear hx hk hD hmt
       go_simp
       try rfl
     simp only [Act.put, List.setIfInBounds_toArray, List.set_cons_zero, List.set_cons_succ])
  first
  | (refine Fx.WM.skip 1 (by rfl) (by kernel_rfl) (by kernel_rfl) (by kernel_rfl) (by rfl) (fun g f w h => h.same (by decide) (by decide)) ?_; simp only [Act.put, List.setIfInBounds_toArray, List.set_cons_zero, List.set_cons_succ])
  | (refine Fx.WM.val_ 1 ?_ (by rfl) (by kernel_rfl) (by kernel_rfl) (by kernel_rfl) (by rfl) ?_ (fun g f w h => h.same (by decide) (by decide)) ?_
     rotate_left
     · intro g f w' hx hD hk
       obtain hmt := id hD
       have h7 : f 7 = false := hk.2.1 7 (by kernel_rfl)
       have y5 := hmt.blk.cell 5
       simp only [h7, slC_no] at y5
       clear hx hk hD hmt h7
       go_simp
       try rfl
     simp only [Act.put, List.setIfInBounds_toArray, List.set_cons_zero, List.set_cons_succ])
  first
  | (refine Fx.WM.skip 3 (by rfl) (by kernel_rfl) (by kernel_rfl) (by kernel_rfl) (by rfl) (fun g f w h => h.same (by decide) (by decide)) ?_; simp only [Act.put, List.setIfInBounds_toArray, List.set_cons_zero, List.set_cons_succ])
  | (refine Fx.WM.val_ 3 ?_ (by rfl) (by kernel_rfl) (by kernel_rfl) (by kernel_rfl) (by rfl) ?_ (fun g f w h => h.same (by decide) (by decide)) ?_
     rotate_left
     · intro g f w' hx hD hk
       obtain hmt := id hD
       clear hx hk hD hmt
       go_simp
       try rfl
     simp only [Act.put, List.setIfInBounds_toArray, List.set_cons_zero, List.set_cons_succ])
  first
  | (refine Fx.WM.skip 4 (by rfl) (by kernel_rfl) (by kernel_rfl) (by kernel_rfl) (by rfl) (fun g f w h => h.same (by decide) (by decide)) ?_; simp only [Act.put, List.setIfInBounds_toArray, List.set_cons_zero, List.set_cons_succ])
  | (refine Fx.WM.val_ 4 ?_ (by rfl) (by kernel_rfl) (by kernel_rfl) (by kernel_rfl) (by rfl) ?_ (fun g f w h => h.same (by decide) (by decide)) ?_
     rotate_left
     · intro g f w' hx hD hk
       obtain hmt := id hD
       have h9 : f 9 = false := hk.2.1 9 (by kernel_rfl)
       have y6 := hmt.blk.cell 6
       simp only [h9, slC_no] at y6
       clear hx hk hD hmt h9
       go_simp
       try rfl
     simp only [Act.put, List.setIfInBounds_toArray, List.set_cons_zero, List.set_cons_succ])
  refine Fx.WM.choose 2 (by rfl) (by kernel_rfl) (by rfl) ?_ ?_
  · skip
    refine Fx.Chooses.call ?_ ?_ (by rfl) ?_ ?_
    rotate_left 2
    · intro w'
      go_simp
      refine ⟨?_, ?_⟩ <;> rfl
    · intro f w' hD hk
      exact (ctable_any A1 n1 c1 w.heap.size l1 w' (HX.out.r1.below hD.bel) hD.bel.size (by omega)).mono fun e w'' ⟨A', c', he, hb, _, ho⟩ => ⟨(A', c'), he, hD.call1 (hk.2.1 7 (by kernel_rfl)) (by rfl) hb ho⟩
  intro x
  simp only [Act.put, List.setIfInBounds_toArray, List.set_cons_zero, List.set_cons_succ]
  first
  | (refine Fx.WM.skip 6 (by rfl) (by kernel_rfl) (by kernel_rfl) (by kernel_rfl) (by rfl) (fun g f w h => h.same (by decide) (by decide)) ?_; simp only [Act.put, List.setIfInBounds_toArray, List.set_cons_zero, List.set_cons_succ])
  | (refine Fx.WM.val_ 6 ?_ (by rfl) (by kernel_rfl) (by kernel_rfl) (by kernel_rfl) (by rfl) ?_ (fun g f w h => h.same (by decide) (by decide)) ?_
     rotate_left
     · intro g f w' hx hD hk
       obtain hmt := id hD
       clear hx hk hD hmt
       go_simp
       try rfl
     simp only [Act.put, List.setIfInBounds_toArray, List.set_cons_zero, List.set_cons_succ])
  refine Fx.WM.choose 5 (by rfl) (by kernel_rfl) (by rfl) ?_ ?_
  · skip
    refine Fx.Chooses.call ?_ ?_ (by rfl) ?_ ?_
    rotate_left 2
    · intro w'
      go_simp
      refine ⟨?_, ?_⟩ <;> rfl
    · intro f w' hD hk
      exact (ctable_any A2 n2 c2 w.heap.size l2 w' (HX.out.r2.below hD.bel) hD.bel.size (by omega)).mono fun e w'' ⟨A', c', he, hb, _, ho⟩ => ⟨(A', c'), he, hD.call2 (hk.2.1 9 (by kernel_rfl)) (by rfl) hb ho⟩
  intro y
  simp only [Act.put, List.setIfInBounds_toArray, List.set_cons_zero, List.set_cons_succ]
  refine Fx.WM.eff 7 undef (by rfl) (by kernel_rfl) (by kernel_rfl) (by kernel_rfl) (by rfl) ?_ ?_
  · intro g f w' hx hD hk
    have hmt := hD
    have h7 : f 7 = false := hk.1
    have y5 := hmt.blk.cell 5
    simp only [h7, slC_no] at y5
    have f5 := hmt.blk.frozen 5
    refine Fx.gives_skip (w' := (w'.setCell ⟨w.heap.size, 5, none⟩ (.slice x.1 n1 x.2))) ?_ ?_
    · clear hx hk hD hmt h7
      go_simp
      try rfl
    · exact MtD.store1 hD (hx 2 _ (by rfl))
  simp only [Act.put, List.setIfInBounds_toArray, List.set_cons_zero, List.set_cons_succ]
  first
  | (refine Fx.WM.skip 8 (by rfl) (by kernel_rfl) (by kernel_rfl) (by kernel_rfl) (by rfl) (fun g f w h => h.same (by decide) (by decide)) ?_; simp only [Act.put, List.setIfInBounds_toArray, List.set_cons_zero, List.set_cons_succ])
  | (refine Fx.WM.val_ 8 ?_ (by rfl) (by kernel_rfl) (by kernel_rfl) (by kernel_rfl) (by rfl) ?_ (fun g f w h => h.same (by decide) (by decide)) ?_
     rotate_left
     · intro g f w' hx hD hk
       obtain hmt := id hD
       clear hx hk hD hmt
       go_simp
       try rfl
     simp only [Act.put, List.setIfInBounds_toArray, List.set_cons_zero, List.set_cons_succ])
  refine Fx.WM.eff 9 undef (by rfl) (by kernel_rfl) (by kernel_rfl) (by kernel_rfl) (by rfl) ?_ ?_
  · intro g f w' hx hD hk
    have hmt := hD
    have h9 : f 9 = false := hk.1
    have y6 := hmt.blk.cell 6
    simp only [h9, slC_no] at y6
    have f6 := hmt.blk.frozen 6
    refine Fx.gives_skip (w' := (w'.setCell ⟨w.heap.size, 6, none⟩ (.slice y.1 n2 y.2))) ?_ ?_
    · clear hx hk hD hmt h9
      go_simp
      try rfl
    · exact MtD.store2 hD (hx 5 _ (by rfl))
  simp only [Act.put, List.setIfInBounds_toArray, List.set_cons_zero, List.set_cons_succ]
  refine Fx.WM.nil (by kernel_rfl) ?_
  intro wz hmt
  have hb := hmt.bel
  have hblk : Blk wz w.heap.size 42 #[.int .i64 ls, .int .i64 ms, .int .i64 lo, .int .i64 hi, .int .i64 sp, .slice x.1 n1 x.2, .slice y.1 n2 y.2] := hmt.blk
  have hr1 := hmt.o1 x (by rfl)
  have hr2 := hmt.o2 y (by rfl)
  have hres := hmt.two
  clear hmt
  obtain ⟨B1, d1⟩ := x
  obtain ⟨B2, d2⟩ := y
  simp only at hblk hr1 hr2
  simp only [if_true, show ((5 : Nat) = 2) = False from by simp, if_false]
  have HB1 := Lib.hid hb
  have K0_1 := Lib.hid (show Blk wz (w.heap.size) 42 #[.int .i64 (ls), .int .i64 (ms), .int .i64 (lo), .int .i64 (hi), .int .i64 (sp), .slice B1 n1 d1, .slice B2 n2 d2] from hblk)
  have K1_1 := Lib.hid (show Blk wz (w.heap.size + 1) 42 #[.int .i64 (0), .int .i64 (0), .int .i64 (0), .int .i64 (0), .int .i64 (0), .slice none 0 0, .slice none 0 0] from hres)
  clear hb hblk hres
  have l0_1 : w.heap.size < wz.heap.size := K0_1.out.lt
  have z0_0_1 : wz.cell? ⟨w.heap.size, 0, none⟩ = some (.int .i64 (ls)) := K0_1.out.cell 0
  have z0_1_1 : wz.cell? ⟨w.heap.size, 1, none⟩ = some (.int .i64 (ms)) := K0_1.out.cell 1
  have z0_2_1 : wz.cell? ⟨w.heap.size, 2, none⟩ = some (.int .i64 (lo)) := K0_1.out.cell 2
  have z0_3_1 : wz.cell? ⟨w.heap.size, 3, none⟩ = some (.int .i64 (hi)) := K0_1.out.cell 3
  have z0_4_1 : wz.cell? ⟨w.heap.size, 4, none⟩ = some (.int .i64 (sp)) := K0_1.out.cell 4
  have z0_5_1 : wz.cell? ⟨w.heap.size, 5, none⟩ = some (.slice B1 n1 d1) := K0_1.out.cell 5
  have z0_6_1 : wz.cell? ⟨w.heap.size, 6, none⟩ = some (.slice B2 n2 d2) := K0_1.out.cell 6
  have l1_1 : w.heap.size + 1 < wz.heap.size := K1_1.out.lt
  have z1_0_1 : wz.cell? ⟨w.heap.size + 1, 0, none⟩ = some (.int .i64 (0)) := K1_1.out.cell 0
  have z1_1_1 : wz.cell? ⟨w.heap.size + 1, 1, none⟩ = some (.int .i64 (0)) := K1_1.out.cell 1
  have z1_2_1 : wz.cell? ⟨w.heap.size + 1, 2, none⟩ = some (.int .i64 (0)) := K1_1.out.cell 2
  have z1_3_1 : wz.cell? ⟨w.heap.size + 1, 3, none⟩ = some (.int .i64 (0)) := K1_1.out.cell 3
  have z1_4_1 : wz.cell? ⟨w.heap.size + 1, 4, none⟩ = some (.int .i64 (0)) := K1_1.out.cell 4
  have z1_5_1 : wz.cell? ⟨w.heap.size + 1, 5, none⟩ = some (.slice none 0 0) := K1_1.out.cell 5
  have z1_6_1 : wz.cell? ⟨w.heap.size + 1, 6, none⟩ = some (.slice none 0 0) := K1_1.out.cell 6
  have zf1_0 := K1_1.out.frozen 0
  have zf1_1 := K1_1.out.frozen 1
  have zf1_2 := K1_1.out.frozen 2
  have zf1_3 := K1_1.out.frozen 3
  have zf1_4 := K1_1.out.frozen 4
  have zf1_5 := K1_1.out.frozen 5
  have zf1_6 := K1_1.out.frozen 6
  have HR1 := Lib.hid hr1
  have HR2 := Lib.hid hr2
  clear hr1 hr2
  go_wp2
  generalize hwq : World.setCell _ _ _ = wq
  have hq : Blk wq (w.heap.size + 1) 42 #[.int .i64 ls, .int .i64 ms, .int .i64 lo, .int .i64 hi, .int .i64 sp, .slice B1 n1 d1, .slice B2 n2 d2] := by
    rw [← hwq]
    have := ((((((K1_1.out.set_ 0 (.int .i64 ls)).set_ 1 (.int .i64 ms)).set_ 2 (.int .i64 lo)).set_ 3 (.int .i64 hi)).set_ 4 (.int .i64 sp)).set_ 5 (.slice B1 n1 d1)).set_ 6 (.slice B2 n2 d2)
    simpa only [List.setIfInBounds_toArray, List.set_cons_zero, List.set_cons_succ] using this
  have hbq : Below (w.heap.size + 1) wz wq := by rw [← hwq]; exact (Below.setCell (Below.setCell (Below.setCell (Below.setCell (Below.setCell (Below.setCell (Below.setCell (Below.refl _ _) (p := ⟨w.heap.size + 1, 0, none⟩) (Nat.le_refl _) _) (p := ⟨w.heap.size + 1, 1, none⟩) (Nat.le_refl _) _) (p := ⟨w.heap.size + 1, 2, none⟩) (Nat.le_refl _) _) (p := ⟨w.heap.size + 1, 3, none⟩) (Nat.le_refl _) _) (p := ⟨w.heap.size + 1, 4, none⟩) (Nat.le_refl _) _) (p := ⟨w.heap.size + 1, 5, none⟩) (Nat.le_refl _) _) (p := ⟨w.heap.size + 1, 6, none⟩) (Nat.le_refl _) _)
  have HWQ := Lib.hid hwq
  clear hwq
  have hbz : Below w.heap.size w wq := HB1.out.trans (hbq.mono (by omega))
  have hr1 : Reads wq wq.heap.size 2 B1 n1 (cells2 l1) := own_reads2 (show wq.ownsRow (w.heap.size + 2) 38 2 _ _ _ by rw [← HWQ.out]; exact own_far (own_far (own_far (own_far (own_far (own_far (own_far HR1.out _ _ (Nat.le_refl _) _) _ _ (Nat.le_refl _) _) _ _ (Nat.le_refl _) _) _ _ (Nat.le_refl _) _) _ _ (Nat.le_refl _) _) _ _ (Nat.le_refl _) _) _ _ (Nat.le_refl _) _)
  have hr2 : Reads wq wq.heap.size 2 B2 n2 (cells2 l2) := own_reads2 (show wq.ownsRow (w.heap.size + 2) 38 2 _ _ _ by rw [← HWQ.out]; exact own_far (own_far (own_far (own_far (own_far (own_far (own_far HR2.out _ _ (Nat.le_refl _) _) _ _ (Nat.le_refl _) _) _ _ (Nat.le_refl _) _) _ _ (Nat.le_refl _) _) _ _ (Nat.le_refl _) _) _ _ (Nat.le_refl _) _) _ _ (Nat.le_refl _) _)
  have q0 := hq.cell 0
  have q1 := hq.cell 1
  have q2 := hq.cell 2
  have q3 := hq.cell 3
  have q4 := hq.cell 4
  have q5 := hq.cell 5
  have q6 := hq.cell 6
  have ql := hq.lt
  refine bodyPost_ret (v := .agg #[.int .i64 ls, .int .i64 ms, .int .i64 lo, .int .i64 hi, .int .i64 sp, .slice B1 n1 d1, .slice B2 n2 d2]) ?_ rfl ?_
  · simp [results, Try.results28, go_sem, q0, q1, q2, q3, q4, q5, q6, ql]
  · exact ⟨B1, d1, B2, d2, rfl, hbz, hr1, hr2, by show n1 ≤ _; omega, by show n2 ≤ _; omega⟩
end Go.Proofs.Ytgamepmipoociaa

end

section
/- Arguments that are slices of structs of texts and whole numbers; the list of rockers. -/
namespace Go.Proofs.Ytgamepmipoociaa
open Go Go.RowKit Go.ChangeShapes Go.WideShapes Go.ChangeAt Go.Joins Go.Deep

theorem choose_vals {R : Nat → Value → Prop} (m : Nat) (h : ∀ q, q < m → ∃ z, R q z) : ∃ xs : List Value, xs.length = m ∧ ∀ q z, xs[q]? = some z → R q z := by
  induction m with
  | zero => exact ⟨[], rfl, fun q z h => by simp at h⟩
  | succ m ih =>
    obtain ⟨xs, hl, hx⟩ := ih fun q hq => h q (by omega)
    obtain ⟨z, hz⟩ := h m (by omega)
    refine ⟨xs ++ [z], by simp [hl], fun q u hu => ?_⟩
    rcases Nat.lt_trichotomy q m with hq | hq | hq
    · rw [List.getElem?_append_left (by omega)] at hu
      exact hx q u hu
    · subst hq
      rw [List.getElem?_append_right (by omega), hl, Nat.sub_self] at hu
      simp at hu
      exact hu ▸ hz
    · rw [List.getElem?_eq_none (by simp; omega)] at hu
      cases hu

section
variable {H : Type} {enc : TypeId × Value → H} {P : Program} {w : World} {base b0 : Nat} {spare : Nat → Bool} {held : Bool} {r : Reach} {t e tI tS : TypeId} {v : Value} {d : DataW H} {p : List MemPlace}
/-- A slice of structs of fields of one cell. -/
theorem open_slice_cells {fs : Array Field} {fuel : Nat} {cs : List Value} {x : DataW H × List MemPlace} (ht : P.underlying t = some (.slice e)) (he : P.underlying e = some (.struct fs))
    (hone : oneCellFields P fs = true) (hC : P.cellsOf e = fs.size) (hk : 0 < fs.size) (h : DataW.trod enc P w base spare held fuel t cs = some x) :
    ∃ (A : Option Addr) (n c : Nat) (us : List Value), cs = [.slice A n c] ∧ (n ≤ c ∧ c ≤ 9223372036854775807) ∧ us.length = n * fs.size ∧ Reads w w.heap.size fs.size A n us ∧
      ∀ q u, us[q]? = some u → ∃ (y : DataW H × List MemPlace) (m : Nat) (f : Field), fs[q % fs.size]? = some f ∧ DataW.trod enc P w base spare held m f.type [u] = some y := by
  rcases open_slice_fields ht he hone hC h with ⟨h0, -⟩ | ⟨a, len, cap, hcs, hl, hi⟩
  · exact ⟨none, 0, 0, [], h0, by omega, by simp, Reads.none_, fun q u h => by simp at h⟩
  have hq : ∀ q, q < len * fs.size → ∃ z, w.cell? (a.add q) = some z ∧ ∃ (y : DataW H × List MemPlace) (m : Nat) (f : Field), fs[q % fs.size]? = some f ∧ DataW.trod enc P w base spare held m f.type [z] = some y := by
    intro q hq
    have h1 : q / fs.size < len := Nat.div_lt_of_lt_mul (by rwa [Nat.mul_comm])
    have h2 : q % fs.size < fs.size := Nat.mod_lt _ hk
    obtain ⟨v, y, n, hc, ht'⟩ := hi _ h1 _ _ (Array.getElem?_eq_getElem h2)
    rw [show q / fs.size * fs.size + q % fs.size = q by rw [Nat.mul_comm]; exact Nat.div_add_mod _ _] at hc
    exact ⟨v, hc, y, n, _, Array.getElem?_eq_getElem h2, ht'⟩
  obtain ⟨us, hxl, hx⟩ := choose_vals _ hq
  refine ⟨some a, len, cap, us, hcs, ⟨hl.1, by simpa [maxLen] using hl.2⟩, hxl, ?_, fun q u hu => (hx q u hu).2⟩
  rcases Nat.eq_zero_or_pos len with rfl | hp
  · obtain rfl : us = [] := List.length_eq_zero_iff.1 (by simpa using hxl)
    exact Reads.none_
  refine Reads.of_adds hk hxl ?_ (fun j u hu => (hx j u hu).1)
  have h0 : 0 < us.length := by rw [hxl]; exact Nat.mul_pos hp hk
  have := block_of_cell (hx 0 _ (List.getElem?_eq_getElem h0)).1
  simpa [Addr.add] using this

/-- The kinds of fields: texts and whole numbers. -/
def KindIs (b : Bool) (u : Value) : Prop := if b then ∃ s : ByteArray, u = .string s ∧ s.size ≤ maxLen else ∃ z, u = .int .i64 z ∧ I64 z
theorem arg_kinds {fs : Array Field} (ks : List Bool) (ht : P.underlying t = some (.slice e)) (he : P.underlying e = some (.struct fs)) (hone : oneCellFields P fs = true) (hC : P.cellsOf e = fs.size) (hk : 0 < fs.size)
    (hI : P.underlying tI = some (.int .i64)) (hS : P.underlying tS = some .string) (hf : fs.toList.map (·.type) = ks.map fun b => if b then tS else tI) (hv : Value.okWide P w r b0 t v) (h : DataW.Trod enc P w base spare held t v d p) :
    ∃ (A : Option Addr) (n c : Nat) (us : List Value), v = .slice A n c ∧ (n ≤ c ∧ c ≤ 9223372036854775807) ∧ us.length = n * fs.size ∧ Reads w w.heap.size fs.size A n us ∧
      ∀ q u, us[q]? = some u → KindIs (ks.getD (q % fs.size) false) u := by
  obtain ⟨fuel, hf'⟩ := h
  obtain ⟨A, n, c, us, h1, h2, h3, h4, h5⟩ := open_slice_cells ht he hone hC hk hf'
  refine ⟨A, n, c, us, slice_one ht hv h1, h2, h3, h4, fun q u hu => ?_⟩
  obtain ⟨y, m, f, hfq, ht'⟩ := h5 q u hu
  have e1 : (fs.toList.map (·.type))[q % fs.size]? = some f.type := by
    rw [List.getElem?_map, Array.getElem?_toList, hfq]; rfl
  rw [hf, List.getElem?_map] at e1
  cases hkq : ks[q % fs.size]? with
  | none => rw [hkq] at e1; cases e1
  | some b =>
    rw [hkq] at e1
    have e2 := Option.some.inj e1
    rw [List.getD, hkq]
    unfold KindIs
    cases b
    · simp only [Bool.false_eq_true, if_false, Option.getD_some] at e2 ⊢
      rw [← e2] at ht'
      obtain ⟨z, e0, -, hwf⟩ := DataW.trod_int hI ht'
      simp at e0
      exact ⟨z, e0, I64.of_wf hwf⟩
    · simp only [if_true, Option.getD_some] at e2 ⊢
      rw [← e2] at ht'
      obtain ⟨s, e0, -, hs⟩ := DataW.trod_string hS ht'
      simp at e0
      exact ⟨s, e0, hs⟩
end

theorem rocks_of : ∀ (n : Nat) (us : List Value), us.length = n * 5 → (∀ q u, us[q]? = some u → KindIs ([true, true, true, false, false].getD (q % 5) false) u) → ∃ l : List Rk, l.length = n ∧ rkCells l = us ∧ ∀ r ∈ l, r.Fits
  | 0, us, h, _ => by
    obtain rfl : us = [] := List.length_eq_zero_iff.1 (by simpa using h)
    exact ⟨[], rfl, rfl, by simp⟩
  | n + 1, us, h, hk => by
    match us, h, hk with
    | x0 :: x1 :: x2 :: x3 :: x4 :: t, h, hk =>
      obtain ⟨l, h1, h2, h3⟩ := rocks_of n t (by simp at h; omega) fun q u hu => by
        have := hk (q + 5) u (by simpa using hu)
        rwa [Nat.add_mod_right] at this
      obtain ⟨s0, rfl, f0⟩ : ∃ s : ByteArray, x0 = .string s ∧ s.size ≤ maxLen := hk 0 x0 rfl
      obtain ⟨s1, rfl, f1⟩ : ∃ s : ByteArray, x1 = .string s ∧ s.size ≤ maxLen := hk 1 x1 rfl
      obtain ⟨s2, rfl, f2⟩ : ∃ s : ByteArray, x2 = .string s ∧ s.size ≤ maxLen := hk 2 x2 rfl
      obtain ⟨z3, rfl, -⟩ : ∃ z, x3 = .int .i64 z ∧ I64 z := hk 3 x3 rfl
      obtain ⟨z4, rfl, -⟩ : ∃ z, x4 = .int .i64 z ∧ I64 z := hk 4 x4 rfl
      refine ⟨⟨s0, s1, s2, z3, z4⟩ :: l, by simp [h1], ?_, fun r hr => ?_⟩
      · show _ ++ rkCells l = _
        rw [h2]
        rfl
      · rcases List.mem_cons.1 hr with rfl | hr
        · exact ⟨f0, f1, f2⟩
        · exact h3 r hr
    | [], h, _ => simp at h
    | [_], h, _ => simp at h; omega
    | [_, _], h, _ => simp at h; omega
    | [_, _, _], h, _ => simp at h; omega
    | [_, _, _, _], h, _ => simp at h; omega

section
variable {H : Type} {enc : TypeId × Value → H} {P : Program} {w : World} {base b0 : Nat} {spare : Nat → Bool} {held : Bool} {r : Reach} {t e tI tS : TypeId} {v : Value} {d : DataW H} {p : List MemPlace}
/-- A slice of rockers. -/
theorem arg_rocks {fs : Array Field} (ht : P.underlying t = some (.slice e)) (he : P.underlying e = some (.struct fs)) (hone : oneCellFields P fs = true) (hC : P.cellsOf e = fs.size) (hI : P.underlying tI = some (.int .i64)) (hS : P.underlying tS = some .string)
    (hf : fs.toList.map (·.type) = [tS, tS, tS, tI, tI]) (hk : fs.size = 5) (hv : Value.okWide P w r b0 t v) (h : DataW.Trod enc P w base spare held t v d p) :
    ∃ (A : Option Addr) (n c : Nat) (l : List Rk), v = .slice A n c ∧ (n ≤ c ∧ c ≤ 9223372036854775807) ∧ l.length = n ∧ (∀ r ∈ l, r.Fits) ∧ Reads w w.heap.size 5 A n (rkCells l) := by
  obtain ⟨A, n, c, us, h1, h2, h3, h4, h5⟩ := arg_kinds [true, true, true, false, false] ht he hone hC (by omega) hI hS (by simpa using hf) hv h
  rw [hk] at h3 h4 h5
  obtain ⟨l, l1, l2, l3⟩ := rocks_of n us h3 h5
  exact ⟨A, n, c, l, h1, h2, l1, l3, l2 ▸ h4⟩
end

end Go.Proofs.Ytgamepmipoociaa

end
