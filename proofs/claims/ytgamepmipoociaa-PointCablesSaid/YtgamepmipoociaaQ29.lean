import Derived.Test.YtgamepmipoociaaQ17
import Derived.Test.YtgamepmipoociaaQ25
import Derived.Test.YtgamepmipoociaaQ22

section
/- Plain law of cables: the turns are consecutive, the next ones are out of the limits; wider limits have no fewer turns; a table with a constant added. -/
namespace Go.Proofs.Ytgamepmipoociaa
open Go Go.RowKit

theorem conv_filter (P : Nat → Bool) (hc : ∀ i j k, i ≤ j → j ≤ k → P i = true → P k = true → P j = true) : ∀ n, ∃ a k, (List.range n).filter P = List.range' a k ∧ a + k ≤ n ∧ ∀ i, i < n → (P i = true ↔ a ≤ i ∧ i < a + k)
  | 0 => ⟨0, 0, rfl, Nat.le_refl _, fun i h => absurd h (by omega)⟩
  | n + 1 => by
    obtain ⟨a, k, h1, h2, h3⟩ := conv_filter P hc n
    rw [List.range_succ, List.filter_append, h1]
    cases hP : P n
    · refine ⟨a, k, by simp [hP], by omega, fun i hi => ?_⟩
      by_cases h : i < n
      · exact h3 i h
      · obtain rfl : i = n := by omega
        rw [hP]
        constructor
        · intro h; cases h
        · intro h; omega
    · by_cases hk : k = 0
      · subst hk
        refine ⟨n, 1, by simp [hP], by omega, fun i hi => ?_⟩
        by_cases h : i < n
        · rw [h3 i h]; omega
        · obtain rfl : i = n := by omega
          rw [hP]
          constructor
          · intro _; omega
          · intro _; rfl
      · have hlast := (h3 (a + k - 1) (by omega)).2 ⟨by omega, by omega⟩
        have hak : a + k = n := by
          rcases Nat.lt_or_ge (a + k) n with h | h
          · have h4 := hc (a + k - 1) (a + k) n (by omega) (by omega) hlast hP
            have h5 := (h3 (a + k) h).1 h4
            omega
          · omega
        refine ⟨a, k + 1, ?_, by omega, fun i hi => ?_⟩
        · rw [List.range'_1_concat, hak]; simp [hP]
        · by_cases h : i < n
          · rw [h3 i h]; omega
          · obtain rfl : i = n := by omega
            rw [hP]
            constructor
            · intro _; omega
            · intro _; rfl
theorem turns_seq {ls ms X : Int} (hX : 0 ≤ X ∧ X < 1296000) (hl : -25920000 ≤ ls) (hm : ms ≤ 25920000) (hne : turnsL ls ms X ≠ []) :
    ∃ (k0 : Int) (n : Nat), 0 < n ∧ -21 ≤ k0 ∧ k0 + n ≤ 22 ∧ (turnsL ls ms X).length = n ∧ (∀ i : Nat, i < n → (turnsL ls ms X)[i]? = some (k0 + i) ∧ ls ≤ X + (k0 + i) * 1296000 ∧ X + (k0 + i) * 1296000 ≤ ms) ∧ X + (k0 - 1) * 1296000 < ls ∧ ms < X + (k0 + n) * 1296000 := by
  have hP : ∀ i : Nat, (turnB ls ms X ∘ fun (i : Nat) => (i : Int) - 21) i = true ↔ ls ≤ X + ((i : Int) - 21) * 1296000 ∧ X + ((i : Int) - 21) * 1296000 ≤ ms := fun i => by simp [turnB]
  obtain ⟨a, k, h1, h2, h3⟩ := conv_filter (turnB ls ms X ∘ fun (i : Nat) => (i : Int) - 21) (fun i j k h1 h2 h3 h4 => by
    rw [hP] at h3 h4 ⊢
    omega) 43
  have hL : turnsL ls ms X = (List.range' a k).map fun (i : Nat) => (i : Int) - 21 := by
    unfold turnsL turnsTo
    rw [List.filter_map, h1]
  have hk : 0 < k := by
    rcases Nat.eq_zero_or_pos k with h | h
    · subst h; exact absurd (by rw [hL]; rfl) hne
    · exact h
  have hlen : (turnsL ls ms X).length = k := by rw [hL]; simp
  have hin : ∀ i : Nat, i < k → ls ≤ X + (((a + i : Nat) : Int) - 21) * 1296000 ∧ X + (((a + i : Nat) : Int) - 21) * 1296000 ≤ ms := fun i hi =>
    (hP (a + i)).1 ((h3 (a + i) (by omega)).2 ⟨by omega, by omega⟩)
  have h0 := hin 0 hk
  have hz := hin (k - 1) (by omega)
  refine ⟨(a : Int) - 21, k, hk, by omega, by omega, hlen, fun i hi => ⟨?_, ?_⟩, ?_, ?_⟩
  · rw [hL, List.getElem?_map, List.getElem?_range' hi]
    simp
    omega
  · have := hin i hi
    omega
  · rcases Nat.eq_zero_or_pos a with h | h
    · omega
    · have h4 : ¬ (ls ≤ X + (((a - 1 : Nat) : Int) - 21) * 1296000 ∧ X + (((a - 1 : Nat) : Int) - 21) * 1296000 ≤ ms) := fun h5 => by
        have := (h3 (a - 1) (by omega)).1 ((hP (a - 1)).2 h5)
        omega
      omega
  · rcases Nat.lt_or_ge (a + k) 43 with h | h
    · have h4 : ¬ (ls ≤ X + (((a + k : Nat) : Int) - 21) * 1296000 ∧ X + (((a + k : Nat) : Int) - 21) * 1296000 ≤ ms) := fun h5 => by
        have := (h3 (a + k) h).1 ((hP (a + k)).2 h5)
        omega
      omega
    · omega
theorem turns_wide {ls ms ls' ms' X : Int} (h1 : ls' ≤ ls) (h2 : ms ≤ ms') : (turnsL ls ms X).length ≤ (turnsL ls' ms' X).length := by
  unfold turnsL turnsTo
  rw [← List.countP_eq_length_filter, ← List.countP_eq_length_filter]
  refine List.countP_mono_left fun x _ h => ?_
  unfold turnB at h ⊢
  simp only [Bool.and_eq_true, decide_eq_true_eq] at h ⊢
  omega

def addV (c : Int) (l : List (Int × Int)) : List (Int × Int) := l.map fun q => (q.1, q.2 + c)
theorem tabGo_shift (c x : Int) : ∀ (t : List (Int × Int)) (p : Int × Int), tabGo (p.1, p.2 + c) (addV c t) x = tabGo p t x + c
  | [], p => rfl
  | q :: t, p => by
    show (if x < q.1 then p.2 + c + (q.2 + c - (p.2 + c)) * (x - p.1) / (q.1 - p.1) else tabGo (q.1, q.2 + c) (addV c t) x) = (if x < q.1 then p.2 + (q.2 - p.2) * (x - p.1) / (q.1 - p.1) else tabGo q t x) + c
    rw [tabGo_shift c x t q, show q.2 + c - (p.2 + c) = q.2 - p.2 by omega]
    by_cases h : x < q.1
    · rw [if_pos h, if_pos h]; omega
    · rw [if_neg h, if_neg h]
theorem tabAt_shift (c x : Int) {l : List (Int × Int)} (h : l ≠ []) : tabAt (addV c l) x = tabAt l x + c := by
  match l, h with
  | p :: t, _ =>
    show (if x ≤ p.1 then p.2 + c else tabGo (p.1, p.2 + c) (addV c t) x) = (if x ≤ p.1 then p.2 else tabGo p t x) + c
    rw [tabGo_shift]
    by_cases h : x ≤ p.1
    · rw [if_pos h, if_pos h]
    · rw [if_neg h, if_neg h]
theorem tab_ne {l : List (Int × Int)} (h : tabErr l = 0) : l ≠ [] := by
  rintro rfl
  exact absurd h (by decide)

/-- The mounting with wider limits. -/
theorem wide_right {m : Mnt} {ls' ms' : Int} (h : mntErr m = 0) (h1 : ls' ≤ m.ls) (h2 : -25920000 ≤ ls') (h3 : m.ms ≤ ms') (h4 : ms' ≤ 25920000) (A1 : Option Addr) (c1 : Nat) (A2 : Option Addr) (c2 : Nat) :
    mntErr { m with ls := ls', ms := ms', A1 := A1, c1 := c1, A2 := A2, c2 := c2 } = 0 := by
  obtain ⟨⟨a1, a2, a3, a4⟩, ⟨b1, b2, b3, b4⟩, c1', c2', d1, d2⟩ := mnt_right h
  have hr : ({ m with ls := ls', ms := ms', A1 := A1, c1 := c1, A2 := A2, c2 := c2 } : Mnt).rng = true := by
    unfold Mnt.rng
    simp only [Bool.and_eq_true, withinB_iff, small_two]
    omega
  unfold mntErr
  rw [hr, if_neg (by simp), if_neg (by simp only; omega)]
  show orE [tabErr m.l1, tabErr m.l2] = 0
  rw [d1, d2]
  rfl
end Go.Proofs.Ytgamepmipoociaa

end

section
/- A copy of a mounting, and that its tables are of its own. -/
namespace Go.Proofs.Ytgamepmipoociaa
open Go Go.RowKit

def MountPost2 (m : Mnt) (w : World) (e : Ending) (w' : World) : Prop := ∃ A1 c1 A2 c2, e = .returned (m.to A1 c1 A2 c2).val ∧ Below w.heap.size w w' ∧ MntAt (m.to A1 c1 A2 c2) w' ∧ w'.ownsRow w.heap.size 38 2 (.slice A1 m.n1 c1) m.n1 (cells2 m.l1) ∧ w'.ownsRow w.heap.size 38 2 (.slice A2 m.n2 c2) m.n2 (cells2 m.l2) ∧
  ∀ q, (Value.slice A2 m.n2 c2).ownBlock = some q → (Value.slice A1 m.n1 c1).ownBlock ≠ some q
structure MtE (rs : Array Value) (T e : TypeId) (b n1 n2 : Nat) (l1 l2 : List Value) (v0 v1 v2 v3 v4 u1 u2 : Value) (W : World) (g : Nat → Option Pick) (f : Nat → Bool) (w' : World) : Prop where
  m : MtD rs T e b n1 n2 l1 l2 v0 v1 v2 v3 v4 u1 u2 W g f w'
  sep : ∀ x y q, g 2 = some x → g 5 = some y → (Value.slice y.1 n2 y.2).ownBlock = some q → (Value.slice x.1 n1 x.2).ownBlock ≠ some q
section
variable {rs : Array Value} {T e : TypeId} {b n1 n2 k : Nat} {l1 l2 : List Value} {v0 v1 v2 v3 v4 u1 u2 : Value} {W w' w'' : World} {g : Nat → Option Pick} {f : Nat → Bool}
theorem MtE.same (h : MtE rs T e b n1 n2 l1 l2 v0 v1 v2 v3 v4 u1 u2 W g f w') (k7 : k ≠ 7) (k9 : k ≠ 9) : MtE rs T e b n1 n2 l1 l2 v0 v1 v2 v3 v4 u1 u2 W g (Fx.add f k) w' := ⟨h.m.same k7 k9, h.sep⟩
theorem MtE.call1 {x : Pick} (h : MtE rs T e b n1 n2 l1 l2 v0 v1 v2 v3 v4 u1 u2 W g f w') (hf : f 7 = false) (hg : g 2 = none) (h5 : g 5 = none) (hb : Below w'.heap.size w' w'') (ho : w''.ownsRow w'.heap.size e 2 (.slice x.1 n1 x.2) n1 l1) : MtE rs T e b n1 n2 l1 l2 v0 v1 v2 v3 v4 u1 u2 W (Fx.upd g 2 x) (Fx.add f 2) w'' :=
  ⟨h.m.call1 hf hg hb ho, fun x y q _ hy => by rw [upd_ne (by decide), h5] at hy; cases hy⟩
theorem MtE.call2 {x : Pick} (h : MtE rs T e b n1 n2 l1 l2 v0 v1 v2 v3 v4 u1 u2 W g f w') (hf : f 9 = false) (hg : g 5 = none) (hb : Below w'.heap.size w' w'') (ho : w''.ownsRow w'.heap.size e 2 (.slice x.1 n2 x.2) n2 l2) : MtE rs T e b n1 n2 l1 l2 v0 v1 v2 v3 v4 u1 u2 W (Fx.upd g 5 x) (Fx.add f 5) w'' :=
  ⟨h.m.call2 hf hg hb ho, fun z y q hz hy hq e1 => by
    rw [upd_ne (by decide)] at hz
    rw [Fx.upd_same] at hy
    cases hy
    have h1 := (own_lt (h.m.o1 z hz) e1).2
    have h2 := (own_lt ho hq).1
    omega⟩
theorem MtE.store1 {x : Pick} (h : MtE rs T e b n1 n2 l1 l2 v0 v1 v2 v3 v4 u1 u2 W g f w') (hg : g 2 = some x) : MtE rs T e b n1 n2 l1 l2 v0 v1 v2 v3 v4 u1 u2 W g (Fx.add f 7) (w'.setCell ⟨b, 5, none⟩ (.slice x.1 n1 x.2)) := ⟨h.m.store1 hg, h.sep⟩
theorem MtE.store2 {x : Pick} (h : MtE rs T e b n1 n2 l1 l2 v0 v1 v2 v3 v4 u1 u2 W g f w') (hg : g 5 = some x) : MtE rs T e b n1 n2 l1 l2 v0 v1 v2 v3 v4 u1 u2 W g (Fx.add f 9) (w'.setCell ⟨b, 6, none⟩ (.slice x.1 n2 x.2)) := ⟨h.m.store2 hg, h.sep⟩
end

set_option maxRecDepth 100000 in
set_option maxHeartbeats 2000000 in
theorem mount2_any (m : Mnt) (w : World) (hx : MntAt m w) (h1 : m.n1 ≤ 1000) (h2 : m.n2 ≤ 1000) : Calls Try.prog 28 #[m.val] w (MountPost2 m w) := by
  obtain ⟨ls, ms, lo, hi, sp, A1, n1, c1, l1, A2, n2, c2, l2⟩ := m
  have HX := Lib.hid hx
  simp only at h1 h2
  unfold Mnt.val
  simp only
  clear hx
  go_enter Try.func28, Try.ntmps28
  go_wp2
  refine Fx.regionM (fun W g f w' => MtE #[.int .i64 0, .int .i64 0, .int .i64 0, .int .i64 0, .int .i64 0, .slice none 0 0, .slice none 0 0] 42 38 w.heap.size n1 n2 (cells2 l1) (cells2 l2) (.int .i64 ls) (.int .i64 ms) (.int .i64 lo) (.int .i64 hi) (.int .i64 sp) (.slice A1 n1 c1) (.slice A2 n2 c2) w g f w') (fun i (x : Pick) => if i = 2 then .slice x.1 n1 x.2 else .slice x.1 n2 x.2) (by kernel_rfl) ?_ ?_
  · intro f hf0
    refine ⟨⟨by repeat' (first | exact Below.refl _ _ | refine below_drewN ?_ _ | refine Below.drew ?_ | refine Below.alloc ?_ (by first | omega | (simp; done) | (simp; omega) | (simp [World.setCell]; omega)) _ | refine Below.setCell ?_ (by first | omega | (simp; done) | (simp; omega)) _), by repeat' (first | assumption | exact Blk.at_ _ (by first | rfl | (simp; done) | (simp; omega)) _ _ | refine Blk.drewN ?_ _ | refine Blk.drew ?_ | refine Blk.alloc ?_ _ | refine Blk.far ?_ (by first | omega | (simp; done) | (simp; omega)) _), ?_, fun x h => (nomatch h), fun x h => (nomatch h)⟩, fun x y q h => (nomatch h)⟩
    rw [hf0 7, hf0 9]
    repeat' (first | assumption | exact Blk.at_ _ (by first | rfl | (simp; done) | (simp; omega)) _ _ | refine Blk.drewN ?_ _ | refine Blk.drew ?_ | refine Blk.alloc ?_ _ | refine Blk.far ?_ (by first | omega | (simp; done) | (simp; omega)) _)
  first
  | (refine Fx.WM.skip 0 (by rfl) (by kernel_rfl) (by kernel_rfl) (by kernel_rfl) (by rfl) (fun g f w h => h.same (by decide) (by decide)) ?_; simp only [Act.put, List.setIfInBounds_toArray, List.set_cons_zero, List.set_cons_succ])
  | (refine Fx.WM.val_ 0 ?_ (by rfl) (by kernel_rfl) (by kernel_rfl) (by kernel_rfl) (by rfl) ?_ (fun g f w h => h.same (by decide) (by decide)) ?_
     rotate_left
     · intro g f w' hx hD hk
       obtain hmt := id hD
       clear hx hk hD hmt
       go_simp
       try rfl
     simp only [Act.put, List.setIfInBounds_toArray, List.set_cons_zero, List.set_cons_succ])
  first
  | (refine Fx.WM.skip 1 (by rfl) (by kernel_rfl) (by kernel_rfl) (by kernel_rfl) (by rfl) (fun g f w h => h.same (by decide) (by decide)) ?_; simp only [Act.put, List.setIfInBounds_toArray, List.set_cons_zero, List.set_cons_succ])
  | (refine Fx.WM.val_ 1 ?_ (by rfl) (by kernel_rfl) (by kernel_rfl) (by kernel_rfl) (by rfl) ?_ (fun g f w h => h.same (by decide) (by decide)) ?_
     rotate_left
     · intro g f w' hx hD hk
       obtain hmt := id hD
       have h7 : f 7 = false := hk.2.1 7 (by kernel_rfl)
       have y5 := hmt.m.blk.cell 5
       simp only [h7, slC_no] at y5
       clear hx hk hD hmt h7
       go_simp
       try rfl
     simp only [Act.put, List.setIfInBounds_toArray, List.set_cons_zero, List.set_cons_succ])
  first
  | (refine Fx.WM.skip 3 (by rfl) (by kernel_rfl) (by kernel_rfl) (by kernel_rfl) (by rfl) (fun g f w h => h.same (by decide) (by decide)) ?_; simp only [Act.put, List.setIfInBounds_toArray, List.set_cons_zero, List.set_cons_succ])
  | (refine Fx.WM.val_ 3 ?_ (by rfl) (by kernel_rfl) (by kernel_rfl) (by kernel_rfl) (by rfl) ?_ (fun g f w h => h.same (by decide) (by decide)) ?_
     rotate_left
     · intro g f w' hx hD hk
       obtain hmt := id hD
       clear hx hk hD hmt
       go_simp
       try rfl
     simp only [Act.put, List.setIfInBounds_toArray, List.set_cons_zero, List.set_cons_succ])
  first
  | (refine Fx.WM.skip 4 (by rfl) (by kernel_rfl) (by kernel_rfl) (by kernel_rfl) (by rfl) (fun g f w h => h.same (by decide) (by decide)) ?_; simp only [Act.put, List.setIfInBounds_toArray, List.set_cons_zero, List.set_cons_succ])
  | (refine Fx.WM.val_ 4 ?_ (by rfl) (by kernel_rfl) (by kernel_rfl) (by kernel_rfl) (by rfl) ?_ (fun g f w h => h.same (by decide) (by decide)) ?_
     rotate_left
     · intro g f w' hx hD hk
       obtain hmt := id hD
       have h9 : f 9 = false := hk.2.1 9 (by kernel_rfl)
       have y6 := hmt.m.blk.cell 6
       simp only [h9, slC_no] at y6
       clear hx hk hD hmt h9
       go_simp
       try rfl
     simp only [Act.put, List.setIfInBounds_toArray, List.set_cons_zero, List.set_cons_succ])
  refine Fx.WM.choose 2 (by rfl) (by kernel_rfl) (by rfl) ?_ ?_
  · skip
    refine Fx.Chooses.call ?_ ?_ (by rfl) ?_ ?_
    rotate_left 2
    · intro w'
      go_simp
      refine ⟨?_, ?_⟩ <;> rfl
    · intro f w' hD hk
      exact (ctable_any A1 n1 c1 w.heap.size l1 w' (HX.out.r1.below hD.m.bel) hD.m.bel.size (by omega)).mono fun e w'' ⟨A', c', he, hb, _, ho⟩ => ⟨(A', c'), he, hD.call1 (hk.2.1 7 (by kernel_rfl)) (by rfl) (by rfl) hb ho⟩
  intro x
  simp only [Act.put, List.setIfInBounds_toArray, List.set_cons_zero, List.set_cons_succ]
  first
  | (refine Fx.WM.skip 6 (by rfl) (by kernel_rfl) (by kernel_rfl) (by kernel_rfl) (by rfl) (fun g f w h => h.same (by decide) (by decide)) ?_; simp only [Act.put, List.setIfInBounds_toArray, List.set_cons_zero, List.set_cons_succ])
  | (refine Fx.WM.val_ 6 ?_ (by rfl) (by kernel_rfl) (by kernel_rfl) (by kernel_rfl) (by rfl) ?_ (fun g f w h => h.same (by decide) (by decide)) ?_
     rotate_left
     · intro g f w' hx hD hk
       obtain hmt := id hD
       clear hx hk hD hmt
       go_simp
       try rfl
     simp only [Act.put, List.setIfInBounds_toArray, List.set_cons_zero, List.set_cons_succ])
  refine Fx.WM.choose 5 (by rfl) (by kernel_rfl) (by rfl) ?_ ?_
  · skip
    refine Fx.Chooses.call ?_ ?_ (by rfl) ?_ ?_
    rotate_left 2
    · intro w'
      go_simp
      refine ⟨?_, ?_⟩ <;> rfl
    · intro f w' hD hk
      exact (ctable_any A2 n2 c2 w.heap.size l2 w' (HX.out.r2.below hD.m.bel) hD.m.bel.size (by omega)).mono fun e w'' ⟨A', c', he, hb, _, ho⟩ => ⟨(A', c'), he, hD.call2 (hk.2.1 9 (by kernel_rfl)) (by rfl) hb ho⟩
  intro y
  simp only [Act.put, List.setIfInBounds_toArray, List.set_cons_zero, List.set_cons_succ]
  refine Fx.WM.eff 7 undef (by rfl) (by kernel_rfl) (by kernel_rfl) (by kernel_rfl) (by rfl) ?_ ?_
  · intro g f w' hx hD hk
    have hmt := hD
    have h7 : f 7 = false := hk.1
    have y5 := hmt.m.blk.cell 5
    simp only [h7, slC_no] at y5
    have f5 := hmt.m.blk.frozen 5
    refine Fx.gives_skip (w' := (w'.setCell ⟨w.heap.size, 5, none⟩ (.slice x.1 n1 x.2))) ?_ ?_
    · clear hx hk hD hmt h7
      go_simp
      try rfl
    · exact MtE.store1 hD (hx 2 _ (by rfl))
  simp only [Act.put, List.setIfInBounds_toArray, List.set_cons_zero, List.set_cons_succ]
  first
  | (refine Fx.WM.skip 8 (by rfl) (by kernel_rfl) (by kernel_rfl) (by kernel_rfl) (by rfl) (fun g f w h => h.same (by decide) (by decide)) ?_; simp only [Act.put, List.setIfInBounds_toArray, List.set_cons_zero, List.set_cons_succ])
  | (refine Fx.WM.val_ 8 ?_ (by rfl) (by kernel_rfl) (by kernel_rfl) (by kernel_rfl) (by rfl) ?_ (fun g f w h => h.same (by decide) (by decide)) ?_
     rotate_left
     · intro g f w' hx hD hk
       obtain hmt := id hD
       clear hx hk hD hmt
       go_simp
       try rfl
     simp only [Act.put, List.setIfInBounds_toArray, List.set_cons_zero, List.set_cons_succ])
  refine Fx.WM.eff 9 undef (by rfl) (by kernel_rfl) (by kernel_rfl) (by kernel_rfl) (by rfl) ?_ ?_
  · intro g f w' hx hD hk
    have hmt := hD
    have h9 : f 9 = false := hk.1
    have y6 := hmt.m.blk.cell 6
    simp only [h9, slC_no] at y6
    have f6 := hmt.m.blk.frozen 6
    refine Fx.gives_skip (w' := (w'.setCell ⟨w.heap.size, 6, none⟩ (.slice y.1 n2 y.2))) ?_ ?_
    · clear hx hk hD hmt h9
      go_simp
      try rfl
    · exact MtE.store2 hD (hx 5 _ (by rfl))
  simp only [Act.put, List.setIfInBounds_toArray, List.set_cons_zero, List.set_cons_succ]
  refine Fx.WM.nil (by kernel_rfl) ?_
  intro wz hmt
  have hb := hmt.m.bel
  have hblk : Blk wz w.heap.size 42 #[.int .i64 ls, .int .i64 ms, .int .i64 lo, .int .i64 hi, .int .i64 sp, .slice x.1 n1 x.2, .slice y.1 n2 y.2] := hmt.m.blk
  have hr1 := hmt.m.o1 x (by rfl)
  have hr2 := hmt.m.o2 y (by rfl)
  have hres := hmt.m.two
  have HSEP := Lib.hid (fun q => hmt.sep x y q (by rfl) (by rfl))
  clear hmt
  obtain ⟨B1, d1⟩ := x
  obtain ⟨B2, d2⟩ := y
  simp only at hblk hr1 hr2
  simp only [if_true, show ((5 : Nat) = 2) = False from by simp, if_false]
  have HB1 := Lib.hid hb
  have K0_1 := Lib.hid (show Blk wz (w.heap.size) 42 #[.int .i64 (ls), .int .i64 (ms), .int .i64 (lo), .int .i64 (hi), .int .i64 (sp), .slice B1 n1 d1, .slice B2 n2 d2] from hblk)
  have K1_1 := Lib.hid (show Blk wz (w.heap.size + 1) 42 #[.int .i64 (0), .int .i64 (0), .int .i64 (0), .int .i64 (0), .int .i64 (0), .slice none 0 0, .slice none 0 0] from hres)
  clear hb hblk hres
  have l0_1 : w.heap.size < wz.heap.size := K0_1.out.lt
  have z0_0_1 : wz.cell? ⟨w.heap.size, 0, none⟩ = some (.int .i64 (ls)) := K0_1.out.cell 0
  have z0_1_1 : wz.cell? ⟨w.heap.size, 1, none⟩ = some (.int .i64 (ms)) := K0_1.out.cell 1
  have z0_2_1 : wz.cell? ⟨w.heap.size, 2, none⟩ = some (.int .i64 (lo)) := K0_1.out.cell 2
  have z0_3_1 : wz.cell? ⟨w.heap.size, 3, none⟩ = some (.int .i64 (hi)) := K0_1.out.cell 3
  have z0_4_1 : wz.cell? ⟨w.heap.size, 4, none⟩ = some (.int .i64 (sp)) := K0_1.out.cell 4
  have z0_5_1 : wz.cell? ⟨w.heap.size, 5, none⟩ = some (.slice B1 n1 d1) := K0_1.out.cell 5
  have z0_6_1 : wz.cell? ⟨w.heap.size, 6, none⟩ = some (.slice B2 n2 d2) := K0_1.out.cell 6
  have l1_1 : w.heap.size + 1 < wz.heap.size := K1_1.out.lt
  have z1_0_1 : wz.cell? ⟨w.heap.size + 1, 0, none⟩ = some (.int .i64 (0)) := K1_1.out.cell 0
  have z1_1_1 : wz.cell? ⟨w.heap.size + 1, 1, none⟩ = some (.int .i64 (0)) := K1_1.out.cell 1
  have z1_2_1 : wz.cell? ⟨w.heap.size + 1, 2, none⟩ = some (.int .i64 (0)) := K1_1.out.cell 2
  have z1_3_1 : wz.cell? ⟨w.heap.size + 1, 3, none⟩ = some (.int .i64 (0)) := K1_1.out.cell 3
  have z1_4_1 : wz.cell? ⟨w.heap.size + 1, 4, none⟩ = some (.int .i64 (0)) := K1_1.out.cell 4
  have z1_5_1 : wz.cell? ⟨w.heap.size + 1, 5, none⟩ = some (.slice none 0 0) := K1_1.out.cell 5
  have z1_6_1 : wz.cell? ⟨w.heap.size + 1, 6, none⟩ = some (.slice none 0 0) := K1_1.out.cell 6
  have zf1_0 := K1_1.out.frozen 0
  have zf1_1 := K1_1.out.frozen 1
  have zf1_2 := K1_1.out.frozen 2
  have zf1_3 := K1_1.out.frozen 3
  have zf1_4 := K1_1.out.frozen 4
  have zf1_5 := K1_1.out.frozen 5
  have zf1_6 := K1_1.out.frozen 6
  have HR1 := Lib.hid hr1
  have HR2 := Lib.hid hr2
  clear hr1 hr2
  go_wp2
  generalize hwq : World.setCell _ _ _ = wq
  have hq : Blk wq (w.heap.size + 1) 42 #[.int .i64 ls, .int .i64 ms, .int .i64 lo, .int .i64 hi, .int .i64 sp, .slice B1 n1 d1, .slice B2 n2 d2] := by
    rw [← hwq]
    have := ((((((K1_1.out.set_ 0 (.int .i64 ls)).set_ 1 (.int .i64 ms)).set_ 2 (.int .i64 lo)).set_ 3 (.int .i64 hi)).set_ 4 (.int .i64 sp)).set_ 5 (.slice B1 n1 d1)).set_ 6 (.slice B2 n2 d2)
    simpa only [List.setIfInBounds_toArray, List.set_cons_zero, List.set_cons_succ] using this
  have hbq : Below (w.heap.size + 1) wz wq := by rw [← hwq]; exact (Below.setCell (Below.setCell (Below.setCell (Below.setCell (Below.setCell (Below.setCell (Below.setCell (Below.refl _ _) (p := ⟨w.heap.size + 1, 0, none⟩) (Nat.le_refl _) _) (p := ⟨w.heap.size + 1, 1, none⟩) (Nat.le_refl _) _) (p := ⟨w.heap.size + 1, 2, none⟩) (Nat.le_refl _) _) (p := ⟨w.heap.size + 1, 3, none⟩) (Nat.le_refl _) _) (p := ⟨w.heap.size + 1, 4, none⟩) (Nat.le_refl _) _) (p := ⟨w.heap.size + 1, 5, none⟩) (Nat.le_refl _) _) (p := ⟨w.heap.size + 1, 6, none⟩) (Nat.le_refl _) _)
  have HWQ := Lib.hid hwq
  clear hwq
  have hbz : Below w.heap.size w wq := HB1.out.trans (hbq.mono (by omega))
  have ho1 := (show wq.ownsRow (w.heap.size + 2) 38 2 (.slice B1 n1 d1) n1 (cells2 l1) by rw [← HWQ.out]; exact own_far (own_far (own_far (own_far (own_far (own_far (own_far HR1.out _ _ (Nat.le_refl _) _) _ _ (Nat.le_refl _) _) _ _ (Nat.le_refl _) _) _ _ (Nat.le_refl _) _) _ _ (Nat.le_refl _) _) _ _ (Nat.le_refl _) _) _ _ (Nat.le_refl _) _)
  have ho2 := (show wq.ownsRow (w.heap.size + 2) 38 2 (.slice B2 n2 d2) n2 (cells2 l2) by rw [← HWQ.out]; exact own_far (own_far (own_far (own_far (own_far (own_far (own_far HR2.out _ _ (Nat.le_refl _) _) _ _ (Nat.le_refl _) _) _ _ (Nat.le_refl _) _) _ _ (Nat.le_refl _) _) _ _ (Nat.le_refl _) _) _ _ (Nat.le_refl _) _) _ _ (Nat.le_refl _) _)
  have hr1 : Reads wq wq.heap.size 2 B1 n1 (cells2 l1) := own_reads2 ho1
  have hr2 : Reads wq wq.heap.size 2 B2 n2 (cells2 l2) := own_reads2 ho2
  have q0 := hq.cell 0
  have q1 := hq.cell 1
  have q2 := hq.cell 2
  have q3 := hq.cell 3
  have q4 := hq.cell 4
  have q5 := hq.cell 5
  have q6 := hq.cell 6
  have ql := hq.lt
  refine bodyPost_ret (v := .agg #[.int .i64 ls, .int .i64 ms, .int .i64 lo, .int .i64 hi, .int .i64 sp, .slice B1 n1 d1, .slice B2 n2 d2]) ?_ rfl ?_
  · simp [results, Try.results28, go_sem, q0, q1, q2, q3, q4, q5, q6, ql]
  · exact ⟨B1, d1, B2, d2, rfl, hbz, ⟨hr1, hr2, by show n1 ≤ _; omega, by show n2 ≤ _; omega⟩, own_mono ho1 (by omega), own_mono ho2 (by omega), HSEP.out⟩
theorem mountagg_any (m : Mnt) (w : World) (hx : MntAt m w) (h1 : m.n1 ≤ 1000) (h2 : m.n2 ≤ 1000) : Calls Try.prog 28 #[.agg #[.int .i64 m.ls, .int .i64 m.ms, .int .i64 m.lo, .int .i64 m.hi, .int .i64 m.sp, .slice m.A1 m.n1 m.c1, .slice m.A2 m.n2 m.c2]] w fun e w' =>
    ∃ A1 c1 A2 c2, e = .returned (.agg #[.int .i64 m.ls, .int .i64 m.ms, .int .i64 m.lo, .int .i64 m.hi, .int .i64 m.sp, .slice A1 m.n1 c1, .slice A2 m.n2 c2]) ∧ Below w.heap.size w w' ∧ MntAt (m.to A1 c1 A2 c2) w' ∧ w'.ownsRow w.heap.size 38 2 (.slice A1 m.n1 c1) m.n1 (cells2 m.l1) ∧ w'.ownsRow w.heap.size 38 2 (.slice A2 m.n2 c2) m.n2 (cells2 m.l2) ∧
      ∀ q, (Value.slice A2 m.n2 c2).ownBlock = some q → (Value.slice A1 m.n1 c1).ownBlock ≠ some q := mount2_any m w hx h1 h2
end Go.Proofs.Ytgamepmipoociaa

end

section
/- Stars as arguments: the guard Few. -/
namespace Go.Proofs.Ytgamepmipoociaa
open Go Go.RowKit

/-- Few stars, or too many, with few shapes. -/
def fewStars (l : List Star) : Bool := l.all (fun s => decide (s.n ≤ 6)) && (decide (l.length ≤ 8) || (decide (20 < l.length) && decide (l.length ≤ 23)))
theorem fewStars_right {l : List Star} (h : fewStars l = true) : (∀ s ∈ l, s.n ≤ 6) ∧ l.length ≤ 23 := by
  unfold fewStars at h
  simp only [Bool.and_eq_true, List.all_eq_true, Bool.or_eq_true, decide_eq_true_eq] at h
  exact ⟨h.1, by omega⟩

set_option maxRecDepth 100000 in
theorem fewstars_is (l : List Star) (A : Option Addr) (n c : Nat) (t : Bool) (ht : fewStars l = t) (w : World) (hx : StarsAt l A n w) (hn : n ≤ 9223372036854775807) :
    Calls Try.prog 58 #[.slice A n c] w fun e w' => e = .returned (.bool t) ∧ w = w' := by
  have hl := hx.len
  have HT := Lib.hid ht
  have HL := Lib.hid hl
  have HX := Lib.hid hx
  clear ht hl hx
  go_enter Try.func58, Try.ntmps58
  go_wp2
  go_loopw [3] (fun i wr => ∃ k : Nat, k ≤ n ∧ i = .int .i64 k ∧ wr = w ∧ ∀ j s, j < k → l[j]? = some s → s.n ≤ 6) (fun i _ => n - (intOf i).toNat)
  case atStart => exact ⟨0, by omega, rfl, rfl, fun j s hj => absurd hj (by omega)⟩
  case round =>
    obtain ⟨k, hk, rfl, rfl, hpre⟩ := hrel
    have HP := Lib.hid hpre
    clear hpre
    by_cases hlt : k < n
    · obtain ⟨xb, xo, s, rfl, -, hs, c0, -, -, -, -⟩ := HX.out.at_ hlt
      have HS := Lib.hid hs
      clear hs
      by_cases h6 : s.n ≤ 6
      · have d6 : ¬ (6 : Int) < (s.n : Int) := by omega
        go_wp2
        go_roundw
        case rel =>
          refine ⟨k + 1, by omega, by go_num, by trivial, fun j s' hj hs' => ?_⟩
          rcases Nat.lt_or_ge j k with h | h
          · exact HP.out j s' h hs'
          · obtain rfl : j = k := by omega
            have := HS.out.symm.trans hs'
            cases this
            exact h6
        case measure => simp [intOf]; omega
      · have d6 : (6 : Int) < (s.n : Int) := by omega
        have ht' : t = false := by
          rw [← HT.out]
          cases hf : fewStars l with
          | false => rfl
          | true => exact absurd ((fewStars_right hf).1 s (List.mem_of_getElem? HS.out)) h6
        subst ht'
        clear h6
        go_wp2
        go_ret

        exact ⟨rfl, rfl⟩
    · have ha : l.all (fun s => decide (s.n ≤ 6)) = true := by
        rw [List.all_eq_true]
        intro s hs
        obtain ⟨j, hj⟩ := List.getElem?_of_mem hs
        have h1 := (List.getElem?_eq_some_iff.1 hj).1
        exact decide_eq_true (HP.out j s (by have := HL.out; omega) hj)
      have hv : t = (decide (n ≤ 8) || (decide (20 < n) && decide (n ≤ 23))) := by
        rw [← HT.out]; unfold fewStars; rw [ha, Bool.true_and, HL.out]
      clear ha
      by_cases h8 : n ≤ 8
      · obtain rfl : t = true := by rw [hv]; simp [h8]
        have d8 : (n : Int) ≤ 8 := by omega
        clear hv h8
        go_wp2
        go_ret
        exact ⟨rfl, rfl⟩
      have d8 : ¬ (n : Int) ≤ 8 := by omega
      by_cases h20 : 20 < n
      · have d20 : (20 : Int) < (n : Int) := by omega
        by_cases h23 : n ≤ 23
        · have d23 : (n : Int) ≤ 23 := by omega
          obtain rfl : t = true := by rw [hv]; simp [h20, h23]
          clear hv h8 h20 h23
          go_wp2
          go_ret
          exact ⟨rfl, rfl⟩
        · have d23 : ¬ (n : Int) ≤ 23 := by omega
          obtain rfl : t = false := by rw [hv]; simp [h23]; omega
          clear hv h8 h20 h23
          go_wp2
          go_ret
          exact ⟨rfl, rfl⟩
      · have d20 : ¬ (20 : Int) < (n : Int) := by omega
        obtain rfl : t = false := by rw [hv]; simp [h20]; omega
        clear hv h8 h20
        go_wp2
        go_ret
        exact ⟨rfl, rfl⟩
end Go.Proofs.Ytgamepmipoociaa

end
