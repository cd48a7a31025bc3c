import Derived.Test.YtmejiafmmmeloaaQ13
import Derived.Test.YtmejiafmmmeloaaQ5

section
/- The contract of the line of least removal. -/
namespace Go.Proofs.Ytmejiafmmmeloaa
open Go Go.RowKit

/-- The region in which the hull is found and the sums are stored. -/
structure RfD (n : Nat) (xs : List Value) (s0 s1 s2 : Int) (W : World) (g : Nat → Option Pick) (f : Nat → Bool) (w' : World) : Prop where
  bel : Below W.heap.size W w'
  own : ∀ x, g 1 = some x → w'.ownsRow W.heap.size 3 1 (.slice x.1 n x.2) n xs
  blk : ∀ x, g 4 = some x → ∃ b, x.1 = some ⟨b, 0, none⟩ ∧ W.heap.size ≤ b ∧ Blk w' b 77 (if f 6 then #[.int .i64 s0, .int .i64 s1, .int .i64 s2] else #[.int .i64 0, .int .i64 0, .int .i64 0])
section
variable {n i : Nat} {xs : List Value} {s0 s1 s2 : Int} {W w' w'' : World} {g : Nat → Option Pick} {f : Nat → Bool}
theorem RfD.start : RfD n xs s0 s1 s2 W (fun _ => none) f (W.drewN 1) := ⟨below_drewN (Below.refl _ _) 1, fun _ h => (nomatch h), fun _ h => (nomatch h)⟩
theorem RfD.same (h : RfD n xs s0 s1 s2 W g f w') (hi : i ≠ 6) : RfD n xs s0 s1 s2 W g (Fx.add f i) w' := ⟨h.bel, h.own, fun x hx => by rw [add_ne' hi]; exact h.blk x hx⟩
theorem RfD.call (h : RfD n xs s0 s1 s2 W g f w') (hi : i ≠ 6) (hb : Below w'.heap.size w' w'') : RfD n xs s0 s1 s2 W g (Fx.add f i) w'' :=
  ⟨step_below hb h.bel, fun x hx => own_below (h.own x hx) hb (Nat.le_refl _), fun x hx => by
    obtain ⟨b, h1, h2, h3⟩ := h.blk x hx
    rw [add_ne' hi]
    exact ⟨b, h1, h2, step_blk hb h3⟩⟩
theorem RfD.hull (h : RfD n xs s0 s1 s2 W g f w') (hb : Below w'.heap.size w' w'') (x : Pick) (ho : w''.ownsRow w'.heap.size 3 1 (.slice x.1 n x.2) n xs) : RfD n xs s0 s1 s2 W (Fx.upd g 1 x) (Fx.add f 1) w'' :=
  ⟨step_below hb h.bel, fun y hy => by rw [Fx.upd_same] at hy; cases hy; exact own_mono ho h.bel.size, fun y hy => by
    rw [upd_ne (by decide)] at hy
    obtain ⟨b, h1, h2, h3⟩ := h.blk y hy
    rw [add_ne' (by decide)]
    exact ⟨b, h1, h2, step_blk hb h3⟩⟩
theorem RfD.make (h : RfD n xs s0 s1 s2 W g f w') (h6 : f 6 = false) : RfD n xs s0 s1 s2 W (Fx.upd g 4 (some ⟨w'.heap.size, 0, none⟩, 0)) (Fx.add f 4) (w'.alloc (.cells #[.int .i64 0, .int .i64 0, .int .i64 0] 77)) :=
  ⟨h.bel.alloc h.bel.size _, fun y hy => by rw [upd_ne (by decide)] at hy; exact (h.own y hy).alloc _, fun y hy => by
    rw [Fx.upd_same] at hy
    cases hy
    rw [add_ne' (by decide), h6]
    exact ⟨w'.heap.size, rfl, h.bel.size, Blk.new _ _ _⟩⟩
theorem RfD.store (h : RfD n xs s0 s1 s2 W g f w') {x : Pick} {b : Nat} (hx : g 4 = some x) (hb : x.1 = some ⟨b, 0, none⟩) (hf : f 6 = false) :
    RfD n xs s0 s1 s2 W g (Fx.add f 6) (((w'.setCell ⟨b, 0, none⟩ (.int .i64 s0)).setCell ⟨b, 1, none⟩ (.int .i64 s1)).setCell ⟨b, 2, none⟩ (.int .i64 s2)) := by
  obtain ⟨b', h1, h2, h3⟩ := h.blk x hx
  rw [hb] at h1
  cases h1
  refine ⟨((h.bel.setCell (p := ⟨b, 0, none⟩) h2 _).setCell (p := ⟨b, 1, none⟩) h2 _).setCell (p := ⟨b, 2, none⟩) h2 _, fun y hy => ?_, fun y hy => ?_⟩
  · have ho := h.own y hy
    have hne := own_blk_ne ho h3 (by decide)
    exact own_set (own_set (own_set ho hne _) hne _) hne _
  · rw [hx] at hy
    cases hy
    rw [add_same, if_pos rfl]
    refine ⟨b, hb, h2, ?_⟩
    rw [hf] at h3
    have := ((h3.set_ 0 (.int .i64 s0)).set_ 1 (.int .i64 s1)).set_ 2 (.int .i64 s2)
    simpa using this
theorem RfD.cells {x : Pick} (h : RfD n xs s0 s1 s2 W g f w') (hx : g 4 = some x) (hf : f 6 = false) : ∃ b, x.1 = some ⟨b, 0, none⟩ ∧ w'.cell? ⟨b, 0, none⟩ = some (.int .i64 0) ∧ w'.cell? ⟨b, 1, none⟩ = some (.int .i64 0) ∧ w'.cell? ⟨b, 2, none⟩ = some (.int .i64 0) ∧ w'.frozen? ⟨b, 0, none⟩ = false ∧ w'.frozen? ⟨b, 1, none⟩ = false ∧ w'.frozen? ⟨b, 2, none⟩ = false := by
  obtain ⟨b, h1, h2, h3⟩ := h.blk x hx
  rw [hf] at h3
  exact ⟨b, h1, h3.cell 0, h3.cell 1, h3.cell 2, h3.frozen 0, h3.frozen 1, h3.frozen 2⟩
end

def lineV (x : ((Int × Int) × (Int × Int)) × (Nat × Nat)) : Value := .agg #[.int .i64 x.1.1.1, .int .i64 x.1.1.2, .int .i64 x.1.2.1, .int .i64 x.1.2.2, .int .i64 (x.2.1 : Int), .int .i64 (x.2.2 : Int)]

set_option maxRecDepth 100000 in
set_option maxHeartbeats 4000000 in
theorem reference_any (m : Rm) (hm : m.Ok) (hn19 : m.n < 20) (x : ((Int × Int) × (Int × Int)) × (Nat × Nat)) (hxv : refF m = x) (w : World) (hx : RmAt m w) :
    Calls Try.prog 25 #[m.val] w fun e w' => e = .returned (lineV x) ∧ Below w.heap.size w w' := by
  have hmf : ∀ (fn : Fn) (first cap : Array Value) (w : World), (Instr.makeFunc fn first cap).run Try.prog w = .ok (.func fn first cap) w := fun _ _ _ _ => rfl
  have hne := hull_ne (h := m.h) (q := m.q) hm.n1
  have hasc := hull_asc m.h m.q m.n
  have hmem : ∀ z ∈ hullF m.h m.q m.n, z < m.n := fun z hz => hull_mem hz
  have hlen := hull_len m.h m.q m.n
  unfold refF at hxv
  obtain ⟨l, hl⟩ : ∃ l, hullF m.h m.q m.n = l := ⟨_, rfl⟩
  rw [hl] at hxv hne hasc hmem hlen
  obtain ⟨L, hL⟩ : ∃ L, l.length = L := ⟨_, rfl⟩
  have hL1 : 1 ≤ L := by rw [← hL]; cases l with
    | nil => exact absurd rfl hne
    | cons a r => simp
  rw [hL] at hlen hxv
  have HX := Lib.hid hx
  have HM := Lib.hid hm
  have HXV := Lib.hid hxv
  have HL := Lib.hid hl
  have HLL := Lib.hid hL
  have HASC := Lib.hid hasc
  have HMEM := Lib.hid hmem
  clear hx hm hxv hl hL hasc hmem hne
  unfold Rm.val
  go_enter Try.func25, Try.ntmps25
  go_wp2
  generalize hwn : ((w.alloc (.cells #[.slice (some ⟨m.b1, m.o1, none⟩) m.n m.c1, .slice (some ⟨m.b2, m.o2, none⟩) m.n m.c2, .slice (some ⟨m.b3, m.o3, none⟩) m.n m.c3] 38)).alloc (.cells #[.int .i64 (0), .int .i64 (0), .int .i64 (0), .int .i64 (0), .int .i64 (0), .int .i64 (0)] 62)) = w1
  have hbn : Below w.heap.size w w1 := by rw [← hwn]; repeat' (first | exact Below.refl _ _ | refine below_drewN ?_ _ | refine Below.drew ?_ | refine Below.alloc ?_ (by first | omega | (simp; done) | (simp; omega) | (simp [World.setCell]; omega)) _ | refine Below.setCell ?_ (by first | omega | (simp; done) | (simp; omega)) _)
  have HB1 := Lib.hid (show Below w.heap.size w w1 from hbn)
  have K0_1 := Lib.hid (show Blk w1 (w.heap.size) 38 #[.slice (some ⟨m.b1, m.o1, none⟩) m.n m.c1, .slice (some ⟨m.b2, m.o2, none⟩) m.n m.c2, .slice (some ⟨m.b3, m.o3, none⟩) m.n m.c3] by rw [← hwn]; repeat' (first | exact Blk.at_ _ (by first | rfl | (simp; done) | (simp; omega)) _ _ | refine Blk.drewN ?_ _ | refine Blk.drew ?_ | refine Blk.alloc ?_ _ | refine Blk.far ?_ (by first | omega | (simp; done) | (simp; omega)) _ | assumption))
  have K1_1 := Lib.hid (show Blk w1 (w.heap.size + 1) 62 #[.int .i64 (0), .int .i64 (0), .int .i64 (0), .int .i64 (0), .int .i64 (0), .int .i64 (0)] by rw [← hwn]; repeat' (first | exact Blk.at_ _ (by first | rfl | (simp; done) | (simp; omega)) _ _ | refine Blk.drewN ?_ _ | refine Blk.drew ?_ | refine Blk.alloc ?_ _ | refine Blk.far ?_ (by first | omega | (simp; done) | (simp; omega)) _ | assumption))
  have HN1 := Lib.hid hbn
  have hz1 := hbn.size
  clear hwn hbn
  have l0_1 : w.heap.size < w1.heap.size := K0_1.out.lt
  have z0_0_1 : w1.cell? ⟨w.heap.size, 0, none⟩ = some (.slice (some ⟨m.b1, m.o1, none⟩) m.n m.c1) := K0_1.out.cell 0
  have z0_1_1 : w1.cell? ⟨w.heap.size, 1, none⟩ = some (.slice (some ⟨m.b2, m.o2, none⟩) m.n m.c2) := K0_1.out.cell 1
  have z0_2_1 : w1.cell? ⟨w.heap.size, 2, none⟩ = some (.slice (some ⟨m.b3, m.o3, none⟩) m.n m.c3) := K0_1.out.cell 2
  have l1_1 : w.heap.size + 1 < w1.heap.size := K1_1.out.lt
  have z1_0_1 : w1.cell? ⟨w.heap.size + 1, 0, none⟩ = some (.int .i64 (0)) := K1_1.out.cell 0
  have z1_1_1 : w1.cell? ⟨w.heap.size + 1, 1, none⟩ = some (.int .i64 (0)) := K1_1.out.cell 1
  have z1_2_1 : w1.cell? ⟨w.heap.size + 1, 2, none⟩ = some (.int .i64 (0)) := K1_1.out.cell 2
  have z1_3_1 : w1.cell? ⟨w.heap.size + 1, 3, none⟩ = some (.int .i64 (0)) := K1_1.out.cell 3
  have z1_4_1 : w1.cell? ⟨w.heap.size + 1, 4, none⟩ = some (.int .i64 (0)) := K1_1.out.cell 4
  have z1_5_1 : w1.cell? ⟨w.heap.size + 1, 5, none⟩ = some (.int .i64 (0)) := K1_1.out.cell 5
  have hcall : ∀ w', Below w1.heap.size w1 w' → Calls Try.prog 37 #[.agg #[.slice (some ⟨m.b1, m.o1, none⟩) m.n m.c1, .slice (some ⟨m.b2, m.o2, none⟩) m.n m.c2, .slice (some ⟨m.b3, m.o3, none⟩) m.n m.c3]] w' fun e w'' => Below w'.heap.size w' w'' ∧ ∃ A c, e = .returned (.slice A L c) ∧ w''.ownsRow w'.heap.size 3 1 (.slice A L c) L (nats l) := fun w' hb => by
    have h1 := hull_any m HM.out hn19 w' ((HX.out.lay HB1.out).lay hb)
    unfold HullPost at h1
    rw [HL.out, HLL.out] at h1
    exact h1
  have HCALL := Lib.hid hcall
  clear hcall
  apply share (Fact := fun (x y : Pick) (wz : World) => ∃ b, y.1 = some ⟨b, 0, none⟩ ∧ w1.heap.size ≤ b ∧ Below w1.heap.size w1 wz ∧ Blk wz b 77 #[.int .i64 (m.sw m.n), .int .i64 (m.sq m.n), .int .i64 (m.sh m.n)] ∧ wz.ownsRow w1.heap.size 3 1 (.slice x.1 L x.2) L (nats l))
  · intro key
    refine Fx.regionM (fun W (g : Nat → Option Pick) f w' => RfD L (nats l) (m.sw m.n) (m.sq m.n) (m.sh m.n) W g f w') (fun i (x : Pick) => if i = 1 then .slice x.1 L x.2 else .pointer x.1) (by kernel_rfl) ?_ ?_
    · intro f hf0
      exact RfD.start
    first
    | (refine Fx.WM.skip 0 (by rfl) (by kernel_rfl) (by kernel_rfl) (by kernel_rfl) (by rfl) (fun g f w h => h.same (by decide)) ?_; simp only [Act.put, List.setIfInBounds_toArray, List.set_cons_zero, List.set_cons_succ])
    | (refine Fx.WM.val_ 0 ?_ (by rfl) (by kernel_rfl) (by kernel_rfl) (by kernel_rfl) (by rfl) ?_ (fun g f w h => h.same (by decide)) ?_
       rotate_left
       · intro g f w' hx hD hk
         obtain hrf := id hD
         have kk := Blk.below K0_1.out hrf.bel (by omega)
         have y0 := kk.cell 0
         have y1 := kk.cell 1
         have y2 := kk.cell 2
         clear hx hk hD hrf kk
         go_simp
         try rfl
       simp only [Act.put, List.setIfInBounds_toArray, List.set_cons_zero, List.set_cons_succ])
    first
    | (refine Fx.WM.skip 2 (by rfl) (by kernel_rfl) (by kernel_rfl) (by kernel_rfl) (by rfl) (fun g f w h => h.same (by decide)) ?_; simp only [Act.put, List.setIfInBounds_toArray, List.set_cons_zero, List.set_cons_succ])
    | (refine Fx.WM.val_ 2 ?_ (by rfl) (by kernel_rfl) (by kernel_rfl) (by kernel_rfl) (by rfl) ?_ (fun g f w h => h.same (by decide)) ?_
       rotate_left
       · intro g f w' hx hD hk
         obtain hrf := id hD
         have kk := Blk.below K0_1.out hrf.bel (by omega)
         have y0 := kk.cell 0
         have y1 := kk.cell 1
         have y2 := kk.cell 2
         clear hx hk hD hrf kk
         go_simp
         try rfl
       simp only [Act.put, List.setIfInBounds_toArray, List.set_cons_zero, List.set_cons_succ])
    refine Fx.WM.choose2 1 4 (by rfl) (by rfl) (by kernel_rfl) (by rfl) (by rfl) ?_ ?_ ?_ ?_
    · skip
      refine Fx.Chooses.call ?_ ?_ (by rfl) ?_ ?_
      rotate_left 2
      · intro w'
        go_simp
        refine ⟨?_, ?_⟩ <;> rfl
      · intro f w' hD hk
        exact (HCALL.out w' hD.bel).mono fun e w'' ⟨hb, A', c', he, ho⟩ => ⟨(A', c'), he, hD.hull hb _ ho⟩
    · skip
      refine Fx.Chooses.make (by rfl) ?_
      intro f w' hD hk
      refine ⟨(some ⟨w'.heap.size, 0, none⟩, 0), w'.alloc (.cells #[.int .i64 0, .int .i64 0, .int .i64 0] 77), ?_, ?_⟩
      · clear hk hD
        go_simp
        try rfl
      · exact hD.make (hk.2.1 6 (by kernel_rfl))
    · intro x
      simp only [Act.put, List.setIfInBounds_toArray, List.set_cons_zero, List.set_cons_succ]
      refine Fx.WM.call 3 (.agg #[.int .i64 (m.sw m.n), .int .i64 (m.sq m.n), .int .i64 (m.sh m.n)]) ?_ ?_ (by rfl) (by kernel_rfl) (by kernel_rfl) (by kernel_rfl) (by rfl) ?_ ?_ ?_
      rotate_left 2
      · intro w'
        go_simp
        refine ⟨?_, ?_⟩ <;> rfl
      · intro g f w' hx hD hk
        exact (sumsof_any m HM.out w' ((HX.out.lay HB1.out).lay hD.bel)).mono fun e w'' ⟨he, hw⟩ => ⟨he, hD.call (by decide) hw⟩
      simp only [Act.put, List.setIfInBounds_toArray, List.set_cons_zero, List.set_cons_succ]
      refine Fx.WM.choose 4 (by rfl) (by kernel_rfl) (by rfl) ?_ ?_
      · skip
        refine Fx.Chooses.make (by rfl) ?_
        intro f w' hD hk
        refine ⟨(some ⟨w'.heap.size, 0, none⟩, 0), w'.alloc (.cells #[.int .i64 0, .int .i64 0, .int .i64 0] 77), ?_, ?_⟩
        · clear hk hD
          go_simp
          try rfl
        · exact hD.make (hk.2.1 6 (by kernel_rfl))
      intro y
      simp only [Act.put, List.setIfInBounds_toArray, List.set_cons_zero, List.set_cons_succ]
      first
      | (refine Fx.WM.skip 5 (by rfl) (by kernel_rfl) (by kernel_rfl) (by kernel_rfl) (by rfl) (fun g f w h => h.same (by decide)) ?_; simp only [Act.put, List.setIfInBounds_toArray, List.set_cons_zero, List.set_cons_succ])
      | (refine Fx.WM.val_ 5 ?_ (by rfl) (by kernel_rfl) (by kernel_rfl) (by kernel_rfl) (by rfl) ?_ (fun g f w h => h.same (by decide)) ?_
         rotate_left
         · intro g f w' hx hD hk
           obtain hrf := id hD
           clear hx hk hD hrf
           go_simp
           try rfl
         simp only [Act.put, List.setIfInBounds_toArray, List.set_cons_zero, List.set_cons_succ])
      refine Fx.WM.eff 6 undef (by rfl) (by kernel_rfl) (by kernel_rfl) (by kernel_rfl) (by rfl) ?_ ?_
      · intro g f w' hx hD hk
        obtain ⟨b, r0, r1, r2, r3, r4, r5, r6⟩ := RfD.cells hD (hx 4 _ (by rfl)) hk.1
        refine Fx.gives_skip (w' := (((w'.setCell ⟨b, 0, none⟩ (.int .i64 (m.sw m.n))).setCell ⟨b, 1, none⟩ (.int .i64 (m.sq m.n))).setCell ⟨b, 2, none⟩ (.int .i64 (m.sh m.n)))) ?_ ?_
        · clear hx hk hD
          go_simp
          try rfl
        · exact RfD.store hD (hx 4 _ (by rfl)) r0 hk.1
      simp only [Act.put, List.setIfInBounds_toArray, List.set_cons_zero, List.set_cons_succ]
      refine Fx.WM.nil (by kernel_rfl) ?_
      intro wz hD
      obtain ⟨b, h1, h2, h3⟩ := hD.blk y (by rfl)
      exact key x y wz ⟨b, h1, h2, hD.bel, h3, hD.own x (by rfl)⟩
    · intro y
      simp only [Act.put, List.setIfInBounds_toArray, List.set_cons_zero, List.set_cons_succ]
      refine Fx.WM.choose 1 (by rfl) (by kernel_rfl) (by rfl) ?_ ?_
      · skip
        refine Fx.Chooses.call ?_ ?_ (by rfl) ?_ ?_
        rotate_left 2
        · intro w'
          go_simp
          refine ⟨?_, ?_⟩ <;> rfl
        · intro f w' hD hk
          exact (HCALL.out w' hD.bel).mono fun e w'' ⟨hb, A', c', he, ho⟩ => ⟨(A', c'), he, hD.hull hb _ ho⟩
      intro x
      simp only [Act.put, List.setIfInBounds_toArray, List.set_cons_zero, List.set_cons_succ]
      refine Fx.WM.call 3 (.agg #[.int .i64 (m.sw m.n), .int .i64 (m.sq m.n), .int .i64 (m.sh m.n)]) ?_ ?_ (by rfl) (by kernel_rfl) (by kernel_rfl) (by kernel_rfl) (by rfl) ?_ ?_ ?_
      rotate_left 2
      · intro w'
        go_simp
        refine ⟨?_, ?_⟩ <;> rfl
      · intro g f w' hx hD hk
        exact (sumsof_any m HM.out w' ((HX.out.lay HB1.out).lay hD.bel)).mono fun e w'' ⟨he, hw⟩ => ⟨he, hD.call (by decide) hw⟩
      simp only [Act.put, List.setIfInBounds_toArray, List.set_cons_zero, List.set_cons_succ]
      first
      | (refine Fx.WM.skip 5 (by rfl) (by kernel_rfl) (by kernel_rfl) (by kernel_rfl) (by rfl) (fun g f w h => h.same (by decide)) ?_; simp only [Act.put, List.setIfInBounds_toArray, List.set_cons_zero, List.set_cons_succ])
      | (refine Fx.WM.val_ 5 ?_ (by rfl) (by kernel_rfl) (by kernel_rfl) (by kernel_rfl) (by rfl) ?_ (fun g f w h => h.same (by decide)) ?_
         rotate_left
         · intro g f w' hx hD hk
           obtain hrf := id hD
           clear hx hk hD hrf
           go_simp
           try rfl
         simp only [Act.put, List.setIfInBounds_toArray, List.set_cons_zero, List.set_cons_succ])
      refine Fx.WM.eff 6 undef (by rfl) (by kernel_rfl) (by kernel_rfl) (by kernel_rfl) (by rfl) ?_ ?_
      · intro g f w' hx hD hk
        obtain ⟨b, r0, r1, r2, r3, r4, r5, r6⟩ := RfD.cells hD (hx 4 _ (by rfl)) hk.1
        refine Fx.gives_skip (w' := (((w'.setCell ⟨b, 0, none⟩ (.int .i64 (m.sw m.n))).setCell ⟨b, 1, none⟩ (.int .i64 (m.sq m.n))).setCell ⟨b, 2, none⟩ (.int .i64 (m.sh m.n)))) ?_ ?_
        · clear hx hk hD
          go_simp
          try rfl
        · exact RfD.store hD (hx 4 _ (by rfl)) r0 hk.1
      simp only [Act.put, List.setIfInBounds_toArray, List.set_cons_zero, List.set_cons_succ]
      refine Fx.WM.nil (by kernel_rfl) ?_
      intro wz hD
      obtain ⟨b, h1, h2, h3⟩ := hD.blk y (by rfl)
      exact key x y wz ⟨b, h1, h2, hD.bel, h3, hD.own x (by rfl)⟩
  rintro ⟨A2, c2⟩ ⟨y1, y2⟩ w2 ⟨sb, hy, hsb, hb, hsk, ho⟩
  simp only at hy ho
  subst hy
  simp only [show ((4 : Nat) = 1) = False from by simp, if_false, if_true]
  clear hmf
  obtain ⟨gl, cl, hv, hgl1, hgl2, hgl3, hglc⟩ := own_some ho (by omega)
  injection hv with hv _ hvc
  subst hv hvc
  have HB2 := Lib.hid (show Below w.heap.size w w2 from step_below hb (by repeat' (first | exact Below.refl _ _ | exact HB1.out | refine below_drewN ?_ _ | refine Below.drew ?_ | refine Below.alloc ?_ (by first | omega | (simp; done) | (simp; omega) | (simp [World.setCell]; omega)) _ | refine Below.setCell ?_ (by first | omega | (simp; done) | (simp; omega)) _ | assumption)))
  have K0_2 := Lib.hid (step_blk hb (show Blk _ (w.heap.size) 38 #[.slice (some ⟨m.b1, m.o1, none⟩) m.n m.c1, .slice (some ⟨m.b2, m.o2, none⟩) m.n m.c2, .slice (some ⟨m.b3, m.o3, none⟩) m.n m.c3] by repeat' (first | exact K0_1.out | exact K1_1.out | exact Blk.at_ _ (by first | rfl | (simp; done) | (simp; omega)) _ _ | refine Blk.drewN ?_ _ | refine Blk.drew ?_ | refine Blk.alloc ?_ _ | refine Blk.far ?_ (by first | omega | (simp; done) | (simp; omega)) _ | assumption)))
  have K1_2 := Lib.hid (step_blk hb (show Blk _ (w.heap.size + 1) 62 #[.int .i64 (0), .int .i64 (0), .int .i64 (0), .int .i64 (0), .int .i64 (0), .int .i64 (0)] by repeat' (first | exact K0_1.out | exact K1_1.out | exact Blk.at_ _ (by first | rfl | (simp; done) | (simp; omega)) _ _ | refine Blk.drewN ?_ _ | refine Blk.drew ?_ | refine Blk.alloc ?_ _ | refine Blk.far ?_ (by first | omega | (simp; done) | (simp; omega)) _ | assumption)))
  have hz2 := hb.size
  try simp only [World.size_alloc, World.drewN, World.drew] at hz2
  clear hb K0_1 K1_1 z0_0_1 z0_1_1 z0_2_1 l0_1 z1_0_1 z1_1_1 z1_2_1 z1_3_1 z1_4_1 z1_5_1 l1_1
  have l0_2 : w.heap.size < w2.heap.size := K0_2.out.lt
  have z0_0_2 : w2.cell? ⟨w.heap.size, 0, none⟩ = some (.slice (some ⟨m.b1, m.o1, none⟩) m.n m.c1) := K0_2.out.cell 0
  have z0_1_2 : w2.cell? ⟨w.heap.size, 1, none⟩ = some (.slice (some ⟨m.b2, m.o2, none⟩) m.n m.c2) := K0_2.out.cell 1
  have z0_2_2 : w2.cell? ⟨w.heap.size, 2, none⟩ = some (.slice (some ⟨m.b3, m.o3, none⟩) m.n m.c3) := K0_2.out.cell 2
  have l1_2 : w.heap.size + 1 < w2.heap.size := K1_2.out.lt
  have z1_0_2 : w2.cell? ⟨w.heap.size + 1, 0, none⟩ = some (.int .i64 (0)) := K1_2.out.cell 0
  have z1_1_2 : w2.cell? ⟨w.heap.size + 1, 1, none⟩ = some (.int .i64 (0)) := K1_2.out.cell 1
  have z1_2_2 : w2.cell? ⟨w.heap.size + 1, 2, none⟩ = some (.int .i64 (0)) := K1_2.out.cell 2
  have z1_3_2 : w2.cell? ⟨w.heap.size + 1, 3, none⟩ = some (.int .i64 (0)) := K1_2.out.cell 3
  have z1_4_2 : w2.cell? ⟨w.heap.size + 1, 4, none⟩ = some (.int .i64 (0)) := K1_2.out.cell 4
  have z1_5_2 : w2.cell? ⟨w.heap.size + 1, 5, none⟩ = some (.int .i64 (0)) := K1_2.out.cell 5
  have K2_2 := Lib.hid (show Blk w2 (sb) 77 #[.int .i64 (m.sw m.n), .int .i64 (m.sq m.n), .int .i64 (m.sh m.n)] from hsk)
  clear hsk
  have l2_2 : sb < w2.heap.size := K2_2.out.lt
  have z2_0_2 : w2.cell? ⟨sb, 0, none⟩ = some (.int .i64 (m.sw m.n)) := K2_2.out.cell 0
  have z2_1_2 : w2.cell? ⟨sb, 1, none⟩ = some (.int .i64 (m.sq m.n)) := K2_2.out.cell 1
  have z2_2_2 : w2.cell? ⟨sb, 2, none⟩ = some (.int .i64 (m.sh m.n)) := K2_2.out.cell 2
  clear ho
  by_cases hone : L = 1
  · have hx0 : ∃ a, l = [a] := by
      have := HLL.out
      rw [hone] at this
      exact List.length_eq_one_iff.1 this
    obtain ⟨a, ha⟩ := hx0
    have ham : a < m.n := HMEM.out a (by rw [ha]; simp)
    have y0 : w2.cell? ⟨gl, 0, none⟩ = some (.int .i64 (a : Int)) := hglc 0 _ (by rw [ha]; rfl)
    have d1 := ((HX.out.lay HB2.out).r1 a ham)
    have hd : ((L : Int) == 1) = true := by rw [hone]; rfl
    have hLi : 0 < L := by omega
    have haa : (a : Int) < (m.n : Int) := by omega
    have hxe : (((m.h a, (1 : Int)), ((0 : Int), (1 : Int))), (a, a)) = x := by
      rw [← HXV.out, if_pos hone, ha]
      rfl
    have HXE := Lib.hid hxe
    clear hglc hone ha hxe
    go_wp2
    obtain ⟨W0, hW0⟩ : ∃ W0, W0 = w2.drewN 1 := ⟨_, rfl⟩
    have m0 : W0.cell? ⟨w.heap.size, 0, none⟩ = some (.slice (some ⟨m.b1, m.o1, none⟩) m.n m.c1) := by rw [hW0]; exact z0_0_2
    have m1 : W0.cell? ⟨gl, 0, none⟩ = some (.int .i64 ((a : Int))) := by rw [hW0]; exact y0
    have m2 : W0.cell? ⟨m.b1, m.o1 + a, none⟩ = some (.int .i64 (m.h a)) := by rw [hW0]; exact d1
    have kb : Blk W0 (w.heap.size + 1) 62 #[.int .i64 0, .int .i64 0, .int .i64 0, .int .i64 0, .int .i64 0, .int .i64 0] := by rw [hW0]; exact Blk.drewN K1_2.out 1
    have HKB := Lib.hid kb
    have mo0 := kb.cell 0
    have mf0 := kb.frozen 0
    have mo1 := kb.cell 1
    have mf1 := kb.frozen 1
    have mo2 := kb.cell 2
    have mf2 := kb.frozen 2
    have mo3 := kb.cell 3
    have mf3 := kb.frozen 3
    have mo4 := kb.cell 4
    have mf4 := kb.frozen 4
    have mo5 := kb.cell 5
    have mf5 := kb.frozen 5
    clear kb
    refine Fx.region (fun f w' => (f 17 = false → w' = W0) ∧ (f 17 = true → w' = ((((((W0.setCell ⟨w.heap.size + 1, 0, none⟩ (.int .i64 (m.h a))).setCell ⟨w.heap.size + 1, 1, none⟩ (.int .i64 (1))).setCell ⟨w.heap.size + 1, 2, none⟩ (.int .i64 (0))).setCell ⟨w.heap.size + 1, 3, none⟩ (.int .i64 (1))).setCell ⟨w.heap.size + 1, 4, none⟩ (.int .i64 ((a : Int)))).setCell ⟨w.heap.size + 1, 5, none⟩ (.int .i64 ((a : Int)))))) (by kernel_rfl) (by kernel_rfl) ?_ ?_
    · intro f hf0
      exact ⟨fun _ => hW0.symm, fun h => by rw [hf0 17] at h; cases h⟩
    have HW0 := Lib.hid hW0
    clear hW0
    repeat (first
      | (refine Fx.skip_ (by rfl) (fun f w h => h) ?_; simp only [Act.put, List.setIfInBounds_toArray, List.set_cons_zero, List.set_cons_succ])
      | (refine Fx.val_ ?_ (by rfl) ?_ (fun f w h => h) ?_
         rotate_left
         · intro f w' hD hk
           obtain ⟨jw, jr⟩ := id hD
           have jw := jw (hk.2.1 17 (by kernel_rfl))
           have q0 : w'.cell? ⟨w.heap.size, 0, none⟩ = some (.slice (some ⟨m.b1, m.o1, none⟩) m.n m.c1) := by rw [jw]; exact m0
           have q1 : w'.cell? ⟨gl, 0, none⟩ = some (.int .i64 ((a : Int))) := by rw [jw]; exact m1
           have q2 : w'.cell? ⟨m.b1, m.o1 + a, none⟩ = some (.int .i64 (m.h a)) := by rw [jw]; exact m2
           clear hk hD jw jr
           go_simp
           try rfl
         simp only [Act.put, List.setIfInBounds_toArray, List.set_cons_zero, List.set_cons_succ]))
    refine Fx.store_ (fun w' => ((((((w'.setCell ⟨w.heap.size + 1, 0, none⟩ (.int .i64 (m.h a))).setCell ⟨w.heap.size + 1, 1, none⟩ (.int .i64 (1))).setCell ⟨w.heap.size + 1, 2, none⟩ (.int .i64 (0))).setCell ⟨w.heap.size + 1, 3, none⟩ (.int .i64 (1))).setCell ⟨w.heap.size + 1, 4, none⟩ (.int .i64 ((a : Int)))).setCell ⟨w.heap.size + 1, 5, none⟩ (.int .i64 ((a : Int))))) (by rfl) ?_ ?_ ?_
    · intro f w' hD hk
      obtain ⟨jw, jr⟩ := id hD
      have jw := jw hk.1
      have q0 : w'.cell? ⟨w.heap.size + 1, 0, none⟩ = some (.int .i64 0) := by rw [jw]; exact mo0
      have q1 : w'.cell? ⟨w.heap.size + 1, 1, none⟩ = some (.int .i64 0) := by rw [jw]; exact mo1
      have q2 : w'.cell? ⟨w.heap.size + 1, 2, none⟩ = some (.int .i64 0) := by rw [jw]; exact mo2
      have q3 : w'.cell? ⟨w.heap.size + 1, 3, none⟩ = some (.int .i64 0) := by rw [jw]; exact mo3
      have q4 : w'.cell? ⟨w.heap.size + 1, 4, none⟩ = some (.int .i64 0) := by rw [jw]; exact mo4
      have q5 : w'.cell? ⟨w.heap.size + 1, 5, none⟩ = some (.int .i64 0) := by rw [jw]; exact mo5
      have r0 : w'.frozen? ⟨w.heap.size + 1, 0, none⟩ = false := by rw [jw]; exact mf0
      have r1 : w'.frozen? ⟨w.heap.size + 1, 1, none⟩ = false := by rw [jw]; exact mf1
      have r2 : w'.frozen? ⟨w.heap.size + 1, 2, none⟩ = false := by rw [jw]; exact mf2
      have r3 : w'.frozen? ⟨w.heap.size + 1, 3, none⟩ = false := by rw [jw]; exact mf3
      have r4 : w'.frozen? ⟨w.heap.size + 1, 4, none⟩ = false := by rw [jw]; exact mf4
      have r5 : w'.frozen? ⟨w.heap.size + 1, 5, none⟩ = false := by rw [jw]; exact mf5
      clear hk hD jw jr
      go_simp
    · intro f w' hD hk
      obtain ⟨jw, jr⟩ := id hD
      have jw := jw hk.1
      exact ⟨fun h => by simp [Fx.add] at h, fun _ => by rw [jw]⟩
    simp only [Act.put, List.setIfInBounds_toArray, List.set_cons_zero, List.set_cons_succ]
    refine Fx.nil_ ?_
    intro f w1 hall hD
    have hf17 := hall 17 (by simp)
    obtain ⟨jw, jr⟩ := hD
    simp only [hf17, if_true] at *
    have jr := jr (by first | rfl | trivial)
    clear jw
    try clear hall
    subst jr
    have hkb := ((((((HKB.out.set_ 0 (.int .i64 (m.h a))).set_ 1 (.int .i64 (1))).set_ 2 (.int .i64 (0))).set_ 3 (.int .i64 (1))).set_ 4 (.int .i64 ((a : Int)))).set_ 5 (.int .i64 ((a : Int))))
    have y0 := hkb.cell 0
    have y1 := hkb.cell 1
    have y2 := hkb.cell 2
    have y3 := hkb.cell 3
    have y4 := hkb.cell 4
    have y5 := hkb.cell 5
    have yl := hkb.lt
    simp only [List.setIfInBounds_toArray, List.set_cons_zero, List.set_cons_succ] at y0 y1 y2 y3 y4 y5
    have hbb : Below w.heap.size w ((((((W0.setCell ⟨w.heap.size + 1, 0, none⟩ (.int .i64 (m.h a))).setCell ⟨w.heap.size + 1, 1, none⟩ (.int .i64 (1))).setCell ⟨w.heap.size + 1, 2, none⟩ (.int .i64 (0))).setCell ⟨w.heap.size + 1, 3, none⟩ (.int .i64 (1))).setCell ⟨w.heap.size + 1, 4, none⟩ (.int .i64 ((a : Int)))).setCell ⟨w.heap.size + 1, 5, none⟩ (.int .i64 ((a : Int)))) := by rw [HW0.out]; exact (((((((below_drewN HB2.out 1).setCell (p := ⟨w.heap.size + 1, 0, none⟩) (by show _ ≤ w.heap.size + 1; omega) (.int .i64 (m.h a))).setCell (p := ⟨w.heap.size + 1, 1, none⟩) (by show _ ≤ w.heap.size + 1; omega) (.int .i64 (1))).setCell (p := ⟨w.heap.size + 1, 2, none⟩) (by show _ ≤ w.heap.size + 1; omega) (.int .i64 (0))).setCell (p := ⟨w.heap.size + 1, 3, none⟩) (by show _ ≤ w.heap.size + 1; omega) (.int .i64 (1))).setCell (p := ⟨w.heap.size + 1, 4, none⟩) (by show _ ≤ w.heap.size + 1; omega) (.int .i64 ((a : Int)))).setCell (p := ⟨w.heap.size + 1, 5, none⟩) (by show _ ≤ w.heap.size + 1; omega) (.int .i64 ((a : Int))))
    have HBB := Lib.hid hbb
    clear hbb m0 mo0 mf0 m1 mo1 mf1 m2 mo2 mf2 mo3 mf3 mo4 mf4 mo5 mf5
    go_wp2
    exact bodyPost_ret (v := .agg #[.int .i64 (m.h a), .int .i64 (1), .int .i64 (0), .int .i64 (1), .int .i64 ((a : Int)), .int .i64 ((a : Int))]) (by simp [results, Try.results25, go_sem, y0, y1, y2, y3, y4, y5, yl]) rfl ⟨by rw [← HXE.out]; rfl, HBB.out⟩
  · have hl2 : 1 < l.length := by rw [HLL.out]; omega
    obtain ⟨hc1, hc2⟩ := corner_lt (m := m) hl2
    rw [HLL.out] at hc2
    obtain ⟨ci, hci⟩ : ∃ c, cornerI m l = c := ⟨_, rfl⟩
    obtain ⟨cj, hcj⟩ : ∃ c, cornerI m l - 1 = c := ⟨_, rfl⟩
    have hij : ci = cj + 1 := by omega
    rw [hci] at hc1 hc2
    obtain ⟨za, hza⟩ : ∃ z, l[cj]? = some z := ⟨_, List.getElem?_eq_getElem (by rw [HLL.out]; omega)⟩
    obtain ⟨zb, hzb⟩ : ∃ z, l[ci]? = some z := ⟨_, List.getElem?_eq_getElem (by rw [HLL.out]; omega)⟩
    have hzan := HMEM.out za (List.mem_of_getElem? hza)
    have hzbn := HMEM.out zb (List.mem_of_getElem? hzb)
    have hab : m.q za < m.q zb := by
      obtain ⟨g1, g2⟩ := List.getElem?_eq_some_iff.1 hza
      obtain ⟨g3, g4⟩ := List.getElem?_eq_some_iff.1 hzb
      have := (List.pairwise_iff_getElem.1 HASC.out) cj ci g1 g3 (by omega)
      rwa [g2, g4] at this
    obtain ⟨s1, s2, hs⟩ : ∃ a b, thrS m za zb = (a, b) := ⟨_, _, rfl⟩
    obtain ⟨v1, v2, hv⟩ : ∃ a b, thrV m za zb = (a, b) := ⟨_, _, rfl⟩
    have hxe : (((s1, s2), (v1, v2)), (za, zb)) = x := by
      rw [← HXV.out, if_neg hone, hcj, hci, List.getD_eq_getElem?_getD, List.getD_eq_getElem?_getD, hza, hzb]
      simp only [Option.getD_some]
      rw [hs, hv]
    obtain ⟨r, hr⟩ : ∃ r, idxF (l.findIdx? (nonnegB m)) = r := ⟨_, rfl⟩
    have hmax : (if (1 : Int) < r then r else 1) = (ci : Int) := by rw [← hr, corner_val, hci]
    have y0 : w2.cell? ⟨gl, cj, none⟩ = some (.int .i64 (za : Int)) := hglc cj _ (nats_get hza)
    have y1 : w2.cell? ⟨gl, ci, none⟩ = some (.int .i64 (zb : Int)) := hglc ci _ (nats_get hzb)
    have hd : ((L : Int) == 1) = false := by simp; omega
    have hasks : Asks2 40 sb w.heap.size (nonnegB m) l w2 := ⟨enters_of Try.func40 (by kernel_rfl) rfl, fun z t wr hz ht hbr => ref1_is m HM.out w.heap.size sb z (HMEM.out z hz) t ht wr ((HX.out.lay HB2.out).lay hbr) (step_blk hbr K0_2.out) (step_blk hbr K2_2.out)⟩
    have hcells : ∀ i u, (nats l)[i]? = some u → w2.cell? ⟨gl, 0 + i, none⟩ = some u := fun i u hu => by rw [Nat.zero_add]; exact hglc i u hu
    have hmf : ∀ (fn : Fn) (first cap : Array Value) (w : World), (Instr.makeFunc fn first cap).run Try.prog w = .ok (.func fn first cap) w := fun _ _ _ _ => rfl
    have hl19 : L ≤ 1000 := by omega
    have hcase : ((1 : Int) < r ∧ r = (ci : Int)) ∨ (¬ (1 : Int) < r ∧ ci = 1) := by
      by_cases h : (1 : Int) < r
      · rw [if_pos h] at hmax; exact .inl ⟨h, hmax⟩
      · rw [if_neg h] at hmax; exact .inr ⟨h, by omega⟩
    have HXE := Lib.hid hxe
    have HS := Lib.hid hs
    have HV := Lib.hid hv
    have HR := Lib.hid hr
    have HASK := Lib.hid hasks
    have HCELLS := Lib.hid hcells
    have HAB := Lib.hid hab
    have l12 := HX.out.l1
    have l22 := HX.out.l2
    clear hglc hone hxe hs hv hr hmax hasks hcells hab hza hzb hci hcj hl2
    rcases hcase with ⟨hr1, hr2⟩ | ⟨hr1, hr2⟩
    · skip
      subst hr2
      have e1 := IntWalk.i64_in ((ci : Int) - 1) ⟨by omega, by omega⟩
      have e2 : (ci : Int) - 1 = (cj : Int) := by omega
      have e3 := IntWalk.i64_in (cj : Int) ⟨by omega, by omega⟩
      have e4 : (cj : Int) < (L : Int) := by omega
      have e5 : (ci : Int) < (L : Int) := by omega
      clear hij hc1 hc2
      have C0_2 := Lib.hid y0
      have C1_2 := Lib.hid y1
      clear y0 y1
      go_wp2_with fail
      refine (idx2_any _ sb w.heap.size (nonnegB m) l gl 0 L c2 _ HASK.out HLL.out hl19 hgl2 HCELLS.out (ci : Int) HR.out).mono ?_
      rintro e w3 ⟨rfl, hb⟩
      have HB3 := Lib.hid (show Below w.heap.size w w3 from step_below hb (by repeat' (first | exact Below.refl _ _ | exact HB2.out | refine below_drewN ?_ _ | refine Below.drew ?_ | refine Below.alloc ?_ (by first | omega | (simp; done) | (simp; omega) | (simp [World.setCell]; omega)) _ | refine Below.setCell ?_ (by first | omega | (simp; done) | (simp; omega)) _ | assumption)))
      have K0_3 := Lib.hid (step_blk hb (show Blk _ (w.heap.size) 38 #[.slice (some ⟨m.b1, m.o1, none⟩) m.n m.c1, .slice (some ⟨m.b2, m.o2, none⟩) m.n m.c2, .slice (some ⟨m.b3, m.o3, none⟩) m.n m.c3] by repeat' (first | exact K0_2.out | exact K1_2.out | exact K2_2.out | exact Blk.at_ _ (by first | rfl | (simp; done) | (simp; omega)) _ _ | refine Blk.drewN ?_ _ | refine Blk.drew ?_ | refine Blk.alloc ?_ _ | refine Blk.far ?_ (by first | omega | (simp; done) | (simp; omega)) _ | assumption)))
      have K1_3 := Lib.hid (step_blk hb (show Blk _ (w.heap.size + 1) 62 #[.int .i64 (0), .int .i64 (0), .int .i64 (0), .int .i64 (0), .int .i64 (0), .int .i64 (0)] by repeat' (first | exact K0_2.out | exact K1_2.out | exact K2_2.out | exact Blk.at_ _ (by first | rfl | (simp; done) | (simp; omega)) _ _ | refine Blk.drewN ?_ _ | refine Blk.drew ?_ | refine Blk.alloc ?_ _ | refine Blk.far ?_ (by first | omega | (simp; done) | (simp; omega)) _ | assumption)))
      have K2_3 := Lib.hid (step_blk hb (show Blk _ (sb) 77 #[.int .i64 (m.sw m.n), .int .i64 (m.sq m.n), .int .i64 (m.sh m.n)] by repeat' (first | exact K0_2.out | exact K1_2.out | exact K2_2.out | exact Blk.at_ _ (by first | rfl | (simp; done) | (simp; omega)) _ _ | refine Blk.drewN ?_ _ | refine Blk.drew ?_ | refine Blk.alloc ?_ _ | refine Blk.far ?_ (by first | omega | (simp; done) | (simp; omega)) _ | assumption)))
      have C0_3 := Lib.hid (step_cell hb (show World.cell? _ ⟨gl, cj, none⟩ = some (.int .i64 ((za : Int))) by first | exact C0_2.out | go_simp) (by have := hgl2; first | omega | (simp; omega)))
      have C1_3 := Lib.hid (step_cell hb (show World.cell? _ ⟨gl, ci, none⟩ = some (.int .i64 ((zb : Int))) by first | exact C1_2.out | go_simp) (by have := hgl2; first | omega | (simp; omega)))
      have hz3 := hb.size
      try simp only [World.size_alloc, World.drewN, World.drew] at hz3
      clear hb K0_2 K1_2 K2_2 z0_0_2 z0_1_2 z0_2_2 l0_2 z1_0_2 z1_1_2 z1_2_2 z1_3_2 z1_4_2 z1_5_2 l1_2 z2_0_2 z2_1_2 z2_2_2 l2_2
      have l0_3 : w.heap.size < w3.heap.size := K0_3.out.lt
      have z0_0_3 : w3.cell? ⟨w.heap.size, 0, none⟩ = some (.slice (some ⟨m.b1, m.o1, none⟩) m.n m.c1) := K0_3.out.cell 0
      have z0_1_3 : w3.cell? ⟨w.heap.size, 1, none⟩ = some (.slice (some ⟨m.b2, m.o2, none⟩) m.n m.c2) := K0_3.out.cell 1
      have z0_2_3 : w3.cell? ⟨w.heap.size, 2, none⟩ = some (.slice (some ⟨m.b3, m.o3, none⟩) m.n m.c3) := K0_3.out.cell 2
      have l1_3 : w.heap.size + 1 < w3.heap.size := K1_3.out.lt
      have z1_0_3 : w3.cell? ⟨w.heap.size + 1, 0, none⟩ = some (.int .i64 (0)) := K1_3.out.cell 0
      have z1_1_3 : w3.cell? ⟨w.heap.size + 1, 1, none⟩ = some (.int .i64 (0)) := K1_3.out.cell 1
      have z1_2_3 : w3.cell? ⟨w.heap.size + 1, 2, none⟩ = some (.int .i64 (0)) := K1_3.out.cell 2
      have z1_3_3 : w3.cell? ⟨w.heap.size + 1, 3, none⟩ = some (.int .i64 (0)) := K1_3.out.cell 3
      have z1_4_3 : w3.cell? ⟨w.heap.size + 1, 4, none⟩ = some (.int .i64 (0)) := K1_3.out.cell 4
      have z1_5_3 : w3.cell? ⟨w.heap.size + 1, 5, none⟩ = some (.int .i64 (0)) := K1_3.out.cell 5
      have l2_3 : sb < w3.heap.size := K2_3.out.lt
      have z2_0_3 : w3.cell? ⟨sb, 0, none⟩ = some (.int .i64 (m.sw m.n)) := K2_3.out.cell 0
      have z2_1_3 : w3.cell? ⟨sb, 1, none⟩ = some (.int .i64 (m.sq m.n)) := K2_3.out.cell 1
      have z2_2_3 : w3.cell? ⟨sb, 2, none⟩ = some (.int .i64 (m.sh m.n)) := K2_3.out.cell 2
      go_wp2_with fail
      apply share (Fact := fun (x y : Pick) (wz : World) => ∃ bx by_, x.1 = some ⟨bx, 0, none⟩ ∧ y.1 = some ⟨by_, 0, none⟩ ∧ w3.heap.size ≤ bx ∧ w3.heap.size ≤ by_ ∧ Below w3.heap.size w3 wz ∧ Blk wz bx 25 #[.int .i64 (s1), .int .i64 (s2)] ∧ Blk wz by_ 25 #[.int .i64 (v1), .int .i64 (v2)])
      · skip
        intro key
        refine Fx.regionM (fun W g f w' => Below W.heap.size W w' ∧ MkM 25 (.int .i64 (s1)) (.int .i64 (s2)) 14 16 W g f w' ∧ MkM 25 (.int .i64 (v1)) (.int .i64 (v2)) 15 17 W g f w' ∧ (∀ x y bx by_, g 14 = some x → g 15 = some y → x.1 = some ⟨bx, 0, none⟩ → y.1 = some ⟨by_, 0, none⟩ → bx ≠ by_)) (fun _ (x : Pick) => .pointer x.1) (by kernel_rfl) ?_ ?_
        · intro f hf0
          exact ⟨below_drewN (Below.refl _ _) 1, MkM.start, MkM.start, fun x y bx by_ h => by cases h⟩
        first
        | (refine Fx.WM.skip 0 (by rfl) (by kernel_rfl) (by kernel_rfl) (by kernel_rfl) (by rfl) (fun g f w h => h) ?_; simp only [Act.put, List.setIfInBounds_toArray, List.set_cons_zero, List.set_cons_succ])
        | (refine Fx.WM.val_ 0 ?_ (by rfl) (by kernel_rfl) (by kernel_rfl) (by kernel_rfl) (by rfl) ?_ (fun g f w h => h) ?_
           rotate_left
           · intro g f w' hx hD hk
             obtain ⟨hb, hm1, hm2, hne⟩ := id hD
             have kk := Blk.below K0_3.out hb (by omega)
             have q0 := kk.cell 0
             have q1 := kk.cell 1
             have q2 := kk.cell 2
             clear kk
             clear hx hk hD hb hm1 hm2 hne
             go_simp
             try rfl
           simp only [Act.put, List.setIfInBounds_toArray, List.set_cons_zero, List.set_cons_succ])
        first
        | (refine Fx.WM.skip 1 (by rfl) (by kernel_rfl) (by kernel_rfl) (by kernel_rfl) (by rfl) (fun g f w h => h) ?_; simp only [Act.put, List.setIfInBounds_toArray, List.set_cons_zero, List.set_cons_succ])
        | (refine Fx.WM.val_ 1 ?_ (by rfl) (by kernel_rfl) (by kernel_rfl) (by kernel_rfl) (by rfl) ?_ (fun g f w h => h) ?_
           rotate_left
           · intro g f w' hx hD hk
             obtain ⟨hb, hm1, hm2, hne⟩ := id hD
             clear hx hk hD hb hm1 hm2 hne
             go_simp
             try rfl
           simp only [Act.put, List.setIfInBounds_toArray, List.set_cons_zero, List.set_cons_succ])
        first
        | (refine Fx.WM.skip 2 (by rfl) (by kernel_rfl) (by kernel_rfl) (by kernel_rfl) (by rfl) (fun g f w h => h) ?_; simp only [Act.put, List.setIfInBounds_toArray, List.set_cons_zero, List.set_cons_succ])
        | (refine Fx.WM.val_ 2 ?_ (by rfl) (by kernel_rfl) (by kernel_rfl) (by kernel_rfl) (by rfl) ?_ (fun g f w h => h) ?_
           rotate_left
           · intro g f w' hx hD hk
             obtain ⟨hb, hm1, hm2, hne⟩ := id hD
             clear hx hk hD hb hm1 hm2 hne
             go_simp
             try rfl
           simp only [Act.put, List.setIfInBounds_toArray, List.set_cons_zero, List.set_cons_succ])
        first
        | (refine Fx.WM.skip 3 (by rfl) (by kernel_rfl) (by kernel_rfl) (by kernel_rfl) (by rfl) (fun g f w h => h) ?_; simp only [Act.put, List.setIfInBounds_toArray, List.set_cons_zero, List.set_cons_succ])
        | (refine Fx.WM.val_ 3 ?_ (by rfl) (by kernel_rfl) (by kernel_rfl) (by kernel_rfl) (by rfl) ?_ (fun g f w h => h) ?_
           rotate_left
           · intro g f w' hx hD hk
             obtain ⟨hb, hm1, hm2, hne⟩ := id hD
             clear hx hk hD hb hm1 hm2 hne
             go_simp
             try rfl
           simp only [Act.put, List.setIfInBounds_toArray, List.set_cons_zero, List.set_cons_succ])
        first
        | (refine Fx.WM.skip 4 (by rfl) (by kernel_rfl) (by kernel_rfl) (by kernel_rfl) (by rfl) (fun g f w h => h) ?_; simp only [Act.put, List.setIfInBounds_toArray, List.set_cons_zero, List.set_cons_succ])
        | (refine Fx.WM.val_ 4 ?_ (by rfl) (by kernel_rfl) (by kernel_rfl) (by kernel_rfl) (by rfl) ?_ (fun g f w h => h) ?_
           rotate_left
           · intro g f w' hx hD hk
             obtain ⟨hb, hm1, hm2, hne⟩ := id hD
             clear hx hk hD hb hm1 hm2 hne
             go_simp
             try rfl
           simp only [Act.put, List.setIfInBounds_toArray, List.set_cons_zero, List.set_cons_succ])
        first
        | (refine Fx.WM.skip 5 (by rfl) (by kernel_rfl) (by kernel_rfl) (by kernel_rfl) (by rfl) (fun g f w h => h) ?_; simp only [Act.put, List.setIfInBounds_toArray, List.set_cons_zero, List.set_cons_succ])
        | (refine Fx.WM.val_ 5 ?_ (by rfl) (by kernel_rfl) (by kernel_rfl) (by kernel_rfl) (by rfl) ?_ (fun g f w h => h) ?_
           rotate_left
           · intro g f w' hx hD hk
             obtain ⟨hb, hm1, hm2, hne⟩ := id hD
             have q3 := (hb.cell (p := ⟨gl, cj, none⟩) (by show gl < _; omega)).trans C0_3.out
             clear hx hk hD hb hm1 hm2 hne
             go_simp
             try rfl
           simp only [Act.put, List.setIfInBounds_toArray, List.set_cons_zero, List.set_cons_succ])
        first
        | (refine Fx.WM.skip 6 (by rfl) (by kernel_rfl) (by kernel_rfl) (by kernel_rfl) (by rfl) (fun g f w h => h) ?_; simp only [Act.put, List.setIfInBounds_toArray, List.set_cons_zero, List.set_cons_succ])
        | (refine Fx.WM.val_ 6 ?_ (by rfl) (by kernel_rfl) (by kernel_rfl) (by kernel_rfl) (by rfl) ?_ (fun g f w h => h) ?_
           rotate_left
           · intro g f w' hx hD hk
             obtain ⟨hb, hm1, hm2, hne⟩ := id hD
             clear hx hk hD hb hm1 hm2 hne
             go_simp
             try rfl
           simp only [Act.put, List.setIfInBounds_toArray, List.set_cons_zero, List.set_cons_succ])
        first
        | (refine Fx.WM.skip 7 (by rfl) (by kernel_rfl) (by kernel_rfl) (by kernel_rfl) (by rfl) (fun g f w h => h) ?_; simp only [Act.put, List.setIfInBounds_toArray, List.set_cons_zero, List.set_cons_succ])
        | (refine Fx.WM.val_ 7 ?_ (by rfl) (by kernel_rfl) (by kernel_rfl) (by kernel_rfl) (by rfl) ?_ (fun g f w h => h) ?_
           rotate_left
           · intro g f w' hx hD hk
             obtain ⟨hb, hm1, hm2, hne⟩ := id hD
             clear hx hk hD hb hm1 hm2 hne
             go_simp
             try rfl
           simp only [Act.put, List.setIfInBounds_toArray, List.set_cons_zero, List.set_cons_succ])
        first
        | (refine Fx.WM.skip 8 (by rfl) (by kernel_rfl) (by kernel_rfl) (by kernel_rfl) (by rfl) (fun g f w h => h) ?_; simp only [Act.put, List.setIfInBounds_toArray, List.set_cons_zero, List.set_cons_succ])
        | (refine Fx.WM.val_ 8 ?_ (by rfl) (by kernel_rfl) (by kernel_rfl) (by kernel_rfl) (by rfl) ?_ (fun g f w h => h) ?_
           rotate_left
           · intro g f w' hx hD hk
             obtain ⟨hb, hm1, hm2, hne⟩ := id hD
             clear hx hk hD hb hm1 hm2 hne
             go_simp
             try rfl
           simp only [Act.put, List.setIfInBounds_toArray, List.set_cons_zero, List.set_cons_succ])
        first
        | (refine Fx.WM.skip 9 (by rfl) (by kernel_rfl) (by kernel_rfl) (by kernel_rfl) (by rfl) (fun g f w h => h) ?_; simp only [Act.put, List.setIfInBounds_toArray, List.set_cons_zero, List.set_cons_succ])
        | (refine Fx.WM.val_ 9 ?_ (by rfl) (by kernel_rfl) (by kernel_rfl) (by kernel_rfl) (by rfl) ?_ (fun g f w h => h) ?_
           rotate_left
           · intro g f w' hx hD hk
             obtain ⟨hb, hm1, hm2, hne⟩ := id hD
             have q4 := (hb.cell (p := ⟨gl, ci, none⟩) (by show gl < _; omega)).trans C1_3.out
             clear hx hk hD hb hm1 hm2 hne
             go_simp
             try rfl
           simp only [Act.put, List.setIfInBounds_toArray, List.set_cons_zero, List.set_cons_succ])
        refine Fx.WM.call 10 (.tuple #[.agg #[.int .i64 (s1), .int .i64 (s2)], .agg #[.int .i64 (v1), .int .i64 (v2)]]) ?_ ?_ (by rfl) (by kernel_rfl) (by kernel_rfl) (by kernel_rfl) (by rfl) ?_ ?_ ?_
        rotate_left 2
        · intro w'
          go_simp
          refine ⟨?_, ?_⟩ <;> rfl
        · intro g f w' hx hD hk
          exact (through_is m HM.out za zb hzan hzbn HAB.out s1 s2 v1 v2 HS.out HV.out w' ((HX.out.lay HB3.out).lay hD.1)).mono fun e w'' ⟨he, hw⟩ => ⟨he, step_below hw hD.1, hD.2.1.step hw (by decide), hD.2.2.1.step hw (by decide), hD.2.2.2⟩
        simp only [Act.put, List.setIfInBounds_toArray, List.set_cons_zero, List.set_cons_succ]
        first
        | (refine Fx.WM.skip 11 (by rfl) (by kernel_rfl) (by kernel_rfl) (by kernel_rfl) (by rfl) (fun g f w h => h) ?_; simp only [Act.put, List.setIfInBounds_toArray, List.set_cons_zero, List.set_cons_succ])
        | (refine Fx.WM.val_ 11 ?_ (by rfl) (by kernel_rfl) (by kernel_rfl) (by kernel_rfl) (by rfl) ?_ (fun g f w h => h) ?_
           rotate_left
           · intro g f w' hx hD hk
             obtain ⟨hb, hm1, hm2, hne⟩ := id hD
             clear hx hk hD hb hm1 hm2 hne
             go_simp
             try rfl
           simp only [Act.put, List.setIfInBounds_toArray, List.set_cons_zero, List.set_cons_succ])
        first
        | (refine Fx.WM.skip 12 (by rfl) (by kernel_rfl) (by kernel_rfl) (by kernel_rfl) (by rfl) (fun g f w h => h) ?_; simp only [Act.put, List.setIfInBounds_toArray, List.set_cons_zero, List.set_cons_succ])
        | (refine Fx.WM.val_ 12 ?_ (by rfl) (by kernel_rfl) (by kernel_rfl) (by kernel_rfl) (by rfl) ?_ (fun g f w h => h) ?_
           rotate_left
           · intro g f w' hx hD hk
             obtain ⟨hb, hm1, hm2, hne⟩ := id hD
             clear hx hk hD hb hm1 hm2 hne
             go_simp
             try rfl
           simp only [Act.put, List.setIfInBounds_toArray, List.set_cons_zero, List.set_cons_succ])
        first
        | (refine Fx.WM.skip 13 (by rfl) (by kernel_rfl) (by kernel_rfl) (by kernel_rfl) (by rfl) (fun g f w h => h) ?_; simp only [Act.put, List.setIfInBounds_toArray, List.set_cons_zero, List.set_cons_succ])
        | (refine Fx.WM.val_ 13 ?_ (by rfl) (by kernel_rfl) (by kernel_rfl) (by kernel_rfl) (by rfl) ?_ (fun g f w h => h) ?_
           rotate_left
           · intro g f w' hx hD hk
             obtain ⟨hb, hm1, hm2, hne⟩ := id hD
             clear hx hk hD hb hm1 hm2 hne
             go_simp
             try rfl
           simp only [Act.put, List.setIfInBounds_toArray, List.set_cons_zero, List.set_cons_succ])
        refine Fx.WM.choose2 14 15 (by rfl) (by rfl) (by kernel_rfl) (by rfl) (by rfl) ?_ ?_ ?_ ?_
        · skip
          refine Fx.Chooses.make (by rfl) ?_
          intro f w' hD hk
          obtain ⟨hb, hm1, hm2, hne⟩ := id hD
          refine ⟨(some ⟨w'.heap.size, 0, none⟩, 0), w'.alloc (.cells #[.int .i64 0, .int .i64 0] 25), ?_, ?_⟩
          · clear hk hD
            go_simp
            try rfl
          · exact ⟨hb.alloc hb.size _, MkM.make hb.size (hk.2.1 16 (by kernel_rfl)) (by decide), (hm2.step ((Below.refl _ _).alloc (Nat.le_refl _) _) (by decide)).other (by decide), fun x y bx by_ h1 h2 => by cases h2⟩
        · skip
          refine Fx.Chooses.make (by rfl) ?_
          intro f w' hD hk
          obtain ⟨hb, hm1, hm2, hne⟩ := id hD
          refine ⟨(some ⟨w'.heap.size, 0, none⟩, 0), w'.alloc (.cells #[.int .i64 0, .int .i64 0] 25), ?_, ?_⟩
          · clear hk hD
            go_simp
            try rfl
          · exact ⟨hb.alloc hb.size _, (hm1.step ((Below.refl _ _).alloc (Nat.le_refl _) _) (by decide)).other (by decide), MkM.make hb.size (hk.2.1 17 (by kernel_rfl)) (by decide), fun x y bx by_ h1 h2 => by cases h1⟩
        · skip
          intro x
          simp only [Act.put, List.setIfInBounds_toArray, List.set_cons_zero, List.set_cons_succ]
          refine Fx.WM.choose 15 (by rfl) (by kernel_rfl) (by rfl) ?_ ?_
          · skip
            refine Fx.Chooses.make (by rfl) ?_
            intro f w' hD hk
            obtain ⟨hb, hm1, hm2, hne⟩ := id hD
            refine ⟨(some ⟨w'.heap.size, 0, none⟩, 0), w'.alloc (.cells #[.int .i64 0, .int .i64 0] 25), ?_, ?_⟩
            · clear hk hD
              go_simp
              try rfl
            · exact ⟨hb.alloc hb.size _, (hm1.step ((Below.refl _ _).alloc (Nat.le_refl _) _) (by decide)).other (by decide), MkM.make hb.size (hk.2.1 17 (by kernel_rfl)) (by decide), MkM.fresh hm1 (by decide)⟩
          intro y
          simp only [Act.put, List.setIfInBounds_toArray, List.set_cons_zero, List.set_cons_succ]
          refine Fx.WM.eff 16 undef (by rfl) (by kernel_rfl) (by kernel_rfl) (by kernel_rfl) (by rfl) ?_ ?_
          · intro g f w' hx hD hk
            obtain ⟨hb, hm1, hm2, hne⟩ := id hD
            obtain ⟨bx, e0, e1, r0, r1, r2, r3, r4, r5⟩ := MkM.cells hm1 (hx 14 _ rfl)
            refine Fx.gives_skip (w' := (w'.setCell ⟨bx, 0, none⟩ (.int .i64 (s1))).setCell ⟨bx, 1, none⟩ (.int .i64 (s2))) ?_ ?_
            · clear hx hk hD hb hm1 hm2 hne
              go_simp
              try rfl
            · exact ⟨below_store hb r1, hm1.store (hx 14 _ rfl) r0, hm2.far (by decide) (fun y b' h1 h2 => (hne _ y _ b' (hx 14 _ rfl) h1 r0 h2).symm), hne⟩
          simp only [Act.put, List.setIfInBounds_toArray, List.set_cons_zero, List.set_cons_succ]
          refine Fx.WM.eff 17 undef (by rfl) (by kernel_rfl) (by kernel_rfl) (by kernel_rfl) (by rfl) ?_ ?_
          · intro g f w' hx hD hk
            obtain ⟨hb, hm1, hm2, hne⟩ := id hD
            obtain ⟨by_, e0, e1, r0, r1, r2, r3, r4, r5⟩ := MkM.cells hm2 (hx 15 _ rfl)
            refine Fx.gives_skip (w' := (w'.setCell ⟨by_, 0, none⟩ (.int .i64 (v1))).setCell ⟨by_, 1, none⟩ (.int .i64 (v2))) ?_ ?_
            · clear hx hk hD hb hm1 hm2 hne
              go_simp
              try rfl
            · exact ⟨below_store hb r1, hm1.far (by decide) (fun y b' h1 h2 => hne y _ b' _ h1 (hx 15 _ rfl) h2 r0), hm2.store (hx 15 _ rfl) r0, hne⟩
          simp only [Act.put, List.setIfInBounds_toArray, List.set_cons_zero, List.set_cons_succ]
          refine Fx.WM.nil (by kernel_rfl) ?_
          intro wz hD
          obtain ⟨hb, hm1, hm2, hne⟩ := hD
          obtain ⟨bx, hx1, hx2, hxb⟩ := hm1.end_ (x := x) (by rfl) (by rfl)
          obtain ⟨by_, hy1, hy2, hyb⟩ := hm2.end_ (x := y) (by rfl) (by rfl)
          exact key x y wz ⟨bx, by_, hx1, hy1, hx2, hy2, hb, hxb, hyb⟩
        · skip
          intro y
          simp only [Act.put, List.setIfInBounds_toArray, List.set_cons_zero, List.set_cons_succ]
          refine Fx.WM.choose 14 (by rfl) (by kernel_rfl) (by rfl) ?_ ?_
          · skip
            refine Fx.Chooses.make (by rfl) ?_
            intro f w' hD hk
            obtain ⟨hb, hm1, hm2, hne⟩ := id hD
            refine ⟨(some ⟨w'.heap.size, 0, none⟩, 0), w'.alloc (.cells #[.int .i64 0, .int .i64 0] 25), ?_, ?_⟩
            · clear hk hD
              go_simp
              try rfl
            · exact ⟨hb.alloc hb.size _, MkM.make hb.size (hk.2.1 16 (by kernel_rfl)) (by decide), (hm2.step ((Below.refl _ _).alloc (Nat.le_refl _) _) (by decide)).other (by decide), fun x y bx by_ h1 h2 e1 e2 => (MkM.fresh hm2 (by decide) y x by_ bx h2 h1 e2 e1).symm⟩
          intro x
          simp only [Act.put, List.setIfInBounds_toArray, List.set_cons_zero, List.set_cons_succ]
          refine Fx.WM.eff 16 undef (by rfl) (by kernel_rfl) (by kernel_rfl) (by kernel_rfl) (by rfl) ?_ ?_
          · intro g f w' hx hD hk
            obtain ⟨hb, hm1, hm2, hne⟩ := id hD
            obtain ⟨bx, e0, e1, r0, r1, r2, r3, r4, r5⟩ := MkM.cells hm1 (hx 14 _ rfl)
            refine Fx.gives_skip (w' := (w'.setCell ⟨bx, 0, none⟩ (.int .i64 (s1))).setCell ⟨bx, 1, none⟩ (.int .i64 (s2))) ?_ ?_
            · clear hx hk hD hb hm1 hm2 hne
              go_simp
              try rfl
            · exact ⟨below_store hb r1, hm1.store (hx 14 _ rfl) r0, hm2.far (by decide) (fun y b' h1 h2 => (hne _ y _ b' (hx 14 _ rfl) h1 r0 h2).symm), hne⟩
          simp only [Act.put, List.setIfInBounds_toArray, List.set_cons_zero, List.set_cons_succ]
          refine Fx.WM.eff 17 undef (by rfl) (by kernel_rfl) (by kernel_rfl) (by kernel_rfl) (by rfl) ?_ ?_
          · intro g f w' hx hD hk
            obtain ⟨hb, hm1, hm2, hne⟩ := id hD
            obtain ⟨by_, e0, e1, r0, r1, r2, r3, r4, r5⟩ := MkM.cells hm2 (hx 15 _ rfl)
            refine Fx.gives_skip (w' := (w'.setCell ⟨by_, 0, none⟩ (.int .i64 (v1))).setCell ⟨by_, 1, none⟩ (.int .i64 (v2))) ?_ ?_
            · clear hx hk hD hb hm1 hm2 hne
              go_simp
              try rfl
            · exact ⟨below_store hb r1, hm1.far (by decide) (fun y b' h1 h2 => hne y _ b' _ h1 (hx 15 _ rfl) h2 r0), hm2.store (hx 15 _ rfl) r0, hne⟩
          simp only [Act.put, List.setIfInBounds_toArray, List.set_cons_zero, List.set_cons_succ]
          refine Fx.WM.nil (by kernel_rfl) ?_
          intro wz hD
          obtain ⟨hb, hm1, hm2, hne⟩ := hD
          obtain ⟨bx, hx1, hx2, hxb⟩ := hm1.end_ (x := x) (by rfl) (by rfl)
          obtain ⟨by_, hy1, hy2, hyb⟩ := hm2.end_ (x := y) (by rfl) (by rfl)
          exact key x y wz ⟨bx, by_, hx1, hy1, hx2, hy2, hb, hxb, hyb⟩
      rintro ⟨x1, x2⟩ ⟨y1, y2⟩ w4 ⟨bx, by_, hx1, hy1, hbx, hby, hb, ha, hbk⟩
      simp only at hx1 hy1
      subst hx1 hy1
      have HB4 := Lib.hid (show Below w.heap.size w w4 from step_below hb (by repeat' (first | exact Below.refl _ _ | exact HB3.out | refine below_drewN ?_ _ | refine Below.drew ?_ | refine Below.alloc ?_ (by first | omega | (simp; done) | (simp; omega) | (simp [World.setCell]; omega)) _ | refine Below.setCell ?_ (by first | omega | (simp; done) | (simp; omega)) _ | assumption)))
      have K0_4 := Lib.hid (step_blk hb (show Blk _ (w.heap.size) 38 #[.slice (some ⟨m.b1, m.o1, none⟩) m.n m.c1, .slice (some ⟨m.b2, m.o2, none⟩) m.n m.c2, .slice (some ⟨m.b3, m.o3, none⟩) m.n m.c3] by repeat' (first | exact K0_3.out | exact K1_3.out | exact K2_3.out | exact Blk.at_ _ (by first | rfl | (simp; done) | (simp; omega)) _ _ | refine Blk.drewN ?_ _ | refine Blk.drew ?_ | refine Blk.alloc ?_ _ | refine Blk.far ?_ (by first | omega | (simp; done) | (simp; omega)) _ | assumption)))
      have K1_4 := Lib.hid (step_blk hb (show Blk _ (w.heap.size + 1) 62 #[.int .i64 (0), .int .i64 (0), .int .i64 (0), .int .i64 (0), .int .i64 (0), .int .i64 (0)] by repeat' (first | exact K0_3.out | exact K1_3.out | exact K2_3.out | exact Blk.at_ _ (by first | rfl | (simp; done) | (simp; omega)) _ _ | refine Blk.drewN ?_ _ | refine Blk.drew ?_ | refine Blk.alloc ?_ _ | refine Blk.far ?_ (by first | omega | (simp; done) | (simp; omega)) _ | assumption)))
      have K2_4 := Lib.hid (step_blk hb (show Blk _ (sb) 77 #[.int .i64 (m.sw m.n), .int .i64 (m.sq m.n), .int .i64 (m.sh m.n)] by repeat' (first | exact K0_3.out | exact K1_3.out | exact K2_3.out | exact Blk.at_ _ (by first | rfl | (simp; done) | (simp; omega)) _ _ | refine Blk.drewN ?_ _ | refine Blk.drew ?_ | refine Blk.alloc ?_ _ | refine Blk.far ?_ (by first | omega | (simp; done) | (simp; omega)) _ | assumption)))
      have C0_4 := Lib.hid (step_cell hb (show World.cell? _ ⟨gl, cj, none⟩ = some (.int .i64 ((za : Int))) by first | exact C0_3.out | go_simp) (by have := hgl2; first | omega | (simp; omega)))
      have C1_4 := Lib.hid (step_cell hb (show World.cell? _ ⟨gl, ci, none⟩ = some (.int .i64 ((zb : Int))) by first | exact C1_3.out | go_simp) (by have := hgl2; first | omega | (simp; omega)))
      have hz4 := hb.size
      try simp only [World.size_alloc, World.drewN, World.drew] at hz4
      clear hb K0_3 K1_3 K2_3 z0_0_3 z0_1_3 z0_2_3 l0_3 z1_0_3 z1_1_3 z1_2_3 z1_3_3 z1_4_3 z1_5_3 l1_3 z2_0_3 z2_1_3 z2_2_3 l2_3
      have l0_4 : w.heap.size < w4.heap.size := K0_4.out.lt
      have z0_0_4 : w4.cell? ⟨w.heap.size, 0, none⟩ = some (.slice (some ⟨m.b1, m.o1, none⟩) m.n m.c1) := K0_4.out.cell 0
      have z0_1_4 : w4.cell? ⟨w.heap.size, 1, none⟩ = some (.slice (some ⟨m.b2, m.o2, none⟩) m.n m.c2) := K0_4.out.cell 1
      have z0_2_4 : w4.cell? ⟨w.heap.size, 2, none⟩ = some (.slice (some ⟨m.b3, m.o3, none⟩) m.n m.c3) := K0_4.out.cell 2
      have l1_4 : w.heap.size + 1 < w4.heap.size := K1_4.out.lt
      have z1_0_4 : w4.cell? ⟨w.heap.size + 1, 0, none⟩ = some (.int .i64 (0)) := K1_4.out.cell 0
      have z1_1_4 : w4.cell? ⟨w.heap.size + 1, 1, none⟩ = some (.int .i64 (0)) := K1_4.out.cell 1
      have z1_2_4 : w4.cell? ⟨w.heap.size + 1, 2, none⟩ = some (.int .i64 (0)) := K1_4.out.cell 2
      have z1_3_4 : w4.cell? ⟨w.heap.size + 1, 3, none⟩ = some (.int .i64 (0)) := K1_4.out.cell 3
      have z1_4_4 : w4.cell? ⟨w.heap.size + 1, 4, none⟩ = some (.int .i64 (0)) := K1_4.out.cell 4
      have z1_5_4 : w4.cell? ⟨w.heap.size + 1, 5, none⟩ = some (.int .i64 (0)) := K1_4.out.cell 5
      have l2_4 : sb < w4.heap.size := K2_4.out.lt
      have z2_0_4 : w4.cell? ⟨sb, 0, none⟩ = some (.int .i64 (m.sw m.n)) := K2_4.out.cell 0
      have z2_1_4 : w4.cell? ⟨sb, 1, none⟩ = some (.int .i64 (m.sq m.n)) := K2_4.out.cell 1
      have z2_2_4 : w4.cell? ⟨sb, 2, none⟩ = some (.int .i64 (m.sh m.n)) := K2_4.out.cell 2
      skip
      go_wp2
      obtain ⟨W0, hW0⟩ : ∃ W0, W0 = w4.drewN 1 := ⟨_, rfl⟩
      have m0 : W0.cell? ⟨bx, 0, none⟩ = some (.int .i64 (s1)) := by rw [hW0]; exact ha.cell 0
      have m1 : W0.cell? ⟨bx, 1, none⟩ = some (.int .i64 (s2)) := by rw [hW0]; exact ha.cell 1
      have m2 : W0.cell? ⟨by_, 0, none⟩ = some (.int .i64 (v1)) := by rw [hW0]; exact hbk.cell 0
      have m3 : W0.cell? ⟨by_, 1, none⟩ = some (.int .i64 (v2)) := by rw [hW0]; exact hbk.cell 1
      have m4 : W0.cell? ⟨gl, cj, none⟩ = some (.int .i64 ((za : Int))) := by rw [hW0]; exact C0_4.out
      have m5 : W0.cell? ⟨gl, ci, none⟩ = some (.int .i64 ((zb : Int))) := by rw [hW0]; exact C1_4.out
      have kb : Blk W0 (w.heap.size + 1) 62 #[.int .i64 0, .int .i64 0, .int .i64 0, .int .i64 0, .int .i64 0, .int .i64 0] := by rw [hW0]; exact Blk.drewN K1_4.out 1
      have HKB := Lib.hid kb
      have mo0 := kb.cell 0
      have mf0 := kb.frozen 0
      have mo1 := kb.cell 1
      have mf1 := kb.frozen 1
      have mo2 := kb.cell 2
      have mf2 := kb.frozen 2
      have mo3 := kb.cell 3
      have mf3 := kb.frozen 3
      have mo4 := kb.cell 4
      have mf4 := kb.frozen 4
      have mo5 := kb.cell 5
      have mf5 := kb.frozen 5
      clear kb
      refine Fx.region (fun f w' => (f 13 = false → w' = W0) ∧ (f 13 = true → w' = ((((((W0.setCell ⟨w.heap.size + 1, 0, none⟩ (.int .i64 (s1))).setCell ⟨w.heap.size + 1, 1, none⟩ (.int .i64 (s2))).setCell ⟨w.heap.size + 1, 2, none⟩ (.int .i64 (v1))).setCell ⟨w.heap.size + 1, 3, none⟩ (.int .i64 (v2))).setCell ⟨w.heap.size + 1, 4, none⟩ (.int .i64 ((za : Int)))).setCell ⟨w.heap.size + 1, 5, none⟩ (.int .i64 ((zb : Int)))))) (by kernel_rfl) (by kernel_rfl) ?_ ?_
      · intro f hf0
        exact ⟨fun _ => hW0.symm, fun h => by rw [hf0 13] at h; cases h⟩
      have HW0 := Lib.hid hW0
      clear hW0
      repeat (first
        | (refine Fx.skip_ (by rfl) (fun f w h => h) ?_; simp only [Act.put, List.setIfInBounds_toArray, List.set_cons_zero, List.set_cons_succ])
        | (refine Fx.val_ ?_ (by rfl) ?_ (fun f w h => h) ?_
           rotate_left
           · intro f w' hD hk
             obtain ⟨jw, jr⟩ := id hD
             have jw := jw (hk.2.1 13 (by kernel_rfl))
             have q0 : w'.cell? ⟨bx, 0, none⟩ = some (.int .i64 (s1)) := by rw [jw]; exact m0
             have q1 : w'.cell? ⟨bx, 1, none⟩ = some (.int .i64 (s2)) := by rw [jw]; exact m1
             have q2 : w'.cell? ⟨by_, 0, none⟩ = some (.int .i64 (v1)) := by rw [jw]; exact m2
             have q3 : w'.cell? ⟨by_, 1, none⟩ = some (.int .i64 (v2)) := by rw [jw]; exact m3
             have q4 : w'.cell? ⟨gl, cj, none⟩ = some (.int .i64 ((za : Int))) := by rw [jw]; exact m4
             have q5 : w'.cell? ⟨gl, ci, none⟩ = some (.int .i64 ((zb : Int))) := by rw [jw]; exact m5
             clear hk hD jw jr
             go_simp
             try rfl
           simp only [Act.put, List.setIfInBounds_toArray, List.set_cons_zero, List.set_cons_succ]))
      refine Fx.store_ (fun w' => ((((((w'.setCell ⟨w.heap.size + 1, 0, none⟩ (.int .i64 (s1))).setCell ⟨w.heap.size + 1, 1, none⟩ (.int .i64 (s2))).setCell ⟨w.heap.size + 1, 2, none⟩ (.int .i64 (v1))).setCell ⟨w.heap.size + 1, 3, none⟩ (.int .i64 (v2))).setCell ⟨w.heap.size + 1, 4, none⟩ (.int .i64 ((za : Int)))).setCell ⟨w.heap.size + 1, 5, none⟩ (.int .i64 ((zb : Int))))) (by rfl) ?_ ?_ ?_
      · intro f w' hD hk
        obtain ⟨jw, jr⟩ := id hD
        have jw := jw hk.1
        have q0 : w'.cell? ⟨w.heap.size + 1, 0, none⟩ = some (.int .i64 0) := by rw [jw]; exact mo0
        have q1 : w'.cell? ⟨w.heap.size + 1, 1, none⟩ = some (.int .i64 0) := by rw [jw]; exact mo1
        have q2 : w'.cell? ⟨w.heap.size + 1, 2, none⟩ = some (.int .i64 0) := by rw [jw]; exact mo2
        have q3 : w'.cell? ⟨w.heap.size + 1, 3, none⟩ = some (.int .i64 0) := by rw [jw]; exact mo3
        have q4 : w'.cell? ⟨w.heap.size + 1, 4, none⟩ = some (.int .i64 0) := by rw [jw]; exact mo4
        have q5 : w'.cell? ⟨w.heap.size + 1, 5, none⟩ = some (.int .i64 0) := by rw [jw]; exact mo5
        have r0 : w'.frozen? ⟨w.heap.size + 1, 0, none⟩ = false := by rw [jw]; exact mf0
        have r1 : w'.frozen? ⟨w.heap.size + 1, 1, none⟩ = false := by rw [jw]; exact mf1
        have r2 : w'.frozen? ⟨w.heap.size + 1, 2, none⟩ = false := by rw [jw]; exact mf2
        have r3 : w'.frozen? ⟨w.heap.size + 1, 3, none⟩ = false := by rw [jw]; exact mf3
        have r4 : w'.frozen? ⟨w.heap.size + 1, 4, none⟩ = false := by rw [jw]; exact mf4
        have r5 : w'.frozen? ⟨w.heap.size + 1, 5, none⟩ = false := by rw [jw]; exact mf5
        clear hk hD jw jr
        go_simp
      · intro f w' hD hk
        obtain ⟨jw, jr⟩ := id hD
        have jw := jw hk.1
        exact ⟨fun h => by simp [Fx.add] at h, fun _ => by rw [jw]⟩
      simp only [Act.put, List.setIfInBounds_toArray, List.set_cons_zero, List.set_cons_succ]
      refine Fx.nil_ ?_
      intro f w1 hall hD
      have hf13 := hall 13 (by simp)
      obtain ⟨jw, jr⟩ := hD
      simp only [hf13, if_true] at *
      have jr := jr (by first | rfl | trivial)
      clear jw
      try clear hall
      subst jr
      have hkb := ((((((HKB.out.set_ 0 (.int .i64 (s1))).set_ 1 (.int .i64 (s2))).set_ 2 (.int .i64 (v1))).set_ 3 (.int .i64 (v2))).set_ 4 (.int .i64 ((za : Int)))).set_ 5 (.int .i64 ((zb : Int))))
      have y0 := hkb.cell 0
      have y1 := hkb.cell 1
      have y2 := hkb.cell 2
      have y3 := hkb.cell 3
      have y4 := hkb.cell 4
      have y5 := hkb.cell 5
      have yl := hkb.lt
      simp only [List.setIfInBounds_toArray, List.set_cons_zero, List.set_cons_succ] at y0 y1 y2 y3 y4 y5
      have hbb : Below w.heap.size w ((((((W0.setCell ⟨w.heap.size + 1, 0, none⟩ (.int .i64 (s1))).setCell ⟨w.heap.size + 1, 1, none⟩ (.int .i64 (s2))).setCell ⟨w.heap.size + 1, 2, none⟩ (.int .i64 (v1))).setCell ⟨w.heap.size + 1, 3, none⟩ (.int .i64 (v2))).setCell ⟨w.heap.size + 1, 4, none⟩ (.int .i64 ((za : Int)))).setCell ⟨w.heap.size + 1, 5, none⟩ (.int .i64 ((zb : Int)))) := by rw [HW0.out]; exact (((((((below_drewN HB4.out 1).setCell (p := ⟨w.heap.size + 1, 0, none⟩) (by show _ ≤ w.heap.size + 1; omega) (.int .i64 (s1))).setCell (p := ⟨w.heap.size + 1, 1, none⟩) (by show _ ≤ w.heap.size + 1; omega) (.int .i64 (s2))).setCell (p := ⟨w.heap.size + 1, 2, none⟩) (by show _ ≤ w.heap.size + 1; omega) (.int .i64 (v1))).setCell (p := ⟨w.heap.size + 1, 3, none⟩) (by show _ ≤ w.heap.size + 1; omega) (.int .i64 (v2))).setCell (p := ⟨w.heap.size + 1, 4, none⟩) (by show _ ≤ w.heap.size + 1; omega) (.int .i64 ((za : Int)))).setCell (p := ⟨w.heap.size + 1, 5, none⟩) (by show _ ≤ w.heap.size + 1; omega) (.int .i64 ((zb : Int))))
      have HBB := Lib.hid hbb
      clear hbb mo0 mf0 mo1 mf1 mo2 mf2 mo3 mf3 mo4 mf4 mo5 mf5 m0 m1 m2 m3 m4 m5
      go_wp2
      exact bodyPost_ret (v := .agg #[.int .i64 (s1), .int .i64 (s2), .int .i64 (v1), .int .i64 (v2), .int .i64 ((za : Int)), .int .i64 ((zb : Int))]) (by simp [results, Try.results25, go_sem, y0, y1, y2, y3, y4, y5, yl]) rfl ⟨by simp only [← HXE.out, lineV], HBB.out⟩
    · skip
      subst hr2
      obtain rfl : cj = 0 := by omega
      have e1 : 0 < L := by omega
      have e2 : (1 : Int) < (L : Int) := by omega
      have e3 : 1 < L := by omega
      have e4 : IntKind.i64.wrap (0 : Int) = 0 := by rfl
      have e5 : IntKind.i64.wrap ((1 : Int) - 1) = 0 := by rfl
      clear hij hc1 hc2
      have C0_2 := Lib.hid y0
      have C1_2 := Lib.hid y1
      clear y0 y1
      go_wp2_with fail
      refine (idx2_any _ sb w.heap.size (nonnegB m) l gl 0 L c2 _ HASK.out HLL.out hl19 hgl2 HCELLS.out r HR.out).mono ?_
      rintro e w3 ⟨rfl, hb⟩
      have HB3 := Lib.hid (show Below w.heap.size w w3 from step_below hb (by repeat' (first | exact Below.refl _ _ | exact HB2.out | refine below_drewN ?_ _ | refine Below.drew ?_ | refine Below.alloc ?_ (by first | omega | (simp; done) | (simp; omega) | (simp [World.setCell]; omega)) _ | refine Below.setCell ?_ (by first | omega | (simp; done) | (simp; omega)) _ | assumption)))
      have K0_3 := Lib.hid (step_blk hb (show Blk _ (w.heap.size) 38 #[.slice (some ⟨m.b1, m.o1, none⟩) m.n m.c1, .slice (some ⟨m.b2, m.o2, none⟩) m.n m.c2, .slice (some ⟨m.b3, m.o3, none⟩) m.n m.c3] by repeat' (first | exact K0_2.out | exact K1_2.out | exact K2_2.out | exact Blk.at_ _ (by first | rfl | (simp; done) | (simp; omega)) _ _ | refine Blk.drewN ?_ _ | refine Blk.drew ?_ | refine Blk.alloc ?_ _ | refine Blk.far ?_ (by first | omega | (simp; done) | (simp; omega)) _ | assumption)))
      have K1_3 := Lib.hid (step_blk hb (show Blk _ (w.heap.size + 1) 62 #[.int .i64 (0), .int .i64 (0), .int .i64 (0), .int .i64 (0), .int .i64 (0), .int .i64 (0)] by repeat' (first | exact K0_2.out | exact K1_2.out | exact K2_2.out | exact Blk.at_ _ (by first | rfl | (simp; done) | (simp; omega)) _ _ | refine Blk.drewN ?_ _ | refine Blk.drew ?_ | refine Blk.alloc ?_ _ | refine Blk.far ?_ (by first | omega | (simp; done) | (simp; omega)) _ | assumption)))
      have K2_3 := Lib.hid (step_blk hb (show Blk _ (sb) 77 #[.int .i64 (m.sw m.n), .int .i64 (m.sq m.n), .int .i64 (m.sh m.n)] by repeat' (first | exact K0_2.out | exact K1_2.out | exact K2_2.out | exact Blk.at_ _ (by first | rfl | (simp; done) | (simp; omega)) _ _ | refine Blk.drewN ?_ _ | refine Blk.drew ?_ | refine Blk.alloc ?_ _ | refine Blk.far ?_ (by first | omega | (simp; done) | (simp; omega)) _ | assumption)))
      have C0_3 := Lib.hid (step_cell hb (show World.cell? _ ⟨gl, 0, none⟩ = some (.int .i64 ((za : Int))) by first | exact C0_2.out | go_simp) (by have := hgl2; first | omega | (simp; omega)))
      have C1_3 := Lib.hid (step_cell hb (show World.cell? _ ⟨gl, 1, none⟩ = some (.int .i64 ((zb : Int))) by first | exact C1_2.out | go_simp) (by have := hgl2; first | omega | (simp; omega)))
      have hz3 := hb.size
      try simp only [World.size_alloc, World.drewN, World.drew] at hz3
      clear hb K0_2 K1_2 K2_2 z0_0_2 z0_1_2 z0_2_2 l0_2 z1_0_2 z1_1_2 z1_2_2 z1_3_2 z1_4_2 z1_5_2 l1_2 z2_0_2 z2_1_2 z2_2_2 l2_2
      have l0_3 : w.heap.size < w3.heap.size := K0_3.out.lt
      have z0_0_3 : w3.cell? ⟨w.heap.size, 0, none⟩ = some (.slice (some ⟨m.b1, m.o1, none⟩) m.n m.c1) := K0_3.out.cell 0
      have z0_1_3 : w3.cell? ⟨w.heap.size, 1, none⟩ = some (.slice (some ⟨m.b2, m.o2, none⟩) m.n m.c2) := K0_3.out.cell 1
      have z0_2_3 : w3.cell? ⟨w.heap.size, 2, none⟩ = some (.slice (some ⟨m.b3, m.o3, none⟩) m.n m.c3) := K0_3.out.cell 2
      have l1_3 : w.heap.size + 1 < w3.heap.size := K1_3.out.lt
      have z1_0_3 : w3.cell? ⟨w.heap.size + 1, 0, none⟩ = some (.int .i64 (0)) := K1_3.out.cell 0
      have z1_1_3 : w3.cell? ⟨w.heap.size + 1, 1, none⟩ = some (.int .i64 (0)) := K1_3.out.cell 1
      have z1_2_3 : w3.cell? ⟨w.heap.size + 1, 2, none⟩ = some (.int .i64 (0)) := K1_3.out.cell 2
      have z1_3_3 : w3.cell? ⟨w.heap.size + 1, 3, none⟩ = some (.int .i64 (0)) := K1_3.out.cell 3
      have z1_4_3 : w3.cell? ⟨w.heap.size + 1, 4, none⟩ = some (.int .i64 (0)) := K1_3.out.cell 4
      have z1_5_3 : w3.cell? ⟨w.heap.size + 1, 5, none⟩ = some (.int .i64 (0)) := K1_3.out.cell 5
      have l2_3 : sb < w3.heap.size := K2_3.out.lt
      have z2_0_3 : w3.cell? ⟨sb, 0, none⟩ = some (.int .i64 (m.sw m.n)) := K2_3.out.cell 0
      have z2_1_3 : w3.cell? ⟨sb, 1, none⟩ = some (.int .i64 (m.sq m.n)) := K2_3.out.cell 1
      have z2_2_3 : w3.cell? ⟨sb, 2, none⟩ = some (.int .i64 (m.sh m.n)) := K2_3.out.cell 2
      go_wp2_with fail
      apply share (Fact := fun (x y : Pick) (wz : World) => ∃ bx by_, x.1 = some ⟨bx, 0, none⟩ ∧ y.1 = some ⟨by_, 0, none⟩ ∧ w3.heap.size ≤ bx ∧ w3.heap.size ≤ by_ ∧ Below w3.heap.size w3 wz ∧ Blk wz bx 25 #[.int .i64 (s1), .int .i64 (s2)] ∧ Blk wz by_ 25 #[.int .i64 (v1), .int .i64 (v2)])
      · skip
        intro key
        refine Fx.regionM (fun W g f w' => Below W.heap.size W w' ∧ MkM 25 (.int .i64 (s1)) (.int .i64 (s2)) 14 16 W g f w' ∧ MkM 25 (.int .i64 (v1)) (.int .i64 (v2)) 15 17 W g f w' ∧ (∀ x y bx by_, g 14 = some x → g 15 = some y → x.1 = some ⟨bx, 0, none⟩ → y.1 = some ⟨by_, 0, none⟩ → bx ≠ by_)) (fun _ (x : Pick) => .pointer x.1) (by kernel_rfl) ?_ ?_
        · intro f hf0
          exact ⟨below_drewN (Below.refl _ _) 1, MkM.start, MkM.start, fun x y bx by_ h => by cases h⟩
        first
        | (refine Fx.WM.skip 0 (by rfl) (by kernel_rfl) (by kernel_rfl) (by kernel_rfl) (by rfl) (fun g f w h => h) ?_; simp only [Act.put, List.setIfInBounds_toArray, List.set_cons_zero, List.set_cons_succ])
        | (refine Fx.WM.val_ 0 ?_ (by rfl) (by kernel_rfl) (by kernel_rfl) (by kernel_rfl) (by rfl) ?_ (fun g f w h => h) ?_
           rotate_left
           · intro g f w' hx hD hk
             obtain ⟨hb, hm1, hm2, hne⟩ := id hD
             have kk := Blk.below K0_3.out hb (by omega)
             have q0 := kk.cell 0
             have q1 := kk.cell 1
             have q2 := kk.cell 2
             clear kk
             clear hx hk hD hb hm1 hm2 hne
             go_simp
             try rfl
           simp only [Act.put, List.setIfInBounds_toArray, List.set_cons_zero, List.set_cons_succ])
        first
        | (refine Fx.WM.skip 1 (by rfl) (by kernel_rfl) (by kernel_rfl) (by kernel_rfl) (by rfl) (fun g f w h => h) ?_; simp only [Act.put, List.setIfInBounds_toArray, List.set_cons_zero, List.set_cons_succ])
        | (refine Fx.WM.val_ 1 ?_ (by rfl) (by kernel_rfl) (by kernel_rfl) (by kernel_rfl) (by rfl) ?_ (fun g f w h => h) ?_
           rotate_left
           · intro g f w' hx hD hk
             obtain ⟨hb, hm1, hm2, hne⟩ := id hD
             clear hx hk hD hb hm1 hm2 hne
             go_simp
             try rfl
           simp only [Act.put, List.setIfInBounds_toArray, List.set_cons_zero, List.set_cons_succ])
        first
        | (refine Fx.WM.skip 2 (by rfl) (by kernel_rfl) (by kernel_rfl) (by kernel_rfl) (by rfl) (fun g f w h => h) ?_; simp only [Act.put, List.setIfInBounds_toArray, List.set_cons_zero, List.set_cons_succ])
        | (refine Fx.WM.val_ 2 ?_ (by rfl) (by kernel_rfl) (by kernel_rfl) (by kernel_rfl) (by rfl) ?_ (fun g f w h => h) ?_
           rotate_left
           · intro g f w' hx hD hk
             obtain ⟨hb, hm1, hm2, hne⟩ := id hD
             clear hx hk hD hb hm1 hm2 hne
             go_simp
             try rfl
           simp only [Act.put, List.setIfInBounds_toArray, List.set_cons_zero, List.set_cons_succ])
        first
        | (refine Fx.WM.skip 3 (by rfl) (by kernel_rfl) (by kernel_rfl) (by kernel_rfl) (by rfl) (fun g f w h => h) ?_; simp only [Act.put, List.setIfInBounds_toArray, List.set_cons_zero, List.set_cons_succ])
        | (refine Fx.WM.val_ 3 ?_ (by rfl) (by kernel_rfl) (by kernel_rfl) (by kernel_rfl) (by rfl) ?_ (fun g f w h => h) ?_
           rotate_left
           · intro g f w' hx hD hk
             obtain ⟨hb, hm1, hm2, hne⟩ := id hD
             clear hx hk hD hb hm1 hm2 hne
             go_simp
             try rfl
           simp only [Act.put, List.setIfInBounds_toArray, List.set_cons_zero, List.set_cons_succ])
        first
        | (refine Fx.WM.skip 4 (by rfl) (by kernel_rfl) (by kernel_rfl) (by kernel_rfl) (by rfl) (fun g f w h => h) ?_; simp only [Act.put, List.setIfInBounds_toArray, List.set_cons_zero, List.set_cons_succ])
        | (refine Fx.WM.val_ 4 ?_ (by rfl) (by kernel_rfl) (by kernel_rfl) (by kernel_rfl) (by rfl) ?_ (fun g f w h => h) ?_
           rotate_left
           · intro g f w' hx hD hk
             obtain ⟨hb, hm1, hm2, hne⟩ := id hD
             clear hx hk hD hb hm1 hm2 hne
             go_simp
             try rfl
           simp only [Act.put, List.setIfInBounds_toArray, List.set_cons_zero, List.set_cons_succ])
        first
        | (refine Fx.WM.skip 5 (by rfl) (by kernel_rfl) (by kernel_rfl) (by kernel_rfl) (by rfl) (fun g f w h => h) ?_; simp only [Act.put, List.setIfInBounds_toArray, List.set_cons_zero, List.set_cons_succ])
        | (refine Fx.WM.val_ 5 ?_ (by rfl) (by kernel_rfl) (by kernel_rfl) (by kernel_rfl) (by rfl) ?_ (fun g f w h => h) ?_
           rotate_left
           · intro g f w' hx hD hk
             obtain ⟨hb, hm1, hm2, hne⟩ := id hD
             have q3 := (hb.cell (p := ⟨gl, 0, none⟩) (by show gl < _; omega)).trans C0_3.out
             clear hx hk hD hb hm1 hm2 hne
             go_simp
             try rfl
           simp only [Act.put, List.setIfInBounds_toArray, List.set_cons_zero, List.set_cons_succ])
        first
        | (refine Fx.WM.skip 6 (by rfl) (by kernel_rfl) (by kernel_rfl) (by kernel_rfl) (by rfl) (fun g f w h => h) ?_; simp only [Act.put, List.setIfInBounds_toArray, List.set_cons_zero, List.set_cons_succ])
        | (refine Fx.WM.val_ 6 ?_ (by rfl) (by kernel_rfl) (by kernel_rfl) (by kernel_rfl) (by rfl) ?_ (fun g f w h => h) ?_
           rotate_left
           · intro g f w' hx hD hk
             obtain ⟨hb, hm1, hm2, hne⟩ := id hD
             clear hx hk hD hb hm1 hm2 hne
             go_simp
             try rfl
           simp only [Act.put, List.setIfInBounds_toArray, List.set_cons_zero, List.set_cons_succ])
        first
        | (refine Fx.WM.skip 7 (by rfl) (by kernel_rfl) (by kernel_rfl) (by kernel_rfl) (by rfl) (fun g f w h => h) ?_; simp only [Act.put, List.setIfInBounds_toArray, List.set_cons_zero, List.set_cons_succ])
        | (refine Fx.WM.val_ 7 ?_ (by rfl) (by kernel_rfl) (by kernel_rfl) (by kernel_rfl) (by rfl) ?_ (fun g f w h => h) ?_
           rotate_left
           · intro g f w' hx hD hk
             obtain ⟨hb, hm1, hm2, hne⟩ := id hD
             clear hx hk hD hb hm1 hm2 hne
             go_simp
             try rfl
           simp only [Act.put, List.setIfInBounds_toArray, List.set_cons_zero, List.set_cons_succ])
        first
        | (refine Fx.WM.skip 8 (by rfl) (by kernel_rfl) (by kernel_rfl) (by kernel_rfl) (by rfl) (fun g f w h => h) ?_; simp only [Act.put, List.setIfInBounds_toArray, List.set_cons_zero, List.set_cons_succ])
        | (refine Fx.WM.val_ 8 ?_ (by rfl) (by kernel_rfl) (by kernel_rfl) (by kernel_rfl) (by rfl) ?_ (fun g f w h => h) ?_
           rotate_left
           · intro g f w' hx hD hk
             obtain ⟨hb, hm1, hm2, hne⟩ := id hD
             clear hx hk hD hb hm1 hm2 hne
             go_simp
             try rfl
           simp only [Act.put, List.setIfInBounds_toArray, List.set_cons_zero, List.set_cons_succ])
        first
        | (refine Fx.WM.skip 9 (by rfl) (by kernel_rfl) (by kernel_rfl) (by kernel_rfl) (by rfl) (fun g f w h => h) ?_; simp only [Act.put, List.setIfInBounds_toArray, List.set_cons_zero, List.set_cons_succ])
        | (refine Fx.WM.val_ 9 ?_ (by rfl) (by kernel_rfl) (by kernel_rfl) (by kernel_rfl) (by rfl) ?_ (fun g f w h => h) ?_
           rotate_left
           · intro g f w' hx hD hk
             obtain ⟨hb, hm1, hm2, hne⟩ := id hD
             have q4 := (hb.cell (p := ⟨gl, 1, none⟩) (by show gl < _; omega)).trans C1_3.out
             clear hx hk hD hb hm1 hm2 hne
             go_simp
             try rfl
           simp only [Act.put, List.setIfInBounds_toArray, List.set_cons_zero, List.set_cons_succ])
        refine Fx.WM.call 10 (.tuple #[.agg #[.int .i64 (s1), .int .i64 (s2)], .agg #[.int .i64 (v1), .int .i64 (v2)]]) ?_ ?_ (by rfl) (by kernel_rfl) (by kernel_rfl) (by kernel_rfl) (by rfl) ?_ ?_ ?_
        rotate_left 2
        · intro w'
          go_simp
          refine ⟨?_, ?_⟩ <;> rfl
        · intro g f w' hx hD hk
          exact (through_is m HM.out za zb hzan hzbn HAB.out s1 s2 v1 v2 HS.out HV.out w' ((HX.out.lay HB3.out).lay hD.1)).mono fun e w'' ⟨he, hw⟩ => ⟨he, step_below hw hD.1, hD.2.1.step hw (by decide), hD.2.2.1.step hw (by decide), hD.2.2.2⟩
        simp only [Act.put, List.setIfInBounds_toArray, List.set_cons_zero, List.set_cons_succ]
        first
        | (refine Fx.WM.skip 11 (by rfl) (by kernel_rfl) (by kernel_rfl) (by kernel_rfl) (by rfl) (fun g f w h => h) ?_; simp only [Act.put, List.setIfInBounds_toArray, List.set_cons_zero, List.set_cons_succ])
        | (refine Fx.WM.val_ 11 ?_ (by rfl) (by kernel_rfl) (by kernel_rfl) (by kernel_rfl) (by rfl) ?_ (fun g f w h => h) ?_
           rotate_left
           · intro g f w' hx hD hk
             obtain ⟨hb, hm1, hm2, hne⟩ := id hD
             clear hx hk hD hb hm1 hm2 hne
             go_simp
             try rfl
           simp only [Act.put, List.setIfInBounds_toArray, List.set_cons_zero, List.set_cons_succ])
        first
        | (refine Fx.WM.skip 12 (by rfl) (by kernel_rfl) (by kernel_rfl) (by kernel_rfl) (by rfl) (fun g f w h => h) ?_; simp only [Act.put, List.setIfInBounds_toArray, List.set_cons_zero, List.set_cons_succ])
        | (refine Fx.WM.val_ 12 ?_ (by rfl) (by kernel_rfl) (by kernel_rfl) (by kernel_rfl) (by rfl) ?_ (fun g f w h => h) ?_
           rotate_left
           · intro g f w' hx hD hk
             obtain ⟨hb, hm1, hm2, hne⟩ := id hD
             clear hx hk hD hb hm1 hm2 hne
             go_simp
             try rfl
           simp only [Act.put, List.setIfInBounds_toArray, List.set_cons_zero, List.set_cons_succ])
        first
        | (refine Fx.WM.skip 13 (by rfl) (by kernel_rfl) (by kernel_rfl) (by kernel_rfl) (by rfl) (fun g f w h => h) ?_; simp only [Act.put, List.setIfInBounds_toArray, List.set_cons_zero, List.set_cons_succ])
        | (refine Fx.WM.val_ 13 ?_ (by rfl) (by kernel_rfl) (by kernel_rfl) (by kernel_rfl) (by rfl) ?_ (fun g f w h => h) ?_
           rotate_left
           · intro g f w' hx hD hk
             obtain ⟨hb, hm1, hm2, hne⟩ := id hD
             clear hx hk hD hb hm1 hm2 hne
             go_simp
             try rfl
           simp only [Act.put, List.setIfInBounds_toArray, List.set_cons_zero, List.set_cons_succ])
        refine Fx.WM.choose2 14 15 (by rfl) (by rfl) (by kernel_rfl) (by rfl) (by rfl) ?_ ?_ ?_ ?_
        · skip
          refine Fx.Chooses.make (by rfl) ?_
          intro f w' hD hk
          obtain ⟨hb, hm1, hm2, hne⟩ := id hD
          refine ⟨(some ⟨w'.heap.size, 0, none⟩, 0), w'.alloc (.cells #[.int .i64 0, .int .i64 0] 25), ?_, ?_⟩
          · clear hk hD
            go_simp
            try rfl
          · exact ⟨hb.alloc hb.size _, MkM.make hb.size (hk.2.1 16 (by kernel_rfl)) (by decide), (hm2.step ((Below.refl _ _).alloc (Nat.le_refl _) _) (by decide)).other (by decide), fun x y bx by_ h1 h2 => by cases h2⟩
        · skip
          refine Fx.Chooses.make (by rfl) ?_
          intro f w' hD hk
          obtain ⟨hb, hm1, hm2, hne⟩ := id hD
          refine ⟨(some ⟨w'.heap.size, 0, none⟩, 0), w'.alloc (.cells #[.int .i64 0, .int .i64 0] 25), ?_, ?_⟩
          · clear hk hD
            go_simp
            try rfl
          · exact ⟨hb.alloc hb.size _, (hm1.step ((Below.refl _ _).alloc (Nat.le_refl _) _) (by decide)).other (by decide), MkM.make hb.size (hk.2.1 17 (by kernel_rfl)) (by decide), fun x y bx by_ h1 h2 => by cases h1⟩
        · skip
          intro x
          simp only [Act.put, List.setIfInBounds_toArray, List.set_cons_zero, List.set_cons_succ]
          refine Fx.WM.choose 15 (by rfl) (by kernel_rfl) (by rfl) ?_ ?_
          · skip
            refine Fx.Chooses.make (by rfl) ?_
            intro f w' hD hk
            obtain ⟨hb, hm1, hm2, hne⟩ := id hD
            refine ⟨(some ⟨w'.heap.size, 0, none⟩, 0), w'.alloc (.cells #[.int .i64 0, .int .i64 0] 25), ?_, ?_⟩
            · clear hk hD
              go_simp
              try rfl
            · exact ⟨hb.alloc hb.size _, (hm1.step ((Below.refl _ _).alloc (Nat.le_refl _) _) (by decide)).other (by decide), MkM.make hb.size (hk.2.1 17 (by kernel_rfl)) (by decide), MkM.fresh hm1 (by decide)⟩
          intro y
          simp only [Act.put, List.setIfInBounds_toArray, List.set_cons_zero, List.set_cons_succ]
          refine Fx.WM.eff 16 undef (by rfl) (by kernel_rfl) (by kernel_rfl) (by kernel_rfl) (by rfl) ?_ ?_
          · intro g f w' hx hD hk
            obtain ⟨hb, hm1, hm2, hne⟩ := id hD
            obtain ⟨bx, e0, e1, r0, r1, r2, r3, r4, r5⟩ := MkM.cells hm1 (hx 14 _ rfl)
            refine Fx.gives_skip (w' := (w'.setCell ⟨bx, 0, none⟩ (.int .i64 (s1))).setCell ⟨bx, 1, none⟩ (.int .i64 (s2))) ?_ ?_
            · clear hx hk hD hb hm1 hm2 hne
              go_simp
              try rfl
            · exact ⟨below_store hb r1, hm1.store (hx 14 _ rfl) r0, hm2.far (by decide) (fun y b' h1 h2 => (hne _ y _ b' (hx 14 _ rfl) h1 r0 h2).symm), hne⟩
          simp only [Act.put, List.setIfInBounds_toArray, List.set_cons_zero, List.set_cons_succ]
          refine Fx.WM.eff 17 undef (by rfl) (by kernel_rfl) (by kernel_rfl) (by kernel_rfl) (by rfl) ?_ ?_
          · intro g f w' hx hD hk
            obtain ⟨hb, hm1, hm2, hne⟩ := id hD
            obtain ⟨by_, e0, e1, r0, r1, r2, r3, r4, r5⟩ := MkM.cells hm2 (hx 15 _ rfl)
            refine Fx.gives_skip (w' := (w'.setCell ⟨by_, 0, none⟩ (.int .i64 (v1))).setCell ⟨by_, 1, none⟩ (.int .i64 (v2))) ?_ ?_
            · clear hx hk hD hb hm1 hm2 hne
              go_simp
              try rfl
            · exact ⟨below_store hb r1, hm1.far (by decide) (fun y b' h1 h2 => hne y _ b' _ h1 (hx 15 _ rfl) h2 r0), hm2.store (hx 15 _ rfl) r0, hne⟩
          simp only [Act.put, List.setIfInBounds_toArray, List.set_cons_zero, List.set_cons_succ]
          refine Fx.WM.nil (by kernel_rfl) ?_
          intro wz hD
          obtain ⟨hb, hm1, hm2, hne⟩ := hD
          obtain ⟨bx, hx1, hx2, hxb⟩ := hm1.end_ (x := x) (by rfl) (by rfl)
          obtain ⟨by_, hy1, hy2, hyb⟩ := hm2.end_ (x := y) (by rfl) (by rfl)
          exact key x y wz ⟨bx, by_, hx1, hy1, hx2, hy2, hb, hxb, hyb⟩
        · skip
          intro y
          simp only [Act.put, List.setIfInBounds_toArray, List.set_cons_zero, List.set_cons_succ]
          refine Fx.WM.choose 14 (by rfl) (by kernel_rfl) (by rfl) ?_ ?_
          · skip
            refine Fx.Chooses.make (by rfl) ?_
            intro f w' hD hk
            obtain ⟨hb, hm1, hm2, hne⟩ := id hD
            refine ⟨(some ⟨w'.heap.size, 0, none⟩, 0), w'.alloc (.cells #[.int .i64 0, .int .i64 0] 25), ?_, ?_⟩
            · clear hk hD
              go_simp
              try rfl
            · exact ⟨hb.alloc hb.size _, MkM.make hb.size (hk.2.1 16 (by kernel_rfl)) (by decide), (hm2.step ((Below.refl _ _).alloc (Nat.le_refl _) _) (by decide)).other (by decide), fun x y bx by_ h1 h2 e1 e2 => (MkM.fresh hm2 (by decide) y x by_ bx h2 h1 e2 e1).symm⟩
          intro x
          simp only [Act.put, List.setIfInBounds_toArray, List.set_cons_zero, List.set_cons_succ]
          refine Fx.WM.eff 16 undef (by rfl) (by kernel_rfl) (by kernel_rfl) (by kernel_rfl) (by rfl) ?_ ?_
          · intro g f w' hx hD hk
            obtain ⟨hb, hm1, hm2, hne⟩ := id hD
            obtain ⟨bx, e0, e1, r0, r1, r2, r3, r4, r5⟩ := MkM.cells hm1 (hx 14 _ rfl)
            refine Fx.gives_skip (w' := (w'.setCell ⟨bx, 0, none⟩ (.int .i64 (s1))).setCell ⟨bx, 1, none⟩ (.int .i64 (s2))) ?_ ?_
            · clear hx hk hD hb hm1 hm2 hne
              go_simp
              try rfl
            · exact ⟨below_store hb r1, hm1.store (hx 14 _ rfl) r0, hm2.far (by decide) (fun y b' h1 h2 => (hne _ y _ b' (hx 14 _ rfl) h1 r0 h2).symm), hne⟩
          simp only [Act.put, List.setIfInBounds_toArray, List.set_cons_zero, List.set_cons_succ]
          refine Fx.WM.eff 17 undef (by rfl) (by kernel_rfl) (by kernel_rfl) (by kernel_rfl) (by rfl) ?_ ?_
          · intro g f w' hx hD hk
            obtain ⟨hb, hm1, hm2, hne⟩ := id hD
            obtain ⟨by_, e0, e1, r0, r1, r2, r3, r4, r5⟩ := MkM.cells hm2 (hx 15 _ rfl)
            refine Fx.gives_skip (w' := (w'.setCell ⟨by_, 0, none⟩ (.int .i64 (v1))).setCell ⟨by_, 1, none⟩ (.int .i64 (v2))) ?_ ?_
            · clear hx hk hD hb hm1 hm2 hne
              go_simp
              try rfl
            · exact ⟨below_store hb r1, hm1.far (by decide) (fun y b' h1 h2 => hne y _ b' _ h1 (hx 15 _ rfl) h2 r0), hm2.store (hx 15 _ rfl) r0, hne⟩
          simp only [Act.put, List.setIfInBounds_toArray, List.set_cons_zero, List.set_cons_succ]
          refine Fx.WM.nil (by kernel_rfl) ?_
          intro wz hD
          obtain ⟨hb, hm1, hm2, hne⟩ := hD
          obtain ⟨bx, hx1, hx2, hxb⟩ := hm1.end_ (x := x) (by rfl) (by rfl)
          obtain ⟨by_, hy1, hy2, hyb⟩ := hm2.end_ (x := y) (by rfl) (by rfl)
          exact key x y wz ⟨bx, by_, hx1, hy1, hx2, hy2, hb, hxb, hyb⟩
      rintro ⟨x1, x2⟩ ⟨y1, y2⟩ w4 ⟨bx, by_, hx1, hy1, hbx, hby, hb, ha, hbk⟩
      simp only at hx1 hy1
      subst hx1 hy1
      have HB4 := Lib.hid (show Below w.heap.size w w4 from step_below hb (by repeat' (first | exact Below.refl _ _ | exact HB3.out | refine below_drewN ?_ _ | refine Below.drew ?_ | refine Below.alloc ?_ (by first | omega | (simp; done) | (simp; omega) | (simp [World.setCell]; omega)) _ | refine Below.setCell ?_ (by first | omega | (simp; done) | (simp; omega)) _ | assumption)))
      have K0_4 := Lib.hid (step_blk hb (show Blk _ (w.heap.size) 38 #[.slice (some ⟨m.b1, m.o1, none⟩) m.n m.c1, .slice (some ⟨m.b2, m.o2, none⟩) m.n m.c2, .slice (some ⟨m.b3, m.o3, none⟩) m.n m.c3] by repeat' (first | exact K0_3.out | exact K1_3.out | exact K2_3.out | exact Blk.at_ _ (by first | rfl | (simp; done) | (simp; omega)) _ _ | refine Blk.drewN ?_ _ | refine Blk.drew ?_ | refine Blk.alloc ?_ _ | refine Blk.far ?_ (by first | omega | (simp; done) | (simp; omega)) _ | assumption)))
      have K1_4 := Lib.hid (step_blk hb (show Blk _ (w.heap.size + 1) 62 #[.int .i64 (0), .int .i64 (0), .int .i64 (0), .int .i64 (0), .int .i64 (0), .int .i64 (0)] by repeat' (first | exact K0_3.out | exact K1_3.out | exact K2_3.out | exact Blk.at_ _ (by first | rfl | (simp; done) | (simp; omega)) _ _ | refine Blk.drewN ?_ _ | refine Blk.drew ?_ | refine Blk.alloc ?_ _ | refine Blk.far ?_ (by first | omega | (simp; done) | (simp; omega)) _ | assumption)))
      have K2_4 := Lib.hid (step_blk hb (show Blk _ (sb) 77 #[.int .i64 (m.sw m.n), .int .i64 (m.sq m.n), .int .i64 (m.sh m.n)] by repeat' (first | exact K0_3.out | exact K1_3.out | exact K2_3.out | exact Blk.at_ _ (by first | rfl | (simp; done) | (simp; omega)) _ _ | refine Blk.drewN ?_ _ | refine Blk.drew ?_ | refine Blk.alloc ?_ _ | refine Blk.far ?_ (by first | omega | (simp; done) | (simp; omega)) _ | assumption)))
      have C0_4 := Lib.hid (step_cell hb (show World.cell? _ ⟨gl, 0, none⟩ = some (.int .i64 ((za : Int))) by first | exact C0_3.out | go_simp) (by have := hgl2; first | omega | (simp; omega)))
      have C1_4 := Lib.hid (step_cell hb (show World.cell? _ ⟨gl, 1, none⟩ = some (.int .i64 ((zb : Int))) by first | exact C1_3.out | go_simp) (by have := hgl2; first | omega | (simp; omega)))
      have hz4 := hb.size
      try simp only [World.size_alloc, World.drewN, World.drew] at hz4
      clear hb K0_3 K1_3 K2_3 z0_0_3 z0_1_3 z0_2_3 l0_3 z1_0_3 z1_1_3 z1_2_3 z1_3_3 z1_4_3 z1_5_3 l1_3 z2_0_3 z2_1_3 z2_2_3 l2_3
      have l0_4 : w.heap.size < w4.heap.size := K0_4.out.lt
      have z0_0_4 : w4.cell? ⟨w.heap.size, 0, none⟩ = some (.slice (some ⟨m.b1, m.o1, none⟩) m.n m.c1) := K0_4.out.cell 0
      have z0_1_4 : w4.cell? ⟨w.heap.size, 1, none⟩ = some (.slice (some ⟨m.b2, m.o2, none⟩) m.n m.c2) := K0_4.out.cell 1
      have z0_2_4 : w4.cell? ⟨w.heap.size, 2, none⟩ = some (.slice (some ⟨m.b3, m.o3, none⟩) m.n m.c3) := K0_4.out.cell 2
      have l1_4 : w.heap.size + 1 < w4.heap.size := K1_4.out.lt
      have z1_0_4 : w4.cell? ⟨w.heap.size + 1, 0, none⟩ = some (.int .i64 (0)) := K1_4.out.cell 0
      have z1_1_4 : w4.cell? ⟨w.heap.size + 1, 1, none⟩ = some (.int .i64 (0)) := K1_4.out.cell 1
      have z1_2_4 : w4.cell? ⟨w.heap.size + 1, 2, none⟩ = some (.int .i64 (0)) := K1_4.out.cell 2
      have z1_3_4 : w4.cell? ⟨w.heap.size + 1, 3, none⟩ = some (.int .i64 (0)) := K1_4.out.cell 3
      have z1_4_4 : w4.cell? ⟨w.heap.size + 1, 4, none⟩ = some (.int .i64 (0)) := K1_4.out.cell 4
      have z1_5_4 : w4.cell? ⟨w.heap.size + 1, 5, none⟩ = some (.int .i64 (0)) := K1_4.out.cell 5
      have l2_4 : sb < w4.heap.size := K2_4.out.lt
      have z2_0_4 : w4.cell? ⟨sb, 0, none⟩ = some (.int .i64 (m.sw m.n)) := K2_4.out.cell 0
      have z2_1_4 : w4.cell? ⟨sb, 1, none⟩ = some (.int .i64 (m.sq m.n)) := K2_4.out.cell 1
      have z2_2_4 : w4.cell? ⟨sb, 2, none⟩ = some (.int .i64 (m.sh m.n)) := K2_4.out.cell 2
      skip
      go_wp2
      obtain ⟨W0, hW0⟩ : ∃ W0, W0 = w4.drewN 1 := ⟨_, rfl⟩
      have m0 : W0.cell? ⟨bx, 0, none⟩ = some (.int .i64 (s1)) := by rw [hW0]; exact ha.cell 0
      have m1 : W0.cell? ⟨bx, 1, none⟩ = some (.int .i64 (s2)) := by rw [hW0]; exact ha.cell 1
      have m2 : W0.cell? ⟨by_, 0, none⟩ = some (.int .i64 (v1)) := by rw [hW0]; exact hbk.cell 0
      have m3 : W0.cell? ⟨by_, 1, none⟩ = some (.int .i64 (v2)) := by rw [hW0]; exact hbk.cell 1
      have m4 : W0.cell? ⟨gl, 0, none⟩ = some (.int .i64 ((za : Int))) := by rw [hW0]; exact C0_4.out
      have m5 : W0.cell? ⟨gl, 1, none⟩ = some (.int .i64 ((zb : Int))) := by rw [hW0]; exact C1_4.out
      have kb : Blk W0 (w.heap.size + 1) 62 #[.int .i64 0, .int .i64 0, .int .i64 0, .int .i64 0, .int .i64 0, .int .i64 0] := by rw [hW0]; exact Blk.drewN K1_4.out 1
      have HKB := Lib.hid kb
      have mo0 := kb.cell 0
      have mf0 := kb.frozen 0
      have mo1 := kb.cell 1
      have mf1 := kb.frozen 1
      have mo2 := kb.cell 2
      have mf2 := kb.frozen 2
      have mo3 := kb.cell 3
      have mf3 := kb.frozen 3
      have mo4 := kb.cell 4
      have mf4 := kb.frozen 4
      have mo5 := kb.cell 5
      have mf5 := kb.frozen 5
      clear kb
      refine Fx.region (fun f w' => (f 13 = false → w' = W0) ∧ (f 13 = true → w' = ((((((W0.setCell ⟨w.heap.size + 1, 0, none⟩ (.int .i64 (s1))).setCell ⟨w.heap.size + 1, 1, none⟩ (.int .i64 (s2))).setCell ⟨w.heap.size + 1, 2, none⟩ (.int .i64 (v1))).setCell ⟨w.heap.size + 1, 3, none⟩ (.int .i64 (v2))).setCell ⟨w.heap.size + 1, 4, none⟩ (.int .i64 ((za : Int)))).setCell ⟨w.heap.size + 1, 5, none⟩ (.int .i64 ((zb : Int)))))) (by kernel_rfl) (by kernel_rfl) ?_ ?_
      · intro f hf0
        exact ⟨fun _ => hW0.symm, fun h => by rw [hf0 13] at h; cases h⟩
      have HW0 := Lib.hid hW0
      clear hW0
      repeat (first
        | (refine Fx.skip_ (by rfl) (fun f w h => h) ?_; simp only [Act.put, List.setIfInBounds_toArray, List.set_cons_zero, List.set_cons_succ])
        | (refine Fx.val_ ?_ (by rfl) ?_ (fun f w h => h) ?_
           rotate_left
           · intro f w' hD hk
             obtain ⟨jw, jr⟩ := id hD
             have jw := jw (hk.2.1 13 (by kernel_rfl))
             have q0 : w'.cell? ⟨bx, 0, none⟩ = some (.int .i64 (s1)) := by rw [jw]; exact m0
             have q1 : w'.cell? ⟨bx, 1, none⟩ = some (.int .i64 (s2)) := by rw [jw]; exact m1
             have q2 : w'.cell? ⟨by_, 0, none⟩ = some (.int .i64 (v1)) := by rw [jw]; exact m2
             have q3 : w'.cell? ⟨by_, 1, none⟩ = some (.int .i64 (v2)) := by rw [jw]; exact m3
             have q4 : w'.cell? ⟨gl, 0, none⟩ = some (.int .i64 ((za : Int))) := by rw [jw]; exact m4
             have q5 : w'.cell? ⟨gl, 1, none⟩ = some (.int .i64 ((zb : Int))) := by rw [jw]; exact m5
             clear hk hD jw jr
             go_simp
             try rfl
           simp only [Act.put, List.setIfInBounds_toArray, List.set_cons_zero, List.set_cons_succ]))
      refine Fx.store_ (fun w' => ((((((w'.setCell ⟨w.heap.size + 1, 0, none⟩ (.int .i64 (s1))).setCell ⟨w.heap.size + 1, 1, none⟩ (.int .i64 (s2))).setCell ⟨w.heap.size + 1, 2, none⟩ (.int .i64 (v1))).setCell ⟨w.heap.size + 1, 3, none⟩ (.int .i64 (v2))).setCell ⟨w.heap.size + 1, 4, none⟩ (.int .i64 ((za : Int)))).setCell ⟨w.heap.size + 1, 5, none⟩ (.int .i64 ((zb : Int))))) (by rfl) ?_ ?_ ?_
      · intro f w' hD hk
        obtain ⟨jw, jr⟩ := id hD
        have jw := jw hk.1
        have q0 : w'.cell? ⟨w.heap.size + 1, 0, none⟩ = some (.int .i64 0) := by rw [jw]; exact mo0
        have q1 : w'.cell? ⟨w.heap.size + 1, 1, none⟩ = some (.int .i64 0) := by rw [jw]; exact mo1
        have q2 : w'.cell? ⟨w.heap.size + 1, 2, none⟩ = some (.int .i64 0) := by rw [jw]; exact mo2
        have q3 : w'.cell? ⟨w.heap.size + 1, 3, none⟩ = some (.int .i64 0) := by rw [jw]; exact mo3
        have q4 : w'.cell? ⟨w.heap.size + 1, 4, none⟩ = some (.int .i64 0) := by rw [jw]; exact mo4
        have q5 : w'.cell? ⟨w.heap.size + 1, 5, none⟩ = some (.int .i64 0) := by rw [jw]; exact mo5
        have r0 : w'.frozen? ⟨w.heap.size + 1, 0, none⟩ = false := by rw [jw]; exact mf0
        have r1 : w'.frozen? ⟨w.heap.size + 1, 1, none⟩ = false := by rw [jw]; exact mf1
        have r2 : w'.frozen? ⟨w.heap.size + 1, 2, none⟩ = false := by rw [jw]; exact mf2
        have r3 : w'.frozen? ⟨w.heap.size + 1, 3, none⟩ = false := by rw [jw]; exact mf3
        have r4 : w'.frozen? ⟨w.heap.size + 1, 4, none⟩ = false := by rw [jw]; exact mf4
        have r5 : w'.frozen? ⟨w.heap.size + 1, 5, none⟩ = false := by rw [jw]; exact mf5
        clear hk hD jw jr
        go_simp
      · intro f w' hD hk
        obtain ⟨jw, jr⟩ := id hD
        have jw := jw hk.1
        exact ⟨fun h => by simp [Fx.add] at h, fun _ => by rw [jw]⟩
      simp only [Act.put, List.setIfInBounds_toArray, List.set_cons_zero, List.set_cons_succ]
      refine Fx.nil_ ?_
      intro f w1 hall hD
      have hf13 := hall 13 (by simp)
      obtain ⟨jw, jr⟩ := hD
      simp only [hf13, if_true] at *
      have jr := jr (by first | rfl | trivial)
      clear jw
      try clear hall
      subst jr
      have hkb := ((((((HKB.out.set_ 0 (.int .i64 (s1))).set_ 1 (.int .i64 (s2))).set_ 2 (.int .i64 (v1))).set_ 3 (.int .i64 (v2))).set_ 4 (.int .i64 ((za : Int)))).set_ 5 (.int .i64 ((zb : Int))))
      have y0 := hkb.cell 0
      have y1 := hkb.cell 1
      have y2 := hkb.cell 2
      have y3 := hkb.cell 3
      have y4 := hkb.cell 4
      have y5 := hkb.cell 5
      have yl := hkb.lt
      simp only [List.setIfInBounds_toArray, List.set_cons_zero, List.set_cons_succ] at y0 y1 y2 y3 y4 y5
      have hbb : Below w.heap.size w ((((((W0.setCell ⟨w.heap.size + 1, 0, none⟩ (.int .i64 (s1))).setCell ⟨w.heap.size + 1, 1, none⟩ (.int .i64 (s2))).setCell ⟨w.heap.size + 1, 2, none⟩ (.int .i64 (v1))).setCell ⟨w.heap.size + 1, 3, none⟩ (.int .i64 (v2))).setCell ⟨w.heap.size + 1, 4, none⟩ (.int .i64 ((za : Int)))).setCell ⟨w.heap.size + 1, 5, none⟩ (.int .i64 ((zb : Int)))) := by rw [HW0.out]; exact (((((((below_drewN HB4.out 1).setCell (p := ⟨w.heap.size + 1, 0, none⟩) (by show _ ≤ w.heap.size + 1; omega) (.int .i64 (s1))).setCell (p := ⟨w.heap.size + 1, 1, none⟩) (by show _ ≤ w.heap.size + 1; omega) (.int .i64 (s2))).setCell (p := ⟨w.heap.size + 1, 2, none⟩) (by show _ ≤ w.heap.size + 1; omega) (.int .i64 (v1))).setCell (p := ⟨w.heap.size + 1, 3, none⟩) (by show _ ≤ w.heap.size + 1; omega) (.int .i64 (v2))).setCell (p := ⟨w.heap.size + 1, 4, none⟩) (by show _ ≤ w.heap.size + 1; omega) (.int .i64 ((za : Int)))).setCell (p := ⟨w.heap.size + 1, 5, none⟩) (by show _ ≤ w.heap.size + 1; omega) (.int .i64 ((zb : Int))))
      have HBB := Lib.hid hbb
      clear hbb mo0 mf0 mo1 mf1 mo2 mf2 mo3 mf3 mo4 mf4 mo5 mf5 m0 m1 m2 m3 m4 m5
      go_wp2
      exact bodyPost_ret (v := .agg #[.int .i64 (s1), .int .i64 (s2), .int .i64 (v1), .int .i64 (v2), .int .i64 ((za : Int)), .int .i64 ((zb : Int))]) (by simp [results, Try.results25, go_sem, y0, y1, y2, y3, y4, y5, yl]) rfl ⟨by simp only [← HXE.out, lineV], HBB.out⟩
end Go.Proofs.Ytmejiafmmmeloaa

end
