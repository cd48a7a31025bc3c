/- The function value that Periodic hands to the train. -/
import Derived.Test.YtmioamcgbihhjaaTrainN
import Derived.Test.YtmioamcgbihhjaaRPer
import Derived.Test.YtmioamcgbihhjaaFind
namespace Go.Proofs.Ytmioamcgbihhjaa
open Go.RowKit

/-- What the function value finds: two variables of its own, and all below them as it was. -/
structure InvP (w0 : World) (ab sb : Nat) (n1 : Nat) (m : Nat) (s : Int × Int) (w : World) : Prop where
  low : Below w0.heap.size w0 w
  at_ : Blk w ab 3 #[.int .i64 s.1]
  sum : Blk w sb 3 #[.int .i64 s.2]
  ats : s.1 = (n1 : Int) - 1 - m
  pos : 0 ≤ s.2
  most : s.2 ≤ 1000000000000000 * (m : Int)

set_option maxRecDepth 100000 in
set_option maxHeartbeats 2000000 in
theorem per2_any (w0 : World) (ab sb eb B : Nat) (A1 : Option Addr) (n1 c1 N1 : Nat) (z : List Int) (hE : Blk w0 eb 62 #[.slice A1 n1 c1]) (hZ : Reads w0 N1 1 A1 n1 (z.map (.int .i64))) (hN1 : N1 ≤ w0.heap.size) (hzok : ∀ p ∈ z, errErr p = 0) (hn : n1 ≤ 12)
    (hl : w0.heap.size ≤ ab) (ht : w0.heap.size ≤ sb) (hlt : ab ≠ sb) (hlB : ab < B) (htB : sb < B) (m : Nat) (s : Int × Int) (w : World) (fr : Int × Int) (hm : m ≤ 12) (hB : B ≤ w.heap.size) (hi : InvP w0 ab sb n1 m s w) (p1 : Part fr.1) (p2 : Part fr.2) :
    Calls Try.prog 111 #[.agg #[.int .i64 fr.1, .int .i64 fr.2], .pointer (some ⟨ab, 0, none⟩), .pointer (some ⟨sb, 0, none⟩), .pointer (some ⟨eb, 0, none⟩)] w fun e w' => e = .returned (.tuple #[]) ∧ InvP w0 ab sb n1 (m + 1) (perStep z s fr) w' ∧ Keeps B w w' := by
  obtain ⟨a, sm⟩ := s
  obtain ⟨fn, fd⟩ := fr
  obtain ⟨i1, i2, i3, i4, i5, i6⟩ := hi
  simp only at i4 i5 i6 p1 p2
  have hzl : z.length = n1 := by have := hZ.1; simpa using this
  have hez := i1.size
  have helt := hE.lt
  have b1 := (Blk.below hE i1 hE.lt).alloc (.cells #[.int .i64 fn, .int .i64 fd] 23)
  have y0 : (w.alloc (.cells #[.int .i64 fn, .int .i64 fd] 23)).cell? ⟨ab, 0, none⟩ = some (.int .i64 a) := (i2.alloc _).cell 0
  have y1 : (w.alloc (.cells #[.int .i64 fn, .int .i64 fd] 23)).cell? ⟨sb, 0, none⟩ = some (.int .i64 sm) := (i3.alloc _).cell 0
  have y2 : (w.alloc (.cells #[.int .i64 fn, .int .i64 fd] 23)).cell? ⟨eb, 0, none⟩ = some (.slice A1 n1 c1) := b1.cell 0
  have f0 : (w.alloc (.cells #[.int .i64 fn, .int .i64 fd] 23)).frozen? ⟨ab, 0, none⟩ = false := (i2.alloc _).frozen 0
  have f1 : (w.alloc (.cells #[.int .i64 fn, .int .i64 fd] 23)).frozen? ⟨sb, 0, none⟩ = false := (i3.alloc _).frozen 0
  have y0' : w.cell? ⟨ab, 0, none⟩ = some (.int .i64 a) := i2.cell 0
  have y1' : w.cell? ⟨sb, 0, none⟩ = some (.int .i64 sm) := i3.cell 0
  have y2' : w.cell? ⟨eb, 0, none⟩ = some (.slice A1 n1 c1) := (Blk.below hE i1 hE.lt).cell 0
  have f0' : w.frozen? ⟨ab, 0, none⟩ = false := i2.frozen 0
  have f1' : w.frozen? ⟨sb, 0, none⟩ = false := i3.frozen 0
  have v1 := IntWalk.i64_in (a - 1) ⟨by omega, by omega⟩
  have i41 : a ≤ (n1 : Int) - 1 - m := by omega
  have i42 : (n1 : Int) - 1 - m ≤ a := by omega
  clear i4
  have hasb : ¬ sb = ab := fun e => hlt e.symm
  have I1 := Lib.hid i1
  have I2 := Lib.hid i2
  have I3 := Lib.hid i3
  have HZ := Lib.hid hZ
  have HZOK := Lib.hid hzok
  have HZL := Lib.hid hzl
  clear i1 i2 i3 hZ hzok hzl hE b1
  by_cases ha : 0 ≤ a
  rotate_left
  · have hst : perStep z (a, sm) (fn, fd) = (a - 1, sm) := by unfold perStep; rw [if_neg (by simp only; omega)]
    rw [hst]
    clear hst
    go_enter Try.func111, Try.ntmps111
    go_wp2
    go_end0
    refine ⟨rfl, ⟨?_, ?_, ?_, by simp only; omega, i5, by simp only; omega⟩, by simp [World.setCell], fun k hk1 hk2 => ?_⟩
    · first
      | exact (I1.out.alloc I1.out.size _).setCell (p := ⟨ab, 0, none⟩) hl _
      | exact (I1.out.setCell (p := ⟨ab, 0, none⟩) hl _).alloc (by simpa [World.setCell] using I1.out.size) _
    · first
      | (have := (I2.out.alloc (.cells #[.int .i64 fn, .int .i64 fd] 23)).set_ 0 (.int .i64 (a - 1)); simpa using this)
      | (have := (I2.out.set_ 0 (.int .i64 (a - 1))).alloc (.cells #[.int .i64 fn, .int .i64 fd] 23); simpa using this)
    · first
      | exact (I3.out.alloc _).far (p := ⟨ab, 0, none⟩) (by show sb ≠ ab; exact hasb) _
      | exact (I3.out.far (p := ⟨ab, 0, none⟩) (by show sb ≠ ab; exact hasb) _).alloc _
    · have n1' : k ≠ ab := by omega
      first
      | (rw [Below.heap_setCell _ ⟨ab, 0, none⟩ _ _ n1']; exact Below.heap_alloc _ _ _ hk2)
      | (rw [Below.heap_alloc _ _ _ (by simpa [World.setCell] using hk2), Below.heap_setCell _ ⟨ab, 0, none⟩ _ _ n1'])
  · obtain ⟨ii, hii⟩ : ∃ ii : Nat, a = ii := ⟨a.toNat, by omega⟩
    subst hii
    obtain ⟨zb, zo, u, rfl, hzb, hu, c4⟩ := HZ.out.at_ (show ii < n1 by omega)
    obtain ⟨t, hz, rfl⟩ : ∃ t, z[ii]? = some t ∧ .int .i64 t = u := by
      rw [List.getElem?_map] at hu
      cases h : z[ii]? with
      | none => rw [h] at hu; cases hu
      | some t => rw [h] at hu; exact ⟨t, rfl, Option.some.inj hu⟩
    obtain ⟨t1, t2⟩ := errErr_zero (HZOK.out t (List.mem_of_getElem? hz))
    obtain ⟨m1, m2, m3, m4⟩ := ceil_in t1 t2 p1 p2
    have hst : perStep z ((ii : Int), sm) (fn, fd) = ((ii : Int) - 1, sm + -((-(t * fn)) / fd)) := by
      unfold perStep
      rw [if_pos (by simp only; omega)]
      simp only [Int.toNat_natCast]
      rw [List.getD, hz]
      rfl
    rw [hst]
    obtain ⟨C, hC⟩ : ∃ C, -((-(t * fn)) / fd) = C := ⟨_, rfl⟩
    rw [hC] at m3 m4 ⊢
    obtain ⟨pb1, pb2⟩ := p2
    have HCE := Lib.hid (hC ▸ ceilsup_any (t * fn) fd)
    have y3 : (w.alloc (.cells #[.int .i64 fn, .int .i64 fd] 23)).cell? ⟨zb, zo + ii, none⟩ = some (.int .i64 t) := by
      have := ((I1.out.alloc I1.out.size (.cells #[.int .i64 fn, .int .i64 fd] 23)).cell (p := ⟨zb, zo + ii, none⟩) (by show zb < _; omega)).trans c4
      exact this
    have v2 := IntWalk.i64_in (t * fn) ⟨by omega, by omega⟩
    have v3 := IntWalk.i64_in (sm + C) ⟨by omega, by omega⟩
    have v4 : IntKind.i64.wrap (ii : Int) = (ii : Int) := IntWalk.i64_in (ii : Int) ⟨by omega, by omega⟩
    have v5 : (0 : Int) ≤ (ii : Int) := by omega
    have v6 : (ii : Int) < (n1 : Int) := by omega
    clear hu hz hst hC c4
    go_enter Try.func111, Try.ntmps111
    go_wp2
    refine Fx.regionW (fun W f w' => (f 12 = false → ∃ q, w' = W.drewN q) ∧ (f 12 = true → ∃ q, w' = (W.drewN q).setCell ⟨sb, 0, none⟩ (.int .i64 (sm + C)))) (by kernel_rfl) (by kernel_rfl) ?_ ?_
    · intro f hf0
      exact ⟨fun _ => ⟨1, rfl⟩, fun h => by rw [hf0 12] at h; cases h⟩
    repeat (first
      | (refine Fx.skip_ (by rfl) (fun f w h => h) ?_; simp only [Act.put, List.setIfInBounds_toArray, List.set_cons_zero, List.set_cons_succ])
      | (refine Fx.val_ ?_ (by rfl) ?_ (fun f w h => h) ?_
         rotate_left
         · intro f w' hD hk
           obtain ⟨h1, h2⟩ := id hD
           obtain ⟨q, rfl⟩ := h1 (hk.2.1 12 (by kernel_rfl))
           clear hk hD h1 h2
           go_simp
           try rfl
         simp only [Act.put, List.setIfInBounds_toArray, List.set_cons_zero, List.set_cons_succ]))
    refine Fx.call_ (.int .i64 C) ?_ ?_ (by rfl) ?_ ?_ ?_
    rotate_left 2
    · intro w'
      go_simp
      refine ⟨?_, ?_⟩ <;> rfl
    · intro f w' hD hk
      obtain ⟨h1, h2⟩ := id hD
      obtain ⟨q, rfl⟩ := h1 (hk.2.1 12 (by kernel_rfl))
      have h12 : f 12 = false := hk.2.1 12 (by kernel_rfl)
      exact (HCE.out _ (by omega) (by omega) pb1 (by omega)).mono fun e w'' ⟨he, hw⟩ => ⟨he, fun _ => ⟨q, hw.symm⟩, fun h => by simp [Fx.add, h12] at h⟩
    simp only [Act.put, List.setIfInBounds_toArray, List.set_cons_zero, List.set_cons_succ]
    repeat (first
      | (refine Fx.skip_ (by rfl) (fun f w h => h) ?_; simp only [Act.put, List.setIfInBounds_toArray, List.set_cons_zero, List.set_cons_succ])
      | (refine Fx.val_ ?_ (by rfl) ?_ (fun f w h => h) ?_
         rotate_left
         · intro f w' hD hk
           obtain ⟨h1, h2⟩ := id hD
           obtain ⟨q, rfl⟩ := h1 (hk.2.1 12 (by kernel_rfl))
           clear hk hD h1 h2
           go_simp
           try rfl
         simp only [Act.put, List.setIfInBounds_toArray, List.set_cons_zero, List.set_cons_succ]))
    refine Fx.store_ (fun w' => w'.setCell ⟨sb, 0, none⟩ (.int .i64 (sm + C))) (by rfl) ?_ ?_ ?_
    · intro f w' hD hk
      obtain ⟨h1, h2⟩ := id hD
      obtain ⟨q, rfl⟩ := h1 hk.1
      clear h1 h2
      clear hk hD
      go_simp
    · intro f w' hD hk
      obtain ⟨h1, h2⟩ := id hD
      obtain ⟨q, rfl⟩ := h1 hk.1
      clear h1 h2
      exact ⟨fun h => by simp [Fx.add] at h, fun _ => ⟨q, rfl⟩⟩
    simp only [Act.put, List.setIfInBounds_toArray, List.set_cons_zero, List.set_cons_succ]
    refine Fx.nil_ ?_
    intro f w1 hall hD
    have hf12 := hall 12 (by simp)
    obtain ⟨_, h2⟩ := hD
    simp only [hf12, if_true] at *
    obtain ⟨q, rfl⟩ := h2 (by first | rfl | trivial)
    clear h2
    go_wp2
    go_end0
    refine ⟨rfl, ⟨?_, ?_, ?_, by simp only; omega, by simp only; omega, by simp only; omega⟩, by simp [World.setCell], fun k hk1 hk2 => ?_⟩
    · exact ((below_drewN (I1.out.alloc I1.out.size _) q).setCell (p := ⟨sb, 0, none⟩) ht _).setCell (p := ⟨ab, 0, none⟩) hl _
    · have := (((I2.out.alloc (.cells #[.int .i64 fn, .int .i64 fd] 23)).drewN q).far (p := ⟨sb, 0, none⟩) (by show ab ≠ sb; exact hlt) (.int .i64 (sm + C))).set_ 0 (.int .i64 ((ii : Int) - 1))
      simpa only [List.setIfInBounds_toArray, List.set_cons_zero] using this
    · have := (((I3.out.alloc (.cells #[.int .i64 fn, .int .i64 fd] 23)).drewN q).set_ 0 (.int .i64 (sm + C))).far (p := ⟨ab, 0, none⟩) (by show sb ≠ ab; exact hasb) (.int .i64 ((ii : Int) - 1))
      simpa only [List.setIfInBounds_toArray, List.set_cons_zero] using this
    · have n1' : k ≠ ab := by omega
      have n2' : k ≠ sb := by omega
      rw [Below.heap_setCell _ ⟨ab, 0, none⟩ _ _ n1', Below.heap_setCell _ ⟨sb, 0, none⟩ _ _ n2']
      exact Below.heap_alloc _ _ _ hk2

theorem per2_each (w0 : World) (ab sb eb B : Nat) (A1 : Option Addr) (n1 c1 N1 : Nat) (z : List Int) (hE : Blk w0 eb 62 #[.slice A1 n1 c1]) (hZ : Reads w0 N1 1 A1 n1 (z.map (.int .i64))) (hN1 : N1 ≤ w0.heap.size) (hzok : ∀ p ∈ z, errErr p = 0) (hn : n1 ≤ 12)
    (hl : w0.heap.size ≤ ab) (ht : w0.heap.size ≤ sb) (hlt : ab ≠ sb) (hlB : ab < B) (htB : sb < B) :
    EachN B 111 #[.pointer (some ⟨ab, 0, none⟩), .pointer (some ⟨sb, 0, none⟩), .pointer (some ⟨eb, 0, none⟩)] 12 (InvP w0 ab sb n1) (perStep z) where
  ent := fun _ _ => by kernel_rfl
  call := fun m s w f hm hB hi p1 p2 => per2_any w0 ab sb eb B A1 n1 c1 N1 z hE hZ hN1 hzok hn hl ht hlt hlB htB m s w f hm hB hi p1 p2
  keep := fun m s w w' hi hb => ⟨hi.low.trans (hb.mono (by omega)), hi.at_.below hb hlB, hi.sum.below hb htB, hi.ats, hi.pos, hi.most⟩

end Go.Proofs.Ytmioamcgbihhjaa
