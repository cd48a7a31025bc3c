import Derived.Test.YtnepjgnnppfibaaQ19
import Derived.Test.YtnepjgnnppfibaaQ3

section
/- The program's differences of zones and of neighbours. -/
namespace Go.Proofs.Ytnepjgnnppfibaa
open Go Go.RowKit Go.Shelf

attribute [local go_sem] Oper.semAt_some

/-- A block g of two cells is stored into, each cell once (operations s0, s1); all other blocks are as they were. -/
def UpG (T : TypeId) (g : Nat) (r0 r1 m0 m1 : Value) (s0 s1 : Nat) (W : World) (f : Nat → Bool) (w' : World) : Prop :=
  W.grownBy w' (some g) ∧ ∃ e0 e1, Blk w' g T #[e0, e1] ∧ (f s0 = false → e0 = r0) ∧ (f s0 = true → e0 = m0) ∧ (f s1 = false → e1 = r1) ∧ (f s1 = true → e1 = m1)
section
variable {T : TypeId} {g : Nat} {r0 r1 m0 m1 : Value} {s0 s1 k : Nat} {W w' w'' : World} {f : Nat → Bool}
theorem UpG.start (h : W.grownBy w' (some g)) (hg : Blk w' g T #[r0, r1]) (h0 : f s0 = false) (h1 : f s1 = false) : UpG T g r0 r1 m0 m1 s0 s1 W f w' :=
  ⟨h, r0, r1, hg, fun _ => rfl, fun e => (by rw [h0] at e; cases e), fun _ => rfl, fun e => (by rw [h1] at e; cases e)⟩
theorem UpG.same (h : UpG T g r0 r1 m0 m1 s0 s1 W f w') (k0 : k ≠ s0) (k1 : k ≠ s1) : UpG T g r0 r1 m0 m1 s0 s1 W (Fx.add f k) w' := by
  obtain ⟨h1, e0, e1, h2, a, b, c, d⟩ := h
  refine ⟨h1, e0, e1, h2, ?_, ?_, ?_, ?_⟩
  · rw [add_ne k0]; exact a
  · rw [add_ne k0]; exact b
  · rw [add_ne k1]; exact c
  · rw [add_ne k1]; exact d
theorem UpG.store0 (h : UpG T g r0 r1 m0 m1 s0 s1 W f w') (hne : s0 ≠ s1) : UpG T g r0 r1 m0 m1 s0 s1 W (Fx.add f s0) (w'.setCell ⟨g, 0, none⟩ m0) := by
  obtain ⟨h1, e0, e1, h2, a, b, c, d⟩ := h
  refine ⟨only_setCell h1 (p := ⟨g, 0, none⟩) (.inl rfl) _, m0, e1, by simpa using h2.set_ 0 m0, fun e => ?_, fun _ => rfl, ?_, ?_⟩
  · rw [add_eq] at e; cases e
  · rw [add_ne hne]; exact c
  · rw [add_ne hne]; exact d
theorem UpG.store1 (h : UpG T g r0 r1 m0 m1 s0 s1 W f w') (hne : s0 ≠ s1) : UpG T g r0 r1 m0 m1 s0 s1 W (Fx.add f s1) (w'.setCell ⟨g, 1, none⟩ m1) := by
  obtain ⟨h1, e0, e1, h2, a, b, c, d⟩ := h
  refine ⟨only_setCell h1 (p := ⟨g, 1, none⟩) (.inl rfl) _, e0, m1, by simpa using h2.set_ 1 m1, ?_, ?_, fun e => ?_, fun _ => rfl⟩
  · rw [add_ne (Ne.symm hne)]; exact a
  · rw [add_ne (Ne.symm hne)]; exact b
  · rw [add_eq] at e; cases e
theorem UpG.read0 (h : UpG T g r0 r1 m0 m1 s0 s1 W f w') (h0 : f s0 = false) : w'.cell? ⟨g, 0, none⟩ = some r0 ∧ w'.frozen? ⟨g, 0, none⟩ = false := by
  obtain ⟨h1, e0, e1, h2, a, b, c, d⟩ := h
  exact ⟨a h0 ▸ h2.cell 0, h2.frozen 0⟩
theorem UpG.read1 (h : UpG T g r0 r1 m0 m1 s0 s1 W f w') (h0 : f s1 = false) : w'.cell? ⟨g, 1, none⟩ = some r1 ∧ w'.frozen? ⟨g, 1, none⟩ = false := by
  obtain ⟨h1, e0, e1, h2, a, b, c, d⟩ := h
  exact ⟨c h0 ▸ h2.cell 1, h2.frozen 1⟩
theorem UpG.end_ (h : UpG T g r0 r1 m0 m1 s0 s1 W f w') (h0 : f s0 = true) (h1 : f s1 = true) : W.grownBy w' (some g) ∧ Blk w' g T #[m0, m1] := by
  obtain ⟨h1', e0, e1, h2, a, b, c, d⟩ := h
  exact ⟨h1', b h0 ▸ d h1 ▸ h2⟩
end
theorem cellG {W w' : World} {g : Nat} (h : W.grownBy w' (some g)) {p : Addr} (hl : p.block < W.heap.size) (hne : p.block ≠ g) : w'.cell? p = W.cell? p :=
  World.cell?_of_block (h.block _ hl (fun e => hne (Option.some.inj e)))
theorem keeps_grown {W w' : World} {g : Nat} (h : W.grownBy w' (some g)) {T : TypeId} {xs : Array Value} (hb : Blk W g T xs) (B : Nat) : KeepsFrom B W w' :=
  ⟨h.size, fun k o _ hk hc => by
    by_cases hkg : k = g
    · subst hkg
      have : o = .cells xs T (0, 0) := Option.some.inj (hk.symm.trans hb)
      rw [this] at hc
      exact absurd (show true = false from hc) (by decide)
    · exact (h.block k (Array.getElem?_eq_some_iff.1 hk).1 (fun e => hkg (Option.some.inj e))).trans hk⟩
theorem kpZ_grown {W w' : World} {g b : Nat} (h : W.grownBy w' (some g)) (hl : b < W.heap.size) (hne : b ≠ g) : KpZ b W w' := h.block b hl (fun e => hne (Option.some.inj e))

set_option maxRecDepth 100000 in
set_option maxHeartbeats 4000000 in
theorem peak_bad (A : Option Addr) (n c : Nat) (l : List (Int × Int)) (E : Int) (hE : enclErr l = E) (h0 : E ≠ 0) (w : World) (hx : Reads w w.heap.size 2 A n (cells2 l)) :
    Calls Try.prog 39 #[.slice A n c] w fun e w' => e = .returned (.tuple #[.agg #[.int .i64 0, .int .i64 0], .int .i64 E]) ∧ Below w.heap.size w w' := by
  have HX := Lib.hid hx
  have HE := Lib.hid hE
  have e1 : (E != 0) = true := by simpa using h0
  clear hx hE
  go_enter Try.func39, Try.ntmps39
  go_wp2_with fail
  generalize hwn : ((w.alloc (.cells #[.slice A n c] 36)).alloc (.cells #[.int .i64 (0), .int .i64 (0)] 50)) = w1
  have hbn : Below w.heap.size w w1 := by rw [← hwn]; repeat' (first | exact Below.refl _ _ | refine below_drewN ?_ _ | refine Below.drew ?_ | refine Below.alloc ?_ (by first | omega | (simp; done) | (simp; omega) | (simp [World.setCell]; omega)) _ | refine Below.setCell ?_ (by first | omega | (simp; done) | (simp; omega)) _)
  have HB1 := Lib.hid (show Below w.heap.size w w1 from hbn)
  have K0_1 := Lib.hid (show Blk w1 (w.heap.size) 36 #[.slice A n c] by rw [← hwn]; repeat' (first | exact Blk.at_ _ (by first | rfl | (simp; done) | (simp; omega)) _ _ | refine Blk.drewN ?_ _ | refine Blk.drew ?_ | refine Blk.alloc ?_ _ | refine Blk.far ?_ (by first | omega | (simp; done) | (simp; omega)) _ | assumption))
  have K1_1 := Lib.hid (show Blk w1 (w.heap.size + 1) 50 #[.int .i64 (0), .int .i64 (0)] by rw [← hwn]; repeat' (first | exact Blk.at_ _ (by first | rfl | (simp; done) | (simp; omega)) _ _ | refine Blk.drewN ?_ _ | refine Blk.drew ?_ | refine Blk.alloc ?_ _ | refine Blk.far ?_ (by first | omega | (simp; done) | (simp; omega)) _ | assumption))
  have HN1 := Lib.hid hbn
  have hz1 := hbn.size
  clear hwn hbn
  have l0_1 : w.heap.size < w1.heap.size := K0_1.out.lt
  have z0_0_1 : w1.cell? ⟨w.heap.size, 0, none⟩ = some (.slice A n c) := K0_1.out.cell 0
  have l1_1 : w.heap.size + 1 < w1.heap.size := K1_1.out.lt
  have z1_0_1 : w1.cell? ⟨w.heap.size + 1, 0, none⟩ = some (.int .i64 (0)) := K1_1.out.cell 0
  have z1_1_1 : w1.cell? ⟨w.heap.size + 1, 1, none⟩ = some (.int .i64 (0)) := K1_1.out.cell 1
  refine (encl_is A n c l E HE.out _ ((HX.out.below HB1.out).more HB1.out.size)).mono ?_
  rintro e w2 ⟨rfl, hb⟩
  have HB2 := Lib.hid (show Below w.heap.size w w2 from step_below hb (by repeat' (first | exact Below.refl _ _ | exact HB1.out | refine below_drewN ?_ _ | refine Below.drew ?_ | refine Below.alloc ?_ (by first | omega | (simp; done) | (simp; omega) | (simp [World.setCell]; omega)) _ | refine Below.setCell ?_ (by first | omega | (simp; done) | (simp; omega)) _ | assumption)))
  have K0_2 := Lib.hid (step_blk hb (show Blk _ (w.heap.size) 36 #[.slice A n c] by repeat' (first | exact K0_1.out | exact K1_1.out | exact Blk.at_ _ (by first | rfl | (simp; done) | (simp; omega)) _ _ | refine Blk.drewN ?_ _ | refine Blk.drew ?_ | refine Blk.alloc ?_ _ | refine Blk.far ?_ (by first | omega | (simp; done) | (simp; omega)) _ | assumption)))
  have K1_2 := Lib.hid (step_blk hb (show Blk _ (w.heap.size + 1) 50 #[.int .i64 (0), .int .i64 (0)] by repeat' (first | exact K0_1.out | exact K1_1.out | exact Blk.at_ _ (by first | rfl | (simp; done) | (simp; omega)) _ _ | refine Blk.drewN ?_ _ | refine Blk.drew ?_ | refine Blk.alloc ?_ _ | refine Blk.far ?_ (by first | omega | (simp; done) | (simp; omega)) _ | assumption)))
  have hz2 := hb.size
  try simp only [World.size_alloc, World.drewN, World.drew] at hz2
  clear hb K0_1 K1_1 z0_0_1 l0_1 z1_0_1 z1_1_1 l1_1
  have l0_2 : w.heap.size < w2.heap.size := K0_2.out.lt
  have z0_0_2 : w2.cell? ⟨w.heap.size, 0, none⟩ = some (.slice A n c) := K0_2.out.cell 0
  have l1_2 : w.heap.size + 1 < w2.heap.size := K1_2.out.lt
  have z1_0_2 : w2.cell? ⟨w.heap.size + 1, 0, none⟩ = some (.int .i64 (0)) := K1_2.out.cell 0
  have z1_1_2 : w2.cell? ⟨w.heap.size + 1, 1, none⟩ = some (.int .i64 (0)) := K1_2.out.cell 1
  have zf1_0 := K1_2.out.frozen 0
  have zf1_1 := K1_2.out.frozen 1
  go_wp2
  exact bodyPost_ret (v := .tuple #[.agg #[.int .i64 0, .int .i64 0], .int .i64 E]) (by simp [results, Try.results39, go_sem, z1_0_2, z1_1_2, l1_2]) rfl ⟨rfl, by repeat' (first | exact Below.refl _ _ | exact HB2.out | refine below_drewN ?_ _ | refine Below.drew ?_ | refine Below.alloc ?_ (by first | omega | (simp; done) | (simp; omega) | (simp [World.setCell]; omega)) _ | refine Below.setCell ?_ (by first | omega | (simp; done) | (simp; omega)) _ | assumption)⟩

set_option maxRecDepth 100000 in
set_option maxHeartbeats 4000000 in
theorem slope_bad (A : Option Addr) (n c : Nat) (l : List (Int × Int)) (E : Int) (hE : enclErr l = E) (h0 : E ≠ 0) (w : World) (hx : Reads w w.heap.size 2 A n (cells2 l)) :
    Calls Try.prog 40 #[.slice A n c] w fun e w' => e = .returned (.tuple #[.agg #[.int .i64 0, .int .i64 0], .int .i64 E]) ∧ Below w.heap.size w w' := by
  have HX := Lib.hid hx
  have HE := Lib.hid hE
  have e1 : (E != 0) = true := by simpa using h0
  clear hx hE
  go_enter Try.func40, Try.ntmps40
  go_wp2_with fail
  generalize hwn : ((w.alloc (.cells #[.slice A n c] 36)).alloc (.cells #[.int .i64 (0), .int .i64 (0)] 50)) = w1
  have hbn : Below w.heap.size w w1 := by rw [← hwn]; repeat' (first | exact Below.refl _ _ | refine below_drewN ?_ _ | refine Below.drew ?_ | refine Below.alloc ?_ (by first | omega | (simp; done) | (simp; omega) | (simp [World.setCell]; omega)) _ | refine Below.setCell ?_ (by first | omega | (simp; done) | (simp; omega)) _)
  have HB1 := Lib.hid (show Below w.heap.size w w1 from hbn)
  have K0_1 := Lib.hid (show Blk w1 (w.heap.size) 36 #[.slice A n c] by rw [← hwn]; repeat' (first | exact Blk.at_ _ (by first | rfl | (simp; done) | (simp; omega)) _ _ | refine Blk.drewN ?_ _ | refine Blk.drew ?_ | refine Blk.alloc ?_ _ | refine Blk.far ?_ (by first | omega | (simp; done) | (simp; omega)) _ | assumption))
  have K1_1 := Lib.hid (show Blk w1 (w.heap.size + 1) 50 #[.int .i64 (0), .int .i64 (0)] by rw [← hwn]; repeat' (first | exact Blk.at_ _ (by first | rfl | (simp; done) | (simp; omega)) _ _ | refine Blk.drewN ?_ _ | refine Blk.drew ?_ | refine Blk.alloc ?_ _ | refine Blk.far ?_ (by first | omega | (simp; done) | (simp; omega)) _ | assumption))
  have HN1 := Lib.hid hbn
  have hz1 := hbn.size
  clear hwn hbn
  have l0_1 : w.heap.size < w1.heap.size := K0_1.out.lt
  have z0_0_1 : w1.cell? ⟨w.heap.size, 0, none⟩ = some (.slice A n c) := K0_1.out.cell 0
  have l1_1 : w.heap.size + 1 < w1.heap.size := K1_1.out.lt
  have z1_0_1 : w1.cell? ⟨w.heap.size + 1, 0, none⟩ = some (.int .i64 (0)) := K1_1.out.cell 0
  have z1_1_1 : w1.cell? ⟨w.heap.size + 1, 1, none⟩ = some (.int .i64 (0)) := K1_1.out.cell 1
  refine (encl_is A n c l E HE.out _ ((HX.out.below HB1.out).more HB1.out.size)).mono ?_
  rintro e w2 ⟨rfl, hb⟩
  have HB2 := Lib.hid (show Below w.heap.size w w2 from step_below hb (by repeat' (first | exact Below.refl _ _ | exact HB1.out | refine below_drewN ?_ _ | refine Below.drew ?_ | refine Below.alloc ?_ (by first | omega | (simp; done) | (simp; omega) | (simp [World.setCell]; omega)) _ | refine Below.setCell ?_ (by first | omega | (simp; done) | (simp; omega)) _ | assumption)))
  have K0_2 := Lib.hid (step_blk hb (show Blk _ (w.heap.size) 36 #[.slice A n c] by repeat' (first | exact K0_1.out | exact K1_1.out | exact Blk.at_ _ (by first | rfl | (simp; done) | (simp; omega)) _ _ | refine Blk.drewN ?_ _ | refine Blk.drew ?_ | refine Blk.alloc ?_ _ | refine Blk.far ?_ (by first | omega | (simp; done) | (simp; omega)) _ | assumption)))
  have K1_2 := Lib.hid (step_blk hb (show Blk _ (w.heap.size + 1) 50 #[.int .i64 (0), .int .i64 (0)] by repeat' (first | exact K0_1.out | exact K1_1.out | exact Blk.at_ _ (by first | rfl | (simp; done) | (simp; omega)) _ _ | refine Blk.drewN ?_ _ | refine Blk.drew ?_ | refine Blk.alloc ?_ _ | refine Blk.far ?_ (by first | omega | (simp; done) | (simp; omega)) _ | assumption)))
  have hz2 := hb.size
  try simp only [World.size_alloc, World.drewN, World.drew] at hz2
  clear hb K0_1 K1_1 z0_0_1 l0_1 z1_0_1 z1_1_1 l1_1
  have l0_2 : w.heap.size < w2.heap.size := K0_2.out.lt
  have z0_0_2 : w2.cell? ⟨w.heap.size, 0, none⟩ = some (.slice A n c) := K0_2.out.cell 0
  have l1_2 : w.heap.size + 1 < w2.heap.size := K1_2.out.lt
  have z1_0_2 : w2.cell? ⟨w.heap.size + 1, 0, none⟩ = some (.int .i64 (0)) := K1_2.out.cell 0
  have z1_1_2 : w2.cell? ⟨w.heap.size + 1, 1, none⟩ = some (.int .i64 (0)) := K1_2.out.cell 1
  have zf1_0 := K1_2.out.frozen 0
  have zf1_1 := K1_2.out.frozen 1
  go_wp2
  exact bodyPost_ret (v := .tuple #[.agg #[.int .i64 0, .int .i64 0], .int .i64 E]) (by simp [results, Try.results40, go_sem, z1_0_2, z1_1_2, l1_2]) rfl ⟨rfl, by repeat' (first | exact Below.refl _ _ | exact HB2.out | refine below_drewN ?_ _ | refine Below.drew ?_ | refine Below.alloc ?_ (by first | omega | (simp; done) | (simp; omega) | (simp [World.setCell]; omega)) _ | refine Below.setCell ?_ (by first | omega | (simp; done) | (simp; omega)) _ | assumption)⟩

set_option maxRecDepth 100000 in
set_option maxHeartbeats 4000000 in
theorem peak_ok (A : Option Addr) (n c : Nat) (l : List (Int × Int)) (hE : enclErr l = 0) (u v : Int) (hv : pkF l (pairsL n) = (u, v)) (w : World) (hx : Reads w w.heap.size 2 A n (cells2 l)) :
    Calls Try.prog 39 #[.slice A n c] w fun e w' => e = .returned (.tuple #[.agg #[.int .i64 u, .int .i64 v], .int .i64 0]) ∧ Below w.heap.size w w' := by
  have hl := hx.len2
  obtain ⟨n1, n2, hr⟩ := encl_ok hE
  rw [hl] at n1 n2
  have HX := Lib.hid hx
  have HV := Lib.hid hv
  have HL := Lib.hid hl
  have HRG := Lib.hid hr
  have HE := Lib.hid hE
  clear hx hE hv hl hr
  refine callsIn_wide.1 (callsIn_of_wp_marks (n := 10) Try.func39 rfl trivial (wpIn_wide.2 ?_) rfl)
  simp only [Try.ntmps39, List.size_toArray, List.length_cons, List.length_nil, Nat.reduceAdd, Nat.reduceSub, Array.replicate_succ, Array.replicate_zero, List.push_toArray, List.append_toArray, List.nil_append, List.cons_append]
  go_wp2_with fail
  generalize hwn : ((w.alloc (.cells #[.slice A n c] 36)).alloc (.cells #[.int .i64 (0), .int .i64 (0)] 50)) = w1
  have hbn : Below w.heap.size w w1 := by rw [← hwn]; repeat' (first | exact Below.refl _ _ | refine below_drewN ?_ _ | refine Below.drew ?_ | refine Below.alloc ?_ (by first | omega | (simp; done) | (simp; omega) | (simp [World.setCell]; omega)) _ | refine Below.setCell ?_ (by first | omega | (simp; done) | (simp; omega)) _)
  have HB1 := Lib.hid (show Below w.heap.size w w1 from hbn)
  have K0_1 := Lib.hid (show Blk w1 (w.heap.size) 36 #[.slice A n c] by rw [← hwn]; repeat' (first | exact Blk.at_ _ (by first | rfl | (simp; done) | (simp; omega)) _ _ | refine Blk.drewN ?_ _ | refine Blk.drew ?_ | refine Blk.alloc ?_ _ | refine Blk.far ?_ (by first | omega | (simp; done) | (simp; omega)) _ | assumption))
  have K1_1 := Lib.hid (show Blk w1 (w.heap.size + 1) 50 #[.int .i64 (0), .int .i64 (0)] by rw [← hwn]; repeat' (first | exact Blk.at_ _ (by first | rfl | (simp; done) | (simp; omega)) _ _ | refine Blk.drewN ?_ _ | refine Blk.drew ?_ | refine Blk.alloc ?_ _ | refine Blk.far ?_ (by first | omega | (simp; done) | (simp; omega)) _ | assumption))
  have HN1 := Lib.hid hbn
  have hz1 := hbn.size
  clear hwn hbn
  have l0_1 : w.heap.size < w1.heap.size := K0_1.out.lt
  have z0_0_1 : w1.cell? ⟨w.heap.size, 0, none⟩ = some (.slice A n c) := K0_1.out.cell 0
  have l1_1 : w.heap.size + 1 < w1.heap.size := K1_1.out.lt
  have z1_0_1 : w1.cell? ⟨w.heap.size + 1, 0, none⟩ = some (.int .i64 (0)) := K1_1.out.cell 0
  have z1_1_1 : w1.cell? ⟨w.heap.size + 1, 1, none⟩ = some (.int .i64 (0)) := K1_1.out.cell 1
  refine (encl_is A n c l 0 HE.out _ ((HX.out.below HB1.out).more HB1.out.size)).mono ?_
  rintro e w2 ⟨rfl, hb⟩
  have HB2 := Lib.hid (show Below w.heap.size w w2 from step_below hb (by repeat' (first | exact Below.refl _ _ | exact HB1.out | refine below_drewN ?_ _ | refine Below.drew ?_ | refine Below.alloc ?_ (by first | omega | (simp; done) | (simp; omega) | (simp [World.setCell]; omega)) _ | refine Below.setCell ?_ (by first | omega | (simp; done) | (simp; omega)) _ | assumption)))
  have K0_2 := Lib.hid (step_blk hb (show Blk _ (w.heap.size) 36 #[.slice A n c] by repeat' (first | exact K0_1.out | exact K1_1.out | exact Blk.at_ _ (by first | rfl | (simp; done) | (simp; omega)) _ _ | refine Blk.drewN ?_ _ | refine Blk.drew ?_ | refine Blk.alloc ?_ _ | refine Blk.far ?_ (by first | omega | (simp; done) | (simp; omega)) _ | assumption)))
  have K1_2 := Lib.hid (step_blk hb (show Blk _ (w.heap.size + 1) 50 #[.int .i64 (0), .int .i64 (0)] by repeat' (first | exact K0_1.out | exact K1_1.out | exact Blk.at_ _ (by first | rfl | (simp; done) | (simp; omega)) _ _ | refine Blk.drewN ?_ _ | refine Blk.drew ?_ | refine Blk.alloc ?_ _ | refine Blk.far ?_ (by first | omega | (simp; done) | (simp; omega)) _ | assumption)))
  have hz2 := hb.size
  try simp only [World.size_alloc, World.drewN, World.drew] at hz2
  clear hb K0_1 K1_1 z0_0_1 l0_1 z1_0_1 z1_1_1 l1_1
  have l0_2 : w.heap.size < w2.heap.size := K0_2.out.lt
  have z0_0_2 : w2.cell? ⟨w.heap.size, 0, none⟩ = some (.slice A n c) := K0_2.out.cell 0
  have l1_2 : w.heap.size + 1 < w2.heap.size := K1_2.out.lt
  have z1_0_2 : w2.cell? ⟨w.heap.size + 1, 0, none⟩ = some (.int .i64 (0)) := K1_2.out.cell 0
  have z1_1_2 : w2.cell? ⟨w.heap.size + 1, 1, none⟩ = some (.int .i64 (0)) := K1_2.out.cell 1
  have hbo2 : w.heap.size + 1 < w2.heap.size := l1_2
  go_wp2_with fail
  generalize hwn : (w2.alloc (.cells #[.int .i64 (0), .int .i64 (0)] 50)) = w3
  have hbn : Below w2.heap.size w2 w3 := by rw [← hwn]; repeat' (first | exact Below.refl _ _ | refine below_drewN ?_ _ | refine Below.drew ?_ | refine Below.alloc ?_ (by first | omega | (simp; done) | (simp; omega) | (simp [World.setCell]; omega)) _ | refine Below.setCell ?_ (by first | omega | (simp; done) | (simp; omega)) _)
  have HB3 := Lib.hid (show Below w.heap.size w w3 from HB2.out.trans (hbn.mono HB2.out.size))
  have K0_3 := Lib.hid (step_blk hbn K0_2.out)
  have K1_3 := Lib.hid (step_blk hbn K1_2.out)
  have K2_3 := Lib.hid (show Blk w3 (w2.heap.size) 50 #[.int .i64 (0), .int .i64 (0)] by rw [← hwn]; repeat' (first | exact Blk.at_ _ (by first | rfl | (simp; done) | (simp; omega)) _ _ | refine Blk.drewN ?_ _ | refine Blk.drew ?_ | refine Blk.alloc ?_ _ | refine Blk.far ?_ (by first | omega | (simp; done) | (simp; omega)) _ | assumption))
  have HN3 := Lib.hid hbn
  have hz3 := hbn.size
  clear hwn hbn K0_2 l0_2 z0_0_2 K1_2 l1_2 z1_0_2 z1_1_2
  have l0_3 : w.heap.size < w3.heap.size := K0_3.out.lt
  have z0_0_3 : w3.cell? ⟨w.heap.size, 0, none⟩ = some (.slice A n c) := K0_3.out.cell 0
  have l1_3 : w.heap.size + 1 < w3.heap.size := K1_3.out.lt
  have z1_0_3 : w3.cell? ⟨w.heap.size + 1, 0, none⟩ = some (.int .i64 (0)) := K1_3.out.cell 0
  have z1_1_3 : w3.cell? ⟨w.heap.size + 1, 1, none⟩ = some (.int .i64 (0)) := K1_3.out.cell 1
  have l2_3 : w2.heap.size < w3.heap.size := K2_3.out.lt
  have z2_0_3 : w3.cell? ⟨w2.heap.size, 0, none⟩ = some (.int .i64 (0)) := K2_3.out.cell 0
  have z2_1_3 : w3.cell? ⟨w2.heap.size, 1, none⟩ = some (.int .i64 (0)) := K2_3.out.cell 1
  have hbz2 : w2.heap.size < w3.heap.size := l2_3
  refine (pairs_any _ _).mono ?_
  rintro e w4 ⟨rfl, hw4⟩
  subst hw4
  generalize hwn : (w3.alloc (.cells #[.int .i64 ((n : Int))] 3)) = w4
  have hbn : Below w3.heap.size w3 w4 := by rw [← hwn]; repeat' (first | exact Below.refl _ _ | refine below_drewN ?_ _ | refine Below.drew ?_ | refine Below.alloc ?_ (by first | omega | (simp; done) | (simp; omega) | (simp [World.setCell]; omega)) _ | refine Below.setCell ?_ (by first | omega | (simp; done) | (simp; omega)) _)
  have HB4 := Lib.hid (show Below w.heap.size w w4 from HB3.out.trans (hbn.mono HB3.out.size))
  have K0_4 := Lib.hid (step_blk hbn K0_3.out)
  have K1_4 := Lib.hid (step_blk hbn K1_3.out)
  have K2_4 := Lib.hid (step_blk hbn K2_3.out)
  have K3_4 := Lib.hid (show Blk w4 (w3.heap.size) 3 #[.int .i64 ((n : Int))] by rw [← hwn]; repeat' (first | exact Blk.at_ _ (by first | rfl | (simp; done) | (simp; omega)) _ _ | refine Blk.drewN ?_ _ | refine Blk.drew ?_ | refine Blk.alloc ?_ _ | refine Blk.far ?_ (by first | omega | (simp; done) | (simp; omega)) _ | assumption))
  have HN4 := Lib.hid hbn
  have hz4 := hbn.size
  clear hwn hbn K0_3 l0_3 z0_0_3 K1_3 l1_3 z1_0_3 z1_1_3 K2_3 l2_3 z2_0_3 z2_1_3
  have l0_4 : w.heap.size < w4.heap.size := K0_4.out.lt
  have z0_0_4 : w4.cell? ⟨w.heap.size, 0, none⟩ = some (.slice A n c) := K0_4.out.cell 0
  have l1_4 : w.heap.size + 1 < w4.heap.size := K1_4.out.lt
  have z1_0_4 : w4.cell? ⟨w.heap.size + 1, 0, none⟩ = some (.int .i64 (0)) := K1_4.out.cell 0
  have z1_1_4 : w4.cell? ⟨w.heap.size + 1, 1, none⟩ = some (.int .i64 (0)) := K1_4.out.cell 1
  have l2_4 : w2.heap.size < w4.heap.size := K2_4.out.lt
  have z2_0_4 : w4.cell? ⟨w2.heap.size, 0, none⟩ = some (.int .i64 (0)) := K2_4.out.cell 0
  have z2_1_4 : w4.cell? ⟨w2.heap.size, 1, none⟩ = some (.int .i64 (0)) := K2_4.out.cell 1
  have l3_4 : w3.heap.size < w4.heap.size := K3_4.out.lt
  have z3_0_4 : w4.cell? ⟨w3.heap.size, 0, none⟩ = some (.int .i64 ((n : Int))) := K3_4.out.cell 0
  have hs4 := HB4.out.size
  obtain ⟨bo, hbo⟩ : ∃ b, w2.heap.size = b := ⟨_, rfl⟩
  obtain ⟨Bz, hBz⟩ : ∃ b, w3.heap.size = b := ⟨_, rfl⟩
  have HBO := Lib.hid hbo
  have HBZ := Lib.hid hBz
  rw [hbo] at hbo2 hbz2
  rw [hBz] at hbz2
  have l4o : bo < w4.heap.size := by rw [← hbo]; exact l2_4
  have l4z : Bz < w4.heap.size := by rw [← hBz]; exact l3_4
  have z4z : w4.cell? ⟨Bz, 0, none⟩ = some (.int .i64 (n : Int)) := by rw [← hBz]; exact z3_0_4
  have KO := Lib.hid (show Blk w4 bo 50 #[.int .i64 0, .int .i64 0] by rw [← hbo]; exact K2_4.out)
  clear hbo hBz z2_0_4 z2_1_4 z3_0_4 l2_4 l3_4
  rw [HBO.out, HBZ.out]
  go_wp2_with fail
  refine (wpIn_wide (n := 10)).1 ?_
  refine wpIn_rangeFunc_ownG (F := Fence.wide) rfl (by decide) (gf := 119) (lb := #[.pointer (some ⟨Bz, 0, none⟩)]) rfl trivial (enters_of Try.func119 (by kernel_rfl) rfl)
    (pairs_stops n (by omega) Bz 9 w4 l4z z4z)
    kpZ_t (kpZ_b l4z) (Below.refl _ _) (fun _ => rfl)
    (fun (pre : List (Pr n)) W => (w4.grownBy W (some bo)) ∧ W.heap[bo]? = some (.cells #[.int .i64 (pkF l (prs pre)).1, .int .i64 (pkF l (prs pre)).2] 50 (0, 0)))
    (fun cd (pre : List (Pr n)) W => ((cd = .ret ∧ False) ∧ Below w.heap.size w4 W))
    (OwnFrom.and (Fx.ownFrom_grown (Nat.le_refl _)) Fx.ownFrom_cells)
    (fun cd => OwnFrom.and (ownFrom_pure _ _) (ownFrom_below (by omega) (by omega)))
    ⟨World.grownBy.refl _ _, by exact KO.out⟩
    (fun x => { tmps := #[.slice A n c, .pointer (some ⟨w.heap.size, 0, none⟩), .pointer (some ⟨w.heap.size + 1, 0, none⟩), .int .i64 0, .int .i64 0, .pointer (some ⟨bo, 0, none⟩), .int .i64 (x.1.1 : Int), .int .i64 (x.1.2 : Int), .slice A n c, .int .i64 0, .int .i64 0, .bool false, undef, undef, .slice A n c, .int .i64 (n : Int), .func (.func 119) #[] #[.pointer (some ⟨Bz, 0, none⟩)], .int .i64 (x.1.1 : Int), .int .i64 (x.1.2 : Int)] ++ Array.replicate 31 undef, defers := [] }) ?assign ?body ?done ?stop
  case assign =>
    intro l' x W K hK
    unfold encP
    simp only [Array.replicate_succ, Array.replicate_zero, List.push_toArray, List.append_toArray, List.nil_append, List.cons_append] at hK
    gi_wp2
    exact hK
  case body =>
    rintro l' pre ⟨⟨i0, k0⟩, hi, hk, hne⟩ W ⟨hgr, hout⟩ hlt
    simp only [Array.replicate_succ, Array.replicate_zero, List.push_toArray, List.append_toArray, List.nil_append, List.cons_append]
    have hne2 : ∀ {g : Nat}, g ≠ bo → some g ≠ some bo := fun h e => h (Option.some.inj e)
    have hB0 : Below w.heap.size w W := HB4.out.grown hgr (by omega) (fun g hg => by have := Option.some.inj hg; omega)
    have d0 := (K0_4.out.grown hgr (hne2 (by omega))).cell 0
    have hrd : Reads W w.heap.size 2 A n (cells2 l) := HX.out.below hB0
    obtain ⟨xb, xo, pi, hA, hxb, hpi, ci0, ci1⟩ := hrd.pair hi
    obtain ⟨yb, yo, pk, hA2, hyb, hpk, ck0, ck1⟩ := hrd.pair hk
    subst hA
    obtain ⟨rfl, rfl⟩ : xb = yb ∧ xo = yo := by simpa using hA2
    obtain ⟨pi1, pi2⟩ := pi
    obtain ⟨pk1, pk2⟩ := pk
    simp only at ci0 ci1 ck0 ck1
    have r1 := HRG.out _ (List.mem_of_getElem? hpi)
    have r2 := HRG.out _ (List.mem_of_getElem? hpk)
    simp only at r1 r2
    have hov : ovr l (i0, k0) = pi1 - pk2 := by unfold ovr; rw [getD_of hpi, getD_of hpk]
    have hwd : wid l (i0, k0) = pi2 - pk1 := by unfold wid; rw [getD_of hpi, getD_of hpk]
    have e1 := IntWalk.i64_in (pi1 - pk2) ⟨by omega, by omega⟩
    have e2 := IntWalk.i64_in (pi2 - pk1) ⟨by omega, by omega⟩
    obtain ⟨⟨a1, a2⟩, ha⟩ : ∃ a, pkF l (prs pre) = a := ⟨_, rfl⟩
    rw [ha] at hout
    simp only at hout
    have hko : Blk W bo 50 #[.int .i64 a1, .int .i64 a2] := hout
    have hii : (i0 : Int) < (n : Int) := by omega
    have hkk : (k0 : Int) < (n : Int) := by omega
    have HGR := Lib.hid hgr
    have HKO := Lib.hid hko
    have HA := Lib.hid ha
    have HOV := Lib.hid hov
    have HWD := Lib.hid hwd
    have lko : bo < W.heap.size := hko.lt
    have hlxb : xb < bo := by omega
    have hlsl : w.heap.size < W.heap.size := by omega
    have hnsl : w.heap.size ≠ bo := by omega
    have hlx2 : xb < W.heap.size := by omega
    have hnx2 : xb ≠ bo := by omega
    have hnz2 : Bz ≠ bo := by omega
    have hlz2 : Bz < W.heap.size := by have := hgr.size; omega
    clear hA2 hpi hpk hgr hout hko ha hov hwd hrd hB0
    obtain ⟨m0, hm0⟩ : ∃ z, (if a1 < pi1 - pk2 then pi1 - pk2 else a1) = z := ⟨_, rfl⟩
    obtain ⟨m1, hm1⟩ : ∃ z, (if a2 < pi2 - pk1 then pi2 - pk1 else a2) = z := ⟨_, rfl⟩
    have hnx : pkF l (prs pre ++ [(i0, k0)]) = (m0, m1) := by
      rw [pk_snoc, HA.out]
      unfold pkStep mx
      rw [HOV.out, HWD.out]
      simp only [hm0, hm1]
    have HNX := Lib.hid hnx
    have HM0 := Lib.hid hm0
    have HM1 := Lib.hid hm1
    clear hnx
    gi_wp2_with fail
    refine Fx.regionIn (fun f w' => UpG 50 (bo) (.int .i64 (a1)) (.int .i64 (a2)) (.int .i64 (m0)) (.int .i64 (m1)) 29 31 W f w') (by kernel_rfl) (by kernel_rfl) (by kernel_rfl) ?_ ?_
    · intro f hf0
      exact UpG.start (only_drewN (World.grownBy.refl _ _) 1) (Blk.drewN HKO.out 1) (hf0 29) (hf0 31)
    iterate 16 (first
      | (refine Fx.skip_ (by rfl) (fun f w h => h) ?_; simp only [Act.put, List.setIfInBounds_toArray, List.set_cons_zero, List.set_cons_succ])
      | (refine Fx.val_ ?_ (by rfl) ?_ (fun f w h => h) ?_
         rotate_left
         · intro f w' hD hk
           obtain ⟨hb, hrest⟩ := id hD
           have uq0 := (UpG.read0 hD (hk.2.1 29 (by kernel_rfl))).1
           have uq1 := (UpG.read1 hD (hk.2.1 31 (by kernel_rfl))).1
           have g0 := (cellG hb (p := ⟨w.heap.size, 0, none⟩) hlsl hnsl).trans d0
           have g1 := (cellG hb (p := ⟨xb, _, none⟩) hlx2 hnx2).trans ci0
           have g2 := (cellG hb (p := ⟨xb, _, none⟩) hlx2 hnx2).trans ci1
           have g3 := (cellG hb (p := ⟨xb, _, none⟩) hlx2 hnx2).trans ck0
           have g4 := (cellG hb (p := ⟨xb, _, none⟩) hlx2 hnx2).trans ck1
           clear hk hD hb hrest
           go_simp
           try rfl
         simp only [Act.put, List.setIfInBounds_toArray, List.set_cons_zero, List.set_cons_succ]))
    repeat (first
      | (refine Fx.skip_ (by rfl) (fun f w h => h) ?_; simp only [Act.put, List.setIfInBounds_toArray, List.set_cons_zero, List.set_cons_succ])
      | (refine Fx.val_ ?_ (by rfl) ?_ (fun f w h => h) ?_
         rotate_left
         · intro f w' hD hk
           obtain ⟨hb, hrest⟩ := id hD
           have g0 := (cellG hb (p := ⟨w.heap.size, 0, none⟩) hlsl hnsl).trans d0
           have g1 := (cellG hb (p := ⟨xb, _, none⟩) hlx2 hnx2).trans ci0
           have g2 := (cellG hb (p := ⟨xb, _, none⟩) hlx2 hnx2).trans ci1
           have g3 := (cellG hb (p := ⟨xb, _, none⟩) hlx2 hnx2).trans ck0
           have g4 := (cellG hb (p := ⟨xb, _, none⟩) hlx2 hnx2).trans ck1
           clear hk hD hb hrest
           go_simp
           try rfl
         simp only [Act.put, List.setIfInBounds_toArray, List.set_cons_zero, List.set_cons_succ]))
    refine Fx.store_ (fun w' => w'.setCell ⟨bo, 0, none⟩ (.int .i64 (m0))) (by rfl) ?_ ?_ ?_
    · intro f w' hD hk
      obtain ⟨hb, hrest⟩ := id hD
      obtain ⟨uq0, uq1⟩ := UpG.read0 hD hk.1
      clear hb hrest
      clear hk hD
      go_simp
    · intro f w' hD hk
      obtain ⟨hb, hrest⟩ := id hD
      obtain ⟨uq0, uq1⟩ := UpG.read0 hD hk.1
      clear hb hrest
      exact hD.store0 (by decide)
    simp only [Act.put, List.setIfInBounds_toArray, List.set_cons_zero, List.set_cons_succ]
    repeat (first
      | (refine Fx.skip_ (by rfl) (fun f w h => h) ?_; simp only [Act.put, List.setIfInBounds_toArray, List.set_cons_zero, List.set_cons_succ])
      | (refine Fx.val_ ?_ (by rfl) ?_ (fun f w h => h) ?_
         rotate_left
         · intro f w' hD hk
           obtain ⟨hb, hrest⟩ := id hD
           have g0 := (cellG hb (p := ⟨w.heap.size, 0, none⟩) hlsl hnsl).trans d0
           have g1 := (cellG hb (p := ⟨xb, _, none⟩) hlx2 hnx2).trans ci0
           have g2 := (cellG hb (p := ⟨xb, _, none⟩) hlx2 hnx2).trans ci1
           have g3 := (cellG hb (p := ⟨xb, _, none⟩) hlx2 hnx2).trans ck0
           have g4 := (cellG hb (p := ⟨xb, _, none⟩) hlx2 hnx2).trans ck1
           clear hk hD hb hrest
           go_simp
           try rfl
         simp only [Act.put, List.setIfInBounds_toArray, List.set_cons_zero, List.set_cons_succ]))
    refine Fx.store_ (fun w' => w'.setCell ⟨bo, 1, none⟩ (.int .i64 (m1))) (by rfl) ?_ ?_ ?_
    · intro f w' hD hk
      obtain ⟨hb, hrest⟩ := id hD
      obtain ⟨uq0, uq1⟩ := UpG.read1 hD hk.1
      clear hb hrest
      clear hk hD
      go_simp
    · intro f w' hD hk
      obtain ⟨hb, hrest⟩ := id hD
      obtain ⟨uq0, uq1⟩ := UpG.read1 hD hk.1
      clear hb hrest
      exact hD.store1 (by decide)
    simp only [Act.put, List.setIfInBounds_toArray, List.set_cons_zero, List.set_cons_succ]
    refine Fx.nil_ ?_
    intro f W2 hall hD
    obtain ⟨hb, hblk⟩ := UpG.end_ hD (hall 29 (by simp)) (hall 31 (by simp))
    clear hall hD
    gi_wp2_with fail
    refine ⟨keeps_grown hb HKO.out _, kpZ_grown hb hlz2 hnz2, ⟨HGR.out.trans hb, ?_⟩⟩
    rw [prs_snoc, HNX.out]
    exact hblk
  case stop =>
    rintro D cd pre W hD hsp ⟨⟨-, hf⟩, -⟩ hK
    exact hf.elim
  case done =>
    rintro D ys W hD hys ⟨hgr, hout⟩ hK
    rw [hys, HV.out] at hout
    simp only at hout
    have hne2 : ∀ {g : Nat}, g ≠ bo → some g ≠ some bo := fun h e => h (Option.some.inj e)
    have hmk : Fx.MarksAt w4.heap.size [D] W := (Fx.MarksAt.nil _ W).cons hD hK (by simp)
    have k1 := K1_4.out.grown hgr (hne2 (by omega))
    have ko : Blk W bo 50 #[.int .i64 u, .int .i64 v] := hout
    have y0 := ko.cell 0
    have y1 := ko.cell 1
    have q10 := k1.cell 0
    have q11 := k1.cell 1
    have f10 := k1.frozen 0
    have k1b := k1.set_ 0 (.int .i64 u)
    have f11 := k1b.frozen 1
    have q12 := k1b.cell 1
    simp only [List.setIfInBounds_toArray, List.set_cons_zero, List.set_cons_succ] at q12
    have HK1 := Lib.hid (k1b.set_ 1 (.int .i64 v))
    have HGR := Lib.hid hgr
    have HMK := Lib.hid hmk
    clear k1 k1b hgr hout hmk hys hK ko
    go_wp2_with fail
    refine Fx.leaves_marks [D] _ (marks_set (marks_set HMK.out (p := ⟨w.heap.size + 1, 0, none⟩) (by show w.heap.size + 1 < _; omega) _) (p := ⟨w.heap.size + 1, 1, none⟩) (by show w.heap.size + 1 < _; omega) _) fun w' q1 q2 q3 q4 q5 => ?_
    have b2 := leave_blk HK1.out (by omega) q1
    have y20 := b2.cell 0
    have y21 := b2.cell 1
    simp only [List.setIfInBounds_toArray, List.set_cons_zero, List.set_cons_succ] at y20 y21
    have l2 := b2.lt
    have hB0 : Below w.heap.size w W := HB4.out.grown HGR.out (by omega) (fun g hg => by have := Option.some.inj hg; omega)
    have hB1 := (hB0.setCell (p := ⟨w.heap.size + 1, 0, none⟩) (by show _ ≤ w.heap.size + 1; omega) (.int .i64 u)).setCell (p := ⟨w.heap.size + 1, 1, none⟩) (by show _ ≤ w.heap.size + 1; omega) (.int .i64 v)
    exact ⟨.tuple #[.agg #[.int .i64 u, .int .i64 v], .int .i64 0], by simp [results, Try.results39, go_sem, y20, y21, l2], rfl, leave_below hB1 (by omega) (Nat.le_refl _) q1 q2 q3 q4 q5⟩

set_option maxRecDepth 100000 in
set_option maxHeartbeats 4000000 in
theorem slope_ok (A : Option Addr) (n c : Nat) (l : List (Int × Int)) (hE : enclErr l = 0) (u v : Int) (hv : slF l (pairsL n) = (u, v)) (w : World) (hx : Reads w w.heap.size 2 A n (cells2 l)) :
    Calls Try.prog 40 #[.slice A n c] w fun e w' => e = .returned (.tuple #[.agg #[.int .i64 u, .int .i64 v], .int .i64 0]) ∧ Below w.heap.size w w' := by
  have hl := hx.len2
  obtain ⟨n1, n2, hr⟩ := encl_ok hE
  rw [hl] at n1 n2
  have HX := Lib.hid hx
  have HV := Lib.hid hv
  have HL := Lib.hid hl
  have HRG := Lib.hid hr
  have HE := Lib.hid hE
  clear hx hE hv hl hr
  refine callsIn_wide.1 (callsIn_of_wp_marks (n := 10) Try.func40 rfl trivial (wpIn_wide.2 ?_) rfl)
  simp only [Try.ntmps40, List.size_toArray, List.length_cons, List.length_nil, Nat.reduceAdd, Nat.reduceSub, Array.replicate_succ, Array.replicate_zero, List.push_toArray, List.append_toArray, List.nil_append, List.cons_append]
  go_wp2_with fail
  generalize hwn : ((w.alloc (.cells #[.slice A n c] 36)).alloc (.cells #[.int .i64 (0), .int .i64 (0)] 50)) = w1
  have hbn : Below w.heap.size w w1 := by rw [← hwn]; repeat' (first | exact Below.refl _ _ | refine below_drewN ?_ _ | refine Below.drew ?_ | refine Below.alloc ?_ (by first | omega | (simp; done) | (simp; omega) | (simp [World.setCell]; omega)) _ | refine Below.setCell ?_ (by first | omega | (simp; done) | (simp; omega)) _)
  have HB1 := Lib.hid (show Below w.heap.size w w1 from hbn)
  have K0_1 := Lib.hid (show Blk w1 (w.heap.size) 36 #[.slice A n c] by rw [← hwn]; repeat' (first | exact Blk.at_ _ (by first | rfl | (simp; done) | (simp; omega)) _ _ | refine Blk.drewN ?_ _ | refine Blk.drew ?_ | refine Blk.alloc ?_ _ | refine Blk.far ?_ (by first | omega | (simp; done) | (simp; omega)) _ | assumption))
  have K1_1 := Lib.hid (show Blk w1 (w.heap.size + 1) 50 #[.int .i64 (0), .int .i64 (0)] by rw [← hwn]; repeat' (first | exact Blk.at_ _ (by first | rfl | (simp; done) | (simp; omega)) _ _ | refine Blk.drewN ?_ _ | refine Blk.drew ?_ | refine Blk.alloc ?_ _ | refine Blk.far ?_ (by first | omega | (simp; done) | (simp; omega)) _ | assumption))
  have HN1 := Lib.hid hbn
  have hz1 := hbn.size
  clear hwn hbn
  have l0_1 : w.heap.size < w1.heap.size := K0_1.out.lt
  have z0_0_1 : w1.cell? ⟨w.heap.size, 0, none⟩ = some (.slice A n c) := K0_1.out.cell 0
  have l1_1 : w.heap.size + 1 < w1.heap.size := K1_1.out.lt
  have z1_0_1 : w1.cell? ⟨w.heap.size + 1, 0, none⟩ = some (.int .i64 (0)) := K1_1.out.cell 0
  have z1_1_1 : w1.cell? ⟨w.heap.size + 1, 1, none⟩ = some (.int .i64 (0)) := K1_1.out.cell 1
  refine (encl_is A n c l 0 HE.out _ ((HX.out.below HB1.out).more HB1.out.size)).mono ?_
  rintro e w2 ⟨rfl, hb⟩
  have HB2 := Lib.hid (show Below w.heap.size w w2 from step_below hb (by repeat' (first | exact Below.refl _ _ | exact HB1.out | refine below_drewN ?_ _ | refine Below.drew ?_ | refine Below.alloc ?_ (by first | omega | (simp; done) | (simp; omega) | (simp [World.setCell]; omega)) _ | refine Below.setCell ?_ (by first | omega | (simp; done) | (simp; omega)) _ | assumption)))
  have K0_2 := Lib.hid (step_blk hb (show Blk _ (w.heap.size) 36 #[.slice A n c] by repeat' (first | exact K0_1.out | exact K1_1.out | exact Blk.at_ _ (by first | rfl | (simp; done) | (simp; omega)) _ _ | refine Blk.drewN ?_ _ | refine Blk.drew ?_ | refine Blk.alloc ?_ _ | refine Blk.far ?_ (by first | omega | (simp; done) | (simp; omega)) _ | assumption)))
  have K1_2 := Lib.hid (step_blk hb (show Blk _ (w.heap.size + 1) 50 #[.int .i64 (0), .int .i64 (0)] by repeat' (first | exact K0_1.out | exact K1_1.out | exact Blk.at_ _ (by first | rfl | (simp; done) | (simp; omega)) _ _ | refine Blk.drewN ?_ _ | refine Blk.drew ?_ | refine Blk.alloc ?_ _ | refine Blk.far ?_ (by first | omega | (simp; done) | (simp; omega)) _ | assumption)))
  have hz2 := hb.size
  try simp only [World.size_alloc, World.drewN, World.drew] at hz2
  clear hb K0_1 K1_1 z0_0_1 l0_1 z1_0_1 z1_1_1 l1_1
  have l0_2 : w.heap.size < w2.heap.size := K0_2.out.lt
  have z0_0_2 : w2.cell? ⟨w.heap.size, 0, none⟩ = some (.slice A n c) := K0_2.out.cell 0
  have l1_2 : w.heap.size + 1 < w2.heap.size := K1_2.out.lt
  have z1_0_2 : w2.cell? ⟨w.heap.size + 1, 0, none⟩ = some (.int .i64 (0)) := K1_2.out.cell 0
  have z1_1_2 : w2.cell? ⟨w.heap.size + 1, 1, none⟩ = some (.int .i64 (0)) := K1_2.out.cell 1
  have hbo2 : w.heap.size + 1 < w2.heap.size := l1_2
  go_wp2_with fail
  generalize hwn : (w2.alloc (.cells #[.int .i64 (0), .int .i64 (0)] 50)) = w3
  have hbn : Below w2.heap.size w2 w3 := by rw [← hwn]; repeat' (first | exact Below.refl _ _ | refine below_drewN ?_ _ | refine Below.drew ?_ | refine Below.alloc ?_ (by first | omega | (simp; done) | (simp; omega) | (simp [World.setCell]; omega)) _ | refine Below.setCell ?_ (by first | omega | (simp; done) | (simp; omega)) _)
  have HB3 := Lib.hid (show Below w.heap.size w w3 from HB2.out.trans (hbn.mono HB2.out.size))
  have K0_3 := Lib.hid (step_blk hbn K0_2.out)
  have K1_3 := Lib.hid (step_blk hbn K1_2.out)
  have K2_3 := Lib.hid (show Blk w3 (w2.heap.size) 50 #[.int .i64 (0), .int .i64 (0)] by rw [← hwn]; repeat' (first | exact Blk.at_ _ (by first | rfl | (simp; done) | (simp; omega)) _ _ | refine Blk.drewN ?_ _ | refine Blk.drew ?_ | refine Blk.alloc ?_ _ | refine Blk.far ?_ (by first | omega | (simp; done) | (simp; omega)) _ | assumption))
  have HN3 := Lib.hid hbn
  have hz3 := hbn.size
  clear hwn hbn K0_2 l0_2 z0_0_2 K1_2 l1_2 z1_0_2 z1_1_2
  have l0_3 : w.heap.size < w3.heap.size := K0_3.out.lt
  have z0_0_3 : w3.cell? ⟨w.heap.size, 0, none⟩ = some (.slice A n c) := K0_3.out.cell 0
  have l1_3 : w.heap.size + 1 < w3.heap.size := K1_3.out.lt
  have z1_0_3 : w3.cell? ⟨w.heap.size + 1, 0, none⟩ = some (.int .i64 (0)) := K1_3.out.cell 0
  have z1_1_3 : w3.cell? ⟨w.heap.size + 1, 1, none⟩ = some (.int .i64 (0)) := K1_3.out.cell 1
  have l2_3 : w2.heap.size < w3.heap.size := K2_3.out.lt
  have z2_0_3 : w3.cell? ⟨w2.heap.size, 0, none⟩ = some (.int .i64 (0)) := K2_3.out.cell 0
  have z2_1_3 : w3.cell? ⟨w2.heap.size, 1, none⟩ = some (.int .i64 (0)) := K2_3.out.cell 1
  have hbz2 : w2.heap.size < w3.heap.size := l2_3
  refine (pairs_any _ _).mono ?_
  rintro e w4 ⟨rfl, hw4⟩
  subst hw4
  generalize hwn : (w3.alloc (.cells #[.int .i64 ((n : Int))] 3)) = w4
  have hbn : Below w3.heap.size w3 w4 := by rw [← hwn]; repeat' (first | exact Below.refl _ _ | refine below_drewN ?_ _ | refine Below.drew ?_ | refine Below.alloc ?_ (by first | omega | (simp; done) | (simp; omega) | (simp [World.setCell]; omega)) _ | refine Below.setCell ?_ (by first | omega | (simp; done) | (simp; omega)) _)
  have HB4 := Lib.hid (show Below w.heap.size w w4 from HB3.out.trans (hbn.mono HB3.out.size))
  have K0_4 := Lib.hid (step_blk hbn K0_3.out)
  have K1_4 := Lib.hid (step_blk hbn K1_3.out)
  have K2_4 := Lib.hid (step_blk hbn K2_3.out)
  have K3_4 := Lib.hid (show Blk w4 (w3.heap.size) 3 #[.int .i64 ((n : Int))] by rw [← hwn]; repeat' (first | exact Blk.at_ _ (by first | rfl | (simp; done) | (simp; omega)) _ _ | refine Blk.drewN ?_ _ | refine Blk.drew ?_ | refine Blk.alloc ?_ _ | refine Blk.far ?_ (by first | omega | (simp; done) | (simp; omega)) _ | assumption))
  have HN4 := Lib.hid hbn
  have hz4 := hbn.size
  clear hwn hbn K0_3 l0_3 z0_0_3 K1_3 l1_3 z1_0_3 z1_1_3 K2_3 l2_3 z2_0_3 z2_1_3
  have l0_4 : w.heap.size < w4.heap.size := K0_4.out.lt
  have z0_0_4 : w4.cell? ⟨w.heap.size, 0, none⟩ = some (.slice A n c) := K0_4.out.cell 0
  have l1_4 : w.heap.size + 1 < w4.heap.size := K1_4.out.lt
  have z1_0_4 : w4.cell? ⟨w.heap.size + 1, 0, none⟩ = some (.int .i64 (0)) := K1_4.out.cell 0
  have z1_1_4 : w4.cell? ⟨w.heap.size + 1, 1, none⟩ = some (.int .i64 (0)) := K1_4.out.cell 1
  have l2_4 : w2.heap.size < w4.heap.size := K2_4.out.lt
  have z2_0_4 : w4.cell? ⟨w2.heap.size, 0, none⟩ = some (.int .i64 (0)) := K2_4.out.cell 0
  have z2_1_4 : w4.cell? ⟨w2.heap.size, 1, none⟩ = some (.int .i64 (0)) := K2_4.out.cell 1
  have l3_4 : w3.heap.size < w4.heap.size := K3_4.out.lt
  have z3_0_4 : w4.cell? ⟨w3.heap.size, 0, none⟩ = some (.int .i64 ((n : Int))) := K3_4.out.cell 0
  have hs4 := HB4.out.size
  obtain ⟨bo, hbo⟩ : ∃ b, w2.heap.size = b := ⟨_, rfl⟩
  obtain ⟨Bz, hBz⟩ : ∃ b, w3.heap.size = b := ⟨_, rfl⟩
  have HBO := Lib.hid hbo
  have HBZ := Lib.hid hBz
  rw [hbo] at hbo2 hbz2
  rw [hBz] at hbz2
  have l4o : bo < w4.heap.size := by rw [← hbo]; exact l2_4
  have l4z : Bz < w4.heap.size := by rw [← hBz]; exact l3_4
  have z4z : w4.cell? ⟨Bz, 0, none⟩ = some (.int .i64 (n : Int)) := by rw [← hBz]; exact z3_0_4
  have KO := Lib.hid (show Blk w4 bo 50 #[.int .i64 0, .int .i64 0] by rw [← hbo]; exact K2_4.out)
  clear hbo hBz z2_0_4 z2_1_4 z3_0_4 l2_4 l3_4
  rw [HBO.out, HBZ.out]
  go_wp2_with fail
  refine (wpIn_wide (n := 10)).1 ?_
  refine wpIn_rangeFunc_ownG (F := Fence.wide) rfl (by decide) (gf := 119) (lb := #[.pointer (some ⟨Bz, 0, none⟩)]) rfl trivial (enters_of Try.func119 (by kernel_rfl) rfl)
    (pairs_stops n (by omega) Bz 9 w4 l4z z4z)
    kpZ_t (kpZ_b l4z) (Below.refl _ _) (fun _ => rfl)
    (fun (pre : List (Pr n)) W => (w4.grownBy W (some bo)) ∧ W.heap[bo]? = some (.cells #[.int .i64 (slF l (prs pre)).1, .int .i64 (slF l (prs pre)).2] 50 (0, 0)))
    (fun cd (pre : List (Pr n)) W => ((cd = .ret ∧ False) ∧ Below w.heap.size w4 W))
    (OwnFrom.and (Fx.ownFrom_grown (Nat.le_refl _)) Fx.ownFrom_cells)
    (fun cd => OwnFrom.and (ownFrom_pure _ _) (ownFrom_below (by omega) (by omega)))
    ⟨World.grownBy.refl _ _, by exact KO.out⟩
    (fun x => { tmps := #[.slice A n c, .pointer (some ⟨w.heap.size, 0, none⟩), .pointer (some ⟨w.heap.size + 1, 0, none⟩), .int .i64 0, .int .i64 0, .pointer (some ⟨bo, 0, none⟩), .int .i64 (x.1.1 : Int), .int .i64 (x.1.2 : Int), undef, undef, .slice A n c, .int .i64 0, .int .i64 0, .bool false, undef, undef, .slice A n c, .int .i64 (n : Int), .func (.func 119) #[] #[.pointer (some ⟨Bz, 0, none⟩)], .int .i64 (x.1.1 : Int), .int .i64 (x.1.2 : Int)] ++ Array.replicate 45 undef, defers := [] }) ?assign ?body ?done ?stop
  case assign =>
    intro l' x W K hK
    unfold encP
    simp only [Array.replicate_succ, Array.replicate_zero, List.push_toArray, List.append_toArray, List.nil_append, List.cons_append] at hK
    gi_wp2
    exact hK
  case body =>
    rintro l' pre ⟨⟨i0, k0⟩, hi, hk, hne⟩ W ⟨hgr, hout⟩ hlt
    simp only [Array.replicate_succ, Array.replicate_zero, List.push_toArray, List.append_toArray, List.nil_append, List.cons_append]
    have hne2 : ∀ {g : Nat}, g ≠ bo → some g ≠ some bo := fun h e => h (Option.some.inj e)
    have hB0 : Below w.heap.size w W := HB4.out.grown hgr (by omega) (fun g hg => by have := Option.some.inj hg; omega)
    have d0 := (K0_4.out.grown hgr (hne2 (by omega))).cell 0
    have hrd : Reads W w.heap.size 2 A n (cells2 l) := HX.out.below hB0
    obtain ⟨xb, xo, pi, hA, hxb, hpi, ci0, ci1⟩ := hrd.pair hi
    obtain ⟨yb, yo, pk, hA2, hyb, hpk, ck0, ck1⟩ := hrd.pair hk
    subst hA
    obtain ⟨rfl, rfl⟩ : xb = yb ∧ xo = yo := by simpa using hA2
    obtain ⟨pi1, pi2⟩ := pi
    obtain ⟨pk1, pk2⟩ := pk
    simp only at ci0 ci1 ck0 ck1
    have r1 := HRG.out _ (List.mem_of_getElem? hpi)
    have r2 := HRG.out _ (List.mem_of_getElem? hpk)
    simp only at r1 r2
    have hov : ovr l (i0, k0) = pi1 - pk2 := by unfold ovr; rw [getD_of hpi, getD_of hpk]
    have hwd : wid l (i0, k0) = pi2 - pk1 := by unfold wid; rw [getD_of hpi, getD_of hpk]
    have e1 := IntWalk.i64_in (pi1 - pk2) ⟨by omega, by omega⟩
    have e2 := IntWalk.i64_in (pi2 - pk1) ⟨by omega, by omega⟩
    obtain ⟨⟨a1, a2⟩, ha⟩ : ∃ a, slF l (prs pre) = a := ⟨_, rfl⟩
    rw [ha] at hout
    simp only at hout
    have hko : Blk W bo 50 #[.int .i64 a1, .int .i64 a2] := hout
    have hii : (i0 : Int) < (n : Int) := by omega
    have hkk : (k0 : Int) < (n : Int) := by omega
    have HGR := Lib.hid hgr
    have HKO := Lib.hid hko
    have HA := Lib.hid ha
    have HOV := Lib.hid hov
    have HWD := Lib.hid hwd
    have lko : bo < W.heap.size := hko.lt
    have hlxb : xb < bo := by omega
    have hlsl : w.heap.size < W.heap.size := by omega
    have hnsl : w.heap.size ≠ bo := by omega
    have hlx2 : xb < W.heap.size := by omega
    have hnx2 : xb ≠ bo := by omega
    have hnz2 : Bz ≠ bo := by omega
    have hlz2 : Bz < W.heap.size := by have := hgr.size; omega
    clear hA2 hpi hpk hgr hout hko ha hov hwd hrd hB0
    obtain ⟨g, hg⟩ : ∃ g, gap i0 k0 = g := ⟨_, rfl⟩
    have hgg : (((i0 : Int) - (k0 : Int)).natAbs : Int) = g := hg
    have g1 : 1 ≤ g := by omega
    have g2 : g ≤ 100 := by omega
    have HG := Lib.hid hg
    have HGG := Lib.hid hgg
    have w1 := IntWalk.i64_in ((i0 : Int) - (k0 : Int)) ⟨by omega, by omega⟩
    obtain ⟨ov, hov⟩ : ∃ z, pi1 - pk2 = z := ⟨_, rfl⟩
    rw [hov] at HOV
    have ov1 : ov ≤ 200000 := by omega
    have e3 := e1.trans hov
    have HOE := Lib.hid hov
    clear hg hgg e1 hov
    gi_wp2_with fail
    refine ⟨trivial, CallsIn.inRound _ (callsIn_wide.2 ((size_is ((i0 : Int) - (k0 : Int)) g HGG.out _ (by omega) (by omega)).mono ?_))⟩
    rintro e W1 ⟨rfl, rfl⟩
    gi_wp2_with fail
    obtain ⟨W2, hW2⟩ : ∃ W0, W0 = W.drewN 1 := ⟨_, rfl⟩
    have m0 : W2.cell? ⟨w.heap.size, 0, none⟩ = some (.slice (some ⟨xb, xo, none⟩) n c) := by rw [hW2]; exact d0
    have m1 : W2.cell? ⟨xb, xo + i0 * 2, none⟩ = some (.int .i64 (pi1)) := by rw [hW2]; exact ci0
    have m2 : W2.cell? ⟨xb, xo + k0 * 2 + 1, none⟩ = some (.int .i64 (pk2)) := by rw [hW2]; exact ck1
    refine Fx.regionIn (fun f w' => w' = W2 ∧ True) (by kernel_rfl) (by kernel_rfl) (by kernel_rfl) ?_ ?_
    · intro f hf0
      exact ⟨hW2.symm, trivial⟩
    have HQ_W2 := Lib.hid hW2
    clear hW2
    repeat (first
      | (refine Fx.skip_ (by rfl) (fun f w h => h) ?_; simp only [Act.put, List.setIfInBounds_toArray, List.set_cons_zero, List.set_cons_succ])
      | (refine Fx.val_ ?_ (by rfl) ?_ (fun f w h => h) ?_
         rotate_left
         · intro f w' hD hk
           obtain ⟨jw, jt⟩ := id hD
           have q0 : w'.cell? ⟨w.heap.size, 0, none⟩ = some (.slice (some ⟨xb, xo, none⟩) n c) := by rw [jw]; exact m0
           have q1 : w'.cell? ⟨xb, xo + i0 * 2, none⟩ = some (.int .i64 (pi1)) := by rw [jw]; exact m1
           have q2 : w'.cell? ⟨xb, xo + k0 * 2 + 1, none⟩ = some (.int .i64 (pk2)) := by rw [jw]; exact m2
           clear hk hD jw jt
           go_simp
           try rfl
         simp only [Act.put, List.setIfInBounds_toArray, List.set_cons_zero, List.set_cons_succ]))
    refine Fx.nil_ ?_
    intro f W2_ hall hD
    obtain ⟨hjw, -⟩ := hD
    have hjw := hjw.symm
    subst hjw
    clear hall
    have hg2 : W.grownBy W2 (some bo) := by rw [HQ_W2.out]; exact only_drewN (World.grownBy.refl _ _) 1
    have hb2 : Blk W2 bo 50 #[.int .i64 a1, .int .i64 a2] := by rw [HQ_W2.out]; exact Blk.drewN HKO.out 1
    by_cases hop : 0 < ov
    · have hop1 : decide (0 < ov) = true := by simpa using hop
      obtain ⟨q1, q2, q3⟩ := clg_quot (a := ov) (b := g) (by omega) hop
      obtain ⟨q, hq⟩ : ∃ q, clg ov g = q := ⟨_, rfl⟩
      rw [hq] at q1 q2 q3
      have f1 := IntWalk.i64_in (ov + g) ⟨by omega, by omega⟩
      have f2 := IntWalk.i64_in (ov + g - 1) ⟨by omega, by omega⟩
      have f3 := IntWalk.i64_in q ⟨by omega, by omega⟩
      have f4 : ¬ g = 0 := by omega
      have f5 : (ov + g - 1).tdiv g = q := q1
      clear q1
      obtain ⟨mm0, hm0⟩ : ∃ z, (if a1 < q then q else a1) = z := ⟨_, rfl⟩
      have HM0 := Lib.hid (show (if 0 < ov then mx a1 (clg ov g) else a1) = mm0 by rw [if_pos hop, hq]; exact hm0)
      have HM0' := Lib.hid hm0
      have p0 := hb2.cell 0
      have pf := hb2.frozen 0
      clear hq
      gi_wp2_with fail
      obtain ⟨W0, hW0⟩ : ∃ W0, W0 = W2.drewN 1 := ⟨_, rfl⟩
      have mo : W0.cell? ⟨bo, 0, none⟩ = some (.int .i64 (a1)) := by rw [hW0]; exact p0
      have mf : W0.frozen? ⟨bo, 0, none⟩ = false := by rw [hW0]; exact pf
      refine Fx.regionIn (fun f w' => (f 10 = false → w' = W0) ∧ (f 10 = true → w' = W0.setCell ⟨bo, 0, none⟩ (.int .i64 (mm0)))) (by kernel_rfl) (by kernel_rfl) (by kernel_rfl) ?_ ?_
      · intro f hf0
        exact ⟨fun _ => hW0.symm, fun h => by rw [hf0 10] at h; cases h⟩
      have HW0 := Lib.hid hW0
      clear hW0
      repeat (first
        | (refine Fx.skip_ (by rfl) (fun f w h => h) ?_; simp only [Act.put, List.setIfInBounds_toArray, List.set_cons_zero, List.set_cons_succ])
        | (refine Fx.val_ ?_ (by rfl) ?_ (fun f w h => h) ?_
           rotate_left
           · intro f w' hD hk
             obtain ⟨jw, jr⟩ := id hD
             have jw := jw (hk.2.1 10 (by kernel_rfl))
             have qo : w'.cell? ⟨bo, 0, none⟩ = some (.int .i64 (a1)) := by rw [jw]; exact mo
             clear hk hD jw jr
             go_simp
             try rfl
           simp only [Act.put, List.setIfInBounds_toArray, List.set_cons_zero, List.set_cons_succ]))
      refine Fx.store_ (fun w' => w'.setCell ⟨bo, 0, none⟩ (.int .i64 (mm0))) (by rfl) ?_ ?_ ?_
      · intro f w' hD hk
        obtain ⟨jw, jr⟩ := id hD
        have jw := jw hk.1
        have q0 : w'.cell? ⟨bo, 0, none⟩ = some (.int .i64 (a1)) := by rw [jw]; exact mo
        have q1 : w'.frozen? ⟨bo, 0, none⟩ = false := by rw [jw]; exact mf
        clear hk hD jw jr
        go_simp
      · intro f w' hD hk
        obtain ⟨jw, jr⟩ := id hD
        have jw := jw hk.1
        exact ⟨fun h => by simp [Fx.add] at h, fun _ => by rw [jw]⟩
      simp only [Act.put, List.setIfInBounds_toArray, List.set_cons_zero, List.set_cons_succ]
      refine Fx.nil_ ?_
      intro f W3 hall hD
      have hwn := hD.2 (hall 10 (by simp))
      rw [HW0.out] at hwn
      clear hall hD HW0 mo mf
      have hg3 : W.grownBy W3 (some bo) := by rw [hwn]; exact only_setCell (only_drewN hg2 1) (.inl rfl) _
      have hb3 : Blk W3 bo 50 #[.int .i64 mm0, .int .i64 a2] := by rw [hwn]; exact (Blk.drewN hb2 1).set_ 0 _
      clear hwn hm0

      by_cases hgo : g = 1
      · have hgt : (g == 1) = true := by simpa using hgo
        obtain ⟨mm1, hm1⟩ : ∃ z, (if a2 < pi2 - pk1 then pi2 - pk1 else a2) = z := ⟨_, rfl⟩
        have hnx : slF l (prs pre ++ [(i0, k0)]) = (mm0, mm1) := by
          rw [sl_snoc, HA.out]
          unfold slStep
          rw [HOV.out, HWD.out, HG.out, if_pos hgo, HM0.out]
          unfold mx
          rw [hm1]
        have HNX := Lib.hid hnx
        have HM1 := Lib.hid hm1
        have u0 := (cellG hg3 (p := ⟨w.heap.size, 0, none⟩) hlsl hnsl).trans d0
        have u1 := (cellG hg3 (p := ⟨xb, xo + i0 * 2 + 1, none⟩) hlx2 hnx2).trans ci1
        have u2 := (cellG hg3 (p := ⟨xb, xo + k0 * 2, none⟩) hlx2 hnx2).trans ck0
        have v1 := hb3.cell 1
        have vf := hb3.frozen 1
        clear hnx
        gi_wp2_with fail
        obtain ⟨W0, hW0⟩ : ∃ W0, W0 = W3.drewN 1 := ⟨_, rfl⟩
        have m0 : W0.cell? ⟨w.heap.size, 0, none⟩ = some (.slice (some ⟨xb, xo, none⟩) n c) := by rw [hW0]; exact u0
        have m1 : W0.cell? ⟨xb, xo + i0 * 2 + 1, none⟩ = some (.int .i64 (pi2)) := by rw [hW0]; exact u1
        have m2 : W0.cell? ⟨xb, xo + k0 * 2, none⟩ = some (.int .i64 (pk1)) := by rw [hW0]; exact u2
        have mo : W0.cell? ⟨bo, 1, none⟩ = some (.int .i64 (a2)) := by rw [hW0]; exact v1
        have mf : W0.frozen? ⟨bo, 1, none⟩ = false := by rw [hW0]; exact vf
        refine Fx.regionIn (fun f w' => (f 15 = false → w' = W0) ∧ (f 15 = true → w' = W0.setCell ⟨bo, 1, none⟩ (.int .i64 (mm1)))) (by kernel_rfl) (by kernel_rfl) (by kernel_rfl) ?_ ?_
        · intro f hf0
          exact ⟨fun _ => hW0.symm, fun h => by rw [hf0 15] at h; cases h⟩
        have HW0 := Lib.hid hW0
        clear hW0
        repeat (first
          | (refine Fx.skip_ (by rfl) (fun f w h => h) ?_; simp only [Act.put, List.setIfInBounds_toArray, List.set_cons_zero, List.set_cons_succ])
          | (refine Fx.val_ ?_ (by rfl) ?_ (fun f w h => h) ?_
             rotate_left
             · intro f w' hD hk
               obtain ⟨jw, jr⟩ := id hD
               have jw := jw (hk.2.1 15 (by kernel_rfl))
               have q0 : w'.cell? ⟨w.heap.size, 0, none⟩ = some (.slice (some ⟨xb, xo, none⟩) n c) := by rw [jw]; exact m0
               have q1 : w'.cell? ⟨xb, xo + i0 * 2 + 1, none⟩ = some (.int .i64 (pi2)) := by rw [jw]; exact m1
               have q2 : w'.cell? ⟨xb, xo + k0 * 2, none⟩ = some (.int .i64 (pk1)) := by rw [jw]; exact m2
               have qo : w'.cell? ⟨bo, 1, none⟩ = some (.int .i64 (a2)) := by rw [jw]; exact mo
               clear hk hD jw jr
               go_simp
               try rfl
             simp only [Act.put, List.setIfInBounds_toArray, List.set_cons_zero, List.set_cons_succ]))
        refine Fx.store_ (fun w' => w'.setCell ⟨bo, 1, none⟩ (.int .i64 (mm1))) (by rfl) ?_ ?_ ?_
        · intro f w' hD hk
          obtain ⟨jw, jr⟩ := id hD
          have jw := jw hk.1
          have q0 : w'.cell? ⟨bo, 1, none⟩ = some (.int .i64 (a2)) := by rw [jw]; exact mo
          have q1 : w'.frozen? ⟨bo, 1, none⟩ = false := by rw [jw]; exact mf
          clear hk hD jw jr
          go_simp
        · intro f w' hD hk
          obtain ⟨jw, jr⟩ := id hD
          have jw := jw hk.1
          exact ⟨fun h => by simp [Fx.add] at h, fun _ => by rw [jw]⟩
        simp only [Act.put, List.setIfInBounds_toArray, List.set_cons_zero, List.set_cons_succ]
        refine Fx.nil_ ?_
        intro f W4 hall hD
        have hwn := hD.2 (hall 15 (by simp))
        rw [HW0.out] at hwn
        clear hall hD HW0 mo mf m0 m1 m2
        have hg4 : W.grownBy W4 (some bo) := by rw [hwn]; exact only_setCell (only_drewN hg3 1) (.inl rfl) _
        have hb4 : Blk W4 bo 50 #[.int .i64 mm0, .int .i64 mm1] := by rw [hwn]; exact (Blk.drewN hb3 1).set_ 1 _
        clear hwn hm1
        gi_wp2_with fail
        refine ⟨keeps_grown hg4 HKO.out _, kpZ_grown hg4 hlz2 hnz2, ⟨HGR.out.trans hg4, ?_⟩⟩
        rw [prs_snoc, HNX.out]
        exact hb4
      · have hgt : (g == 1) = false := by simpa using hgo
        have hnx : slF l (prs pre ++ [(i0, k0)]) = (mm0, a2) := by
          rw [sl_snoc, HA.out]
          unfold slStep
          rw [HOV.out, HWD.out, HG.out, if_neg hgo, HM0.out]
        have HNX := Lib.hid hnx
        have HW := Lib.hid hg3
        have HBW := Lib.hid hb3
        clear hnx
        gi_wp2_with fail
        refine ⟨keeps_grown HW.out HKO.out _, kpZ_grown HW.out hlz2 hnz2, ⟨HGR.out.trans HW.out, ?_⟩⟩
        rw [prs_snoc, HNX.out]
        exact HBW.out
    have hop1 : decide (0 < ov) = false := by simpa using hop
    have HM0 := Lib.hid (show (if 0 < ov then mx a1 (clg ov g) else a1) = a1 by rw [if_neg hop])

    by_cases hgo : g = 1
    · have hgt : (g == 1) = true := by simpa using hgo
      obtain ⟨mm1, hm1⟩ : ∃ z, (if a2 < pi2 - pk1 then pi2 - pk1 else a2) = z := ⟨_, rfl⟩
      have hnx : slF l (prs pre ++ [(i0, k0)]) = (a1, mm1) := by
        rw [sl_snoc, HA.out]
        unfold slStep
        rw [HOV.out, HWD.out, HG.out, if_pos hgo, HM0.out]
        unfold mx
        rw [hm1]
      have HNX := Lib.hid hnx
      have HM1 := Lib.hid hm1
      have u0 := (cellG hg2 (p := ⟨w.heap.size, 0, none⟩) hlsl hnsl).trans d0
      have u1 := (cellG hg2 (p := ⟨xb, xo + i0 * 2 + 1, none⟩) hlx2 hnx2).trans ci1
      have u2 := (cellG hg2 (p := ⟨xb, xo + k0 * 2, none⟩) hlx2 hnx2).trans ck0
      have v1 := hb2.cell 1
      have vf := hb2.frozen 1
      clear hnx
      gi_wp2_with fail
      obtain ⟨W0, hW0⟩ : ∃ W0, W0 = W2.drewN 1 := ⟨_, rfl⟩
      have m0 : W0.cell? ⟨w.heap.size, 0, none⟩ = some (.slice (some ⟨xb, xo, none⟩) n c) := by rw [hW0]; exact u0
      have m1 : W0.cell? ⟨xb, xo + i0 * 2 + 1, none⟩ = some (.int .i64 (pi2)) := by rw [hW0]; exact u1
      have m2 : W0.cell? ⟨xb, xo + k0 * 2, none⟩ = some (.int .i64 (pk1)) := by rw [hW0]; exact u2
      have mo : W0.cell? ⟨bo, 1, none⟩ = some (.int .i64 (a2)) := by rw [hW0]; exact v1
      have mf : W0.frozen? ⟨bo, 1, none⟩ = false := by rw [hW0]; exact vf
      refine Fx.regionIn (fun f w' => (f 15 = false → w' = W0) ∧ (f 15 = true → w' = W0.setCell ⟨bo, 1, none⟩ (.int .i64 (mm1)))) (by kernel_rfl) (by kernel_rfl) (by kernel_rfl) ?_ ?_
      · intro f hf0
        exact ⟨fun _ => hW0.symm, fun h => by rw [hf0 15] at h; cases h⟩
      have HW0 := Lib.hid hW0
      clear hW0
      repeat (first
        | (refine Fx.skip_ (by rfl) (fun f w h => h) ?_; simp only [Act.put, List.setIfInBounds_toArray, List.set_cons_zero, List.set_cons_succ])
        | (refine Fx.val_ ?_ (by rfl) ?_ (fun f w h => h) ?_
           rotate_left
           · intro f w' hD hk
             obtain ⟨jw, jr⟩ := id hD
             have jw := jw (hk.2.1 15 (by kernel_rfl))
             have q0 : w'.cell? ⟨w.heap.size, 0, none⟩ = some (.slice (some ⟨xb, xo, none⟩) n c) := by rw [jw]; exact m0
             have q1 : w'.cell? ⟨xb, xo + i0 * 2 + 1, none⟩ = some (.int .i64 (pi2)) := by rw [jw]; exact m1
             have q2 : w'.cell? ⟨xb, xo + k0 * 2, none⟩ = some (.int .i64 (pk1)) := by rw [jw]; exact m2
             have qo : w'.cell? ⟨bo, 1, none⟩ = some (.int .i64 (a2)) := by rw [jw]; exact mo
             clear hk hD jw jr
             go_simp
             try rfl
           simp only [Act.put, List.setIfInBounds_toArray, List.set_cons_zero, List.set_cons_succ]))
      refine Fx.store_ (fun w' => w'.setCell ⟨bo, 1, none⟩ (.int .i64 (mm1))) (by rfl) ?_ ?_ ?_
      · intro f w' hD hk
        obtain ⟨jw, jr⟩ := id hD
        have jw := jw hk.1
        have q0 : w'.cell? ⟨bo, 1, none⟩ = some (.int .i64 (a2)) := by rw [jw]; exact mo
        have q1 : w'.frozen? ⟨bo, 1, none⟩ = false := by rw [jw]; exact mf
        clear hk hD jw jr
        go_simp
      · intro f w' hD hk
        obtain ⟨jw, jr⟩ := id hD
        have jw := jw hk.1
        exact ⟨fun h => by simp [Fx.add] at h, fun _ => by rw [jw]⟩
      simp only [Act.put, List.setIfInBounds_toArray, List.set_cons_zero, List.set_cons_succ]
      refine Fx.nil_ ?_
      intro f W4 hall hD
      have hwn := hD.2 (hall 15 (by simp))
      rw [HW0.out] at hwn
      clear hall hD HW0 mo mf m0 m1 m2
      have hg4 : W.grownBy W4 (some bo) := by rw [hwn]; exact only_setCell (only_drewN hg2 1) (.inl rfl) _
      have hb4 : Blk W4 bo 50 #[.int .i64 a1, .int .i64 mm1] := by rw [hwn]; exact (Blk.drewN hb2 1).set_ 1 _
      clear hwn hm1
      gi_wp2_with fail
      refine ⟨keeps_grown hg4 HKO.out _, kpZ_grown hg4 hlz2 hnz2, ⟨HGR.out.trans hg4, ?_⟩⟩
      rw [prs_snoc, HNX.out]
      exact hb4
    · have hgt : (g == 1) = false := by simpa using hgo
      have hnx : slF l (prs pre ++ [(i0, k0)]) = (a1, a2) := by
        rw [sl_snoc, HA.out]
        unfold slStep
        rw [HOV.out, HWD.out, HG.out, if_neg hgo, HM0.out]
      have HNX := Lib.hid hnx
      have HW := Lib.hid hg2
      have HBW := Lib.hid hb2
      clear hnx
      gi_wp2_with fail
      refine ⟨keeps_grown HW.out HKO.out _, kpZ_grown HW.out hlz2 hnz2, ⟨HGR.out.trans HW.out, ?_⟩⟩
      rw [prs_snoc, HNX.out]
      exact HBW.out
  case stop =>
    rintro D cd pre W hD hsp ⟨⟨-, hf⟩, -⟩ hK
    exact hf.elim
  case done =>
    rintro D ys W hD hys ⟨hgr, hout⟩ hK
    rw [hys, HV.out] at hout
    simp only at hout
    have hne2 : ∀ {g : Nat}, g ≠ bo → some g ≠ some bo := fun h e => h (Option.some.inj e)
    have hmk : Fx.MarksAt w4.heap.size [D] W := (Fx.MarksAt.nil _ W).cons hD hK (by simp)
    have k1 := K1_4.out.grown hgr (hne2 (by omega))
    have ko : Blk W bo 50 #[.int .i64 u, .int .i64 v] := hout
    have y0 := ko.cell 0
    have y1 := ko.cell 1
    have q10 := k1.cell 0
    have q11 := k1.cell 1
    have f10 := k1.frozen 0
    have k1b := k1.set_ 0 (.int .i64 u)
    have f11 := k1b.frozen 1
    have q12 := k1b.cell 1
    simp only [List.setIfInBounds_toArray, List.set_cons_zero, List.set_cons_succ] at q12
    have HK1 := Lib.hid (k1b.set_ 1 (.int .i64 v))
    have HGR := Lib.hid hgr
    have HMK := Lib.hid hmk
    clear k1 k1b hgr hout hmk hys hK ko
    go_wp2_with fail
    refine Fx.leaves_marks [D] _ (marks_set (marks_set HMK.out (p := ⟨w.heap.size + 1, 0, none⟩) (by show w.heap.size + 1 < _; omega) _) (p := ⟨w.heap.size + 1, 1, none⟩) (by show w.heap.size + 1 < _; omega) _) fun w' q1 q2 q3 q4 q5 => ?_
    have b2 := leave_blk HK1.out (by omega) q1
    have y20 := b2.cell 0
    have y21 := b2.cell 1
    simp only [List.setIfInBounds_toArray, List.set_cons_zero, List.set_cons_succ] at y20 y21
    have l2 := b2.lt
    have hB0 : Below w.heap.size w W := HB4.out.grown HGR.out (by omega) (fun g hg => by have := Option.some.inj hg; omega)
    have hB1 := (hB0.setCell (p := ⟨w.heap.size + 1, 0, none⟩) (by show _ ≤ w.heap.size + 1; omega) (.int .i64 u)).setCell (p := ⟨w.heap.size + 1, 1, none⟩) (by show _ ≤ w.heap.size + 1; omega) (.int .i64 v)
    exact ⟨.tuple #[.agg #[.int .i64 u, .int .i64 v], .int .i64 0], by simp [results, Try.results40, go_sem, y20, y21, l2], rfl, leave_below hB1 (by omega) (Nat.le_refl _) q1 q2 q3 q4 q5⟩
end Go.Proofs.Ytnepjgnnppfibaa

end
