import Derived.Test.YtgamepmipoociaaQ30

section
/- Contracts of the turns that collimate; both sides. -/
namespace Go.Proofs.Ytgamepmipoociaa
open Go Go.RowKit

/-- A region of calls that leave what was there, and, last, one store (operation s). -/
structure Ls (s : Nat) (up : World → World) (W : World) (f : Nat → Bool) (w' : World) : Prop where
  pre : f s = false → Below W.heap.size W w'
  post : f s = true → ∃ W1, Below W.heap.size W W1 ∧ w' = up W1
section
variable {s k : Nat} {up : World → World} {W w' w'' : World} {f : Nat → Bool}
theorem Ls.start (h : f s = false) : Ls s up W f (W.drewN 1) := ⟨fun _ => below_drewN (Below.refl _ _) 1, fun e => (by rw [h] at e; cases e)⟩
theorem Ls.same (h : Ls s up W f w') (hk : k ≠ s) : Ls s up W (Fx.add f k) w' := ⟨fun e => h.pre (by rwa [add_ne' hk] at e), fun e => h.post (by rwa [add_ne' hk] at e)⟩
theorem Ls.call (h : Ls s up W f w') (hk : k ≠ s) (hs : f s = false) (hb : Below w'.heap.size w' w'') : Ls s up W (Fx.add f k) w'' := ⟨fun _ => step_below hb (h.pre hs), fun e => (by rw [add_ne' hk, hs] at e; cases e)⟩
theorem Ls.store (h : Ls s up W f w') (hs : f s = false) : Ls s up W (Fx.add f s) (up w') := ⟨fun e => (by rw [add_same] at e; cases e), fun _ => ⟨w', h.pre hs, rfl⟩⟩
end

theorem scr_right {a0 a1 b0 b1 : Int} (h : scrErr [(a0, a1), (b0, b1)] = 0) : smallL 1000 (scr4 [(a0, a1), (b0, b1)]) = true ∧ scrDet [(a0, a1), (b0, b1)] ≠ 0 := by
  unfold scrErr at h
  rw [if_neg (by simp)] at h
  cases hs : smallL 1000 (scr4 [(a0, a1), (b0, b1)])
  · rw [hs, if_pos rfl] at h
    exact absurd h (by decide)
  · rw [hs, if_neg (by simp)] at h
    refine ⟨rfl, fun e => ?_⟩
    rw [if_pos e] at h
    exact absurd h (by decide)
def colF (l : List (Int × Int)) (x y : Int) : (Int × Int) × (Int × Int) :=
  match l with
  | [a, b] => (lowF (b.1 * y - b.2 * x) (scrDet [a, b]), lowF (a.2 * x - a.1 * y) (scrDet [a, b]))
  | _ => ((0, 0), (0, 0))
def frac2V (p : (Int × Int) × (Int × Int)) : Value := .agg #[.int .i64 p.1.1, .int .i64 p.1.2, .int .i64 p.2.1, .int .i64 p.2.2]

set_option maxRecDepth 100000 in
theorem pcol_bad (A : Option Addr) (n c : Nat) (l : List (Int × Int)) (x y E : Int) (hE : scrErr l = E) (h0 : E ≠ 0) (w : World) (hx : Reads w w.heap.size 2 A n (cells2 l)) (hn : n ≤ 9223372036854775807) :
    Calls Try.prog 42 #[.slice A n c, .agg #[.int .i64 x, .int .i64 y]] w fun e w' => e = .returned (.tuple #[frac2V ((0, 0), (0, 0)), .int .i64 E]) ∧ Below w.heap.size w w' := by
  have e1 : (E != 0) = true := by simpa using h0
  have HE := Lib.hid hE
  have HX := Lib.hid hx
  clear hE hx
  go_enter Try.func42, Try.ntmps42
  go_wp2_with fail
  generalize hwn : ((w.alloc (.cells #[.int .i64 (x), .int .i64 (y)] 46)).alloc (.cells #[.int .i64 (0), .int .i64 (0), .int .i64 (0), .int .i64 (0)] 73)) = w1
  have hbn : Below w.heap.size w w1 := by rw [← hwn]; repeat' (first | exact Below.refl _ _ | refine below_drewN ?_ _ | refine Below.drew ?_ | refine Below.alloc ?_ (by first | omega | (simp; done) | (simp; omega) | (simp [World.setCell]; omega)) _ | refine Below.setCell ?_ (by first | omega | (simp; done) | (simp; omega)) _)
  have HB1 := Lib.hid (show Below w.heap.size w w1 from hbn)
  have K0_1 := Lib.hid (show Blk w1 (w.heap.size) 46 #[.int .i64 (x), .int .i64 (y)] by rw [← hwn]; repeat' (first | exact Blk.at_ _ (by first | rfl | (simp; done) | (simp; omega)) _ _ | refine Blk.drewN ?_ _ | refine Blk.drew ?_ | refine Blk.alloc ?_ _ | refine Blk.far ?_ (by first | omega | (simp; done) | (simp; omega)) _ | assumption))
  have K1_1 := Lib.hid (show Blk w1 (w.heap.size + 1) 73 #[.int .i64 (0), .int .i64 (0), .int .i64 (0), .int .i64 (0)] by rw [← hwn]; repeat' (first | exact Blk.at_ _ (by first | rfl | (simp; done) | (simp; omega)) _ _ | refine Blk.drewN ?_ _ | refine Blk.drew ?_ | refine Blk.alloc ?_ _ | refine Blk.far ?_ (by first | omega | (simp; done) | (simp; omega)) _ | assumption))
  have HN1 := Lib.hid hbn
  have hz1 := hbn.size
  clear hwn hbn
  have l0_1 : w.heap.size < w1.heap.size := K0_1.out.lt
  have z0_0_1 : w1.cell? ⟨w.heap.size, 0, none⟩ = some (.int .i64 (x)) := K0_1.out.cell 0
  have z0_1_1 : w1.cell? ⟨w.heap.size, 1, none⟩ = some (.int .i64 (y)) := K0_1.out.cell 1
  have l1_1 : w.heap.size + 1 < w1.heap.size := K1_1.out.lt
  have z1_0_1 : w1.cell? ⟨w.heap.size + 1, 0, none⟩ = some (.int .i64 (0)) := K1_1.out.cell 0
  have z1_1_1 : w1.cell? ⟨w.heap.size + 1, 1, none⟩ = some (.int .i64 (0)) := K1_1.out.cell 1
  have z1_2_1 : w1.cell? ⟨w.heap.size + 1, 2, none⟩ = some (.int .i64 (0)) := K1_1.out.cell 2
  have z1_3_1 : w1.cell? ⟨w.heap.size + 1, 3, none⟩ = some (.int .i64 (0)) := K1_1.out.cell 3
  refine (pscrews_is A n c l E HE.out _ ((HX.out.below HB1.out).more HB1.out.size) hn).mono ?_
  rintro e w2 ⟨rfl, hb⟩
  have HB2 := Lib.hid (show Below w.heap.size w w2 from step_below hb (by repeat' (first | exact Below.refl _ _ | exact HB1.out | refine below_drewN ?_ _ | refine Below.drew ?_ | refine Below.alloc ?_ (by first | omega | (simp; done) | (simp; omega) | (simp [World.setCell]; omega)) _ | refine Below.setCell ?_ (by first | omega | (simp; done) | (simp; omega)) _ | assumption)))
  have K0_2 := Lib.hid (step_blk hb (show Blk _ (w.heap.size) 46 #[.int .i64 (x), .int .i64 (y)] by repeat' (first | exact K0_1.out | exact K1_1.out | exact Blk.at_ _ (by first | rfl | (simp; done) | (simp; omega)) _ _ | refine Blk.drewN ?_ _ | refine Blk.drew ?_ | refine Blk.alloc ?_ _ | refine Blk.far ?_ (by first | omega | (simp; done) | (simp; omega)) _ | assumption)))
  have K1_2 := Lib.hid (step_blk hb (show Blk _ (w.heap.size + 1) 73 #[.int .i64 (0), .int .i64 (0), .int .i64 (0), .int .i64 (0)] by repeat' (first | exact K0_1.out | exact K1_1.out | exact Blk.at_ _ (by first | rfl | (simp; done) | (simp; omega)) _ _ | refine Blk.drewN ?_ _ | refine Blk.drew ?_ | refine Blk.alloc ?_ _ | refine Blk.far ?_ (by first | omega | (simp; done) | (simp; omega)) _ | assumption)))
  have hz2 := hb.size
  try simp only [World.size_alloc, World.drewN, World.drew] at hz2
  clear hb K0_1 K1_1 z0_0_1 z0_1_1 l0_1 z1_0_1 z1_1_1 z1_2_1 z1_3_1 l1_1
  have l0_2 : w.heap.size < w2.heap.size := K0_2.out.lt
  have z0_0_2 : w2.cell? ⟨w.heap.size, 0, none⟩ = some (.int .i64 (x)) := K0_2.out.cell 0
  have z0_1_2 : w2.cell? ⟨w.heap.size, 1, none⟩ = some (.int .i64 (y)) := K0_2.out.cell 1
  have l1_2 : w.heap.size + 1 < w2.heap.size := K1_2.out.lt
  have z1_0_2 : w2.cell? ⟨w.heap.size + 1, 0, none⟩ = some (.int .i64 (0)) := K1_2.out.cell 0
  have z1_1_2 : w2.cell? ⟨w.heap.size + 1, 1, none⟩ = some (.int .i64 (0)) := K1_2.out.cell 1
  have z1_2_2 : w2.cell? ⟨w.heap.size + 1, 2, none⟩ = some (.int .i64 (0)) := K1_2.out.cell 2
  have z1_3_2 : w2.cell? ⟨w.heap.size + 1, 3, none⟩ = some (.int .i64 (0)) := K1_2.out.cell 3
  have zf1_0 := K1_2.out.frozen 0
  have zf1_1 := K1_2.out.frozen 1
  have zf1_2 := K1_2.out.frozen 2
  have zf1_3 := K1_2.out.frozen 3
  go_wp2
  exact bodyPost_ret (v := .tuple #[.agg #[.int .i64 0, .int .i64 0, .int .i64 0, .int .i64 0], .int .i64 E]) (by simp [results, Try.results42, go_sem, z1_0_2, z1_1_2, z1_2_2, z1_3_2, l1_2]) rfl ⟨rfl, by repeat' (first | exact Below.refl _ _ | exact HB2.out | refine below_drewN ?_ _ | refine Below.drew ?_ | refine Below.alloc ?_ (by first | omega | (simp; done) | (simp; omega) | (simp [World.setCell]; omega)) _ | refine Below.setCell ?_ (by first | omega | (simp; done) | (simp; omega)) _ | assumption)⟩
set_option maxRecDepth 100000 in
theorem pcol_rng (A : Option Addr) (n c : Nat) (l : List (Int × Int)) (x y : Int) (hE : scrErr l = 0) (h0 : smallL 100000 [x, y] = false) (w : World) (hx : Reads w w.heap.size 2 A n (cells2 l)) (hn : n ≤ 9223372036854775807) :
    Calls Try.prog 42 #[.slice A n c, .agg #[.int .i64 x, .int .i64 y]] w fun e w' => e = .returned (.tuple #[frac2V ((0, 0), (0, 0)), .int .i64 2]) ∧ Below w.heap.size w w' := by
  have HE := Lib.hid hE
  have HS := Lib.hid h0
  have HX := Lib.hid hx
  clear hE hx h0
  go_enter Try.func42, Try.ntmps42
  go_wp2_with fail
  generalize hwn : ((w.alloc (.cells #[.int .i64 (x), .int .i64 (y)] 46)).alloc (.cells #[.int .i64 (0), .int .i64 (0), .int .i64 (0), .int .i64 (0)] 73)) = w1
  have hbn : Below w.heap.size w w1 := by rw [← hwn]; repeat' (first | exact Below.refl _ _ | refine below_drewN ?_ _ | refine Below.drew ?_ | refine Below.alloc ?_ (by first | omega | (simp; done) | (simp; omega) | (simp [World.setCell]; omega)) _ | refine Below.setCell ?_ (by first | omega | (simp; done) | (simp; omega)) _)
  have HB1 := Lib.hid (show Below w.heap.size w w1 from hbn)
  have K0_1 := Lib.hid (show Blk w1 (w.heap.size) 46 #[.int .i64 (x), .int .i64 (y)] by rw [← hwn]; repeat' (first | exact Blk.at_ _ (by first | rfl | (simp; done) | (simp; omega)) _ _ | refine Blk.drewN ?_ _ | refine Blk.drew ?_ | refine Blk.alloc ?_ _ | refine Blk.far ?_ (by first | omega | (simp; done) | (simp; omega)) _ | assumption))
  have K1_1 := Lib.hid (show Blk w1 (w.heap.size + 1) 73 #[.int .i64 (0), .int .i64 (0), .int .i64 (0), .int .i64 (0)] by rw [← hwn]; repeat' (first | exact Blk.at_ _ (by first | rfl | (simp; done) | (simp; omega)) _ _ | refine Blk.drewN ?_ _ | refine Blk.drew ?_ | refine Blk.alloc ?_ _ | refine Blk.far ?_ (by first | omega | (simp; done) | (simp; omega)) _ | assumption))
  have HN1 := Lib.hid hbn
  have hz1 := hbn.size
  clear hwn hbn
  have l0_1 : w.heap.size < w1.heap.size := K0_1.out.lt
  have z0_0_1 : w1.cell? ⟨w.heap.size, 0, none⟩ = some (.int .i64 (x)) := K0_1.out.cell 0
  have z0_1_1 : w1.cell? ⟨w.heap.size, 1, none⟩ = some (.int .i64 (y)) := K0_1.out.cell 1
  have l1_1 : w.heap.size + 1 < w1.heap.size := K1_1.out.lt
  have z1_0_1 : w1.cell? ⟨w.heap.size + 1, 0, none⟩ = some (.int .i64 (0)) := K1_1.out.cell 0
  have z1_1_1 : w1.cell? ⟨w.heap.size + 1, 1, none⟩ = some (.int .i64 (0)) := K1_1.out.cell 1
  have z1_2_1 : w1.cell? ⟨w.heap.size + 1, 2, none⟩ = some (.int .i64 (0)) := K1_1.out.cell 2
  have z1_3_1 : w1.cell? ⟨w.heap.size + 1, 3, none⟩ = some (.int .i64 (0)) := K1_1.out.cell 3
  refine (pscrews_is A n c l 0 HE.out _ ((HX.out.below HB1.out).more HB1.out.size) hn).mono ?_
  rintro e w2 ⟨rfl, hb⟩
  have HB2 := Lib.hid (show Below w.heap.size w w2 from step_below hb (by repeat' (first | exact Below.refl _ _ | exact HB1.out | refine below_drewN ?_ _ | refine Below.drew ?_ | refine Below.alloc ?_ (by first | omega | (simp; done) | (simp; omega) | (simp [World.setCell]; omega)) _ | refine Below.setCell ?_ (by first | omega | (simp; done) | (simp; omega)) _ | assumption)))
  have K0_2 := Lib.hid (step_blk hb (show Blk _ (w.heap.size) 46 #[.int .i64 (x), .int .i64 (y)] by repeat' (first | exact K0_1.out | exact K1_1.out | exact Blk.at_ _ (by first | rfl | (simp; done) | (simp; omega)) _ _ | refine Blk.drewN ?_ _ | refine Blk.drew ?_ | refine Blk.alloc ?_ _ | refine Blk.far ?_ (by first | omega | (simp; done) | (simp; omega)) _ | assumption)))
  have K1_2 := Lib.hid (step_blk hb (show Blk _ (w.heap.size + 1) 73 #[.int .i64 (0), .int .i64 (0), .int .i64 (0), .int .i64 (0)] by repeat' (first | exact K0_1.out | exact K1_1.out | exact Blk.at_ _ (by first | rfl | (simp; done) | (simp; omega)) _ _ | refine Blk.drewN ?_ _ | refine Blk.drew ?_ | refine Blk.alloc ?_ _ | refine Blk.far ?_ (by first | omega | (simp; done) | (simp; omega)) _ | assumption)))
  have hz2 := hb.size
  try simp only [World.size_alloc, World.drewN, World.drew] at hz2
  clear hb K0_1 K1_1 z0_0_1 z0_1_1 l0_1 z1_0_1 z1_1_1 z1_2_1 z1_3_1 l1_1
  have l0_2 : w.heap.size < w2.heap.size := K0_2.out.lt
  have z0_0_2 : w2.cell? ⟨w.heap.size, 0, none⟩ = some (.int .i64 (x)) := K0_2.out.cell 0
  have z0_1_2 : w2.cell? ⟨w.heap.size, 1, none⟩ = some (.int .i64 (y)) := K0_2.out.cell 1
  have l1_2 : w.heap.size + 1 < w2.heap.size := K1_2.out.lt
  have z1_0_2 : w2.cell? ⟨w.heap.size + 1, 0, none⟩ = some (.int .i64 (0)) := K1_2.out.cell 0
  have z1_1_2 : w2.cell? ⟨w.heap.size + 1, 1, none⟩ = some (.int .i64 (0)) := K1_2.out.cell 1
  have z1_2_2 : w2.cell? ⟨w.heap.size + 1, 2, none⟩ = some (.int .i64 (0)) := K1_2.out.cell 2
  have z1_3_2 : w2.cell? ⟨w.heap.size + 1, 3, none⟩ = some (.int .i64 (0)) := K1_2.out.cell 3
  go_wp2_with fail
  refine (smallpt_is 100000 (some ⟨w.heap.size, 0, none⟩) 2 2 _ [x, y] false HS.out _ (by omega) (by omega) (Blk.reads K0_2.out rfl) (Nat.le_refl _) (by omega)).mono ?_
  rintro e w3 ⟨rfl, hb⟩
  have HB3 := Lib.hid (show Below w.heap.size w w3 from step_below hb (by repeat' (first | exact Below.refl _ _ | exact HB2.out | refine below_drewN ?_ _ | refine Below.drew ?_ | refine Below.alloc ?_ (by first | omega | (simp; done) | (simp; omega) | (simp [World.setCell]; omega)) _ | refine Below.setCell ?_ (by first | omega | (simp; done) | (simp; omega)) _ | assumption)))
  have K0_3 := Lib.hid (step_blk hb (show Blk _ (w.heap.size) 46 #[.int .i64 (x), .int .i64 (y)] by repeat' (first | exact K0_2.out | exact K1_2.out | exact Blk.at_ _ (by first | rfl | (simp; done) | (simp; omega)) _ _ | refine Blk.drewN ?_ _ | refine Blk.drew ?_ | refine Blk.alloc ?_ _ | refine Blk.far ?_ (by first | omega | (simp; done) | (simp; omega)) _ | assumption)))
  have K1_3 := Lib.hid (step_blk hb (show Blk _ (w.heap.size + 1) 73 #[.int .i64 (0), .int .i64 (0), .int .i64 (0), .int .i64 (0)] by repeat' (first | exact K0_2.out | exact K1_2.out | exact Blk.at_ _ (by first | rfl | (simp; done) | (simp; omega)) _ _ | refine Blk.drewN ?_ _ | refine Blk.drew ?_ | refine Blk.alloc ?_ _ | refine Blk.far ?_ (by first | omega | (simp; done) | (simp; omega)) _ | assumption)))
  have hz3 := hb.size
  try simp only [World.size_alloc, World.drewN, World.drew] at hz3
  clear hb K0_2 K1_2 z0_0_2 z0_1_2 l0_2 z1_0_2 z1_1_2 z1_2_2 z1_3_2 l1_2
  have l0_3 : w.heap.size < w3.heap.size := K0_3.out.lt
  have z0_0_3 : w3.cell? ⟨w.heap.size, 0, none⟩ = some (.int .i64 (x)) := K0_3.out.cell 0
  have z0_1_3 : w3.cell? ⟨w.heap.size, 1, none⟩ = some (.int .i64 (y)) := K0_3.out.cell 1
  have l1_3 : w.heap.size + 1 < w3.heap.size := K1_3.out.lt
  have z1_0_3 : w3.cell? ⟨w.heap.size + 1, 0, none⟩ = some (.int .i64 (0)) := K1_3.out.cell 0
  have z1_1_3 : w3.cell? ⟨w.heap.size + 1, 1, none⟩ = some (.int .i64 (0)) := K1_3.out.cell 1
  have z1_2_3 : w3.cell? ⟨w.heap.size + 1, 2, none⟩ = some (.int .i64 (0)) := K1_3.out.cell 2
  have z1_3_3 : w3.cell? ⟨w.heap.size + 1, 3, none⟩ = some (.int .i64 (0)) := K1_3.out.cell 3
  have zf1_0 := K1_3.out.frozen 0
  have zf1_1 := K1_3.out.frozen 1
  have zf1_2 := K1_3.out.frozen 2
  have zf1_3 := K1_3.out.frozen 3
  go_wp2
  exact bodyPost_ret (v := .tuple #[.agg #[.int .i64 0, .int .i64 0, .int .i64 0, .int .i64 0], .int .i64 2]) (by simp [results, Try.results42, go_sem, z1_0_3, z1_1_3, z1_2_3, z1_3_3, l1_3]) rfl ⟨rfl, by repeat' (first | exact Below.refl _ _ | exact HB3.out | refine below_drewN ?_ _ | refine Below.drew ?_ | refine Below.alloc ?_ (by first | omega | (simp; done) | (simp; omega) | (simp [World.setCell]; omega)) _ | refine Below.setCell ?_ (by first | omega | (simp; done) | (simp; omega)) _ | assumption)⟩
set_option maxRecDepth 100000 in
set_option maxHeartbeats 2000000 in
theorem pcol_ok (A : Option Addr) (c : Nat) (a0 a1 b0 b1 x y p0 p1 q0 q1 : Int) (hE : scrErr [(a0, a1), (b0, b1)] = 0) (h0 : smallL 100000 [x, y] = true) (hq : colF [(a0, a1), (b0, b1)] x y = ((p0, p1), (q0, q1))) (w : World) (hx : Reads w w.heap.size 2 A 2 (cells2 [(a0, a1), (b0, b1)])) :
    Calls Try.prog 42 #[.slice A 2 c, .agg #[.int .i64 x, .int .i64 y]] w fun e w' => e = .returned (.tuple #[frac2V ((p0, p1), (q0, q1)), .int .i64 0]) ∧ Below w.heap.size w w' := by
  obtain ⟨hs, hd0⟩ := scr_right hE
  obtain ⟨h1, h2, h3, h4⟩ := small4 hs
  have hxy : (-100000 ≤ x ∧ x ≤ 100000) ∧ (-100000 ≤ y ∧ y ≤ 100000) := by simpa [smallL, withinB_iff] using h0
  obtain ⟨hx1, hy1⟩ := hxy
  obtain ⟨d, hd⟩ : ∃ d, a0 * b1 - b0 * a1 = d := ⟨_, rfl⟩
  have hdd : scrDet [(a0, a1), (b0, b1)] = d := hd
  rw [hdd] at hd0
  have m1 := mulb h3 hy1 (by decide) (by decide)
  have m2 := mulb h4 hx1 (by decide) (by decide)
  have m3 := mulb h2 hx1 (by decide) (by decide)
  have m4 := mulb h1 hy1 (by decide) (by decide)
  have m5 := mulb h1 h4 (by decide) (by decide)
  have m6 := mulb h3 h2 (by decide) (by decide)
  have e1 := IntWalk.i64_in (b0 * y) ⟨by omega, by omega⟩
  have e2 := IntWalk.i64_in (b1 * x) ⟨by omega, by omega⟩
  have e3 := IntWalk.i64_in (b0 * y - b1 * x) ⟨by omega, by omega⟩
  have e4 := IntWalk.i64_in (a1 * x) ⟨by omega, by omega⟩
  have e5 := IntWalk.i64_in (a0 * y) ⟨by omega, by omega⟩
  have e6 := IntWalk.i64_in (a1 * x - a0 * y) ⟨by omega, by omega⟩
  obtain ⟨u, hu⟩ : ∃ u, b0 * y - b1 * x = u := ⟨_, rfl⟩
  obtain ⟨v, hv⟩ : ∃ v, a1 * x - a0 * y = v := ⟨_, rfl⟩
  have hc1 : lowF u d = (p0, p1) := by rw [← hu, ← hdd]; exact congrArg Prod.fst hq
  have hc2 : lowF v d = (q0, q1) := by rw [← hv, ← hdd]; exact congrArg Prod.snd hq
  have bu : -4000000000000000000 ≤ u ∧ u ≤ 4000000000000000000 := by omega
  have bv : -4000000000000000000 ≤ v ∧ v ≤ 4000000000000000000 := by omega
  have bd : -4000000000000000000 ≤ d ∧ d ≤ 4000000000000000000 := by omega
  rw [hu] at e3
  rw [hv] at e6
  obtain ⟨xb, xo, rfl, hxb, c0, c1, c2, c3⟩ := hx.four
  have HE := Lib.hid hE
  have HSS := Lib.hid hs
  have HS := Lib.hid h0
  have HX := Lib.hid hx
  have HU := Lib.hid hu
  have HV := Lib.hid hv
  have HD := Lib.hid hd
  have HC1 := Lib.hid hc1
  have HC2 := Lib.hid hc2
  clear hE hx h0 hq hdd hc1 hc2 hu hv hd hs m1 m2 m3 m4 m5 m6
  go_enter Try.func42, Try.ntmps42
  have C0_0 := Lib.hid c0
  have C1_0 := Lib.hid c1
  have C2_0 := Lib.hid c2
  have C3_0 := Lib.hid c3
  clear c0 c1 c2 c3
  go_wp2_with fail
  generalize hwn : ((w.alloc (.cells #[.int .i64 (x), .int .i64 (y)] 46)).alloc (.cells #[.int .i64 (0), .int .i64 (0), .int .i64 (0), .int .i64 (0)] 73)) = w1
  have hbn : Below w.heap.size w w1 := by rw [← hwn]; repeat' (first | exact Below.refl _ _ | refine below_drewN ?_ _ | refine Below.drew ?_ | refine Below.alloc ?_ (by first | omega | (simp; done) | (simp; omega) | (simp [World.setCell]; omega)) _ | refine Below.setCell ?_ (by first | omega | (simp; done) | (simp; omega)) _)
  have HB1 := Lib.hid (show Below w.heap.size w w1 from hbn)
  have K0_1 := Lib.hid (show Blk w1 (w.heap.size) 46 #[.int .i64 (x), .int .i64 (y)] by rw [← hwn]; repeat' (first | exact Blk.at_ _ (by first | rfl | (simp; done) | (simp; omega)) _ _ | refine Blk.drewN ?_ _ | refine Blk.drew ?_ | refine Blk.alloc ?_ _ | refine Blk.far ?_ (by first | omega | (simp; done) | (simp; omega)) _ | assumption))
  have K1_1 := Lib.hid (show Blk w1 (w.heap.size + 1) 73 #[.int .i64 (0), .int .i64 (0), .int .i64 (0), .int .i64 (0)] by rw [← hwn]; repeat' (first | exact Blk.at_ _ (by first | rfl | (simp; done) | (simp; omega)) _ _ | refine Blk.drewN ?_ _ | refine Blk.drew ?_ | refine Blk.alloc ?_ _ | refine Blk.far ?_ (by first | omega | (simp; done) | (simp; omega)) _ | assumption))
  have C0_1 := Lib.hid (step_cell hbn C0_0.out (by have := hxb; first | omega | (simp; omega)))
  have C1_1 := Lib.hid (step_cell hbn C1_0.out (by have := hxb; first | omega | (simp; omega)))
  have C2_1 := Lib.hid (step_cell hbn C2_0.out (by have := hxb; first | omega | (simp; omega)))
  have C3_1 := Lib.hid (step_cell hbn C3_0.out (by have := hxb; first | omega | (simp; omega)))
  have HN1 := Lib.hid hbn
  have hz1 := hbn.size
  clear hwn hbn
  have l0_1 : w.heap.size < w1.heap.size := K0_1.out.lt
  have z0_0_1 : w1.cell? ⟨w.heap.size, 0, none⟩ = some (.int .i64 (x)) := K0_1.out.cell 0
  have z0_1_1 : w1.cell? ⟨w.heap.size, 1, none⟩ = some (.int .i64 (y)) := K0_1.out.cell 1
  have l1_1 : w.heap.size + 1 < w1.heap.size := K1_1.out.lt
  have z1_0_1 : w1.cell? ⟨w.heap.size + 1, 0, none⟩ = some (.int .i64 (0)) := K1_1.out.cell 0
  have z1_1_1 : w1.cell? ⟨w.heap.size + 1, 1, none⟩ = some (.int .i64 (0)) := K1_1.out.cell 1
  have z1_2_1 : w1.cell? ⟨w.heap.size + 1, 2, none⟩ = some (.int .i64 (0)) := K1_1.out.cell 2
  have z1_3_1 : w1.cell? ⟨w.heap.size + 1, 3, none⟩ = some (.int .i64 (0)) := K1_1.out.cell 3
  have hxr := (HX.out.below HB1.out).more HB1.out.size
  have R0_1 := Lib.hid hxr
  clear hxr
  refine (pscrews_is _ 2 c _ 0 HE.out _ R0_1.out (by omega)).mono ?_
  rintro e w2 ⟨rfl, hb⟩
  have HB2 := Lib.hid (show Below w.heap.size w w2 from step_below hb (by repeat' (first | exact Below.refl _ _ | exact HB1.out | refine below_drewN ?_ _ | refine Below.drew ?_ | refine Below.alloc ?_ (by first | omega | (simp; done) | (simp; omega) | (simp [World.setCell]; omega)) _ | refine Below.setCell ?_ (by first | omega | (simp; done) | (simp; omega)) _ | assumption)))
  have K0_2 := Lib.hid (step_blk hb (show Blk _ (w.heap.size) 46 #[.int .i64 (x), .int .i64 (y)] by repeat' (first | exact K0_1.out | exact K1_1.out | exact Blk.at_ _ (by first | rfl | (simp; done) | (simp; omega)) _ _ | refine Blk.drewN ?_ _ | refine Blk.drew ?_ | refine Blk.alloc ?_ _ | refine Blk.far ?_ (by first | omega | (simp; done) | (simp; omega)) _ | assumption)))
  have K1_2 := Lib.hid (step_blk hb (show Blk _ (w.heap.size + 1) 73 #[.int .i64 (0), .int .i64 (0), .int .i64 (0), .int .i64 (0)] by repeat' (first | exact K0_1.out | exact K1_1.out | exact Blk.at_ _ (by first | rfl | (simp; done) | (simp; omega)) _ _ | refine Blk.drewN ?_ _ | refine Blk.drew ?_ | refine Blk.alloc ?_ _ | refine Blk.far ?_ (by first | omega | (simp; done) | (simp; omega)) _ | assumption)))
  have C0_2 := Lib.hid (step_cell hb (show World.cell? _ ⟨xb, xo, none⟩ = some (.int .i64 (a0)) by first | exact C0_1.out | go_simp) (by have := hxb; first | omega | (simp; omega)))
  have C1_2 := Lib.hid (step_cell hb (show World.cell? _ ⟨xb, xo + 1, none⟩ = some (.int .i64 (a1)) by first | exact C1_1.out | go_simp) (by have := hxb; first | omega | (simp; omega)))
  have C2_2 := Lib.hid (step_cell hb (show World.cell? _ ⟨xb, xo + 2, none⟩ = some (.int .i64 (b0)) by first | exact C2_1.out | go_simp) (by have := hxb; first | omega | (simp; omega)))
  have C3_2 := Lib.hid (step_cell hb (show World.cell? _ ⟨xb, xo + 2 + 1, none⟩ = some (.int .i64 (b1)) by first | exact C3_1.out | go_simp) (by have := hxb; first | omega | (simp; omega)))
  have hL2 := Lib.hid (show Below w1.heap.size w1 _ from reads_mid hb (by repeat' (first | exact Below.refl _ _ | refine below_drewN ?_ _ | refine Below.drew ?_ | refine Below.alloc ?_ (by first | omega | (simp; done) | (simp; omega) | (simp [World.setCell]; omega)) _ | refine Below.setCell ?_ (by first | omega | (simp; done) | (simp; omega)) _)))
  have R0_2 := Lib.hid (reads_lay hb hL2.out R0_1.out)
  clear hL2 R0_1
  have hz2 := hb.size
  try simp only [World.size_alloc, World.drewN, World.drew] at hz2
  clear hb K0_1 K1_1 z0_0_1 z0_1_1 l0_1 z1_0_1 z1_1_1 z1_2_1 z1_3_1 l1_1
  have l0_2 : w.heap.size < w2.heap.size := K0_2.out.lt
  have z0_0_2 : w2.cell? ⟨w.heap.size, 0, none⟩ = some (.int .i64 (x)) := K0_2.out.cell 0
  have z0_1_2 : w2.cell? ⟨w.heap.size, 1, none⟩ = some (.int .i64 (y)) := K0_2.out.cell 1
  have l1_2 : w.heap.size + 1 < w2.heap.size := K1_2.out.lt
  have z1_0_2 : w2.cell? ⟨w.heap.size + 1, 0, none⟩ = some (.int .i64 (0)) := K1_2.out.cell 0
  have z1_1_2 : w2.cell? ⟨w.heap.size + 1, 1, none⟩ = some (.int .i64 (0)) := K1_2.out.cell 1
  have z1_2_2 : w2.cell? ⟨w.heap.size + 1, 2, none⟩ = some (.int .i64 (0)) := K1_2.out.cell 2
  have z1_3_2 : w2.cell? ⟨w.heap.size + 1, 3, none⟩ = some (.int .i64 (0)) := K1_2.out.cell 3
  go_wp2_with fail
  refine (smallpt_is 100000 (some ⟨w.heap.size, 0, none⟩) 2 2 _ [x, y] true HS.out _ (by omega) (by omega) (Blk.reads K0_2.out rfl) (Nat.le_refl _) (by omega)).mono ?_
  rintro e w3 ⟨rfl, hb⟩
  have HB3 := Lib.hid (show Below w.heap.size w w3 from step_below hb (by repeat' (first | exact Below.refl _ _ | exact HB2.out | refine below_drewN ?_ _ | refine Below.drew ?_ | refine Below.alloc ?_ (by first | omega | (simp; done) | (simp; omega) | (simp [World.setCell]; omega)) _ | refine Below.setCell ?_ (by first | omega | (simp; done) | (simp; omega)) _ | assumption)))
  have K0_3 := Lib.hid (step_blk hb (show Blk _ (w.heap.size) 46 #[.int .i64 (x), .int .i64 (y)] by repeat' (first | exact K0_2.out | exact K1_2.out | exact Blk.at_ _ (by first | rfl | (simp; done) | (simp; omega)) _ _ | refine Blk.drewN ?_ _ | refine Blk.drew ?_ | refine Blk.alloc ?_ _ | refine Blk.far ?_ (by first | omega | (simp; done) | (simp; omega)) _ | assumption)))
  have K1_3 := Lib.hid (step_blk hb (show Blk _ (w.heap.size + 1) 73 #[.int .i64 (0), .int .i64 (0), .int .i64 (0), .int .i64 (0)] by repeat' (first | exact K0_2.out | exact K1_2.out | exact Blk.at_ _ (by first | rfl | (simp; done) | (simp; omega)) _ _ | refine Blk.drewN ?_ _ | refine Blk.drew ?_ | refine Blk.alloc ?_ _ | refine Blk.far ?_ (by first | omega | (simp; done) | (simp; omega)) _ | assumption)))
  have C0_3 := Lib.hid (step_cell hb (show World.cell? _ ⟨xb, xo, none⟩ = some (.int .i64 (a0)) by first | exact C0_2.out | go_simp) (by have := hxb; first | omega | (simp; omega)))
  have C1_3 := Lib.hid (step_cell hb (show World.cell? _ ⟨xb, xo + 1, none⟩ = some (.int .i64 (a1)) by first | exact C1_2.out | go_simp) (by have := hxb; first | omega | (simp; omega)))
  have C2_3 := Lib.hid (step_cell hb (show World.cell? _ ⟨xb, xo + 2, none⟩ = some (.int .i64 (b0)) by first | exact C2_2.out | go_simp) (by have := hxb; first | omega | (simp; omega)))
  have C3_3 := Lib.hid (step_cell hb (show World.cell? _ ⟨xb, xo + 2 + 1, none⟩ = some (.int .i64 (b1)) by first | exact C3_2.out | go_simp) (by have := hxb; first | omega | (simp; omega)))
  have hL3 := Lib.hid (show Below w2.heap.size w2 _ from reads_mid hb (by repeat' (first | exact Below.refl _ _ | refine below_drewN ?_ _ | refine Below.drew ?_ | refine Below.alloc ?_ (by first | omega | (simp; done) | (simp; omega) | (simp [World.setCell]; omega)) _ | refine Below.setCell ?_ (by first | omega | (simp; done) | (simp; omega)) _)))
  have R0_3 := Lib.hid (reads_lay hb hL3.out R0_2.out)
  clear hL3 R0_2
  have hz3 := hb.size
  try simp only [World.size_alloc, World.drewN, World.drew] at hz3
  clear hb K0_2 K1_2 z0_0_2 z0_1_2 l0_2 z1_0_2 z1_1_2 z1_2_2 z1_3_2 l1_2
  have l0_3 : w.heap.size < w3.heap.size := K0_3.out.lt
  have z0_0_3 : w3.cell? ⟨w.heap.size, 0, none⟩ = some (.int .i64 (x)) := K0_3.out.cell 0
  have z0_1_3 : w3.cell? ⟨w.heap.size, 1, none⟩ = some (.int .i64 (y)) := K0_3.out.cell 1
  have l1_3 : w.heap.size + 1 < w3.heap.size := K1_3.out.lt
  have z1_0_3 : w3.cell? ⟨w.heap.size + 1, 0, none⟩ = some (.int .i64 (0)) := K1_3.out.cell 0
  have z1_1_3 : w3.cell? ⟨w.heap.size + 1, 1, none⟩ = some (.int .i64 (0)) := K1_3.out.cell 1
  have z1_2_3 : w3.cell? ⟨w.heap.size + 1, 2, none⟩ = some (.int .i64 (0)) := K1_3.out.cell 2
  have z1_3_3 : w3.cell? ⟨w.heap.size + 1, 3, none⟩ = some (.int .i64 (0)) := K1_3.out.cell 3
  go_wp2
  apply share (Fact := fun (x y : Pick) (wz : World) => ∃ bx by_, x.1 = some ⟨bx, 0, none⟩ ∧ y.1 = some ⟨by_, 0, none⟩ ∧ w3.heap.size ≤ bx ∧ w3.heap.size ≤ by_ ∧ Below w3.heap.size w3 wz ∧ Blk wz bx 46 #[.int .i64 (a0), .int .i64 (a1)] ∧ Blk wz by_ 46 #[.int .i64 (b0), .int .i64 (b1)])
  · skip
    intro key
    refine Fx.regionM (fun W g f w' => Below W.heap.size W w' ∧ MkM 46 (.int .i64 (a0)) (.int .i64 (a1)) 6 8 W g f w' ∧ MkM 46 (.int .i64 (b0)) (.int .i64 (b1)) 7 9 W g f w' ∧ (∀ x y bx by_, g 6 = some x → g 7 = some y → x.1 = some ⟨bx, 0, none⟩ → y.1 = some ⟨by_, 0, none⟩ → bx ≠ by_)) (fun _ (x : Pick) => .pointer x.1) (by kernel_rfl) ?_ ?_
    · intro f hf0
      exact ⟨below_drewN (Below.refl _ _) 1, MkM.start, MkM.start, fun x y bx by_ h => by cases h⟩
    first
    | (refine Fx.WM.skip 0 (by rfl) (by kernel_rfl) (by kernel_rfl) (by kernel_rfl) (by rfl) (fun g f w h => h) ?_; simp only [Act.put, List.setIfInBounds_toArray, List.set_cons_zero, List.set_cons_succ])
    | (refine Fx.WM.val_ 0 ?_ (by rfl) (by kernel_rfl) (by kernel_rfl) (by kernel_rfl) (by rfl) ?_ (fun g f w h => h) ?_
       rotate_left
       · intro g f w' hx hD hk
         obtain ⟨hb, hm1, hm2, hne⟩ := id hD
         have y0 := (hb.cell (p := ⟨xb, xo, none⟩) (by show xb < _; omega)).trans C0_3.out
         have y1 := (hb.cell (p := ⟨xb, xo + 1, none⟩) (by show xb < _; omega)).trans C1_3.out
         have y2 := (hb.cell (p := ⟨xb, xo + 2, none⟩) (by show xb < _; omega)).trans C2_3.out
         have y3 := (hb.cell (p := ⟨xb, xo + 2 + 1, none⟩) (by show xb < _; omega)).trans C3_3.out
         clear hx hk hD hb hm1 hm2 hne
         go_simp
         try rfl
       simp only [Act.put, List.setIfInBounds_toArray, List.set_cons_zero, List.set_cons_succ])
    first
    | (refine Fx.WM.skip 1 (by rfl) (by kernel_rfl) (by kernel_rfl) (by kernel_rfl) (by rfl) (fun g f w h => h) ?_; simp only [Act.put, List.setIfInBounds_toArray, List.set_cons_zero, List.set_cons_succ])
    | (refine Fx.WM.val_ 1 ?_ (by rfl) (by kernel_rfl) (by kernel_rfl) (by kernel_rfl) (by rfl) ?_ (fun g f w h => h) ?_
       rotate_left
       · intro g f w' hx hD hk
         obtain ⟨hb, hm1, hm2, hne⟩ := id hD
         have y0 := (hb.cell (p := ⟨xb, xo, none⟩) (by show xb < _; omega)).trans C0_3.out
         have y1 := (hb.cell (p := ⟨xb, xo + 1, none⟩) (by show xb < _; omega)).trans C1_3.out
         have y2 := (hb.cell (p := ⟨xb, xo + 2, none⟩) (by show xb < _; omega)).trans C2_3.out
         have y3 := (hb.cell (p := ⟨xb, xo + 2 + 1, none⟩) (by show xb < _; omega)).trans C3_3.out
         clear hx hk hD hb hm1 hm2 hne
         go_simp
         try rfl
       simp only [Act.put, List.setIfInBounds_toArray, List.set_cons_zero, List.set_cons_succ])
    first
    | (refine Fx.WM.skip 2 (by rfl) (by kernel_rfl) (by kernel_rfl) (by kernel_rfl) (by rfl) (fun g f w h => h) ?_; simp only [Act.put, List.setIfInBounds_toArray, List.set_cons_zero, List.set_cons_succ])
    | (refine Fx.WM.val_ 2 ?_ (by rfl) (by kernel_rfl) (by kernel_rfl) (by kernel_rfl) (by rfl) ?_ (fun g f w h => h) ?_
       rotate_left
       · intro g f w' hx hD hk
         obtain ⟨hb, hm1, hm2, hne⟩ := id hD
         have y0 := (hb.cell (p := ⟨xb, xo, none⟩) (by show xb < _; omega)).trans C0_3.out
         have y1 := (hb.cell (p := ⟨xb, xo + 1, none⟩) (by show xb < _; omega)).trans C1_3.out
         have y2 := (hb.cell (p := ⟨xb, xo + 2, none⟩) (by show xb < _; omega)).trans C2_3.out
         have y3 := (hb.cell (p := ⟨xb, xo + 2 + 1, none⟩) (by show xb < _; omega)).trans C3_3.out
         clear hx hk hD hb hm1 hm2 hne
         go_simp
         try rfl
       simp only [Act.put, List.setIfInBounds_toArray, List.set_cons_zero, List.set_cons_succ])
    first
    | (refine Fx.WM.skip 3 (by rfl) (by kernel_rfl) (by kernel_rfl) (by kernel_rfl) (by rfl) (fun g f w h => h) ?_; simp only [Act.put, List.setIfInBounds_toArray, List.set_cons_zero, List.set_cons_succ])
    | (refine Fx.WM.val_ 3 ?_ (by rfl) (by kernel_rfl) (by kernel_rfl) (by kernel_rfl) (by rfl) ?_ (fun g f w h => h) ?_
       rotate_left
       · intro g f w' hx hD hk
         obtain ⟨hb, hm1, hm2, hne⟩ := id hD
         have y0 := (hb.cell (p := ⟨xb, xo, none⟩) (by show xb < _; omega)).trans C0_3.out
         have y1 := (hb.cell (p := ⟨xb, xo + 1, none⟩) (by show xb < _; omega)).trans C1_3.out
         have y2 := (hb.cell (p := ⟨xb, xo + 2, none⟩) (by show xb < _; omega)).trans C2_3.out
         have y3 := (hb.cell (p := ⟨xb, xo + 2 + 1, none⟩) (by show xb < _; omega)).trans C3_3.out
         clear hx hk hD hb hm1 hm2 hne
         go_simp
         try rfl
       simp only [Act.put, List.setIfInBounds_toArray, List.set_cons_zero, List.set_cons_succ])
    first
    | (refine Fx.WM.skip 4 (by rfl) (by kernel_rfl) (by kernel_rfl) (by kernel_rfl) (by rfl) (fun g f w h => h) ?_; simp only [Act.put, List.setIfInBounds_toArray, List.set_cons_zero, List.set_cons_succ])
    | (refine Fx.WM.val_ 4 ?_ (by rfl) (by kernel_rfl) (by kernel_rfl) (by kernel_rfl) (by rfl) ?_ (fun g f w h => h) ?_
       rotate_left
       · intro g f w' hx hD hk
         obtain ⟨hb, hm1, hm2, hne⟩ := id hD
         have y0 := (hb.cell (p := ⟨xb, xo, none⟩) (by show xb < _; omega)).trans C0_3.out
         have y1 := (hb.cell (p := ⟨xb, xo + 1, none⟩) (by show xb < _; omega)).trans C1_3.out
         have y2 := (hb.cell (p := ⟨xb, xo + 2, none⟩) (by show xb < _; omega)).trans C2_3.out
         have y3 := (hb.cell (p := ⟨xb, xo + 2 + 1, none⟩) (by show xb < _; omega)).trans C3_3.out
         clear hx hk hD hb hm1 hm2 hne
         go_simp
         try rfl
       simp only [Act.put, List.setIfInBounds_toArray, List.set_cons_zero, List.set_cons_succ])
    first
    | (refine Fx.WM.skip 5 (by rfl) (by kernel_rfl) (by kernel_rfl) (by kernel_rfl) (by rfl) (fun g f w h => h) ?_; simp only [Act.put, List.setIfInBounds_toArray, List.set_cons_zero, List.set_cons_succ])
    | (refine Fx.WM.val_ 5 ?_ (by rfl) (by kernel_rfl) (by kernel_rfl) (by kernel_rfl) (by rfl) ?_ (fun g f w h => h) ?_
       rotate_left
       · intro g f w' hx hD hk
         obtain ⟨hb, hm1, hm2, hne⟩ := id hD
         have y0 := (hb.cell (p := ⟨xb, xo, none⟩) (by show xb < _; omega)).trans C0_3.out
         have y1 := (hb.cell (p := ⟨xb, xo + 1, none⟩) (by show xb < _; omega)).trans C1_3.out
         have y2 := (hb.cell (p := ⟨xb, xo + 2, none⟩) (by show xb < _; omega)).trans C2_3.out
         have y3 := (hb.cell (p := ⟨xb, xo + 2 + 1, none⟩) (by show xb < _; omega)).trans C3_3.out
         clear hx hk hD hb hm1 hm2 hne
         go_simp
         try rfl
       simp only [Act.put, List.setIfInBounds_toArray, List.set_cons_zero, List.set_cons_succ])
    refine Fx.WM.choose2 6 7 (by rfl) (by rfl) (by kernel_rfl) (by rfl) (by rfl) ?_ ?_ ?_ ?_
    · skip
      refine Fx.Chooses.make (by rfl) ?_
      intro f w' hD hk
      obtain ⟨hb, hm1, hm2, hne⟩ := id hD
      refine ⟨(some ⟨w'.heap.size, 0, none⟩, 0), w'.alloc (.cells #[.int .i64 0, .int .i64 0] 46), ?_, ?_⟩
      · clear hk hD
        go_simp
        try rfl
      · exact ⟨hb.alloc hb.size _, MkM.make hb.size (hk.2.1 8 (by kernel_rfl)) (by decide), (hm2.step ((Below.refl _ _).alloc (Nat.le_refl _) _) (by decide)).other (by decide), fun x y bx by_ h1 h2 => by cases h2⟩
    · skip
      refine Fx.Chooses.make (by rfl) ?_
      intro f w' hD hk
      obtain ⟨hb, hm1, hm2, hne⟩ := id hD
      refine ⟨(some ⟨w'.heap.size, 0, none⟩, 0), w'.alloc (.cells #[.int .i64 0, .int .i64 0] 46), ?_, ?_⟩
      · clear hk hD
        go_simp
        try rfl
      · exact ⟨hb.alloc hb.size _, (hm1.step ((Below.refl _ _).alloc (Nat.le_refl _) _) (by decide)).other (by decide), MkM.make hb.size (hk.2.1 9 (by kernel_rfl)) (by decide), fun x y bx by_ h1 h2 => by cases h1⟩
    · skip
      intro x
      simp only [Act.put, List.setIfInBounds_toArray, List.set_cons_zero, List.set_cons_succ]
      refine Fx.WM.choose 7 (by rfl) (by kernel_rfl) (by rfl) ?_ ?_
      · skip
        refine Fx.Chooses.make (by rfl) ?_
        intro f w' hD hk
        obtain ⟨hb, hm1, hm2, hne⟩ := id hD
        refine ⟨(some ⟨w'.heap.size, 0, none⟩, 0), w'.alloc (.cells #[.int .i64 0, .int .i64 0] 46), ?_, ?_⟩
        · clear hk hD
          go_simp
          try rfl
        · exact ⟨hb.alloc hb.size _, (hm1.step ((Below.refl _ _).alloc (Nat.le_refl _) _) (by decide)).other (by decide), MkM.make hb.size (hk.2.1 9 (by kernel_rfl)) (by decide), MkM.fresh hm1 (by decide)⟩
      intro y
      simp only [Act.put, List.setIfInBounds_toArray, List.set_cons_zero, List.set_cons_succ]
      refine Fx.WM.eff 8 undef (by rfl) (by kernel_rfl) (by kernel_rfl) (by kernel_rfl) (by rfl) ?_ ?_
      · intro g f w' hx hD hk
        obtain ⟨hb, hm1, hm2, hne⟩ := id hD
        obtain ⟨bx, e0, e1, r0, r1, r2, r3, r4, r5⟩ := MkM.cells hm1 (hx 6 _ rfl)
        refine Fx.gives_skip (w' := (w'.setCell ⟨bx, 0, none⟩ (.int .i64 (a0))).setCell ⟨bx, 1, none⟩ (.int .i64 (a1))) ?_ ?_
        · clear hx hk hD hb hm1 hm2 hne
          go_simp
          try rfl
        · exact ⟨below_store hb r1, hm1.store (hx 6 _ rfl) r0, hm2.far (by decide) (fun y b' h1 h2 => (hne _ y _ b' (hx 6 _ rfl) h1 r0 h2).symm), hne⟩
      simp only [Act.put, List.setIfInBounds_toArray, List.set_cons_zero, List.set_cons_succ]
      refine Fx.WM.eff 9 undef (by rfl) (by kernel_rfl) (by kernel_rfl) (by kernel_rfl) (by rfl) ?_ ?_
      · intro g f w' hx hD hk
        obtain ⟨hb, hm1, hm2, hne⟩ := id hD
        obtain ⟨by_, e0, e1, r0, r1, r2, r3, r4, r5⟩ := MkM.cells hm2 (hx 7 _ rfl)
        refine Fx.gives_skip (w' := (w'.setCell ⟨by_, 0, none⟩ (.int .i64 (b0))).setCell ⟨by_, 1, none⟩ (.int .i64 (b1))) ?_ ?_
        · clear hx hk hD hb hm1 hm2 hne
          go_simp
          try rfl
        · exact ⟨below_store hb r1, hm1.far (by decide) (fun y b' h1 h2 => hne y _ b' _ h1 (hx 7 _ rfl) h2 r0), hm2.store (hx 7 _ rfl) r0, hne⟩
      simp only [Act.put, List.setIfInBounds_toArray, List.set_cons_zero, List.set_cons_succ]
      refine Fx.WM.nil (by kernel_rfl) ?_
      intro wz hD
      obtain ⟨hb, hm1, hm2, hne⟩ := hD
      obtain ⟨bx, hx1, hx2, hxb⟩ := hm1.end_ (x := x) (by rfl) (by rfl)
      obtain ⟨by_, hy1, hy2, hyb⟩ := hm2.end_ (x := y) (by rfl) (by rfl)
      exact key x y wz ⟨bx, by_, hx1, hy1, hx2, hy2, hb, hxb, hyb⟩
    · skip
      intro y
      simp only [Act.put, List.setIfInBounds_toArray, List.set_cons_zero, List.set_cons_succ]
      refine Fx.WM.choose 6 (by rfl) (by kernel_rfl) (by rfl) ?_ ?_
      · skip
        refine Fx.Chooses.make (by rfl) ?_
        intro f w' hD hk
        obtain ⟨hb, hm1, hm2, hne⟩ := id hD
        refine ⟨(some ⟨w'.heap.size, 0, none⟩, 0), w'.alloc (.cells #[.int .i64 0, .int .i64 0] 46), ?_, ?_⟩
        · clear hk hD
          go_simp
          try rfl
        · exact ⟨hb.alloc hb.size _, MkM.make hb.size (hk.2.1 8 (by kernel_rfl)) (by decide), (hm2.step ((Below.refl _ _).alloc (Nat.le_refl _) _) (by decide)).other (by decide), fun x y bx by_ h1 h2 e1 e2 => (MkM.fresh hm2 (by decide) y x by_ bx h2 h1 e2 e1).symm⟩
      intro x
      simp only [Act.put, List.setIfInBounds_toArray, List.set_cons_zero, List.set_cons_succ]
      refine Fx.WM.eff 8 undef (by rfl) (by kernel_rfl) (by kernel_rfl) (by kernel_rfl) (by rfl) ?_ ?_
      · intro g f w' hx hD hk
        obtain ⟨hb, hm1, hm2, hne⟩ := id hD
        obtain ⟨bx, e0, e1, r0, r1, r2, r3, r4, r5⟩ := MkM.cells hm1 (hx 6 _ rfl)
        refine Fx.gives_skip (w' := (w'.setCell ⟨bx, 0, none⟩ (.int .i64 (a0))).setCell ⟨bx, 1, none⟩ (.int .i64 (a1))) ?_ ?_
        · clear hx hk hD hb hm1 hm2 hne
          go_simp
          try rfl
        · exact ⟨below_store hb r1, hm1.store (hx 6 _ rfl) r0, hm2.far (by decide) (fun y b' h1 h2 => (hne _ y _ b' (hx 6 _ rfl) h1 r0 h2).symm), hne⟩
      simp only [Act.put, List.setIfInBounds_toArray, List.set_cons_zero, List.set_cons_succ]
      refine Fx.WM.eff 9 undef (by rfl) (by kernel_rfl) (by kernel_rfl) (by kernel_rfl) (by rfl) ?_ ?_
      · intro g f w' hx hD hk
        obtain ⟨hb, hm1, hm2, hne⟩ := id hD
        obtain ⟨by_, e0, e1, r0, r1, r2, r3, r4, r5⟩ := MkM.cells hm2 (hx 7 _ rfl)
        refine Fx.gives_skip (w' := (w'.setCell ⟨by_, 0, none⟩ (.int .i64 (b0))).setCell ⟨by_, 1, none⟩ (.int .i64 (b1))) ?_ ?_
        · clear hx hk hD hb hm1 hm2 hne
          go_simp
          try rfl
        · exact ⟨below_store hb r1, hm1.far (by decide) (fun y b' h1 h2 => hne y _ b' _ h1 (hx 7 _ rfl) h2 r0), hm2.store (hx 7 _ rfl) r0, hne⟩
      simp only [Act.put, List.setIfInBounds_toArray, List.set_cons_zero, List.set_cons_succ]
      refine Fx.WM.nil (by kernel_rfl) ?_
      intro wz hD
      obtain ⟨hb, hm1, hm2, hne⟩ := hD
      obtain ⟨bx, hx1, hx2, hxb⟩ := hm1.end_ (x := x) (by rfl) (by rfl)
      obtain ⟨by_, hy1, hy2, hyb⟩ := hm2.end_ (x := y) (by rfl) (by rfl)
      exact key x y wz ⟨bx, by_, hx1, hy1, hx2, hy2, hb, hxb, hyb⟩
  rintro ⟨x1, x2⟩ ⟨y1, y2⟩ w4 ⟨bx, by_, hx1, hy1, hbx, hby, hb, ha, hbk⟩
  simp only at hx1 hy1
  subst hx1 hy1
  have HB4 := Lib.hid (show Below w.heap.size w w4 from step_below hb (by repeat' (first | exact Below.refl _ _ | exact HB3.out | refine below_drewN ?_ _ | refine Below.drew ?_ | refine Below.alloc ?_ (by first | omega | (simp; done) | (simp; omega) | (simp [World.setCell]; omega)) _ | refine Below.setCell ?_ (by first | omega | (simp; done) | (simp; omega)) _ | assumption)))
  have K0_4 := Lib.hid (step_blk hb (show Blk _ (w.heap.size) 46 #[.int .i64 (x), .int .i64 (y)] by repeat' (first | exact K0_3.out | exact K1_3.out | exact Blk.at_ _ (by first | rfl | (simp; done) | (simp; omega)) _ _ | refine Blk.drewN ?_ _ | refine Blk.drew ?_ | refine Blk.alloc ?_ _ | refine Blk.far ?_ (by first | omega | (simp; done) | (simp; omega)) _ | assumption)))
  have K1_4 := Lib.hid (step_blk hb (show Blk _ (w.heap.size + 1) 73 #[.int .i64 (0), .int .i64 (0), .int .i64 (0), .int .i64 (0)] by repeat' (first | exact K0_3.out | exact K1_3.out | exact Blk.at_ _ (by first | rfl | (simp; done) | (simp; omega)) _ _ | refine Blk.drewN ?_ _ | refine Blk.drew ?_ | refine Blk.alloc ?_ _ | refine Blk.far ?_ (by first | omega | (simp; done) | (simp; omega)) _ | assumption)))
  have C0_4 := Lib.hid (step_cell hb (show World.cell? _ ⟨xb, xo, none⟩ = some (.int .i64 (a0)) by first | exact C0_3.out | go_simp) (by have := hxb; first | omega | (simp; omega)))
  have C1_4 := Lib.hid (step_cell hb (show World.cell? _ ⟨xb, xo + 1, none⟩ = some (.int .i64 (a1)) by first | exact C1_3.out | go_simp) (by have := hxb; first | omega | (simp; omega)))
  have C2_4 := Lib.hid (step_cell hb (show World.cell? _ ⟨xb, xo + 2, none⟩ = some (.int .i64 (b0)) by first | exact C2_3.out | go_simp) (by have := hxb; first | omega | (simp; omega)))
  have C3_4 := Lib.hid (step_cell hb (show World.cell? _ ⟨xb, xo + 2 + 1, none⟩ = some (.int .i64 (b1)) by first | exact C3_3.out | go_simp) (by have := hxb; first | omega | (simp; omega)))
  have hL4 := Lib.hid (show Below w3.heap.size w3 _ from reads_mid hb (by repeat' (first | exact Below.refl _ _ | refine below_drewN ?_ _ | refine Below.drew ?_ | refine Below.alloc ?_ (by first | omega | (simp; done) | (simp; omega) | (simp [World.setCell]; omega)) _ | refine Below.setCell ?_ (by first | omega | (simp; done) | (simp; omega)) _)))
  have R0_4 := Lib.hid (reads_lay hb hL4.out R0_3.out)
  clear hL4 R0_3
  have hz4 := hb.size
  try simp only [World.size_alloc, World.drewN, World.drew] at hz4
  clear hb K0_3 K1_3 z0_0_3 z0_1_3 l0_3 z1_0_3 z1_1_3 z1_2_3 z1_3_3 l1_3
  have l0_4 : w.heap.size < w4.heap.size := K0_4.out.lt
  have z0_0_4 : w4.cell? ⟨w.heap.size, 0, none⟩ = some (.int .i64 (x)) := K0_4.out.cell 0
  have z0_1_4 : w4.cell? ⟨w.heap.size, 1, none⟩ = some (.int .i64 (y)) := K0_4.out.cell 1
  have l1_4 : w.heap.size + 1 < w4.heap.size := K1_4.out.lt
  have z1_0_4 : w4.cell? ⟨w.heap.size + 1, 0, none⟩ = some (.int .i64 (0)) := K1_4.out.cell 0
  have z1_1_4 : w4.cell? ⟨w.heap.size + 1, 1, none⟩ = some (.int .i64 (0)) := K1_4.out.cell 1
  have z1_2_4 : w4.cell? ⟨w.heap.size + 1, 2, none⟩ = some (.int .i64 (0)) := K1_4.out.cell 2
  have z1_3_4 : w4.cell? ⟨w.heap.size + 1, 3, none⟩ = some (.int .i64 (0)) := K1_4.out.cell 3
  have K2_4 := Lib.hid (show Blk w4 (bx) 46 #[.int .i64 (a0), .int .i64 (a1)] from ha)
  clear ha
  have l2_4 : bx < w4.heap.size := K2_4.out.lt
  have z2_0_4 : w4.cell? ⟨bx, 0, none⟩ = some (.int .i64 (a0)) := K2_4.out.cell 0
  have z2_1_4 : w4.cell? ⟨bx, 1, none⟩ = some (.int .i64 (a1)) := K2_4.out.cell 1
  have K3_4 := Lib.hid (show Blk w4 (by_) 46 #[.int .i64 (b0), .int .i64 (b1)] from hbk)
  clear hbk
  have l3_4 : by_ < w4.heap.size := K3_4.out.lt
  have z3_0_4 : w4.cell? ⟨by_, 0, none⟩ = some (.int .i64 (b0)) := K3_4.out.cell 0
  have z3_1_4 : w4.cell? ⟨by_, 1, none⟩ = some (.int .i64 (b1)) := K3_4.out.cell 1
  go_wp2
  refine Fx.regionM (fun W (g : Nat → Option Pick2) f w' => Ls 29 (fun W1 => ((((W1.setCell ⟨w.heap.size + 1, 0, none⟩ (.int .i64 p0)).setCell ⟨w.heap.size + 1, 1, none⟩ (.int .i64 p1)).setCell ⟨w.heap.size + 1, 2, none⟩ (.int .i64 q0)).setCell ⟨w.heap.size + 1, 3, none⟩ (.int .i64 q1))) W f w') (fun i (x : Pick2) => undef) (by kernel_rfl) ?_ ?_
  · intro f hf0
    exact Ls.start (hf0 29)
  first
  | (refine Fx.WM.skip 0 (by rfl) (by kernel_rfl) (by kernel_rfl) (by kernel_rfl) (by rfl) (fun g f w h => h.same (by decide)) ?_; simp only [Act.put, List.setIfInBounds_toArray, List.set_cons_zero, List.set_cons_succ])
  | (refine Fx.WM.val_ 0 ?_ (by rfl) (by kernel_rfl) (by kernel_rfl) (by kernel_rfl) (by rfl) ?_ (fun g f w h => h.same (by decide)) ?_
     rotate_left
     · intro g f w' hx hD hk
       obtain hls := id hD
       have hb := hls.pre (hk.2.1 29 (by kernel_rfl))
       clear hx hk hD hls hb
       go_simp
       try rfl
     simp only [Act.put, List.setIfInBounds_toArray, List.set_cons_zero, List.set_cons_succ])
  first
  | (refine Fx.WM.skip 1 (by rfl) (by kernel_rfl) (by kernel_rfl) (by kernel_rfl) (by rfl) (fun g f w h => h.same (by decide)) ?_; simp only [Act.put, List.setIfInBounds_toArray, List.set_cons_zero, List.set_cons_succ])
  | (refine Fx.WM.val_ 1 ?_ (by rfl) (by kernel_rfl) (by kernel_rfl) (by kernel_rfl) (by rfl) ?_ (fun g f w h => h.same (by decide)) ?_
     rotate_left
     · intro g f w' hx hD hk
       obtain hls := id hD
       have hb := hls.pre (hk.2.1 29 (by kernel_rfl))
       have z2 := (K3_4.out.below hb l3_4).cell 0
       have z3 := (K3_4.out.below hb l3_4).cell 1
       clear hx hk hD hls hb
       go_simp
       try rfl
     simp only [Act.put, List.setIfInBounds_toArray, List.set_cons_zero, List.set_cons_succ])
  first
  | (refine Fx.WM.skip 2 (by rfl) (by kernel_rfl) (by kernel_rfl) (by kernel_rfl) (by rfl) (fun g f w h => h.same (by decide)) ?_; simp only [Act.put, List.setIfInBounds_toArray, List.set_cons_zero, List.set_cons_succ])
  | (refine Fx.WM.val_ 2 ?_ (by rfl) (by kernel_rfl) (by kernel_rfl) (by kernel_rfl) (by rfl) ?_ (fun g f w h => h.same (by decide)) ?_
     rotate_left
     · intro g f w' hx hD hk
       obtain hls := id hD
       have hb := hls.pre (hk.2.1 29 (by kernel_rfl))
       clear hx hk hD hls hb
       go_simp
       try rfl
     simp only [Act.put, List.setIfInBounds_toArray, List.set_cons_zero, List.set_cons_succ])
  first
  | (refine Fx.WM.skip 3 (by rfl) (by kernel_rfl) (by kernel_rfl) (by kernel_rfl) (by rfl) (fun g f w h => h.same (by decide)) ?_; simp only [Act.put, List.setIfInBounds_toArray, List.set_cons_zero, List.set_cons_succ])
  | (refine Fx.WM.val_ 3 ?_ (by rfl) (by kernel_rfl) (by kernel_rfl) (by kernel_rfl) (by rfl) ?_ (fun g f w h => h.same (by decide)) ?_
     rotate_left
     · intro g f w' hx hD hk
       obtain hls := id hD
       have hb := hls.pre (hk.2.1 29 (by kernel_rfl))
       have z4 := (K0_4.out.below hb l0_4).cell 0
       have z5 := (K0_4.out.below hb l0_4).cell 1
       clear hx hk hD hls hb
       go_simp
       try rfl
     simp only [Act.put, List.setIfInBounds_toArray, List.set_cons_zero, List.set_cons_succ])
  first
  | (refine Fx.WM.skip 4 (by rfl) (by kernel_rfl) (by kernel_rfl) (by kernel_rfl) (by rfl) (fun g f w h => h.same (by decide)) ?_; simp only [Act.put, List.setIfInBounds_toArray, List.set_cons_zero, List.set_cons_succ])
  | (refine Fx.WM.val_ 4 ?_ (by rfl) (by kernel_rfl) (by kernel_rfl) (by kernel_rfl) (by rfl) ?_ (fun g f w h => h.same (by decide)) ?_
     rotate_left
     · intro g f w' hx hD hk
       obtain hls := id hD
       have hb := hls.pre (hk.2.1 29 (by kernel_rfl))
       clear hx hk hD hls hb
       go_simp
       try rfl
     simp only [Act.put, List.setIfInBounds_toArray, List.set_cons_zero, List.set_cons_succ])
  first
  | (refine Fx.WM.skip 5 (by rfl) (by kernel_rfl) (by kernel_rfl) (by kernel_rfl) (by rfl) (fun g f w h => h.same (by decide)) ?_; simp only [Act.put, List.setIfInBounds_toArray, List.set_cons_zero, List.set_cons_succ])
  | (refine Fx.WM.val_ 5 ?_ (by rfl) (by kernel_rfl) (by kernel_rfl) (by kernel_rfl) (by rfl) ?_ (fun g f w h => h.same (by decide)) ?_
     rotate_left
     · intro g f w' hx hD hk
       obtain hls := id hD
       have hb := hls.pre (hk.2.1 29 (by kernel_rfl))
       clear hx hk hD hls hb
       go_simp
       try rfl
     simp only [Act.put, List.setIfInBounds_toArray, List.set_cons_zero, List.set_cons_succ])
  first
  | (refine Fx.WM.skip 6 (by rfl) (by kernel_rfl) (by kernel_rfl) (by kernel_rfl) (by rfl) (fun g f w h => h.same (by decide)) ?_; simp only [Act.put, List.setIfInBounds_toArray, List.set_cons_zero, List.set_cons_succ])
  | (refine Fx.WM.val_ 6 ?_ (by rfl) (by kernel_rfl) (by kernel_rfl) (by kernel_rfl) (by rfl) ?_ (fun g f w h => h.same (by decide)) ?_
     rotate_left
     · intro g f w' hx hD hk
       obtain hls := id hD
       have hb := hls.pre (hk.2.1 29 (by kernel_rfl))
       have z2 := (K3_4.out.below hb l3_4).cell 0
       have z3 := (K3_4.out.below hb l3_4).cell 1
       clear hx hk hD hls hb
       go_simp
       try rfl
     simp only [Act.put, List.setIfInBounds_toArray, List.set_cons_zero, List.set_cons_succ])
  first
  | (refine Fx.WM.skip 7 (by rfl) (by kernel_rfl) (by kernel_rfl) (by kernel_rfl) (by rfl) (fun g f w h => h.same (by decide)) ?_; simp only [Act.put, List.setIfInBounds_toArray, List.set_cons_zero, List.set_cons_succ])
  | (refine Fx.WM.val_ 7 ?_ (by rfl) (by kernel_rfl) (by kernel_rfl) (by kernel_rfl) (by rfl) ?_ (fun g f w h => h.same (by decide)) ?_
     rotate_left
     · intro g f w' hx hD hk
       obtain hls := id hD
       have hb := hls.pre (hk.2.1 29 (by kernel_rfl))
       clear hx hk hD hls hb
       go_simp
       try rfl
     simp only [Act.put, List.setIfInBounds_toArray, List.set_cons_zero, List.set_cons_succ])
  first
  | (refine Fx.WM.skip 8 (by rfl) (by kernel_rfl) (by kernel_rfl) (by kernel_rfl) (by rfl) (fun g f w h => h.same (by decide)) ?_; simp only [Act.put, List.setIfInBounds_toArray, List.set_cons_zero, List.set_cons_succ])
  | (refine Fx.WM.val_ 8 ?_ (by rfl) (by kernel_rfl) (by kernel_rfl) (by kernel_rfl) (by rfl) ?_ (fun g f w h => h.same (by decide)) ?_
     rotate_left
     · intro g f w' hx hD hk
       obtain hls := id hD
       have hb := hls.pre (hk.2.1 29 (by kernel_rfl))
       have z4 := (K0_4.out.below hb l0_4).cell 0
       have z5 := (K0_4.out.below hb l0_4).cell 1
       clear hx hk hD hls hb
       go_simp
       try rfl
     simp only [Act.put, List.setIfInBounds_toArray, List.set_cons_zero, List.set_cons_succ])
  first
  | (refine Fx.WM.skip 9 (by rfl) (by kernel_rfl) (by kernel_rfl) (by kernel_rfl) (by rfl) (fun g f w h => h.same (by decide)) ?_; simp only [Act.put, List.setIfInBounds_toArray, List.set_cons_zero, List.set_cons_succ])
  | (refine Fx.WM.val_ 9 ?_ (by rfl) (by kernel_rfl) (by kernel_rfl) (by kernel_rfl) (by rfl) ?_ (fun g f w h => h.same (by decide)) ?_
     rotate_left
     · intro g f w' hx hD hk
       obtain hls := id hD
       have hb := hls.pre (hk.2.1 29 (by kernel_rfl))
       clear hx hk hD hls hb
       go_simp
       try rfl
     simp only [Act.put, List.setIfInBounds_toArray, List.set_cons_zero, List.set_cons_succ])
  first
  | (refine Fx.WM.skip 10 (by rfl) (by kernel_rfl) (by kernel_rfl) (by kernel_rfl) (by rfl) (fun g f w h => h.same (by decide)) ?_; simp only [Act.put, List.setIfInBounds_toArray, List.set_cons_zero, List.set_cons_succ])
  | (refine Fx.WM.val_ 10 ?_ (by rfl) (by kernel_rfl) (by kernel_rfl) (by kernel_rfl) (by rfl) ?_ (fun g f w h => h.same (by decide)) ?_
     rotate_left
     · intro g f w' hx hD hk
       obtain hls := id hD
       have hb := hls.pre (hk.2.1 29 (by kernel_rfl))
       have hu := HU.out
       clear hx hk hD hls hb
       go_simp
       try rfl
     simp only [Act.put, List.setIfInBounds_toArray, List.set_cons_zero, List.set_cons_succ])
  first
  | (refine Fx.WM.skip 11 (by rfl) (by kernel_rfl) (by kernel_rfl) (by kernel_rfl) (by rfl) (fun g f w h => h.same (by decide)) ?_; simp only [Act.put, List.setIfInBounds_toArray, List.set_cons_zero, List.set_cons_succ])
  | (refine Fx.WM.val_ 11 ?_ (by rfl) (by kernel_rfl) (by kernel_rfl) (by kernel_rfl) (by rfl) ?_ (fun g f w h => h.same (by decide)) ?_
     rotate_left
     · intro g f w' hx hD hk
       obtain hls := id hD
       have hb := hls.pre (hk.2.1 29 (by kernel_rfl))
       clear hx hk hD hls hb
       go_simp
       try rfl
     simp only [Act.put, List.setIfInBounds_toArray, List.set_cons_zero, List.set_cons_succ])
  refine Fx.WM.call 12 (.int .i64 (d)) ?_ ?_ (by rfl) (by kernel_rfl) (by kernel_rfl) (by kernel_rfl) (by rfl) ?_ ?_ ?_
  rotate_left 2
  · intro w'
    go_simp
    refine ⟨?_, ?_⟩ <;> rfl
  · intro g f w' hx hD hk
    exact (low (area_is _ c _ a0 a1 b0 b1 d HD.out HSS.out w' ((R0_4.out.below (hD.pre (hk.2.1 29 (by kernel_rfl)))).more (hD.pre (hk.2.1 29 (by kernel_rfl))).size))).mono fun e w'' ⟨he, hw⟩ => ⟨he, hD.call (by decide) (hk.2.1 29 (by kernel_rfl)) hw⟩
  simp only [Act.put, List.setIfInBounds_toArray, List.set_cons_zero, List.set_cons_succ]
  refine Fx.WM.call 13 (.agg #[.int .i64 p0, .int .i64 p1]) ?_ ?_ (by rfl) (by kernel_rfl) (by kernel_rfl) (by kernel_rfl) (by rfl) ?_ ?_ ?_
  rotate_left 2
  · intro w'
    go_simp
    refine ⟨?_, ?_⟩ <;> rfl
  · intro g f w' hx hD hk
    exact (plowest_is u d p0 p1 HC1.out hd0 w' bu.1 bu.2 bd.1 bd.2).mono fun e w'' ⟨he, hw⟩ => ⟨he, hD.call (by decide) (hk.2.1 29 (by kernel_rfl)) hw⟩
  simp only [Act.put, List.setIfInBounds_toArray, List.set_cons_zero, List.set_cons_succ]
  first
  | (refine Fx.WM.skip 14 (by rfl) (by kernel_rfl) (by kernel_rfl) (by kernel_rfl) (by rfl) (fun g f w h => h.same (by decide)) ?_; simp only [Act.put, List.setIfInBounds_toArray, List.set_cons_zero, List.set_cons_succ])
  | (refine Fx.WM.val_ 14 ?_ (by rfl) (by kernel_rfl) (by kernel_rfl) (by kernel_rfl) (by rfl) ?_ (fun g f w h => h.same (by decide)) ?_
     rotate_left
     · intro g f w' hx hD hk
       obtain hls := id hD
       have hb := hls.pre (hk.2.1 29 (by kernel_rfl))
       clear hx hk hD hls hb
       go_simp
       try rfl
     simp only [Act.put, List.setIfInBounds_toArray, List.set_cons_zero, List.set_cons_succ])
  first
  | (refine Fx.WM.skip 15 (by rfl) (by kernel_rfl) (by kernel_rfl) (by kernel_rfl) (by rfl) (fun g f w h => h.same (by decide)) ?_; simp only [Act.put, List.setIfInBounds_toArray, List.set_cons_zero, List.set_cons_succ])
  | (refine Fx.WM.val_ 15 ?_ (by rfl) (by kernel_rfl) (by kernel_rfl) (by kernel_rfl) (by rfl) ?_ (fun g f w h => h.same (by decide)) ?_
     rotate_left
     · intro g f w' hx hD hk
       obtain hls := id hD
       have hb := hls.pre (hk.2.1 29 (by kernel_rfl))
       have z0 := (K2_4.out.below hb l2_4).cell 0
       have z1 := (K2_4.out.below hb l2_4).cell 1
       clear hx hk hD hls hb
       go_simp
       try rfl
     simp only [Act.put, List.setIfInBounds_toArray, List.set_cons_zero, List.set_cons_succ])
  first
  | (refine Fx.WM.skip 16 (by rfl) (by kernel_rfl) (by kernel_rfl) (by kernel_rfl) (by rfl) (fun g f w h => h.same (by decide)) ?_; simp only [Act.put, List.setIfInBounds_toArray, List.set_cons_zero, List.set_cons_succ])
  | (refine Fx.WM.val_ 16 ?_ (by rfl) (by kernel_rfl) (by kernel_rfl) (by kernel_rfl) (by rfl) ?_ (fun g f w h => h.same (by decide)) ?_
     rotate_left
     · intro g f w' hx hD hk
       obtain hls := id hD
       have hb := hls.pre (hk.2.1 29 (by kernel_rfl))
       clear hx hk hD hls hb
       go_simp
       try rfl
     simp only [Act.put, List.setIfInBounds_toArray, List.set_cons_zero, List.set_cons_succ])
  first
  | (refine Fx.WM.skip 17 (by rfl) (by kernel_rfl) (by kernel_rfl) (by kernel_rfl) (by rfl) (fun g f w h => h.same (by decide)) ?_; simp only [Act.put, List.setIfInBounds_toArray, List.set_cons_zero, List.set_cons_succ])
  | (refine Fx.WM.val_ 17 ?_ (by rfl) (by kernel_rfl) (by kernel_rfl) (by kernel_rfl) (by rfl) ?_ (fun g f w h => h.same (by decide)) ?_
     rotate_left
     · intro g f w' hx hD hk
       obtain hls := id hD
       have hb := hls.pre (hk.2.1 29 (by kernel_rfl))
       have z4 := (K0_4.out.below hb l0_4).cell 0
       have z5 := (K0_4.out.below hb l0_4).cell 1
       clear hx hk hD hls hb
       go_simp
       try rfl
     simp only [Act.put, List.setIfInBounds_toArray, List.set_cons_zero, List.set_cons_succ])
  first
  | (refine Fx.WM.skip 18 (by rfl) (by kernel_rfl) (by kernel_rfl) (by kernel_rfl) (by rfl) (fun g f w h => h.same (by decide)) ?_; simp only [Act.put, List.setIfInBounds_toArray, List.set_cons_zero, List.set_cons_succ])
  | (refine Fx.WM.val_ 18 ?_ (by rfl) (by kernel_rfl) (by kernel_rfl) (by kernel_rfl) (by rfl) ?_ (fun g f w h => h.same (by decide)) ?_
     rotate_left
     · intro g f w' hx hD hk
       obtain hls := id hD
       have hb := hls.pre (hk.2.1 29 (by kernel_rfl))
       clear hx hk hD hls hb
       go_simp
       try rfl
     simp only [Act.put, List.setIfInBounds_toArray, List.set_cons_zero, List.set_cons_succ])
  first
  | (refine Fx.WM.skip 19 (by rfl) (by kernel_rfl) (by kernel_rfl) (by kernel_rfl) (by rfl) (fun g f w h => h.same (by decide)) ?_; simp only [Act.put, List.setIfInBounds_toArray, List.set_cons_zero, List.set_cons_succ])
  | (refine Fx.WM.val_ 19 ?_ (by rfl) (by kernel_rfl) (by kernel_rfl) (by kernel_rfl) (by rfl) ?_ (fun g f w h => h.same (by decide)) ?_
     rotate_left
     · intro g f w' hx hD hk
       obtain hls := id hD
       have hb := hls.pre (hk.2.1 29 (by kernel_rfl))
       clear hx hk hD hls hb
       go_simp
       try rfl
     simp only [Act.put, List.setIfInBounds_toArray, List.set_cons_zero, List.set_cons_succ])
  first
  | (refine Fx.WM.skip 20 (by rfl) (by kernel_rfl) (by kernel_rfl) (by kernel_rfl) (by rfl) (fun g f w h => h.same (by decide)) ?_; simp only [Act.put, List.setIfInBounds_toArray, List.set_cons_zero, List.set_cons_succ])
  | (refine Fx.WM.val_ 20 ?_ (by rfl) (by kernel_rfl) (by kernel_rfl) (by kernel_rfl) (by rfl) ?_ (fun g f w h => h.same (by decide)) ?_
     rotate_left
     · intro g f w' hx hD hk
       obtain hls := id hD
       have hb := hls.pre (hk.2.1 29 (by kernel_rfl))
       have z0 := (K2_4.out.below hb l2_4).cell 0
       have z1 := (K2_4.out.below hb l2_4).cell 1
       clear hx hk hD hls hb
       go_simp
       try rfl
     simp only [Act.put, List.setIfInBounds_toArray, List.set_cons_zero, List.set_cons_succ])
  first
  | (refine Fx.WM.skip 21 (by rfl) (by kernel_rfl) (by kernel_rfl) (by kernel_rfl) (by rfl) (fun g f w h => h.same (by decide)) ?_; simp only [Act.put, List.setIfInBounds_toArray, List.set_cons_zero, List.set_cons_succ])
  | (refine Fx.WM.val_ 21 ?_ (by rfl) (by kernel_rfl) (by kernel_rfl) (by kernel_rfl) (by rfl) ?_ (fun g f w h => h.same (by decide)) ?_
     rotate_left
     · intro g f w' hx hD hk
       obtain hls := id hD
       have hb := hls.pre (hk.2.1 29 (by kernel_rfl))
       clear hx hk hD hls hb
       go_simp
       try rfl
     simp only [Act.put, List.setIfInBounds_toArray, List.set_cons_zero, List.set_cons_succ])
  first
  | (refine Fx.WM.skip 22 (by rfl) (by kernel_rfl) (by kernel_rfl) (by kernel_rfl) (by rfl) (fun g f w h => h.same (by decide)) ?_; simp only [Act.put, List.setIfInBounds_toArray, List.set_cons_zero, List.set_cons_succ])
  | (refine Fx.WM.val_ 22 ?_ (by rfl) (by kernel_rfl) (by kernel_rfl) (by kernel_rfl) (by rfl) ?_ (fun g f w h => h.same (by decide)) ?_
     rotate_left
     · intro g f w' hx hD hk
       obtain hls := id hD
       have hb := hls.pre (hk.2.1 29 (by kernel_rfl))
       have z4 := (K0_4.out.below hb l0_4).cell 0
       have z5 := (K0_4.out.below hb l0_4).cell 1
       clear hx hk hD hls hb
       go_simp
       try rfl
     simp only [Act.put, List.setIfInBounds_toArray, List.set_cons_zero, List.set_cons_succ])
  first
  | (refine Fx.WM.skip 23 (by rfl) (by kernel_rfl) (by kernel_rfl) (by kernel_rfl) (by rfl) (fun g f w h => h.same (by decide)) ?_; simp only [Act.put, List.setIfInBounds_toArray, List.set_cons_zero, List.set_cons_succ])
  | (refine Fx.WM.val_ 23 ?_ (by rfl) (by kernel_rfl) (by kernel_rfl) (by kernel_rfl) (by rfl) ?_ (fun g f w h => h.same (by decide)) ?_
     rotate_left
     · intro g f w' hx hD hk
       obtain hls := id hD
       have hb := hls.pre (hk.2.1 29 (by kernel_rfl))
       clear hx hk hD hls hb
       go_simp
       try rfl
     simp only [Act.put, List.setIfInBounds_toArray, List.set_cons_zero, List.set_cons_succ])
  first
  | (refine Fx.WM.skip 24 (by rfl) (by kernel_rfl) (by kernel_rfl) (by kernel_rfl) (by rfl) (fun g f w h => h.same (by decide)) ?_; simp only [Act.put, List.setIfInBounds_toArray, List.set_cons_zero, List.set_cons_succ])
  | (refine Fx.WM.val_ 24 ?_ (by rfl) (by kernel_rfl) (by kernel_rfl) (by kernel_rfl) (by rfl) ?_ (fun g f w h => h.same (by decide)) ?_
     rotate_left
     · intro g f w' hx hD hk
       obtain hls := id hD
       have hb := hls.pre (hk.2.1 29 (by kernel_rfl))
       have hv := HV.out
       clear hx hk hD hls hb
       go_simp
       try rfl
     simp only [Act.put, List.setIfInBounds_toArray, List.set_cons_zero, List.set_cons_succ])
  first
  | (refine Fx.WM.skip 25 (by rfl) (by kernel_rfl) (by kernel_rfl) (by kernel_rfl) (by rfl) (fun g f w h => h.same (by decide)) ?_; simp only [Act.put, List.setIfInBounds_toArray, List.set_cons_zero, List.set_cons_succ])
  | (refine Fx.WM.val_ 25 ?_ (by rfl) (by kernel_rfl) (by kernel_rfl) (by kernel_rfl) (by rfl) ?_ (fun g f w h => h.same (by decide)) ?_
     rotate_left
     · intro g f w' hx hD hk
       obtain hls := id hD
       have hb := hls.pre (hk.2.1 29 (by kernel_rfl))
       clear hx hk hD hls hb
       go_simp
       try rfl
     simp only [Act.put, List.setIfInBounds_toArray, List.set_cons_zero, List.set_cons_succ])
  refine Fx.WM.call 26 (.int .i64 (d)) ?_ ?_ (by rfl) (by kernel_rfl) (by kernel_rfl) (by kernel_rfl) (by rfl) ?_ ?_ ?_
  rotate_left 2
  · intro w'
    go_simp
    refine ⟨?_, ?_⟩ <;> rfl
  · intro g f w' hx hD hk
    exact (low (area_is _ c _ a0 a1 b0 b1 d HD.out HSS.out w' ((R0_4.out.below (hD.pre (hk.2.1 29 (by kernel_rfl)))).more (hD.pre (hk.2.1 29 (by kernel_rfl))).size))).mono fun e w'' ⟨he, hw⟩ => ⟨he, hD.call (by decide) (hk.2.1 29 (by kernel_rfl)) hw⟩
  simp only [Act.put, List.setIfInBounds_toArray, List.set_cons_zero, List.set_cons_succ]
  refine Fx.WM.call 27 (.agg #[.int .i64 q0, .int .i64 q1]) ?_ ?_ (by rfl) (by kernel_rfl) (by kernel_rfl) (by kernel_rfl) (by rfl) ?_ ?_ ?_
  rotate_left 2
  · intro w'
    go_simp
    refine ⟨?_, ?_⟩ <;> rfl
  · intro g f w' hx hD hk
    exact (plowest_is v d q0 q1 HC2.out hd0 w' bv.1 bv.2 bd.1 bd.2).mono fun e w'' ⟨he, hw⟩ => ⟨he, hD.call (by decide) (hk.2.1 29 (by kernel_rfl)) hw⟩
  simp only [Act.put, List.setIfInBounds_toArray, List.set_cons_zero, List.set_cons_succ]
  first
  | (refine Fx.WM.skip 28 (by rfl) (by kernel_rfl) (by kernel_rfl) (by kernel_rfl) (by rfl) (fun g f w h => h.same (by decide)) ?_; simp only [Act.put, List.setIfInBounds_toArray, List.set_cons_zero, List.set_cons_succ])
  | (refine Fx.WM.val_ 28 ?_ (by rfl) (by kernel_rfl) (by kernel_rfl) (by kernel_rfl) (by rfl) ?_ (fun g f w h => h.same (by decide)) ?_
     rotate_left
     · intro g f w' hx hD hk
       obtain hls := id hD
       have hb := hls.pre (hk.2.1 29 (by kernel_rfl))
       clear hx hk hD hls hb
       go_simp
       try rfl
     simp only [Act.put, List.setIfInBounds_toArray, List.set_cons_zero, List.set_cons_succ])
  refine Fx.WM.eff 29 undef (by rfl) (by kernel_rfl) (by kernel_rfl) (by kernel_rfl) (by rfl) ?_ ?_
  · intro g f w' hx hD hk
    have hb := hD.pre hk.1
    have hkb := K1_4.out.below hb l1_4
    have u0 := hkb.cell 0
    have u1 := hkb.cell 1
    have u2 := hkb.cell 2
    have u3 := hkb.cell 3
    have f0 := hkb.frozen 0
    have f1 := hkb.frozen 1
    have f2 := hkb.frozen 2
    have f3 := hkb.frozen 3
    refine Fx.gives_skip (w' := ((((w'.setCell ⟨w.heap.size + 1, 0, none⟩ (.int .i64 p0)).setCell ⟨w.heap.size + 1, 1, none⟩ (.int .i64 p1)).setCell ⟨w.heap.size + 1, 2, none⟩ (.int .i64 q0)).setCell ⟨w.heap.size + 1, 3, none⟩ (.int .i64 q1))) ?_ ?_
    · clear hx hk hD hb hkb
      go_simp
      try rfl
    · exact hD.store hk.1
  simp only [Act.put, List.setIfInBounds_toArray, List.set_cons_zero, List.set_cons_succ]
  first
  | (refine Fx.WM.skip 30 (by rfl) (by kernel_rfl) (by kernel_rfl) (by kernel_rfl) (by rfl) (fun g f w h => h.same (by decide)) ?_; simp only [Act.put, List.setIfInBounds_toArray, List.set_cons_zero, List.set_cons_succ])
  | (refine Fx.WM.val_ 30 ?_ (by rfl) (by kernel_rfl) (by kernel_rfl) (by kernel_rfl) (by rfl) ?_ (fun g f w h => h.same (by decide)) ?_
     rotate_left
     · intro g f w' hx hD hk
       obtain hls := id hD
       clear hx hk hD hls
       go_simp
       try rfl
     simp only [Act.put, List.setIfInBounds_toArray, List.set_cons_zero, List.set_cons_succ])
  refine Fx.WM.nil (by kernel_rfl) ?_
  intro wz hls
  obtain ⟨W1, hb1, hw⟩ := hls.post (by rfl)
  clear hls
  have hq : Blk wz (w.heap.size + 1) 73 #[.int .i64 p0, .int .i64 p1, .int .i64 q0, .int .i64 q1] := by
    rw [hw]
    have := ((((K1_4.out.below hb1 l1_4).set_ 0 (.int .i64 p0)).set_ 1 (.int .i64 p1)).set_ 2 (.int .i64 q0)).set_ 3 (.int .i64 q1)
    simpa only [List.setIfInBounds_toArray, List.set_cons_zero, List.set_cons_succ] using this
  have hbz : Below w.heap.size w wz := by
    rw [hw]
    exact ((((HB4.out.trans (hb1.mono HB4.out.size)).setCell (p := ⟨w.heap.size + 1, 0, none⟩) (by simp) _).setCell (p := ⟨w.heap.size + 1, 1, none⟩) (by simp) _).setCell (p := ⟨w.heap.size + 1, 2, none⟩) (by simp) _).setCell (p := ⟨w.heap.size + 1, 3, none⟩) (by simp) _
  clear hw
  have c0 := hq.cell 0
  have c1 := hq.cell 1
  have c2 := hq.cell 2
  have c3 := hq.cell 3
  have ql := hq.lt
  go_wp2
  exact bodyPost_ret (v := .tuple #[.agg #[.int .i64 p0, .int .i64 p1, .int .i64 q0, .int .i64 q1], .int .i64 0]) (by simp [results, Try.results42, go_sem, c0, c1, c2, c3, ql]) rfl ⟨rfl, hbz⟩
set_option maxRecDepth 100000 in
set_option maxHeartbeats 2000000 in
theorem rcol_ok (A : Option Addr) (c : Nat) (a0 a1 b0 b1 x y p0 p1 q0 q1 : Int) (hE : scrErr [(a0, a1), (b0, b1)] = 0) (h0 : smallL 100000 [x, y] = true) (hq : colF [(a0, a1), (b0, b1)] x y = ((p0, p1), (q0, q1))) (w : World) (hx : Reads w w.heap.size 2 A 2 (cells2 [(a0, a1), (b0, b1)])) :
    Calls Try.prog 46 #[.slice A 2 c, .agg #[.int .i64 x, .int .i64 y]] w fun e w' => e = .returned (frac2V ((p0, p1), (q0, q1))) ∧ Below w.heap.size w w' := by
  obtain ⟨hs, hd0⟩ := scr_right hE
  obtain ⟨h1, h2, h3, h4⟩ := small4 hs
  have hxy : (-100000 ≤ x ∧ x ≤ 100000) ∧ (-100000 ≤ y ∧ y ≤ 100000) := by simpa [smallL, withinB_iff] using h0
  obtain ⟨hx1, hy1⟩ := hxy
  obtain ⟨d, hd⟩ : ∃ d, a0 * b1 - b0 * a1 = d := ⟨_, rfl⟩
  have hdd : scrDet [(a0, a1), (b0, b1)] = d := hd
  rw [hdd] at hd0
  have m1 := mulb h3 hy1 (by decide) (by decide)
  have m2 := mulb h4 hx1 (by decide) (by decide)
  have m3 := mulb h2 hx1 (by decide) (by decide)
  have m4 := mulb h1 hy1 (by decide) (by decide)
  have m5 := mulb h1 h4 (by decide) (by decide)
  have m6 := mulb h3 h2 (by decide) (by decide)
  have e1 := IntWalk.i64_in (b0 * y) ⟨by omega, by omega⟩
  have e2 := IntWalk.i64_in (b1 * x) ⟨by omega, by omega⟩
  have e3 := IntWalk.i64_in (b0 * y - b1 * x) ⟨by omega, by omega⟩
  have e4 := IntWalk.i64_in (a1 * x) ⟨by omega, by omega⟩
  have e5 := IntWalk.i64_in (a0 * y) ⟨by omega, by omega⟩
  have e6 := IntWalk.i64_in (a1 * x - a0 * y) ⟨by omega, by omega⟩
  obtain ⟨u, hu⟩ : ∃ u, b0 * y - b1 * x = u := ⟨_, rfl⟩
  obtain ⟨v, hv⟩ : ∃ v, a1 * x - a0 * y = v := ⟨_, rfl⟩
  have hc1 : lowF u d = (p0, p1) := by rw [← hu, ← hdd]; exact congrArg Prod.fst hq
  have hc2 : lowF v d = (q0, q1) := by rw [← hv, ← hdd]; exact congrArg Prod.snd hq
  have bu : -4000000000000000000 ≤ u ∧ u ≤ 4000000000000000000 := by omega
  have bv : -4000000000000000000 ≤ v ∧ v ≤ 4000000000000000000 := by omega
  have bd : -4000000000000000000 ≤ d ∧ d ≤ 4000000000000000000 := by omega
  rw [hu] at e3
  rw [hv] at e6
  obtain ⟨xb, xo, rfl, hxb, c0, c1, c2, c3⟩ := hx.four
  have hd' : a0 * b1 - a1 * b0 = d := by rw [← hd, Int.mul_comm a1 b0]
  have hu' : x * b1 - y * b0 = -u := by rw [← hu, Int.mul_comm x b1, Int.mul_comm y b0]; omega
  have hv' : a0 * y - a1 * x = -v := by rw [← hv]; omega
  have HD' := Lib.hid hd'
  have HU' := Lib.hid hu'
  have HV' := Lib.hid hv'
  have HE := Lib.hid hE
  have HSS := Lib.hid hs
  have HS := Lib.hid h0
  have HX := Lib.hid hx
  have HU := Lib.hid hu
  have HV := Lib.hid hv
  have HD := Lib.hid hd
  have HC1 := Lib.hid hc1
  have HC2 := Lib.hid hc2
  clear hd' hu' hv' hE hx h0 hq hdd hc1 hc2 hu hv hd hs m1 m2 m3 m4 m5 m6
  go_enter Try.func46, Try.ntmps46
  have C0_0 := Lib.hid c0
  have C1_0 := Lib.hid c1
  have C2_0 := Lib.hid c2
  have C3_0 := Lib.hid c3
  clear c0 c1 c2 c3
  go_wp2_with fail
  generalize hwn : ((w.alloc (.cells #[.int .i64 (x), .int .i64 (y)] 46)).alloc (.cells #[.int .i64 (0), .int .i64 (0), .int .i64 (0), .int .i64 (0)] 73)) = w1
  have hbn : Below w.heap.size w w1 := by rw [← hwn]; repeat' (first | exact Below.refl _ _ | refine below_drewN ?_ _ | refine Below.drew ?_ | refine Below.alloc ?_ (by first | omega | (simp; done) | (simp; omega) | (simp [World.setCell]; omega)) _ | refine Below.setCell ?_ (by first | omega | (simp; done) | (simp; omega)) _)
  have HB1 := Lib.hid (show Below w.heap.size w w1 from hbn)
  have K0_1 := Lib.hid (show Blk w1 (w.heap.size) 46 #[.int .i64 (x), .int .i64 (y)] by rw [← hwn]; repeat' (first | exact Blk.at_ _ (by first | rfl | (simp; done) | (simp; omega)) _ _ | refine Blk.drewN ?_ _ | refine Blk.drew ?_ | refine Blk.alloc ?_ _ | refine Blk.far ?_ (by first | omega | (simp; done) | (simp; omega)) _ | assumption))
  have K1_1 := Lib.hid (show Blk w1 (w.heap.size + 1) 73 #[.int .i64 (0), .int .i64 (0), .int .i64 (0), .int .i64 (0)] by rw [← hwn]; repeat' (first | exact Blk.at_ _ (by first | rfl | (simp; done) | (simp; omega)) _ _ | refine Blk.drewN ?_ _ | refine Blk.drew ?_ | refine Blk.alloc ?_ _ | refine Blk.far ?_ (by first | omega | (simp; done) | (simp; omega)) _ | assumption))
  have C0_1 := Lib.hid (step_cell hbn C0_0.out (by have := hxb; first | omega | (simp; omega)))
  have C1_1 := Lib.hid (step_cell hbn C1_0.out (by have := hxb; first | omega | (simp; omega)))
  have C2_1 := Lib.hid (step_cell hbn C2_0.out (by have := hxb; first | omega | (simp; omega)))
  have C3_1 := Lib.hid (step_cell hbn C3_0.out (by have := hxb; first | omega | (simp; omega)))
  have HN1 := Lib.hid hbn
  have hz1 := hbn.size
  clear hwn hbn
  have l0_1 : w.heap.size < w1.heap.size := K0_1.out.lt
  have z0_0_1 : w1.cell? ⟨w.heap.size, 0, none⟩ = some (.int .i64 (x)) := K0_1.out.cell 0
  have z0_1_1 : w1.cell? ⟨w.heap.size, 1, none⟩ = some (.int .i64 (y)) := K0_1.out.cell 1
  have l1_1 : w.heap.size + 1 < w1.heap.size := K1_1.out.lt
  have z1_0_1 : w1.cell? ⟨w.heap.size + 1, 0, none⟩ = some (.int .i64 (0)) := K1_1.out.cell 0
  have z1_1_1 : w1.cell? ⟨w.heap.size + 1, 1, none⟩ = some (.int .i64 (0)) := K1_1.out.cell 1
  have z1_2_1 : w1.cell? ⟨w.heap.size + 1, 2, none⟩ = some (.int .i64 (0)) := K1_1.out.cell 2
  have z1_3_1 : w1.cell? ⟨w.heap.size + 1, 3, none⟩ = some (.int .i64 (0)) := K1_1.out.cell 3
  refine Fx.regionM (fun W g f w' => Kp (PfT ⟨0, 0, 0, 0, 0, none, 0, 0, [], none, 0, 0, []⟩ 0 [] 0 [] 97 99 98) W g w') (fun i (x : Pick2) => undef) (by kernel_rfl) ?_ ?_
  · intro f hf0
    exact Kp.start
  first
  | (refine Fx.WM.skip 0 (by rfl) (by kernel_rfl) (by kernel_rfl) (by kernel_rfl) (by rfl) (fun g f w h => h) ?_; simp only [Act.put, List.setIfInBounds_toArray, List.set_cons_zero, List.set_cons_succ])
  | (refine Fx.WM.val_ 0 ?_ (by rfl) (by kernel_rfl) (by kernel_rfl) (by kernel_rfl) (by rfl) ?_ (fun g f w h => h) ?_
     rotate_left
     · intro g f w' hx hD hk
       obtain hkp := id hD
       have y0 := (hkp.bel.cell (p := ⟨xb, xo, none⟩) (by show xb < _; omega)).trans C0_1.out
       have y1 := (hkp.bel.cell (p := ⟨xb, xo + 1, none⟩) (by show xb < _; omega)).trans C1_1.out
       have y2 := (hkp.bel.cell (p := ⟨xb, xo + 2, none⟩) (by show xb < _; omega)).trans C2_1.out
       have y3 := (hkp.bel.cell (p := ⟨xb, xo + 2 + 1, none⟩) (by show xb < _; omega)).trans C3_1.out
       clear hx hk hD hkp
       go_simp
       try rfl
     simp only [Act.put, List.setIfInBounds_toArray, List.set_cons_zero, List.set_cons_succ])
  first
  | (refine Fx.WM.skip 1 (by rfl) (by kernel_rfl) (by kernel_rfl) (by kernel_rfl) (by rfl) (fun g f w h => h) ?_; simp only [Act.put, List.setIfInBounds_toArray, List.set_cons_zero, List.set_cons_succ])
  | (refine Fx.WM.val_ 1 ?_ (by rfl) (by kernel_rfl) (by kernel_rfl) (by kernel_rfl) (by rfl) ?_ (fun g f w h => h) ?_
     rotate_left
     · intro g f w' hx hD hk
       obtain hkp := id hD
       have y0 := (hkp.bel.cell (p := ⟨xb, xo, none⟩) (by show xb < _; omega)).trans C0_1.out
       have y1 := (hkp.bel.cell (p := ⟨xb, xo + 1, none⟩) (by show xb < _; omega)).trans C1_1.out
       have y2 := (hkp.bel.cell (p := ⟨xb, xo + 2, none⟩) (by show xb < _; omega)).trans C2_1.out
       have y3 := (hkp.bel.cell (p := ⟨xb, xo + 2 + 1, none⟩) (by show xb < _; omega)).trans C3_1.out
       clear hx hk hD hkp
       go_simp
       try rfl
     simp only [Act.put, List.setIfInBounds_toArray, List.set_cons_zero, List.set_cons_succ])
  first
  | (refine Fx.WM.skip 2 (by rfl) (by kernel_rfl) (by kernel_rfl) (by kernel_rfl) (by rfl) (fun g f w h => h) ?_; simp only [Act.put, List.setIfInBounds_toArray, List.set_cons_zero, List.set_cons_succ])
  | (refine Fx.WM.val_ 2 ?_ (by rfl) (by kernel_rfl) (by kernel_rfl) (by kernel_rfl) (by rfl) ?_ (fun g f w h => h) ?_
     rotate_left
     · intro g f w' hx hD hk
       obtain hkp := id hD
       have y0 := (hkp.bel.cell (p := ⟨xb, xo, none⟩) (by show xb < _; omega)).trans C0_1.out
       have y1 := (hkp.bel.cell (p := ⟨xb, xo + 1, none⟩) (by show xb < _; omega)).trans C1_1.out
       have y2 := (hkp.bel.cell (p := ⟨xb, xo + 2, none⟩) (by show xb < _; omega)).trans C2_1.out
       have y3 := (hkp.bel.cell (p := ⟨xb, xo + 2 + 1, none⟩) (by show xb < _; omega)).trans C3_1.out
       clear hx hk hD hkp
       go_simp
       try rfl
     simp only [Act.put, List.setIfInBounds_toArray, List.set_cons_zero, List.set_cons_succ])
  first
  | (refine Fx.WM.skip 3 (by rfl) (by kernel_rfl) (by kernel_rfl) (by kernel_rfl) (by rfl) (fun g f w h => h) ?_; simp only [Act.put, List.setIfInBounds_toArray, List.set_cons_zero, List.set_cons_succ])
  | (refine Fx.WM.val_ 3 ?_ (by rfl) (by kernel_rfl) (by kernel_rfl) (by kernel_rfl) (by rfl) ?_ (fun g f w h => h) ?_
     rotate_left
     · intro g f w' hx hD hk
       obtain hkp := id hD
       have y0 := (hkp.bel.cell (p := ⟨xb, xo, none⟩) (by show xb < _; omega)).trans C0_1.out
       have y1 := (hkp.bel.cell (p := ⟨xb, xo + 1, none⟩) (by show xb < _; omega)).trans C1_1.out
       have y2 := (hkp.bel.cell (p := ⟨xb, xo + 2, none⟩) (by show xb < _; omega)).trans C2_1.out
       have y3 := (hkp.bel.cell (p := ⟨xb, xo + 2 + 1, none⟩) (by show xb < _; omega)).trans C3_1.out
       clear hx hk hD hkp
       go_simp
       try rfl
     simp only [Act.put, List.setIfInBounds_toArray, List.set_cons_zero, List.set_cons_succ])
  first
  | (refine Fx.WM.skip 4 (by rfl) (by kernel_rfl) (by kernel_rfl) (by kernel_rfl) (by rfl) (fun g f w h => h) ?_; simp only [Act.put, List.setIfInBounds_toArray, List.set_cons_zero, List.set_cons_succ])
  | (refine Fx.WM.val_ 4 ?_ (by rfl) (by kernel_rfl) (by kernel_rfl) (by kernel_rfl) (by rfl) ?_ (fun g f w h => h) ?_
     rotate_left
     · intro g f w' hx hD hk
       obtain hkp := id hD
       have y0 := (hkp.bel.cell (p := ⟨xb, xo, none⟩) (by show xb < _; omega)).trans C0_1.out
       have y1 := (hkp.bel.cell (p := ⟨xb, xo + 1, none⟩) (by show xb < _; omega)).trans C1_1.out
       have y2 := (hkp.bel.cell (p := ⟨xb, xo + 2, none⟩) (by show xb < _; omega)).trans C2_1.out
       have y3 := (hkp.bel.cell (p := ⟨xb, xo + 2 + 1, none⟩) (by show xb < _; omega)).trans C3_1.out
       clear hx hk hD hkp
       go_simp
       try rfl
     simp only [Act.put, List.setIfInBounds_toArray, List.set_cons_zero, List.set_cons_succ])
  first
  | (refine Fx.WM.skip 5 (by rfl) (by kernel_rfl) (by kernel_rfl) (by kernel_rfl) (by rfl) (fun g f w h => h) ?_; simp only [Act.put, List.setIfInBounds_toArray, List.set_cons_zero, List.set_cons_succ])
  | (refine Fx.WM.val_ 5 ?_ (by rfl) (by kernel_rfl) (by kernel_rfl) (by kernel_rfl) (by rfl) ?_ (fun g f w h => h) ?_
     rotate_left
     · intro g f w' hx hD hk
       obtain hkp := id hD
       have y0 := (hkp.bel.cell (p := ⟨xb, xo, none⟩) (by show xb < _; omega)).trans C0_1.out
       have y1 := (hkp.bel.cell (p := ⟨xb, xo + 1, none⟩) (by show xb < _; omega)).trans C1_1.out
       have y2 := (hkp.bel.cell (p := ⟨xb, xo + 2, none⟩) (by show xb < _; omega)).trans C2_1.out
       have y3 := (hkp.bel.cell (p := ⟨xb, xo + 2 + 1, none⟩) (by show xb < _; omega)).trans C3_1.out
       clear hx hk hD hkp
       go_simp
       try rfl
     simp only [Act.put, List.setIfInBounds_toArray, List.set_cons_zero, List.set_cons_succ])
  refine Fx.WM.call 6 (.int .i64 (d)) ?_ ?_ (by rfl) (by kernel_rfl) (by kernel_rfl) (by kernel_rfl) (by rfl) ?_ ?_ ?_
  rotate_left 2
  · intro w'
    go_simp
    refine ⟨?_, ?_⟩ <;> rfl
  · intro g f w' hx hD hk
    exact (rcross_is a0 a1 b0 b1 d HD'.out w' ⟨by omega, by omega⟩ ⟨by omega, by omega⟩ ⟨by omega, by omega⟩ ⟨by omega, by omega⟩).mono fun e w'' ⟨he, hw⟩ => ⟨he, hD.call PfT.stb hw⟩
  simp only [Act.put, List.setIfInBounds_toArray, List.set_cons_zero, List.set_cons_succ]
  first
  | (refine Fx.WM.skip 7 (by rfl) (by kernel_rfl) (by kernel_rfl) (by kernel_rfl) (by rfl) (fun g f w h => h) ?_; simp only [Act.put, List.setIfInBounds_toArray, List.set_cons_zero, List.set_cons_succ])
  | (refine Fx.WM.val_ 7 ?_ (by rfl) (by kernel_rfl) (by kernel_rfl) (by kernel_rfl) (by rfl) ?_ (fun g f w h => h) ?_
     rotate_left
     · intro g f w' hx hD hk
       obtain hkp := id hD
       clear hx hk hD hkp
       go_simp
       try rfl
     simp only [Act.put, List.setIfInBounds_toArray, List.set_cons_zero, List.set_cons_succ])
  refine Fx.WM.nil (by kernel_rfl) ?_
  intro wz hkp
  have hb := hkp.bel
  clear hkp
  obtain ⟨w2, hnm⟩ : ∃ z : World, z = wz := ⟨_, rfl⟩
  subst hnm
  have HB2 := Lib.hid (show Below w.heap.size w w2 from step_below hb (by repeat' (first | exact Below.refl _ _ | exact HB1.out | refine below_drewN ?_ _ | refine Below.drew ?_ | refine Below.alloc ?_ (by first | omega | (simp; done) | (simp; omega) | (simp [World.setCell]; omega)) _ | refine Below.setCell ?_ (by first | omega | (simp; done) | (simp; omega)) _ | assumption)))
  have K0_2 := Lib.hid (step_blk hb (show Blk _ (w.heap.size) 46 #[.int .i64 (x), .int .i64 (y)] by repeat' (first | exact K0_1.out | exact K1_1.out | exact Blk.at_ _ (by first | rfl | (simp; done) | (simp; omega)) _ _ | refine Blk.drewN ?_ _ | refine Blk.drew ?_ | refine Blk.alloc ?_ _ | refine Blk.far ?_ (by first | omega | (simp; done) | (simp; omega)) _ | assumption)))
  have K1_2 := Lib.hid (step_blk hb (show Blk _ (w.heap.size + 1) 73 #[.int .i64 (0), .int .i64 (0), .int .i64 (0), .int .i64 (0)] by repeat' (first | exact K0_1.out | exact K1_1.out | exact Blk.at_ _ (by first | rfl | (simp; done) | (simp; omega)) _ _ | refine Blk.drewN ?_ _ | refine Blk.drew ?_ | refine Blk.alloc ?_ _ | refine Blk.far ?_ (by first | omega | (simp; done) | (simp; omega)) _ | assumption)))
  have C0_2 := Lib.hid (step_cell hb (show World.cell? _ ⟨xb, xo, none⟩ = some (.int .i64 (a0)) by first | exact C0_1.out | go_simp) (by have := hxb; first | omega | (simp; omega)))
  have C1_2 := Lib.hid (step_cell hb (show World.cell? _ ⟨xb, xo + 1, none⟩ = some (.int .i64 (a1)) by first | exact C1_1.out | go_simp) (by have := hxb; first | omega | (simp; omega)))
  have C2_2 := Lib.hid (step_cell hb (show World.cell? _ ⟨xb, xo + 2, none⟩ = some (.int .i64 (b0)) by first | exact C2_1.out | go_simp) (by have := hxb; first | omega | (simp; omega)))
  have C3_2 := Lib.hid (step_cell hb (show World.cell? _ ⟨xb, xo + 2 + 1, none⟩ = some (.int .i64 (b1)) by first | exact C3_1.out | go_simp) (by have := hxb; first | omega | (simp; omega)))
  have hz2 := hb.size
  try simp only [World.size_alloc, World.drewN, World.drew] at hz2
  clear hb K0_1 K1_1 z0_0_1 z0_1_1 l0_1 z1_0_1 z1_1_1 z1_2_1 z1_3_1 l1_1
  have l0_2 : w.heap.size < w2.heap.size := K0_2.out.lt
  have z0_0_2 : w2.cell? ⟨w.heap.size, 0, none⟩ = some (.int .i64 (x)) := K0_2.out.cell 0
  have z0_1_2 : w2.cell? ⟨w.heap.size, 1, none⟩ = some (.int .i64 (y)) := K0_2.out.cell 1
  have l1_2 : w.heap.size + 1 < w2.heap.size := K1_2.out.lt
  have z1_0_2 : w2.cell? ⟨w.heap.size + 1, 0, none⟩ = some (.int .i64 (0)) := K1_2.out.cell 0
  have z1_1_2 : w2.cell? ⟨w.heap.size + 1, 1, none⟩ = some (.int .i64 (0)) := K1_2.out.cell 1
  have z1_2_2 : w2.cell? ⟨w.heap.size + 1, 2, none⟩ = some (.int .i64 (0)) := K1_2.out.cell 2
  have z1_3_2 : w2.cell? ⟨w.heap.size + 1, 3, none⟩ = some (.int .i64 (0)) := K1_2.out.cell 3
  go_wp2
  refine Fx.regionM (fun W (g : Nat → Option Pick2) f w' => Ls 17 (fun W1 => ((((W1.setCell ⟨w.heap.size + 1, 0, none⟩ (.int .i64 p0)).setCell ⟨w.heap.size + 1, 1, none⟩ (.int .i64 p1)).setCell ⟨w.heap.size + 1, 2, none⟩ (.int .i64 q0)).setCell ⟨w.heap.size + 1, 3, none⟩ (.int .i64 q1))) W f w') (fun i (x : Pick2) => undef) (by kernel_rfl) ?_ ?_
  · intro f hf0
    exact Ls.start (hf0 17)
  first
  | (refine Fx.WM.skip 0 (by rfl) (by kernel_rfl) (by kernel_rfl) (by kernel_rfl) (by rfl) (fun g f w h => h.same (by decide)) ?_; simp only [Act.put, List.setIfInBounds_toArray, List.set_cons_zero, List.set_cons_succ])
  | (refine Fx.WM.val_ 0 ?_ (by rfl) (by kernel_rfl) (by kernel_rfl) (by kernel_rfl) (by rfl) ?_ (fun g f w h => h.same (by decide)) ?_
     rotate_left
     · intro g f w' hx hD hk
       obtain hls := id hD
       have hb := hls.pre (hk.2.1 17 (by kernel_rfl))
       have z4 := (K0_2.out.below hb l0_2).cell 0
       have z5 := (K0_2.out.below hb l0_2).cell 1
       clear hx hk hD hls hb
       go_simp
       try rfl
     simp only [Act.put, List.setIfInBounds_toArray, List.set_cons_zero, List.set_cons_succ])
  first
  | (refine Fx.WM.skip 1 (by rfl) (by kernel_rfl) (by kernel_rfl) (by kernel_rfl) (by rfl) (fun g f w h => h.same (by decide)) ?_; simp only [Act.put, List.setIfInBounds_toArray, List.set_cons_zero, List.set_cons_succ])
  | (refine Fx.WM.val_ 1 ?_ (by rfl) (by kernel_rfl) (by kernel_rfl) (by kernel_rfl) (by rfl) ?_ (fun g f w h => h.same (by decide)) ?_
     rotate_left
     · intro g f w' hx hD hk
       obtain hls := id hD
       have hb := hls.pre (hk.2.1 17 (by kernel_rfl))
       clear hx hk hD hls hb
       go_simp
       try rfl
     simp only [Act.put, List.setIfInBounds_toArray, List.set_cons_zero, List.set_cons_succ])
  first
  | (refine Fx.WM.skip 2 (by rfl) (by kernel_rfl) (by kernel_rfl) (by kernel_rfl) (by rfl) (fun g f w h => h.same (by decide)) ?_; simp only [Act.put, List.setIfInBounds_toArray, List.set_cons_zero, List.set_cons_succ])
  | (refine Fx.WM.val_ 2 ?_ (by rfl) (by kernel_rfl) (by kernel_rfl) (by kernel_rfl) (by rfl) ?_ (fun g f w h => h.same (by decide)) ?_
     rotate_left
     · intro g f w' hx hD hk
       obtain hls := id hD
       have hb := hls.pre (hk.2.1 17 (by kernel_rfl))
       clear hx hk hD hls hb
       go_simp
       try rfl
     simp only [Act.put, List.setIfInBounds_toArray, List.set_cons_zero, List.set_cons_succ])
  first
  | (refine Fx.WM.skip 3 (by rfl) (by kernel_rfl) (by kernel_rfl) (by kernel_rfl) (by rfl) (fun g f w h => h.same (by decide)) ?_; simp only [Act.put, List.setIfInBounds_toArray, List.set_cons_zero, List.set_cons_succ])
  | (refine Fx.WM.val_ 3 ?_ (by rfl) (by kernel_rfl) (by kernel_rfl) (by kernel_rfl) (by rfl) ?_ (fun g f w h => h.same (by decide)) ?_
     rotate_left
     · intro g f w' hx hD hk
       obtain hls := id hD
       have hb := hls.pre (hk.2.1 17 (by kernel_rfl))
       have y0 := (hb.cell (p := ⟨xb, xo, none⟩) (by show xb < _; omega)).trans C0_2.out
       have y1 := (hb.cell (p := ⟨xb, xo + 1, none⟩) (by show xb < _; omega)).trans C1_2.out
       have y2 := (hb.cell (p := ⟨xb, xo + 2, none⟩) (by show xb < _; omega)).trans C2_2.out
       have y3 := (hb.cell (p := ⟨xb, xo + 2 + 1, none⟩) (by show xb < _; omega)).trans C3_2.out
       clear hx hk hD hls hb
       go_simp
       try rfl
     simp only [Act.put, List.setIfInBounds_toArray, List.set_cons_zero, List.set_cons_succ])
  refine Fx.WM.call 4 (.int .i64 (-u)) ?_ ?_ (by rfl) (by kernel_rfl) (by kernel_rfl) (by kernel_rfl) (by rfl) ?_ ?_ ?_
  rotate_left 2
  · intro w'
    go_simp
    refine ⟨?_, ?_⟩ <;> rfl
  · intro g f w' hx hD hk
    exact (rcross_is x y b0 b1 (-u) HU'.out w' hx1 hy1 ⟨by omega, by omega⟩ ⟨by omega, by omega⟩).mono fun e w'' ⟨he, hw⟩ => ⟨he, hD.call (by decide) (hk.2.1 17 (by kernel_rfl)) hw⟩
  simp only [Act.put, List.setIfInBounds_toArray, List.set_cons_zero, List.set_cons_succ]
  first
  | (refine Fx.WM.skip 5 (by rfl) (by kernel_rfl) (by kernel_rfl) (by kernel_rfl) (by rfl) (fun g f w h => h.same (by decide)) ?_; simp only [Act.put, List.setIfInBounds_toArray, List.set_cons_zero, List.set_cons_succ])
  | (refine Fx.WM.val_ 5 ?_ (by rfl) (by kernel_rfl) (by kernel_rfl) (by kernel_rfl) (by rfl) ?_ (fun g f w h => h.same (by decide)) ?_
     rotate_left
     · intro g f w' hx hD hk
       obtain hls := id hD
       have hb := hls.pre (hk.2.1 17 (by kernel_rfl))
       clear hx hk hD hls hb
       go_simp
       try rfl
     simp only [Act.put, List.setIfInBounds_toArray, List.set_cons_zero, List.set_cons_succ])
  first
  | (refine Fx.WM.skip 6 (by rfl) (by kernel_rfl) (by kernel_rfl) (by kernel_rfl) (by rfl) (fun g f w h => h.same (by decide)) ?_; simp only [Act.put, List.setIfInBounds_toArray, List.set_cons_zero, List.set_cons_succ])
  | (refine Fx.WM.val_ 6 ?_ (by rfl) (by kernel_rfl) (by kernel_rfl) (by kernel_rfl) (by rfl) ?_ (fun g f w h => h.same (by decide)) ?_
     rotate_left
     · intro g f w' hx hD hk
       obtain hls := id hD
       have hb := hls.pre (hk.2.1 17 (by kernel_rfl))
       clear hx hk hD hls hb
       go_simp
       try rfl
     simp only [Act.put, List.setIfInBounds_toArray, List.set_cons_zero, List.set_cons_succ])
  refine Fx.WM.call 7 (.agg #[.int .i64 p0, .int .i64 p1]) ?_ ?_ (by rfl) (by kernel_rfl) (by kernel_rfl) (by kernel_rfl) (by rfl) ?_ ?_ ?_
  rotate_left 2
  · intro w'
    go_simp
    refine ⟨?_, ?_⟩ <;> rfl
  · intro g f w' hx hD hk
    exact (rlowest9_is u d p0 p1 HC1.out hd0 w' bu.1 bu.2 bd.1 bd.2).mono fun e w'' ⟨he, hw⟩ => ⟨he, hD.call (by decide) (hk.2.1 17 (by kernel_rfl)) hw⟩
  simp only [Act.put, List.setIfInBounds_toArray, List.set_cons_zero, List.set_cons_succ]
  first
  | (refine Fx.WM.skip 8 (by rfl) (by kernel_rfl) (by kernel_rfl) (by kernel_rfl) (by rfl) (fun g f w h => h.same (by decide)) ?_; simp only [Act.put, List.setIfInBounds_toArray, List.set_cons_zero, List.set_cons_succ])
  | (refine Fx.WM.val_ 8 ?_ (by rfl) (by kernel_rfl) (by kernel_rfl) (by kernel_rfl) (by rfl) ?_ (fun g f w h => h.same (by decide)) ?_
     rotate_left
     · intro g f w' hx hD hk
       obtain hls := id hD
       have hb := hls.pre (hk.2.1 17 (by kernel_rfl))
       clear hx hk hD hls hb
       go_simp
       try rfl
     simp only [Act.put, List.setIfInBounds_toArray, List.set_cons_zero, List.set_cons_succ])
  first
  | (refine Fx.WM.skip 9 (by rfl) (by kernel_rfl) (by kernel_rfl) (by kernel_rfl) (by rfl) (fun g f w h => h.same (by decide)) ?_; simp only [Act.put, List.setIfInBounds_toArray, List.set_cons_zero, List.set_cons_succ])
  | (refine Fx.WM.val_ 9 ?_ (by rfl) (by kernel_rfl) (by kernel_rfl) (by kernel_rfl) (by rfl) ?_ (fun g f w h => h.same (by decide)) ?_
     rotate_left
     · intro g f w' hx hD hk
       obtain hls := id hD
       have hb := hls.pre (hk.2.1 17 (by kernel_rfl))
       clear hx hk hD hls hb
       go_simp
       try rfl
     simp only [Act.put, List.setIfInBounds_toArray, List.set_cons_zero, List.set_cons_succ])
  first
  | (refine Fx.WM.skip 10 (by rfl) (by kernel_rfl) (by kernel_rfl) (by kernel_rfl) (by rfl) (fun g f w h => h.same (by decide)) ?_; simp only [Act.put, List.setIfInBounds_toArray, List.set_cons_zero, List.set_cons_succ])
  | (refine Fx.WM.val_ 10 ?_ (by rfl) (by kernel_rfl) (by kernel_rfl) (by kernel_rfl) (by rfl) ?_ (fun g f w h => h.same (by decide)) ?_
     rotate_left
     · intro g f w' hx hD hk
       obtain hls := id hD
       have hb := hls.pre (hk.2.1 17 (by kernel_rfl))
       have y0 := (hb.cell (p := ⟨xb, xo, none⟩) (by show xb < _; omega)).trans C0_2.out
       have y1 := (hb.cell (p := ⟨xb, xo + 1, none⟩) (by show xb < _; omega)).trans C1_2.out
       have y2 := (hb.cell (p := ⟨xb, xo + 2, none⟩) (by show xb < _; omega)).trans C2_2.out
       have y3 := (hb.cell (p := ⟨xb, xo + 2 + 1, none⟩) (by show xb < _; omega)).trans C3_2.out
       clear hx hk hD hls hb
       go_simp
       try rfl
     simp only [Act.put, List.setIfInBounds_toArray, List.set_cons_zero, List.set_cons_succ])
  first
  | (refine Fx.WM.skip 11 (by rfl) (by kernel_rfl) (by kernel_rfl) (by kernel_rfl) (by rfl) (fun g f w h => h.same (by decide)) ?_; simp only [Act.put, List.setIfInBounds_toArray, List.set_cons_zero, List.set_cons_succ])
  | (refine Fx.WM.val_ 11 ?_ (by rfl) (by kernel_rfl) (by kernel_rfl) (by kernel_rfl) (by rfl) ?_ (fun g f w h => h.same (by decide)) ?_
     rotate_left
     · intro g f w' hx hD hk
       obtain hls := id hD
       have hb := hls.pre (hk.2.1 17 (by kernel_rfl))
       have z4 := (K0_2.out.below hb l0_2).cell 0
       have z5 := (K0_2.out.below hb l0_2).cell 1
       clear hx hk hD hls hb
       go_simp
       try rfl
     simp only [Act.put, List.setIfInBounds_toArray, List.set_cons_zero, List.set_cons_succ])
  refine Fx.WM.call 12 (.int .i64 (-v)) ?_ ?_ (by rfl) (by kernel_rfl) (by kernel_rfl) (by kernel_rfl) (by rfl) ?_ ?_ ?_
  rotate_left 2
  · intro w'
    go_simp
    refine ⟨?_, ?_⟩ <;> rfl
  · intro g f w' hx hD hk
    exact (rcross_is a0 a1 x y (-v) HV'.out w' ⟨by omega, by omega⟩ ⟨by omega, by omega⟩ hx1 hy1).mono fun e w'' ⟨he, hw⟩ => ⟨he, hD.call (by decide) (hk.2.1 17 (by kernel_rfl)) hw⟩
  simp only [Act.put, List.setIfInBounds_toArray, List.set_cons_zero, List.set_cons_succ]
  first
  | (refine Fx.WM.skip 13 (by rfl) (by kernel_rfl) (by kernel_rfl) (by kernel_rfl) (by rfl) (fun g f w h => h.same (by decide)) ?_; simp only [Act.put, List.setIfInBounds_toArray, List.set_cons_zero, List.set_cons_succ])
  | (refine Fx.WM.val_ 13 ?_ (by rfl) (by kernel_rfl) (by kernel_rfl) (by kernel_rfl) (by rfl) ?_ (fun g f w h => h.same (by decide)) ?_
     rotate_left
     · intro g f w' hx hD hk
       obtain hls := id hD
       have hb := hls.pre (hk.2.1 17 (by kernel_rfl))
       clear hx hk hD hls hb
       go_simp
       try rfl
     simp only [Act.put, List.setIfInBounds_toArray, List.set_cons_zero, List.set_cons_succ])
  first
  | (refine Fx.WM.skip 14 (by rfl) (by kernel_rfl) (by kernel_rfl) (by kernel_rfl) (by rfl) (fun g f w h => h.same (by decide)) ?_; simp only [Act.put, List.setIfInBounds_toArray, List.set_cons_zero, List.set_cons_succ])
  | (refine Fx.WM.val_ 14 ?_ (by rfl) (by kernel_rfl) (by kernel_rfl) (by kernel_rfl) (by rfl) ?_ (fun g f w h => h.same (by decide)) ?_
     rotate_left
     · intro g f w' hx hD hk
       obtain hls := id hD
       have hb := hls.pre (hk.2.1 17 (by kernel_rfl))
       clear hx hk hD hls hb
       go_simp
       try rfl
     simp only [Act.put, List.setIfInBounds_toArray, List.set_cons_zero, List.set_cons_succ])
  refine Fx.WM.call 15 (.agg #[.int .i64 q0, .int .i64 q1]) ?_ ?_ (by rfl) (by kernel_rfl) (by kernel_rfl) (by kernel_rfl) (by rfl) ?_ ?_ ?_
  rotate_left 2
  · intro w'
    go_simp
    refine ⟨?_, ?_⟩ <;> rfl
  · intro g f w' hx hD hk
    exact (rlowest9_is v d q0 q1 HC2.out hd0 w' bv.1 bv.2 bd.1 bd.2).mono fun e w'' ⟨he, hw⟩ => ⟨he, hD.call (by decide) (hk.2.1 17 (by kernel_rfl)) hw⟩
  simp only [Act.put, List.setIfInBounds_toArray, List.set_cons_zero, List.set_cons_succ]
  first
  | (refine Fx.WM.skip 16 (by rfl) (by kernel_rfl) (by kernel_rfl) (by kernel_rfl) (by rfl) (fun g f w h => h.same (by decide)) ?_; simp only [Act.put, List.setIfInBounds_toArray, List.set_cons_zero, List.set_cons_succ])
  | (refine Fx.WM.val_ 16 ?_ (by rfl) (by kernel_rfl) (by kernel_rfl) (by kernel_rfl) (by rfl) ?_ (fun g f w h => h.same (by decide)) ?_
     rotate_left
     · intro g f w' hx hD hk
       obtain hls := id hD
       have hb := hls.pre (hk.2.1 17 (by kernel_rfl))
       clear hx hk hD hls hb
       go_simp
       try rfl
     simp only [Act.put, List.setIfInBounds_toArray, List.set_cons_zero, List.set_cons_succ])
  refine Fx.WM.eff 17 undef (by rfl) (by kernel_rfl) (by kernel_rfl) (by kernel_rfl) (by rfl) ?_ ?_
  · intro g f w' hx hD hk
    have hb := hD.pre hk.1
    have hkb := K1_2.out.below hb l1_2
    have u0 := hkb.cell 0
    have u1 := hkb.cell 1
    have u2 := hkb.cell 2
    have u3 := hkb.cell 3
    have f0 := hkb.frozen 0
    have f1 := hkb.frozen 1
    have f2 := hkb.frozen 2
    have f3 := hkb.frozen 3
    refine Fx.gives_skip (w' := ((((w'.setCell ⟨w.heap.size + 1, 0, none⟩ (.int .i64 p0)).setCell ⟨w.heap.size + 1, 1, none⟩ (.int .i64 p1)).setCell ⟨w.heap.size + 1, 2, none⟩ (.int .i64 q0)).setCell ⟨w.heap.size + 1, 3, none⟩ (.int .i64 q1))) ?_ ?_
    · clear hx hk hD hb hkb
      go_simp
      try rfl
    · exact hD.store hk.1
  simp only [Act.put, List.setIfInBounds_toArray, List.set_cons_zero, List.set_cons_succ]
  refine Fx.WM.nil (by kernel_rfl) ?_
  intro wz hls
  obtain ⟨W1, hb1, hw⟩ := hls.post (by rfl)
  clear hls
  have hq : Blk wz (w.heap.size + 1) 73 #[.int .i64 p0, .int .i64 p1, .int .i64 q0, .int .i64 q1] := by
    rw [hw]
    have := ((((K1_2.out.below hb1 l1_2).set_ 0 (.int .i64 p0)).set_ 1 (.int .i64 p1)).set_ 2 (.int .i64 q0)).set_ 3 (.int .i64 q1)
    simpa only [List.setIfInBounds_toArray, List.set_cons_zero, List.set_cons_succ] using this
  have hbz : Below w.heap.size w wz := by
    rw [hw]
    exact ((((HB2.out.trans (hb1.mono HB2.out.size)).setCell (p := ⟨w.heap.size + 1, 0, none⟩) (by simp) _).setCell (p := ⟨w.heap.size + 1, 1, none⟩) (by simp) _).setCell (p := ⟨w.heap.size + 1, 2, none⟩) (by simp) _).setCell (p := ⟨w.heap.size + 1, 3, none⟩) (by simp) _
  clear hw
  have c0 := hq.cell 0
  have c1 := hq.cell 1
  have c2 := hq.cell 2
  have c3 := hq.cell 3
  have ql := hq.lt
  go_wp2
  exact bodyPost_ret (v := .agg #[.int .i64 p0, .int .i64 p1, .int .i64 q0, .int .i64 q1]) (by simp [results, Try.results46, go_sem, c0, c1, c2, c3, ql]) rfl ⟨rfl, hbz⟩
end Go.Proofs.Ytgamepmipoociaa

end
