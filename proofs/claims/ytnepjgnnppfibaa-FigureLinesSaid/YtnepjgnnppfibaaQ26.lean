import Derived.Test.YtnepjgnnppfibaaQ25

section
/- The walk of the statement on lines of least removal. -/
namespace Go.Proofs.Ytnepjgnnppfibaa
open Go Go.RowKit

theorem LikeM.rem {m x : Rm} (h : LikeM m x) (a b c d : Int) (z : Nat) : remN x a b c d z = remN m a b c d z := by unfold remN; rw [h.h, h.q]
theorem LikeM.cref {m x : Rm} (h : LikeM m x) (a b c d u v : Int) : crefF x a b c d u v = crefF m a b c d u v := by
  unfold crefF
  simp only [h.rem a b c d, h.n, (h.sums m.n).1, (h.sums m.n).2.1, h.q]
theorem LikeM.remL {m x : Rm} (h : LikeM m x) (a b c d : Int) (k : Nat) : remL x a b c d k = Go.Proofs.Ytnepjgnnppfibaa.remL m a b c d k := by
  unfold Go.Proofs.Ytnepjgnnppfibaa.remL
  simp only [h.rem a b c d]
/-- What is known of copies of a map. -/
def PfM3 (n1 n2 n3 : Nat) (l1 l2 l3 : List Int) (i : Nat) (x : Pick3) (w : World) : Prop := i = 1 → Reads w w.heap.size 1 x.1.1 n1 (l1.map (.int .i64)) ∧ Reads w w.heap.size 1 x.2.1.1 n2 (l2.map (.int .i64)) ∧ Reads w w.heap.size 1 x.2.2.1 n3 (l3.map (.int .i64))
theorem PfM3.stb {n1 n2 n3 : Nat} {l1 l2 l3 : List Int} : StbT (PfM3 n1 n2 n3 l1 l2 l3) := fun _ _ _ _ hb h e => ⟨((h e).1.below hb).more hb.size, ((h e).2.1.below hb).more hb.size, ((h e).2.2.below hb).more hb.size⟩
/-- What is known of a copy of a right map, and of removals. -/
def PfMR (m : Rm) (n : Nat) (L : List (Int × Int)) (i : Nat) (x : Rm × Pick) (w : World) : Prop := (i = 1 → CopyM m x.1 w) ∧ (i = 3 → Reads w w.heap.size 2 x.2.1 n (cells2 L))
theorem PfMR.stb {m : Rm} {n : Nat} {L : List (Int × Int)} : StbT (PfMR m n L) := fun _ _ _ _ hb h => ⟨fun e => (h.1 e).lay hb, fun e => ((h.2 e).below hb).more hb.size⟩

theorem rems_copy {m x : Rm} (hm : m.Ok) {n : Nat} (hn : m.n = n) (a b c d u v : Int) (hE : lineErr a b c d = 0) (ia : I64 a) (ib : I64 b) (ic : I64 c) (jd : I64 d) (w : World) (hx : CopyM m x w) :
    Calls Try.prog 49 #[x.val, .agg #[.int .i64 a, .int .i64 b, .int .i64 c, .int .i64 d, .int .i64 u, .int .i64 v]] w fun e w' => ∃ A' c', e = .returned (.tuple #[.slice A' n c', .int .i64 0]) ∧ Below w.heap.size w w' ∧ Reads w' w'.heap.size 2 A' n (cells2 (remL m a b c d m.n)) := by
  have h := rems_is x (hx.like.ok hm) a b c d u v hE ia ib ic jd w hx.at_ hx.ck
  rw [hx.like.n, hx.like.remL, hn] at h
  rw [hn]
  exact h

set_option maxRecDepth 100000 in
set_option maxHeartbeats 4000000 in
theorem lawFL_bad (A1 : Option Addr) (n1 c1 : Nat) (l1 : List Int) (A2 : Option Addr) (n2 c2 : Nat) (l2 : List Int) (A3 : Option Addr) (n3 c3 : Nat) (l3 : List Int) (a b c d x y : Int) (w : World)
    (hF : (fewB6 n1 && (fewB6 n2 && fewB6 n3)) = true → mapErr l1 l2 l3 ≠ 0)
    (r1 : Reads w w.heap.size 1 A1 n1 (l1.map (.int .i64))) (r2 : Reads w w.heap.size 1 A2 n2 (l2.map (.int .i64))) (r3 : Reads w w.heap.size 1 A3 n3 (l3.map (.int .i64))) :
    Calls Try.prog 13 #[.agg #[.slice A1 n1 c1, .slice A2 n2 c2, .slice A3 n3 c3], .agg #[.int .i64 a, .int .i64 b, .int .i64 c, .int .i64 d, .int .i64 x, .int .i64 y]] w fun e w' => e = .returned (.bool true) ∧ Below w.heap.size w w' := by
  obtain ⟨t, ht⟩ : ∃ t, (fewB6 n1 && (fewB6 n2 && fewB6 n3)) = t := ⟨_, rfl⟩
  have HT := Lib.hid ht
  cases t
  · clear ht r1 r2 r3 hF
    go_enter Try.func13, Try.ntmps13
    go_wp2_with fail
    generalize hwn : ((w.alloc (.cells #[.slice A1 n1 c1, .slice A2 n2 c2, .slice A3 n3 c3] 24)).alloc (.cells #[.int .i64 (a), .int .i64 (b), .int .i64 (c), .int .i64 (d), .int .i64 (x), .int .i64 (y)] 75)) = w1
    have hbn : Below w.heap.size w w1 := by rw [← hwn]; repeat' (first | exact Below.refl _ _ | refine below_drewN ?_ _ | refine Below.drew ?_ | refine Below.alloc ?_ (by first | omega | (simp; done) | (simp; omega) | (simp [World.setCell]; omega)) _ | refine Below.setCell ?_ (by first | omega | (simp; done) | (simp; omega)) _)
    have HB1 := Lib.hid (show Below w.heap.size w w1 from hbn)
    have K0_1 := Lib.hid (show Blk w1 (w.heap.size) 24 #[.slice A1 n1 c1, .slice A2 n2 c2, .slice A3 n3 c3] by rw [← hwn]; repeat' (first | exact Blk.at_ _ (by first | rfl | (simp; done) | (simp; omega)) _ _ | refine Blk.drewN ?_ _ | refine Blk.drew ?_ | refine Blk.alloc ?_ _ | refine Blk.far ?_ (by first | omega | (simp; done) | (simp; omega)) _ | assumption))
    have K1_1 := Lib.hid (show Blk w1 (w.heap.size + 1) 75 #[.int .i64 (a), .int .i64 (b), .int .i64 (c), .int .i64 (d), .int .i64 (x), .int .i64 (y)] by rw [← hwn]; repeat' (first | exact Blk.at_ _ (by first | rfl | (simp; done) | (simp; omega)) _ _ | refine Blk.drewN ?_ _ | refine Blk.drew ?_ | refine Blk.alloc ?_ _ | refine Blk.far ?_ (by first | omega | (simp; done) | (simp; omega)) _ | assumption))
    have HN1 := Lib.hid hbn
    have hz1 := hbn.size
    clear hwn hbn
    have l0_1 : w.heap.size < w1.heap.size := K0_1.out.lt
    have z0_0_1 : w1.cell? ⟨w.heap.size, 0, none⟩ = some (.slice A1 n1 c1) := K0_1.out.cell 0
    have z0_1_1 : w1.cell? ⟨w.heap.size, 1, none⟩ = some (.slice A2 n2 c2) := K0_1.out.cell 1
    have z0_2_1 : w1.cell? ⟨w.heap.size, 2, none⟩ = some (.slice A3 n3 c3) := K0_1.out.cell 2
    have l1_1 : w.heap.size + 1 < w1.heap.size := K1_1.out.lt
    have z1_0_1 : w1.cell? ⟨w.heap.size + 1, 0, none⟩ = some (.int .i64 (a)) := K1_1.out.cell 0
    have z1_1_1 : w1.cell? ⟨w.heap.size + 1, 1, none⟩ = some (.int .i64 (b)) := K1_1.out.cell 1
    have z1_2_1 : w1.cell? ⟨w.heap.size + 1, 2, none⟩ = some (.int .i64 (c)) := K1_1.out.cell 2
    have z1_3_1 : w1.cell? ⟨w.heap.size + 1, 3, none⟩ = some (.int .i64 (d)) := K1_1.out.cell 3
    have z1_4_1 : w1.cell? ⟨w.heap.size + 1, 4, none⟩ = some (.int .i64 (x)) := K1_1.out.cell 4
    have z1_5_1 : w1.cell? ⟨w.heap.size + 1, 5, none⟩ = some (.int .i64 (y)) := K1_1.out.cell 5
    refine (awake6_any _).mono ?_
    rintro e w2 ⟨rfl, hb⟩
    have HB2 := Lib.hid (show Below w.heap.size w w2 from step_below hb (by repeat' (first | exact Below.refl _ _ | exact HB1.out | refine below_drewN ?_ _ | refine Below.drew ?_ | refine Below.alloc ?_ (by first | omega | (simp; done) | (simp; omega) | (simp [World.setCell]; omega)) _ | refine Below.setCell ?_ (by first | omega | (simp; done) | (simp; omega)) _ | assumption)))
    have K0_2 := Lib.hid (step_blk hb (show Blk _ (w.heap.size) 24 #[.slice A1 n1 c1, .slice A2 n2 c2, .slice A3 n3 c3] by repeat' (first | exact K0_1.out | exact K1_1.out | exact Blk.at_ _ (by first | rfl | (simp; done) | (simp; omega)) _ _ | refine Blk.drewN ?_ _ | refine Blk.drew ?_ | refine Blk.alloc ?_ _ | refine Blk.far ?_ (by first | omega | (simp; done) | (simp; omega)) _ | assumption)))
    have K1_2 := Lib.hid (step_blk hb (show Blk _ (w.heap.size + 1) 75 #[.int .i64 (a), .int .i64 (b), .int .i64 (c), .int .i64 (d), .int .i64 (x), .int .i64 (y)] by repeat' (first | exact K0_1.out | exact K1_1.out | exact Blk.at_ _ (by first | rfl | (simp; done) | (simp; omega)) _ _ | refine Blk.drewN ?_ _ | refine Blk.drew ?_ | refine Blk.alloc ?_ _ | refine Blk.far ?_ (by first | omega | (simp; done) | (simp; omega)) _ | assumption)))
    have hz2 := hb.size
    try simp only [World.size_alloc, World.drewN, World.drew] at hz2
    clear hb K0_1 K1_1 z0_0_1 z0_1_1 z0_2_1 l0_1 z1_0_1 z1_1_1 z1_2_1 z1_3_1 z1_4_1 z1_5_1 l1_1
    have l0_2 : w.heap.size < w2.heap.size := K0_2.out.lt
    have z0_0_2 : w2.cell? ⟨w.heap.size, 0, none⟩ = some (.slice A1 n1 c1) := K0_2.out.cell 0
    have z0_1_2 : w2.cell? ⟨w.heap.size, 1, none⟩ = some (.slice A2 n2 c2) := K0_2.out.cell 1
    have z0_2_2 : w2.cell? ⟨w.heap.size, 2, none⟩ = some (.slice A3 n3 c3) := K0_2.out.cell 2
    have l1_2 : w.heap.size + 1 < w2.heap.size := K1_2.out.lt
    have z1_0_2 : w2.cell? ⟨w.heap.size + 1, 0, none⟩ = some (.int .i64 (a)) := K1_2.out.cell 0
    have z1_1_2 : w2.cell? ⟨w.heap.size + 1, 1, none⟩ = some (.int .i64 (b)) := K1_2.out.cell 1
    have z1_2_2 : w2.cell? ⟨w.heap.size + 1, 2, none⟩ = some (.int .i64 (c)) := K1_2.out.cell 2
    have z1_3_2 : w2.cell? ⟨w.heap.size + 1, 3, none⟩ = some (.int .i64 (d)) := K1_2.out.cell 3
    have z1_4_2 : w2.cell? ⟨w.heap.size + 1, 4, none⟩ = some (.int .i64 (x)) := K1_2.out.cell 4
    have z1_5_2 : w2.cell? ⟨w.heap.size + 1, 5, none⟩ = some (.int .i64 (y)) := K1_2.out.cell 5
    go_wp2_with fail
    refine (few6_is A1 A2 A3 n1 c1 n2 c2 n3 c3 false HT.out _).mono ?_
    rintro e w3 ⟨rfl, hb⟩
    have HB3 := Lib.hid (show Below w.heap.size w w3 from step_below hb (by repeat' (first | exact Below.refl _ _ | exact HB2.out | refine below_drewN ?_ _ | refine Below.drew ?_ | refine Below.alloc ?_ (by first | omega | (simp; done) | (simp; omega) | (simp [World.setCell]; omega)) _ | refine Below.setCell ?_ (by first | omega | (simp; done) | (simp; omega)) _ | assumption)))
    have K0_3 := Lib.hid (step_blk hb (show Blk _ (w.heap.size) 24 #[.slice A1 n1 c1, .slice A2 n2 c2, .slice A3 n3 c3] by repeat' (first | exact K0_2.out | exact K1_2.out | exact Blk.at_ _ (by first | rfl | (simp; done) | (simp; omega)) _ _ | refine Blk.drewN ?_ _ | refine Blk.drew ?_ | refine Blk.alloc ?_ _ | refine Blk.far ?_ (by first | omega | (simp; done) | (simp; omega)) _ | assumption)))
    have K1_3 := Lib.hid (step_blk hb (show Blk _ (w.heap.size + 1) 75 #[.int .i64 (a), .int .i64 (b), .int .i64 (c), .int .i64 (d), .int .i64 (x), .int .i64 (y)] by repeat' (first | exact K0_2.out | exact K1_2.out | exact Blk.at_ _ (by first | rfl | (simp; done) | (simp; omega)) _ _ | refine Blk.drewN ?_ _ | refine Blk.drew ?_ | refine Blk.alloc ?_ _ | refine Blk.far ?_ (by first | omega | (simp; done) | (simp; omega)) _ | assumption)))
    have hz3 := hb.size
    try simp only [World.size_alloc, World.drewN, World.drew] at hz3
    clear hb K0_2 K1_2 z0_0_2 z0_1_2 z0_2_2 l0_2 z1_0_2 z1_1_2 z1_2_2 z1_3_2 z1_4_2 z1_5_2 l1_2
    have l0_3 : w.heap.size < w3.heap.size := K0_3.out.lt
    have z0_0_3 : w3.cell? ⟨w.heap.size, 0, none⟩ = some (.slice A1 n1 c1) := K0_3.out.cell 0
    have z0_1_3 : w3.cell? ⟨w.heap.size, 1, none⟩ = some (.slice A2 n2 c2) := K0_3.out.cell 1
    have z0_2_3 : w3.cell? ⟨w.heap.size, 2, none⟩ = some (.slice A3 n3 c3) := K0_3.out.cell 2
    have l1_3 : w.heap.size + 1 < w3.heap.size := K1_3.out.lt
    have z1_0_3 : w3.cell? ⟨w.heap.size + 1, 0, none⟩ = some (.int .i64 (a)) := K1_3.out.cell 0
    have z1_1_3 : w3.cell? ⟨w.heap.size + 1, 1, none⟩ = some (.int .i64 (b)) := K1_3.out.cell 1
    have z1_2_3 : w3.cell? ⟨w.heap.size + 1, 2, none⟩ = some (.int .i64 (c)) := K1_3.out.cell 2
    have z1_3_3 : w3.cell? ⟨w.heap.size + 1, 3, none⟩ = some (.int .i64 (d)) := K1_3.out.cell 3
    have z1_4_3 : w3.cell? ⟨w.heap.size + 1, 4, none⟩ = some (.int .i64 (x)) := K1_3.out.cell 4
    have z1_5_3 : w3.cell? ⟨w.heap.size + 1, 5, none⟩ = some (.int .i64 (y)) := K1_3.out.cell 5
    go_wp2
    go_ret
    exact ⟨rfl, by repeat' (first | exact Below.refl _ _ | exact HB3.out | refine below_drewN ?_ _ | refine Below.drew ?_ | refine Below.alloc ?_ (by first | omega | (simp; done) | (simp; omega) | (simp [World.setCell]; omega)) _ | refine Below.setCell ?_ (by first | omega | (simp; done) | (simp; omega)) _ | assumption)⟩
  have f1 : n1 ≤ 42 := few6_true (by cases h : fewB6 n1 <;> simp_all)
  have f2 : n2 ≤ 42 := few6_true (by cases h : fewB6 n2 <;> simp_all)
  have f3 : n3 ≤ 42 := few6_true (by cases h : fewB6 n3 <;> simp_all)
  have R1 := Lib.hid r1
  have R2 := Lib.hid r2
  have R3 := Lib.hid r3
  obtain ⟨E, hE⟩ : ∃ E, mapErr l1 l2 l3 = E := ⟨_, rfl⟩
  have h0 := hF ht
  rw [hE] at h0
  have HE := Lib.hid hE
  have HEN := Lib.hid h0
  have e1 : (E != 0) = true := by simpa using h0
  have e2 : (E == E) = true := by simp
  have e3 : (E == 0) = false := by simpa using h0
  clear ht r1 r2 r3 hE h0 hF
  go_enter Try.func13, Try.ntmps13
  go_wp2_with fail
  generalize hwn : ((w.alloc (.cells #[.slice A1 n1 c1, .slice A2 n2 c2, .slice A3 n3 c3] 24)).alloc (.cells #[.int .i64 (a), .int .i64 (b), .int .i64 (c), .int .i64 (d), .int .i64 (x), .int .i64 (y)] 75)) = w1
  have hbn : Below w.heap.size w w1 := by rw [← hwn]; repeat' (first | exact Below.refl _ _ | refine below_drewN ?_ _ | refine Below.drew ?_ | refine Below.alloc ?_ (by first | omega | (simp; done) | (simp; omega) | (simp [World.setCell]; omega)) _ | refine Below.setCell ?_ (by first | omega | (simp; done) | (simp; omega)) _)
  have HB1 := Lib.hid (show Below w.heap.size w w1 from hbn)
  have K0_1 := Lib.hid (show Blk w1 (w.heap.size) 24 #[.slice A1 n1 c1, .slice A2 n2 c2, .slice A3 n3 c3] by rw [← hwn]; repeat' (first | exact Blk.at_ _ (by first | rfl | (simp; done) | (simp; omega)) _ _ | refine Blk.drewN ?_ _ | refine Blk.drew ?_ | refine Blk.alloc ?_ _ | refine Blk.far ?_ (by first | omega | (simp; done) | (simp; omega)) _ | assumption))
  have K1_1 := Lib.hid (show Blk w1 (w.heap.size + 1) 75 #[.int .i64 (a), .int .i64 (b), .int .i64 (c), .int .i64 (d), .int .i64 (x), .int .i64 (y)] by rw [← hwn]; repeat' (first | exact Blk.at_ _ (by first | rfl | (simp; done) | (simp; omega)) _ _ | refine Blk.drewN ?_ _ | refine Blk.drew ?_ | refine Blk.alloc ?_ _ | refine Blk.far ?_ (by first | omega | (simp; done) | (simp; omega)) _ | assumption))
  have HN1 := Lib.hid hbn
  have hz1 := hbn.size
  clear hwn hbn
  have l0_1 : w.heap.size < w1.heap.size := K0_1.out.lt
  have z0_0_1 : w1.cell? ⟨w.heap.size, 0, none⟩ = some (.slice A1 n1 c1) := K0_1.out.cell 0
  have z0_1_1 : w1.cell? ⟨w.heap.size, 1, none⟩ = some (.slice A2 n2 c2) := K0_1.out.cell 1
  have z0_2_1 : w1.cell? ⟨w.heap.size, 2, none⟩ = some (.slice A3 n3 c3) := K0_1.out.cell 2
  have l1_1 : w.heap.size + 1 < w1.heap.size := K1_1.out.lt
  have z1_0_1 : w1.cell? ⟨w.heap.size + 1, 0, none⟩ = some (.int .i64 (a)) := K1_1.out.cell 0
  have z1_1_1 : w1.cell? ⟨w.heap.size + 1, 1, none⟩ = some (.int .i64 (b)) := K1_1.out.cell 1
  have z1_2_1 : w1.cell? ⟨w.heap.size + 1, 2, none⟩ = some (.int .i64 (c)) := K1_1.out.cell 2
  have z1_3_1 : w1.cell? ⟨w.heap.size + 1, 3, none⟩ = some (.int .i64 (d)) := K1_1.out.cell 3
  have z1_4_1 : w1.cell? ⟨w.heap.size + 1, 4, none⟩ = some (.int .i64 (x)) := K1_1.out.cell 4
  have z1_5_1 : w1.cell? ⟨w.heap.size + 1, 5, none⟩ = some (.int .i64 (y)) := K1_1.out.cell 5
  refine (awake6_any _).mono ?_
  rintro e w2 ⟨rfl, hb⟩
  have HB2 := Lib.hid (show Below w.heap.size w w2 from step_below hb (by repeat' (first | exact Below.refl _ _ | exact HB1.out | refine below_drewN ?_ _ | refine Below.drew ?_ | refine Below.alloc ?_ (by first | omega | (simp; done) | (simp; omega) | (simp [World.setCell]; omega)) _ | refine Below.setCell ?_ (by first | omega | (simp; done) | (simp; omega)) _ | assumption)))
  have K0_2 := Lib.hid (step_blk hb (show Blk _ (w.heap.size) 24 #[.slice A1 n1 c1, .slice A2 n2 c2, .slice A3 n3 c3] by repeat' (first | exact K0_1.out | exact K1_1.out | exact Blk.at_ _ (by first | rfl | (simp; done) | (simp; omega)) _ _ | refine Blk.drewN ?_ _ | refine Blk.drew ?_ | refine Blk.alloc ?_ _ | refine Blk.far ?_ (by first | omega | (simp; done) | (simp; omega)) _ | assumption)))
  have K1_2 := Lib.hid (step_blk hb (show Blk _ (w.heap.size + 1) 75 #[.int .i64 (a), .int .i64 (b), .int .i64 (c), .int .i64 (d), .int .i64 (x), .int .i64 (y)] by repeat' (first | exact K0_1.out | exact K1_1.out | exact Blk.at_ _ (by first | rfl | (simp; done) | (simp; omega)) _ _ | refine Blk.drewN ?_ _ | refine Blk.drew ?_ | refine Blk.alloc ?_ _ | refine Blk.far ?_ (by first | omega | (simp; done) | (simp; omega)) _ | assumption)))
  have hz2 := hb.size
  try simp only [World.size_alloc, World.drewN, World.drew] at hz2
  clear hb K0_1 K1_1 z0_0_1 z0_1_1 z0_2_1 l0_1 z1_0_1 z1_1_1 z1_2_1 z1_3_1 z1_4_1 z1_5_1 l1_1
  have l0_2 : w.heap.size < w2.heap.size := K0_2.out.lt
  have z0_0_2 : w2.cell? ⟨w.heap.size, 0, none⟩ = some (.slice A1 n1 c1) := K0_2.out.cell 0
  have z0_1_2 : w2.cell? ⟨w.heap.size, 1, none⟩ = some (.slice A2 n2 c2) := K0_2.out.cell 1
  have z0_2_2 : w2.cell? ⟨w.heap.size, 2, none⟩ = some (.slice A3 n3 c3) := K0_2.out.cell 2
  have l1_2 : w.heap.size + 1 < w2.heap.size := K1_2.out.lt
  have z1_0_2 : w2.cell? ⟨w.heap.size + 1, 0, none⟩ = some (.int .i64 (a)) := K1_2.out.cell 0
  have z1_1_2 : w2.cell? ⟨w.heap.size + 1, 1, none⟩ = some (.int .i64 (b)) := K1_2.out.cell 1
  have z1_2_2 : w2.cell? ⟨w.heap.size + 1, 2, none⟩ = some (.int .i64 (c)) := K1_2.out.cell 2
  have z1_3_2 : w2.cell? ⟨w.heap.size + 1, 3, none⟩ = some (.int .i64 (d)) := K1_2.out.cell 3
  have z1_4_2 : w2.cell? ⟨w.heap.size + 1, 4, none⟩ = some (.int .i64 (x)) := K1_2.out.cell 4
  have z1_5_2 : w2.cell? ⟨w.heap.size + 1, 5, none⟩ = some (.int .i64 (y)) := K1_2.out.cell 5
  go_wp2_with fail
  refine (few6_is A1 A2 A3 n1 c1 n2 c2 n3 c3 true HT.out _).mono ?_
  rintro e w3 ⟨rfl, hb⟩
  have HB3 := Lib.hid (show Below w.heap.size w w3 from step_below hb (by repeat' (first | exact Below.refl _ _ | exact HB2.out | refine below_drewN ?_ _ | refine Below.drew ?_ | refine Below.alloc ?_ (by first | omega | (simp; done) | (simp; omega) | (simp [World.setCell]; omega)) _ | refine Below.setCell ?_ (by first | omega | (simp; done) | (simp; omega)) _ | assumption)))
  have K0_3 := Lib.hid (step_blk hb (show Blk _ (w.heap.size) 24 #[.slice A1 n1 c1, .slice A2 n2 c2, .slice A3 n3 c3] by repeat' (first | exact K0_2.out | exact K1_2.out | exact Blk.at_ _ (by first | rfl | (simp; done) | (simp; omega)) _ _ | refine Blk.drewN ?_ _ | refine Blk.drew ?_ | refine Blk.alloc ?_ _ | refine Blk.far ?_ (by first | omega | (simp; done) | (simp; omega)) _ | assumption)))
  have K1_3 := Lib.hid (step_blk hb (show Blk _ (w.heap.size + 1) 75 #[.int .i64 (a), .int .i64 (b), .int .i64 (c), .int .i64 (d), .int .i64 (x), .int .i64 (y)] by repeat' (first | exact K0_2.out | exact K1_2.out | exact Blk.at_ _ (by first | rfl | (simp; done) | (simp; omega)) _ _ | refine Blk.drewN ?_ _ | refine Blk.drew ?_ | refine Blk.alloc ?_ _ | refine Blk.far ?_ (by first | omega | (simp; done) | (simp; omega)) _ | assumption)))
  have hz3 := hb.size
  try simp only [World.size_alloc, World.drewN, World.drew] at hz3
  clear hb K0_2 K1_2 z0_0_2 z0_1_2 z0_2_2 l0_2 z1_0_2 z1_1_2 z1_2_2 z1_3_2 z1_4_2 z1_5_2 l1_2
  have l0_3 : w.heap.size < w3.heap.size := K0_3.out.lt
  have z0_0_3 : w3.cell? ⟨w.heap.size, 0, none⟩ = some (.slice A1 n1 c1) := K0_3.out.cell 0
  have z0_1_3 : w3.cell? ⟨w.heap.size, 1, none⟩ = some (.slice A2 n2 c2) := K0_3.out.cell 1
  have z0_2_3 : w3.cell? ⟨w.heap.size, 2, none⟩ = some (.slice A3 n3 c3) := K0_3.out.cell 2
  have l1_3 : w.heap.size + 1 < w3.heap.size := K1_3.out.lt
  have z1_0_3 : w3.cell? ⟨w.heap.size + 1, 0, none⟩ = some (.int .i64 (a)) := K1_3.out.cell 0
  have z1_1_3 : w3.cell? ⟨w.heap.size + 1, 1, none⟩ = some (.int .i64 (b)) := K1_3.out.cell 1
  have z1_2_3 : w3.cell? ⟨w.heap.size + 1, 2, none⟩ = some (.int .i64 (c)) := K1_3.out.cell 2
  have z1_3_3 : w3.cell? ⟨w.heap.size + 1, 3, none⟩ = some (.int .i64 (d)) := K1_3.out.cell 3
  have z1_4_3 : w3.cell? ⟨w.heap.size + 1, 4, none⟩ = some (.int .i64 (x)) := K1_3.out.cell 4
  have z1_5_3 : w3.cell? ⟨w.heap.size + 1, 5, none⟩ = some (.int .i64 (y)) := K1_3.out.cell 5
  have g1 := (R1.out.below HB3.out).more HB3.out.size
  have g2 := (R2.out.below HB3.out).more HB3.out.size
  have g3 := (R3.out.below HB3.out).more HB3.out.size
  have R0_3 := Lib.hid g1
  clear g1
  have R1_3 := Lib.hid g2
  clear g2
  have R2_3 := Lib.hid g3
  clear g3
  go_wp2_with fail
  refine Fx.regionM (fun W g f w' => Kt (PfM3 n1 n2 n3 l1 l2 l3) W g w') (fun i (x : Pick3) => .agg #[.slice x.1.1 n1 x.1.2, .slice x.2.1.1 n2 x.2.1.2, .slice x.2.2.1 n3 x.2.2.2]) (by kernel_rfl) ?_ ?_
  · intro f hf0
    exact Kt.start
  first
  | (refine Fx.WM.skip 0 (by rfl) (by kernel_rfl) (by kernel_rfl) (by kernel_rfl) (by rfl) (fun g f w h => h) ?_; simp only [Act.put, List.setIfInBounds_toArray, List.set_cons_zero, List.set_cons_succ])
  | (refine Fx.WM.val_ 0 ?_ (by rfl) (by kernel_rfl) (by kernel_rfl) (by kernel_rfl) (by rfl) ?_ (fun g f w h => h) ?_
     rotate_left
     · intro g f w' hx hD hk
       obtain hkp := id hD
       have y0_0 := (K0_3.out.below hkp.bel l0_3).cell 0
       have y0_1 := (K0_3.out.below hkp.bel l0_3).cell 1
       have y0_2 := (K0_3.out.below hkp.bel l0_3).cell 2
       have y1_0 := (K1_3.out.below hkp.bel l1_3).cell 0
       have y1_1 := (K1_3.out.below hkp.bel l1_3).cell 1
       have y1_2 := (K1_3.out.below hkp.bel l1_3).cell 2
       have y1_3 := (K1_3.out.below hkp.bel l1_3).cell 3
       have y1_4 := (K1_3.out.below hkp.bel l1_3).cell 4
       have y1_5 := (K1_3.out.below hkp.bel l1_3).cell 5
       clear hx hk hD hkp
       go_simp
       try rfl
     simp only [Act.put, List.setIfInBounds_toArray, List.set_cons_zero, List.set_cons_succ])
  first
  | (refine Fx.WM.skip 2 (by rfl) (by kernel_rfl) (by kernel_rfl) (by kernel_rfl) (by rfl) (fun g f w h => h) ?_; simp only [Act.put, List.setIfInBounds_toArray, List.set_cons_zero, List.set_cons_succ])
  | (refine Fx.WM.val_ 2 ?_ (by rfl) (by kernel_rfl) (by kernel_rfl) (by kernel_rfl) (by rfl) ?_ (fun g f w h => h) ?_
     rotate_left
     · intro g f w' hx hD hk
       obtain hkp := id hD
       have y0_0 := (K0_3.out.below hkp.bel l0_3).cell 0
       have y0_1 := (K0_3.out.below hkp.bel l0_3).cell 1
       have y0_2 := (K0_3.out.below hkp.bel l0_3).cell 2
       have y1_0 := (K1_3.out.below hkp.bel l1_3).cell 0
       have y1_1 := (K1_3.out.below hkp.bel l1_3).cell 1
       have y1_2 := (K1_3.out.below hkp.bel l1_3).cell 2
       have y1_3 := (K1_3.out.below hkp.bel l1_3).cell 3
       have y1_4 := (K1_3.out.below hkp.bel l1_3).cell 4
       have y1_5 := (K1_3.out.below hkp.bel l1_3).cell 5
       clear hx hk hD hkp
       go_simp
       try rfl
     simp only [Act.put, List.setIfInBounds_toArray, List.set_cons_zero, List.set_cons_succ])
  refine Fx.WM.choose 1 (by rfl) (by kernel_rfl) (by rfl) ?_ ?_
  · skip
    refine Fx.Chooses.call ?_ ?_ (by rfl) ?_ ?_
    rotate_left 2
    · intro w'
      go_simp
      refine ⟨?_, ?_⟩ <;> rfl
    · intro f w' hD hk
      exact (mapped_any A1 A2 A3 n1 c1 n2 c2 n3 c3 l1 l2 l3 w' ((R0_3.out.below hD.bel).more hD.bel.size) ((R1_3.out.below hD.bel).more hD.bel.size) ((R2_3.out.below hD.bel).more hD.bel.size) (by omega) (by omega) (by omega)).mono fun e w'' ⟨B1, d1, B2, d2, B3, d3, he, hb, g1, g2, g3⟩ => ⟨((B1, d1), (B2, d2), (B3, d3)), he, hD.choose PfM3.stb hb 1 _ (fun _ => ⟨g1, g2, g3⟩)⟩
  intro z
  simp only [Act.put, List.setIfInBounds_toArray, List.set_cons_zero, List.set_cons_succ]
  refine Fx.WM.call 3 (.tuple #[.int .i64 0, .int .i64 E]) ?_ ?_ (by rfl) (by kernel_rfl) (by kernel_rfl) (by kernel_rfl) (by rfl) ?_ ?_ ?_
  rotate_left 2
  · intro w'
    go_simp
    refine ⟨?_, ?_⟩ <;> rfl
  · intro g f w' hx hD hk
    exact (cref_map z.1.1 n1 z.1.2 l1 z.2.1.1 n2 z.2.1.2 l2 z.2.2.1 n3 z.2.2.2 l3 E HE.out HEN.out a b c d x y w' (hD.has 1 z (hx 1 _ (by rfl)) rfl).1 (hD.has 1 z (hx 1 _ (by rfl)) rfl).2.1 (hD.has 1 z (hx 1 _ (by rfl)) rfl).2.2 (by omega) (by omega) (by omega)).mono fun e w'' ⟨he, hw⟩ => ⟨he, hD.call PfM3.stb hw⟩
  simp only [Act.put, List.setIfInBounds_toArray, List.set_cons_zero, List.set_cons_succ]
  first
  | (refine Fx.WM.skip 4 (by rfl) (by kernel_rfl) (by kernel_rfl) (by kernel_rfl) (by rfl) (fun g f w h => h) ?_; simp only [Act.put, List.setIfInBounds_toArray, List.set_cons_zero, List.set_cons_succ])
  | (refine Fx.WM.val_ 4 ?_ (by rfl) (by kernel_rfl) (by kernel_rfl) (by kernel_rfl) (by rfl) ?_ (fun g f w h => h) ?_
     rotate_left
     · intro g f w' hx hD hk
       obtain hkp := id hD
       clear hx hk hD hkp
       go_simp
       try rfl
     simp only [Act.put, List.setIfInBounds_toArray, List.set_cons_zero, List.set_cons_succ])
  first
  | (refine Fx.WM.skip 5 (by rfl) (by kernel_rfl) (by kernel_rfl) (by kernel_rfl) (by rfl) (fun g f w h => h) ?_; simp only [Act.put, List.setIfInBounds_toArray, List.set_cons_zero, List.set_cons_succ])
  | (refine Fx.WM.val_ 5 ?_ (by rfl) (by kernel_rfl) (by kernel_rfl) (by kernel_rfl) (by rfl) ?_ (fun g f w h => h) ?_
     rotate_left
     · intro g f w' hx hD hk
       obtain hkp := id hD
       clear hx hk hD hkp
       go_simp
       try rfl
     simp only [Act.put, List.setIfInBounds_toArray, List.set_cons_zero, List.set_cons_succ])
  first
  | (refine Fx.WM.skip 6 (by rfl) (by kernel_rfl) (by kernel_rfl) (by kernel_rfl) (by rfl) (fun g f w h => h) ?_; simp only [Act.put, List.setIfInBounds_toArray, List.set_cons_zero, List.set_cons_succ])
  | (refine Fx.WM.val_ 6 ?_ (by rfl) (by kernel_rfl) (by kernel_rfl) (by kernel_rfl) (by rfl) ?_ (fun g f w h => h) ?_
     rotate_left
     · intro g f w' hx hD hk
       obtain hkp := id hD
       clear hx hk hD hkp
       go_simp
       try rfl
     simp only [Act.put, List.setIfInBounds_toArray, List.set_cons_zero, List.set_cons_succ])
  first
  | (refine Fx.WM.skip 7 (by rfl) (by kernel_rfl) (by kernel_rfl) (by kernel_rfl) (by rfl) (fun g f w h => h) ?_; simp only [Act.put, List.setIfInBounds_toArray, List.set_cons_zero, List.set_cons_succ])
  | (refine Fx.WM.val_ 7 ?_ (by rfl) (by kernel_rfl) (by kernel_rfl) (by kernel_rfl) (by rfl) ?_ (fun g f w h => h) ?_
     rotate_left
     · intro g f w' hx hD hk
       obtain hkp := id hD
       clear hx hk hD hkp
       go_simp
       try rfl
     simp only [Act.put, List.setIfInBounds_toArray, List.set_cons_zero, List.set_cons_succ])
  first
  | (refine Fx.WM.skip 8 (by rfl) (by kernel_rfl) (by kernel_rfl) (by kernel_rfl) (by rfl) (fun g f w h => h) ?_; simp only [Act.put, List.setIfInBounds_toArray, List.set_cons_zero, List.set_cons_succ])
  | (refine Fx.WM.val_ 8 ?_ (by rfl) (by kernel_rfl) (by kernel_rfl) (by kernel_rfl) (by rfl) ?_ (fun g f w h => h) ?_
     rotate_left
     · intro g f w' hx hD hk
       obtain hkp := id hD
       clear hx hk hD hkp
       go_simp
       try rfl
     simp only [Act.put, List.setIfInBounds_toArray, List.set_cons_zero, List.set_cons_succ])
  refine Fx.WM.nil (by kernel_rfl) ?_
  intro wz hkp
  have hb := hkp.bel
  clear hkp
  obtain ⟨w4, hnm⟩ : ∃ z : World, z = wz := ⟨_, rfl⟩
  subst hnm
  have HB4 := Lib.hid (show Below w.heap.size w w4 from step_below hb (by repeat' (first | exact Below.refl _ _ | exact HB3.out | refine below_drewN ?_ _ | refine Below.drew ?_ | refine Below.alloc ?_ (by first | omega | (simp; done) | (simp; omega) | (simp [World.setCell]; omega)) _ | refine Below.setCell ?_ (by first | omega | (simp; done) | (simp; omega)) _ | assumption)))
  have K0_4 := Lib.hid (step_blk hb (show Blk _ (w.heap.size) 24 #[.slice A1 n1 c1, .slice A2 n2 c2, .slice A3 n3 c3] by repeat' (first | exact K0_3.out | exact K1_3.out | exact Blk.at_ _ (by first | rfl | (simp; done) | (simp; omega)) _ _ | refine Blk.drewN ?_ _ | refine Blk.drew ?_ | refine Blk.alloc ?_ _ | refine Blk.far ?_ (by first | omega | (simp; done) | (simp; omega)) _ | assumption)))
  have K1_4 := Lib.hid (step_blk hb (show Blk _ (w.heap.size + 1) 75 #[.int .i64 (a), .int .i64 (b), .int .i64 (c), .int .i64 (d), .int .i64 (x), .int .i64 (y)] by repeat' (first | exact K0_3.out | exact K1_3.out | exact Blk.at_ _ (by first | rfl | (simp; done) | (simp; omega)) _ _ | refine Blk.drewN ?_ _ | refine Blk.drew ?_ | refine Blk.alloc ?_ _ | refine Blk.far ?_ (by first | omega | (simp; done) | (simp; omega)) _ | assumption)))
  have hL4 := Lib.hid (show Below w3.heap.size w3 _ from reads_mid hb (by repeat' (first | exact Below.refl _ _ | refine below_drewN ?_ _ | refine Below.drew ?_ | refine Below.alloc ?_ (by first | omega | (simp; done) | (simp; omega) | (simp [World.setCell]; omega)) _ | refine Below.setCell ?_ (by first | omega | (simp; done) | (simp; omega)) _)))
  have R0_4 := Lib.hid (reads_lay hb hL4.out R0_3.out)
  have R1_4 := Lib.hid (reads_lay hb hL4.out R1_3.out)
  have R2_4 := Lib.hid (reads_lay hb hL4.out R2_3.out)
  clear hL4 R0_3 R1_3 R2_3
  have hz4 := hb.size
  try simp only [World.size_alloc, World.drewN, World.drew] at hz4
  clear hb K0_3 K1_3 z0_0_3 z0_1_3 z0_2_3 l0_3 z1_0_3 z1_1_3 z1_2_3 z1_3_3 z1_4_3 z1_5_3 l1_3
  have l0_4 : w.heap.size < w4.heap.size := K0_4.out.lt
  have z0_0_4 : w4.cell? ⟨w.heap.size, 0, none⟩ = some (.slice A1 n1 c1) := K0_4.out.cell 0
  have z0_1_4 : w4.cell? ⟨w.heap.size, 1, none⟩ = some (.slice A2 n2 c2) := K0_4.out.cell 1
  have z0_2_4 : w4.cell? ⟨w.heap.size, 2, none⟩ = some (.slice A3 n3 c3) := K0_4.out.cell 2
  have l1_4 : w.heap.size + 1 < w4.heap.size := K1_4.out.lt
  have z1_0_4 : w4.cell? ⟨w.heap.size + 1, 0, none⟩ = some (.int .i64 (a)) := K1_4.out.cell 0
  have z1_1_4 : w4.cell? ⟨w.heap.size + 1, 1, none⟩ = some (.int .i64 (b)) := K1_4.out.cell 1
  have z1_2_4 : w4.cell? ⟨w.heap.size + 1, 2, none⟩ = some (.int .i64 (c)) := K1_4.out.cell 2
  have z1_3_4 : w4.cell? ⟨w.heap.size + 1, 3, none⟩ = some (.int .i64 (d)) := K1_4.out.cell 3
  have z1_4_4 : w4.cell? ⟨w.heap.size + 1, 4, none⟩ = some (.int .i64 (x)) := K1_4.out.cell 4
  have z1_5_4 : w4.cell? ⟨w.heap.size + 1, 5, none⟩ = some (.int .i64 (y)) := K1_4.out.cell 5
  go_wp2_with fail
  refine Fx.regionM (fun W g f w' => Kt (PfM3 n1 n2 n3 l1 l2 l3) W g w') (fun i (x : Pick3) => .agg #[.slice x.1.1 n1 x.1.2, .slice x.2.1.1 n2 x.2.1.2, .slice x.2.2.1 n3 x.2.2.2]) (by kernel_rfl) ?_ ?_
  · intro f hf0
    exact Kt.start
  first
  | (refine Fx.WM.skip 0 (by rfl) (by kernel_rfl) (by kernel_rfl) (by kernel_rfl) (by rfl) (fun g f w h => h) ?_; simp only [Act.put, List.setIfInBounds_toArray, List.set_cons_zero, List.set_cons_succ])
  | (refine Fx.WM.val_ 0 ?_ (by rfl) (by kernel_rfl) (by kernel_rfl) (by kernel_rfl) (by rfl) ?_ (fun g f w h => h) ?_
     rotate_left
     · intro g f w' hx hD hk
       obtain hkp := id hD
       have y0_0 := (K0_4.out.below hkp.bel l0_4).cell 0
       have y0_1 := (K0_4.out.below hkp.bel l0_4).cell 1
       have y0_2 := (K0_4.out.below hkp.bel l0_4).cell 2
       have y1_0 := (K1_4.out.below hkp.bel l1_4).cell 0
       have y1_1 := (K1_4.out.below hkp.bel l1_4).cell 1
       have y1_2 := (K1_4.out.below hkp.bel l1_4).cell 2
       have y1_3 := (K1_4.out.below hkp.bel l1_4).cell 3
       have y1_4 := (K1_4.out.below hkp.bel l1_4).cell 4
       have y1_5 := (K1_4.out.below hkp.bel l1_4).cell 5
       clear hx hk hD hkp
       go_simp
       try rfl
     simp only [Act.put, List.setIfInBounds_toArray, List.set_cons_zero, List.set_cons_succ])
  first
  | (refine Fx.WM.skip 2 (by rfl) (by kernel_rfl) (by kernel_rfl) (by kernel_rfl) (by rfl) (fun g f w h => h) ?_; simp only [Act.put, List.setIfInBounds_toArray, List.set_cons_zero, List.set_cons_succ])
  | (refine Fx.WM.val_ 2 ?_ (by rfl) (by kernel_rfl) (by kernel_rfl) (by kernel_rfl) (by rfl) ?_ (fun g f w h => h) ?_
     rotate_left
     · intro g f w' hx hD hk
       obtain hkp := id hD
       have y0_0 := (K0_4.out.below hkp.bel l0_4).cell 0
       have y0_1 := (K0_4.out.below hkp.bel l0_4).cell 1
       have y0_2 := (K0_4.out.below hkp.bel l0_4).cell 2
       have y1_0 := (K1_4.out.below hkp.bel l1_4).cell 0
       have y1_1 := (K1_4.out.below hkp.bel l1_4).cell 1
       have y1_2 := (K1_4.out.below hkp.bel l1_4).cell 2
       have y1_3 := (K1_4.out.below hkp.bel l1_4).cell 3
       have y1_4 := (K1_4.out.below hkp.bel l1_4).cell 4
       have y1_5 := (K1_4.out.below hkp.bel l1_4).cell 5
       clear hx hk hD hkp
       go_simp
       try rfl
     simp only [Act.put, List.setIfInBounds_toArray, List.set_cons_zero, List.set_cons_succ])
  refine Fx.WM.choose 1 (by rfl) (by kernel_rfl) (by rfl) ?_ ?_
  · skip
    refine Fx.Chooses.call ?_ ?_ (by rfl) ?_ ?_
    rotate_left 2
    · intro w'
      go_simp
      refine ⟨?_, ?_⟩ <;> rfl
    · intro f w' hD hk
      exact (mapped_any A1 A2 A3 n1 c1 n2 c2 n3 c3 l1 l2 l3 w' ((R0_4.out.below hD.bel).more hD.bel.size) ((R1_4.out.below hD.bel).more hD.bel.size) ((R2_4.out.below hD.bel).more hD.bel.size) (by omega) (by omega) (by omega)).mono fun e w'' ⟨B1, d1, B2, d2, B3, d3, he, hb, g1, g2, g3⟩ => ⟨((B1, d1), (B2, d2), (B3, d3)), he, hD.choose PfM3.stb hb 1 _ (fun _ => ⟨g1, g2, g3⟩)⟩
  intro y_
  simp only [Act.put, List.setIfInBounds_toArray, List.set_cons_zero, List.set_cons_succ]
  refine Fx.WM.call 3 (.tuple #[.slice none 0 0, .int .i64 E]) ?_ ?_ (by rfl) (by kernel_rfl) (by kernel_rfl) (by kernel_rfl) (by rfl) ?_ ?_ ?_
  rotate_left 2
  · intro w'
    go_simp
    refine ⟨?_, ?_⟩ <;> rfl
  · intro g f w' hx hD hk
    exact (rems_map y_.1.1 n1 y_.1.2 l1 y_.2.1.1 n2 y_.2.1.2 l2 y_.2.2.1 n3 y_.2.2.2 l3 E HE.out HEN.out a b c d x y w' (hD.has 1 y_ (hx 1 _ (by rfl)) rfl).1 (hD.has 1 y_ (hx 1 _ (by rfl)) rfl).2.1 (hD.has 1 y_ (hx 1 _ (by rfl)) rfl).2.2 (by omega) (by omega) (by omega)).mono fun e w'' ⟨he, hw⟩ => ⟨he, hD.call PfM3.stb hw⟩
  simp only [Act.put, List.setIfInBounds_toArray, List.set_cons_zero, List.set_cons_succ]
  first
  | (refine Fx.WM.skip 4 (by rfl) (by kernel_rfl) (by kernel_rfl) (by kernel_rfl) (by rfl) (fun g f w h => h) ?_; simp only [Act.put, List.setIfInBounds_toArray, List.set_cons_zero, List.set_cons_succ])
  | (refine Fx.WM.val_ 4 ?_ (by rfl) (by kernel_rfl) (by kernel_rfl) (by kernel_rfl) (by rfl) ?_ (fun g f w h => h) ?_
     rotate_left
     · intro g f w' hx hD hk
       obtain hkp := id hD
       clear hx hk hD hkp
       go_simp
       try rfl
     simp only [Act.put, List.setIfInBounds_toArray, List.set_cons_zero, List.set_cons_succ])
  first
  | (refine Fx.WM.skip 5 (by rfl) (by kernel_rfl) (by kernel_rfl) (by kernel_rfl) (by rfl) (fun g f w h => h) ?_; simp only [Act.put, List.setIfInBounds_toArray, List.set_cons_zero, List.set_cons_succ])
  | (refine Fx.WM.val_ 5 ?_ (by rfl) (by kernel_rfl) (by kernel_rfl) (by kernel_rfl) (by rfl) ?_ (fun g f w h => h) ?_
     rotate_left
     · intro g f w' hx hD hk
       obtain hkp := id hD
       clear hx hk hD hkp
       go_simp
       try rfl
     simp only [Act.put, List.setIfInBounds_toArray, List.set_cons_zero, List.set_cons_succ])
  first
  | (refine Fx.WM.skip 6 (by rfl) (by kernel_rfl) (by kernel_rfl) (by kernel_rfl) (by rfl) (fun g f w h => h) ?_; simp only [Act.put, List.setIfInBounds_toArray, List.set_cons_zero, List.set_cons_succ])
  | (refine Fx.WM.val_ 6 ?_ (by rfl) (by kernel_rfl) (by kernel_rfl) (by kernel_rfl) (by rfl) ?_ (fun g f w h => h) ?_
     rotate_left
     · intro g f w' hx hD hk
       obtain hkp := id hD
       clear hx hk hD hkp
       go_simp
       try rfl
     simp only [Act.put, List.setIfInBounds_toArray, List.set_cons_zero, List.set_cons_succ])
  first
  | (refine Fx.WM.skip 7 (by rfl) (by kernel_rfl) (by kernel_rfl) (by kernel_rfl) (by rfl) (fun g f w h => h) ?_; simp only [Act.put, List.setIfInBounds_toArray, List.set_cons_zero, List.set_cons_succ])
  | (refine Fx.WM.val_ 7 ?_ (by rfl) (by kernel_rfl) (by kernel_rfl) (by kernel_rfl) (by rfl) ?_ (fun g f w h => h) ?_
     rotate_left
     · intro g f w' hx hD hk
       obtain hkp := id hD
       clear hx hk hD hkp
       go_simp
       try rfl
     simp only [Act.put, List.setIfInBounds_toArray, List.set_cons_zero, List.set_cons_succ])
  first
  | (refine Fx.WM.skip 8 (by rfl) (by kernel_rfl) (by kernel_rfl) (by kernel_rfl) (by rfl) (fun g f w h => h) ?_; simp only [Act.put, List.setIfInBounds_toArray, List.set_cons_zero, List.set_cons_succ])
  | (refine Fx.WM.val_ 8 ?_ (by rfl) (by kernel_rfl) (by kernel_rfl) (by kernel_rfl) (by rfl) ?_ (fun g f w h => h) ?_
     rotate_left
     · intro g f w' hx hD hk
       obtain hkp := id hD
       clear hx hk hD hkp
       go_simp
       try rfl
     simp only [Act.put, List.setIfInBounds_toArray, List.set_cons_zero, List.set_cons_succ])
  refine Fx.WM.nil (by kernel_rfl) ?_
  intro wz hkp
  have hb := hkp.bel
  clear hkp
  obtain ⟨w5, hnm⟩ : ∃ z : World, z = wz := ⟨_, rfl⟩
  subst hnm
  have HB5 := Lib.hid (show Below w.heap.size w w5 from step_below hb (by repeat' (first | exact Below.refl _ _ | exact HB4.out | refine below_drewN ?_ _ | refine Below.drew ?_ | refine Below.alloc ?_ (by first | omega | (simp; done) | (simp; omega) | (simp [World.setCell]; omega)) _ | refine Below.setCell ?_ (by first | omega | (simp; done) | (simp; omega)) _ | assumption)))
  have K0_5 := Lib.hid (step_blk hb (show Blk _ (w.heap.size) 24 #[.slice A1 n1 c1, .slice A2 n2 c2, .slice A3 n3 c3] by repeat' (first | exact K0_4.out | exact K1_4.out | exact Blk.at_ _ (by first | rfl | (simp; done) | (simp; omega)) _ _ | refine Blk.drewN ?_ _ | refine Blk.drew ?_ | refine Blk.alloc ?_ _ | refine Blk.far ?_ (by first | omega | (simp; done) | (simp; omega)) _ | assumption)))
  have K1_5 := Lib.hid (step_blk hb (show Blk _ (w.heap.size + 1) 75 #[.int .i64 (a), .int .i64 (b), .int .i64 (c), .int .i64 (d), .int .i64 (x), .int .i64 (y)] by repeat' (first | exact K0_4.out | exact K1_4.out | exact Blk.at_ _ (by first | rfl | (simp; done) | (simp; omega)) _ _ | refine Blk.drewN ?_ _ | refine Blk.drew ?_ | refine Blk.alloc ?_ _ | refine Blk.far ?_ (by first | omega | (simp; done) | (simp; omega)) _ | assumption)))
  have hL5 := Lib.hid (show Below w4.heap.size w4 _ from reads_mid hb (by repeat' (first | exact Below.refl _ _ | refine below_drewN ?_ _ | refine Below.drew ?_ | refine Below.alloc ?_ (by first | omega | (simp; done) | (simp; omega) | (simp [World.setCell]; omega)) _ | refine Below.setCell ?_ (by first | omega | (simp; done) | (simp; omega)) _)))
  have R0_5 := Lib.hid (reads_lay hb hL5.out R0_4.out)
  have R1_5 := Lib.hid (reads_lay hb hL5.out R1_4.out)
  have R2_5 := Lib.hid (reads_lay hb hL5.out R2_4.out)
  clear hL5 R0_4 R1_4 R2_4
  have hz5 := hb.size
  try simp only [World.size_alloc, World.drewN, World.drew] at hz5
  clear hb K0_4 K1_4 z0_0_4 z0_1_4 z0_2_4 l0_4 z1_0_4 z1_1_4 z1_2_4 z1_3_4 z1_4_4 z1_5_4 l1_4
  have l0_5 : w.heap.size < w5.heap.size := K0_5.out.lt
  have z0_0_5 : w5.cell? ⟨w.heap.size, 0, none⟩ = some (.slice A1 n1 c1) := K0_5.out.cell 0
  have z0_1_5 : w5.cell? ⟨w.heap.size, 1, none⟩ = some (.slice A2 n2 c2) := K0_5.out.cell 1
  have z0_2_5 : w5.cell? ⟨w.heap.size, 2, none⟩ = some (.slice A3 n3 c3) := K0_5.out.cell 2
  have l1_5 : w.heap.size + 1 < w5.heap.size := K1_5.out.lt
  have z1_0_5 : w5.cell? ⟨w.heap.size + 1, 0, none⟩ = some (.int .i64 (a)) := K1_5.out.cell 0
  have z1_1_5 : w5.cell? ⟨w.heap.size + 1, 1, none⟩ = some (.int .i64 (b)) := K1_5.out.cell 1
  have z1_2_5 : w5.cell? ⟨w.heap.size + 1, 2, none⟩ = some (.int .i64 (c)) := K1_5.out.cell 2
  have z1_3_5 : w5.cell? ⟨w.heap.size + 1, 3, none⟩ = some (.int .i64 (d)) := K1_5.out.cell 3
  have z1_4_5 : w5.cell? ⟨w.heap.size + 1, 4, none⟩ = some (.int .i64 (x)) := K1_5.out.cell 4
  have z1_5_5 : w5.cell? ⟨w.heap.size + 1, 5, none⟩ = some (.int .i64 (y)) := K1_5.out.cell 5
  go_wp2_with fail
  refine (rcheckmap_is A1 n1 c1 l1 A2 n2 c2 l2 A3 n3 c3 l3 E HE.out _ R0_5.out R1_5.out R2_5.out (by omega) (by omega) (by omega)).mono ?_
  rintro e w6 ⟨rfl, hb⟩
  have HB6 := Lib.hid (show Below w.heap.size w w6 from step_below hb (by repeat' (first | exact Below.refl _ _ | exact HB5.out | refine below_drewN ?_ _ | refine Below.drew ?_ | refine Below.alloc ?_ (by first | omega | (simp; done) | (simp; omega) | (simp [World.setCell]; omega)) _ | refine Below.setCell ?_ (by first | omega | (simp; done) | (simp; omega)) _ | assumption)))
  have K0_6 := Lib.hid (step_blk hb (show Blk _ (w.heap.size) 24 #[.slice A1 n1 c1, .slice A2 n2 c2, .slice A3 n3 c3] by repeat' (first | exact K0_5.out | exact K1_5.out | exact Blk.at_ _ (by first | rfl | (simp; done) | (simp; omega)) _ _ | refine Blk.drewN ?_ _ | refine Blk.drew ?_ | refine Blk.alloc ?_ _ | refine Blk.far ?_ (by first | omega | (simp; done) | (simp; omega)) _ | assumption)))
  have K1_6 := Lib.hid (step_blk hb (show Blk _ (w.heap.size + 1) 75 #[.int .i64 (a), .int .i64 (b), .int .i64 (c), .int .i64 (d), .int .i64 (x), .int .i64 (y)] by repeat' (first | exact K0_5.out | exact K1_5.out | exact Blk.at_ _ (by first | rfl | (simp; done) | (simp; omega)) _ _ | refine Blk.drewN ?_ _ | refine Blk.drew ?_ | refine Blk.alloc ?_ _ | refine Blk.far ?_ (by first | omega | (simp; done) | (simp; omega)) _ | assumption)))
  have hL6 := Lib.hid (show Below w5.heap.size w5 _ from reads_mid hb (by repeat' (first | exact Below.refl _ _ | refine below_drewN ?_ _ | refine Below.drew ?_ | refine Below.alloc ?_ (by first | omega | (simp; done) | (simp; omega) | (simp [World.setCell]; omega)) _ | refine Below.setCell ?_ (by first | omega | (simp; done) | (simp; omega)) _)))
  have R0_6 := Lib.hid (reads_lay hb hL6.out R0_5.out)
  have R1_6 := Lib.hid (reads_lay hb hL6.out R1_5.out)
  have R2_6 := Lib.hid (reads_lay hb hL6.out R2_5.out)
  clear hL6 R0_5 R1_5 R2_5
  have hz6 := hb.size
  try simp only [World.size_alloc, World.drewN, World.drew] at hz6
  clear hb K0_5 K1_5 z0_0_5 z0_1_5 z0_2_5 l0_5 z1_0_5 z1_1_5 z1_2_5 z1_3_5 z1_4_5 z1_5_5 l1_5
  have l0_6 : w.heap.size < w6.heap.size := K0_6.out.lt
  have z0_0_6 : w6.cell? ⟨w.heap.size, 0, none⟩ = some (.slice A1 n1 c1) := K0_6.out.cell 0
  have z0_1_6 : w6.cell? ⟨w.heap.size, 1, none⟩ = some (.slice A2 n2 c2) := K0_6.out.cell 1
  have z0_2_6 : w6.cell? ⟨w.heap.size, 2, none⟩ = some (.slice A3 n3 c3) := K0_6.out.cell 2
  have l1_6 : w.heap.size + 1 < w6.heap.size := K1_6.out.lt
  have z1_0_6 : w6.cell? ⟨w.heap.size + 1, 0, none⟩ = some (.int .i64 (a)) := K1_6.out.cell 0
  have z1_1_6 : w6.cell? ⟨w.heap.size + 1, 1, none⟩ = some (.int .i64 (b)) := K1_6.out.cell 1
  have z1_2_6 : w6.cell? ⟨w.heap.size + 1, 2, none⟩ = some (.int .i64 (c)) := K1_6.out.cell 2
  have z1_3_6 : w6.cell? ⟨w.heap.size + 1, 3, none⟩ = some (.int .i64 (d)) := K1_6.out.cell 3
  have z1_4_6 : w6.cell? ⟨w.heap.size + 1, 4, none⟩ = some (.int .i64 (x)) := K1_6.out.cell 4
  have z1_5_6 : w6.cell? ⟨w.heap.size + 1, 5, none⟩ = some (.int .i64 (y)) := K1_6.out.cell 5
  go_wp2
  go_ret
  exact ⟨rfl, by repeat' (first | exact Below.refl _ _ | exact HB6.out | refine below_drewN ?_ _ | refine Below.drew ?_ | refine Below.alloc ?_ (by first | omega | (simp; done) | (simp; omega) | (simp [World.setCell]; omega)) _ | refine Below.setCell ?_ (by first | omega | (simp; done) | (simp; omega)) _ | assumption)⟩

set_option maxRecDepth 100000 in
set_option maxHeartbeats 4000000 in
theorem lawFL_line (n b1 o1 c1 b2 o2 c2 b3 o3 c3 : Nat) (l1 l2 l3 : List Int) (a b c d x y LE : Int) (w : World) (hF : (fewB6 n && (fewB6 n && fewB6 n)) = true) (hE : mapErr l1 l2 l3 = 0) (hL : lineErr a b c d = LE) (h0 : LE ≠ 0) (ia : I64 a) (ib : I64 b) (ic : I64 c) (jd : I64 d)
    (r1 : Reads w w.heap.size 1 (some ⟨b1, o1, none⟩) n (l1.map (.int .i64))) (r2 : Reads w w.heap.size 1 (some ⟨b2, o2, none⟩) n (l2.map (.int .i64))) (r3 : Reads w w.heap.size 1 (some ⟨b3, o3, none⟩) n (l3.map (.int .i64))) :
    Calls Try.prog 13 #[.agg #[.slice (some ⟨b1, o1, none⟩) n c1, .slice (some ⟨b2, o2, none⟩) n c2, .slice (some ⟨b3, o3, none⟩) n c3], .agg #[.int .i64 a, .int .i64 b, .int .i64 c, .int .i64 d, .int .i64 x, .int .i64 y]] w fun e w' => e = .returned (.bool true) ∧ Below w.heap.size w w' := by
  have f1 : n ≤ 42 := few6_true (by cases h : fewB6 n <;> simp_all)
  obtain ⟨m, hm⟩ : ∃ m, m = rmL n b1 o1 c1 b2 o2 c2 b3 o3 c3 l1 l2 l3 := ⟨_, rfl⟩
  have HEX := Lib.hid (show ∃ b1 o1 c1 b2 o2 c2 b3 o3 c3, m = rmL n b1 o1 c1 b2 o2 c2 b3 o3 c3 l1 l2 l3 from ⟨_, _, _, _, _, _, _, _, _, hm⟩)
  have HT := Lib.hid hF
  have R1 := Lib.hid r1
  have R2 := Lib.hid r2
  have R3 := Lib.hid r3
  have HE := Lib.hid hE
  have HL := Lib.hid hL
  have HLN := Lib.hid h0
  have e1 : (LE != 0) = true := by simpa using h0
  have e2 : (LE == LE) = true := by simp
  clear r1 r2 r3 hE hL h0 hF hm
  go_enter Try.func13, Try.ntmps13
  go_wp2_with fail
  generalize hwn : ((w.alloc (.cells #[.slice (some ⟨b1, o1, none⟩) n c1, .slice (some ⟨b2, o2, none⟩) n c2, .slice (some ⟨b3, o3, none⟩) n c3] 24)).alloc (.cells #[.int .i64 (a), .int .i64 (b), .int .i64 (c), .int .i64 (d), .int .i64 (x), .int .i64 (y)] 75)) = w1
  have hbn : Below w.heap.size w w1 := by rw [← hwn]; repeat' (first | exact Below.refl _ _ | refine below_drewN ?_ _ | refine Below.drew ?_ | refine Below.alloc ?_ (by first | omega | (simp; done) | (simp; omega) | (simp [World.setCell]; omega)) _ | refine Below.setCell ?_ (by first | omega | (simp; done) | (simp; omega)) _)
  have HB1 := Lib.hid (show Below w.heap.size w w1 from hbn)
  have K0_1 := Lib.hid (show Blk w1 (w.heap.size) 24 #[.slice (some ⟨b1, o1, none⟩) n c1, .slice (some ⟨b2, o2, none⟩) n c2, .slice (some ⟨b3, o3, none⟩) n c3] by rw [← hwn]; repeat' (first | exact Blk.at_ _ (by first | rfl | (simp; done) | (simp; omega)) _ _ | refine Blk.drewN ?_ _ | refine Blk.drew ?_ | refine Blk.alloc ?_ _ | refine Blk.far ?_ (by first | omega | (simp; done) | (simp; omega)) _ | assumption))
  have K1_1 := Lib.hid (show Blk w1 (w.heap.size + 1) 75 #[.int .i64 (a), .int .i64 (b), .int .i64 (c), .int .i64 (d), .int .i64 (x), .int .i64 (y)] by rw [← hwn]; repeat' (first | exact Blk.at_ _ (by first | rfl | (simp; done) | (simp; omega)) _ _ | refine Blk.drewN ?_ _ | refine Blk.drew ?_ | refine Blk.alloc ?_ _ | refine Blk.far ?_ (by first | omega | (simp; done) | (simp; omega)) _ | assumption))
  have HN1 := Lib.hid hbn
  have hz1 := hbn.size
  clear hwn hbn
  have l0_1 : w.heap.size < w1.heap.size := K0_1.out.lt
  have z0_0_1 : w1.cell? ⟨w.heap.size, 0, none⟩ = some (.slice (some ⟨b1, o1, none⟩) n c1) := K0_1.out.cell 0
  have z0_1_1 : w1.cell? ⟨w.heap.size, 1, none⟩ = some (.slice (some ⟨b2, o2, none⟩) n c2) := K0_1.out.cell 1
  have z0_2_1 : w1.cell? ⟨w.heap.size, 2, none⟩ = some (.slice (some ⟨b3, o3, none⟩) n c3) := K0_1.out.cell 2
  have l1_1 : w.heap.size + 1 < w1.heap.size := K1_1.out.lt
  have z1_0_1 : w1.cell? ⟨w.heap.size + 1, 0, none⟩ = some (.int .i64 (a)) := K1_1.out.cell 0
  have z1_1_1 : w1.cell? ⟨w.heap.size + 1, 1, none⟩ = some (.int .i64 (b)) := K1_1.out.cell 1
  have z1_2_1 : w1.cell? ⟨w.heap.size + 1, 2, none⟩ = some (.int .i64 (c)) := K1_1.out.cell 2
  have z1_3_1 : w1.cell? ⟨w.heap.size + 1, 3, none⟩ = some (.int .i64 (d)) := K1_1.out.cell 3
  have z1_4_1 : w1.cell? ⟨w.heap.size + 1, 4, none⟩ = some (.int .i64 (x)) := K1_1.out.cell 4
  have z1_5_1 : w1.cell? ⟨w.heap.size + 1, 5, none⟩ = some (.int .i64 (y)) := K1_1.out.cell 5
  refine (awake6_any _).mono ?_
  rintro e w2 ⟨rfl, hb⟩
  have HB2 := Lib.hid (show Below w.heap.size w w2 from step_below hb (by repeat' (first | exact Below.refl _ _ | exact HB1.out | refine below_drewN ?_ _ | refine Below.drew ?_ | refine Below.alloc ?_ (by first | omega | (simp; done) | (simp; omega) | (simp [World.setCell]; omega)) _ | refine Below.setCell ?_ (by first | omega | (simp; done) | (simp; omega)) _ | assumption)))
  have K0_2 := Lib.hid (step_blk hb (show Blk _ (w.heap.size) 24 #[.slice (some ⟨b1, o1, none⟩) n c1, .slice (some ⟨b2, o2, none⟩) n c2, .slice (some ⟨b3, o3, none⟩) n c3] by repeat' (first | exact K0_1.out | exact K1_1.out | exact Blk.at_ _ (by first | rfl | (simp; done) | (simp; omega)) _ _ | refine Blk.drewN ?_ _ | refine Blk.drew ?_ | refine Blk.alloc ?_ _ | refine Blk.far ?_ (by first | omega | (simp; done) | (simp; omega)) _ | assumption)))
  have K1_2 := Lib.hid (step_blk hb (show Blk _ (w.heap.size + 1) 75 #[.int .i64 (a), .int .i64 (b), .int .i64 (c), .int .i64 (d), .int .i64 (x), .int .i64 (y)] by repeat' (first | exact K0_1.out | exact K1_1.out | exact Blk.at_ _ (by first | rfl | (simp; done) | (simp; omega)) _ _ | refine Blk.drewN ?_ _ | refine Blk.drew ?_ | refine Blk.alloc ?_ _ | refine Blk.far ?_ (by first | omega | (simp; done) | (simp; omega)) _ | assumption)))
  have hz2 := hb.size
  try simp only [World.size_alloc, World.drewN, World.drew] at hz2
  clear hb K0_1 K1_1 z0_0_1 z0_1_1 z0_2_1 l0_1 z1_0_1 z1_1_1 z1_2_1 z1_3_1 z1_4_1 z1_5_1 l1_1
  have l0_2 : w.heap.size < w2.heap.size := K0_2.out.lt
  have z0_0_2 : w2.cell? ⟨w.heap.size, 0, none⟩ = some (.slice (some ⟨b1, o1, none⟩) n c1) := K0_2.out.cell 0
  have z0_1_2 : w2.cell? ⟨w.heap.size, 1, none⟩ = some (.slice (some ⟨b2, o2, none⟩) n c2) := K0_2.out.cell 1
  have z0_2_2 : w2.cell? ⟨w.heap.size, 2, none⟩ = some (.slice (some ⟨b3, o3, none⟩) n c3) := K0_2.out.cell 2
  have l1_2 : w.heap.size + 1 < w2.heap.size := K1_2.out.lt
  have z1_0_2 : w2.cell? ⟨w.heap.size + 1, 0, none⟩ = some (.int .i64 (a)) := K1_2.out.cell 0
  have z1_1_2 : w2.cell? ⟨w.heap.size + 1, 1, none⟩ = some (.int .i64 (b)) := K1_2.out.cell 1
  have z1_2_2 : w2.cell? ⟨w.heap.size + 1, 2, none⟩ = some (.int .i64 (c)) := K1_2.out.cell 2
  have z1_3_2 : w2.cell? ⟨w.heap.size + 1, 3, none⟩ = some (.int .i64 (d)) := K1_2.out.cell 3
  have z1_4_2 : w2.cell? ⟨w.heap.size + 1, 4, none⟩ = some (.int .i64 (x)) := K1_2.out.cell 4
  have z1_5_2 : w2.cell? ⟨w.heap.size + 1, 5, none⟩ = some (.int .i64 (y)) := K1_2.out.cell 5
  go_wp2_with fail
  refine (few6_is _ _ _ n c1 n c2 n c3 true HT.out _).mono ?_
  rintro e w3 ⟨rfl, hb⟩
  have HB3 := Lib.hid (show Below w.heap.size w w3 from step_below hb (by repeat' (first | exact Below.refl _ _ | exact HB2.out | refine below_drewN ?_ _ | refine Below.drew ?_ | refine Below.alloc ?_ (by first | omega | (simp; done) | (simp; omega) | (simp [World.setCell]; omega)) _ | refine Below.setCell ?_ (by first | omega | (simp; done) | (simp; omega)) _ | assumption)))
  have K0_3 := Lib.hid (step_blk hb (show Blk _ (w.heap.size) 24 #[.slice (some ⟨b1, o1, none⟩) n c1, .slice (some ⟨b2, o2, none⟩) n c2, .slice (some ⟨b3, o3, none⟩) n c3] by repeat' (first | exact K0_2.out | exact K1_2.out | exact Blk.at_ _ (by first | rfl | (simp; done) | (simp; omega)) _ _ | refine Blk.drewN ?_ _ | refine Blk.drew ?_ | refine Blk.alloc ?_ _ | refine Blk.far ?_ (by first | omega | (simp; done) | (simp; omega)) _ | assumption)))
  have K1_3 := Lib.hid (step_blk hb (show Blk _ (w.heap.size + 1) 75 #[.int .i64 (a), .int .i64 (b), .int .i64 (c), .int .i64 (d), .int .i64 (x), .int .i64 (y)] by repeat' (first | exact K0_2.out | exact K1_2.out | exact Blk.at_ _ (by first | rfl | (simp; done) | (simp; omega)) _ _ | refine Blk.drewN ?_ _ | refine Blk.drew ?_ | refine Blk.alloc ?_ _ | refine Blk.far ?_ (by first | omega | (simp; done) | (simp; omega)) _ | assumption)))
  have hz3 := hb.size
  try simp only [World.size_alloc, World.drewN, World.drew] at hz3
  clear hb K0_2 K1_2 z0_0_2 z0_1_2 z0_2_2 l0_2 z1_0_2 z1_1_2 z1_2_2 z1_3_2 z1_4_2 z1_5_2 l1_2
  have l0_3 : w.heap.size < w3.heap.size := K0_3.out.lt
  have z0_0_3 : w3.cell? ⟨w.heap.size, 0, none⟩ = some (.slice (some ⟨b1, o1, none⟩) n c1) := K0_3.out.cell 0
  have z0_1_3 : w3.cell? ⟨w.heap.size, 1, none⟩ = some (.slice (some ⟨b2, o2, none⟩) n c2) := K0_3.out.cell 1
  have z0_2_3 : w3.cell? ⟨w.heap.size, 2, none⟩ = some (.slice (some ⟨b3, o3, none⟩) n c3) := K0_3.out.cell 2
  have l1_3 : w.heap.size + 1 < w3.heap.size := K1_3.out.lt
  have z1_0_3 : w3.cell? ⟨w.heap.size + 1, 0, none⟩ = some (.int .i64 (a)) := K1_3.out.cell 0
  have z1_1_3 : w3.cell? ⟨w.heap.size + 1, 1, none⟩ = some (.int .i64 (b)) := K1_3.out.cell 1
  have z1_2_3 : w3.cell? ⟨w.heap.size + 1, 2, none⟩ = some (.int .i64 (c)) := K1_3.out.cell 2
  have z1_3_3 : w3.cell? ⟨w.heap.size + 1, 3, none⟩ = some (.int .i64 (d)) := K1_3.out.cell 3
  have z1_4_3 : w3.cell? ⟨w.heap.size + 1, 4, none⟩ = some (.int .i64 (x)) := K1_3.out.cell 4
  have z1_5_3 : w3.cell? ⟨w.heap.size + 1, 5, none⟩ = some (.int .i64 (y)) := K1_3.out.cell 5
  have g1 := (R1.out.below HB3.out).more HB3.out.size
  have g2 := (R2.out.below HB3.out).more HB3.out.size
  have g3 := (R3.out.below HB3.out).more HB3.out.size
  have R0_3 := Lib.hid g1
  clear g1
  have R1_3 := Lib.hid g2
  clear g2
  have R2_3 := Lib.hid g3
  clear g3
  go_wp2_with fail
  refine Fx.regionM (fun W g f w' => Kt (PfMR m n []) W g w') (fun i (x : Rm × Pick) => x.1.val) (by kernel_rfl) ?_ ?_
  · intro f hf0
    exact Kt.start
  first
  | (refine Fx.WM.skip 0 (by rfl) (by kernel_rfl) (by kernel_rfl) (by kernel_rfl) (by rfl) (fun g f w h => h) ?_; simp only [Act.put, List.setIfInBounds_toArray, List.set_cons_zero, List.set_cons_succ])
  | (refine Fx.WM.val_ 0 ?_ (by rfl) (by kernel_rfl) (by kernel_rfl) (by kernel_rfl) (by rfl) ?_ (fun g f w h => h) ?_
     rotate_left
     · intro g f w' hx hD hk
       obtain hkp := id hD
       have y0_0 := (K0_3.out.below hkp.bel l0_3).cell 0
       have y0_1 := (K0_3.out.below hkp.bel l0_3).cell 1
       have y0_2 := (K0_3.out.below hkp.bel l0_3).cell 2
       have y1_0 := (K1_3.out.below hkp.bel l1_3).cell 0
       have y1_1 := (K1_3.out.below hkp.bel l1_3).cell 1
       have y1_2 := (K1_3.out.below hkp.bel l1_3).cell 2
       have y1_3 := (K1_3.out.below hkp.bel l1_3).cell 3
       have y1_4 := (K1_3.out.below hkp.bel l1_3).cell 4
       have y1_5 := (K1_3.out.below hkp.bel l1_3).cell 5
       clear hx hk hD hkp
       go_simp
       try rfl
     simp only [Act.put, List.setIfInBounds_toArray, List.set_cons_zero, List.set_cons_succ])
  first
  | (refine Fx.WM.skip 2 (by rfl) (by kernel_rfl) (by kernel_rfl) (by kernel_rfl) (by rfl) (fun g f w h => h) ?_; simp only [Act.put, List.setIfInBounds_toArray, List.set_cons_zero, List.set_cons_succ])
  | (refine Fx.WM.val_ 2 ?_ (by rfl) (by kernel_rfl) (by kernel_rfl) (by kernel_rfl) (by rfl) ?_ (fun g f w h => h) ?_
     rotate_left
     · intro g f w' hx hD hk
       obtain hkp := id hD
       have y0_0 := (K0_3.out.below hkp.bel l0_3).cell 0
       have y0_1 := (K0_3.out.below hkp.bel l0_3).cell 1
       have y0_2 := (K0_3.out.below hkp.bel l0_3).cell 2
       have y1_0 := (K1_3.out.below hkp.bel l1_3).cell 0
       have y1_1 := (K1_3.out.below hkp.bel l1_3).cell 1
       have y1_2 := (K1_3.out.below hkp.bel l1_3).cell 2
       have y1_3 := (K1_3.out.below hkp.bel l1_3).cell 3
       have y1_4 := (K1_3.out.below hkp.bel l1_3).cell 4
       have y1_5 := (K1_3.out.below hkp.bel l1_3).cell 5
       clear hx hk hD hkp
       go_simp
       try rfl
     simp only [Act.put, List.setIfInBounds_toArray, List.set_cons_zero, List.set_cons_succ])
  refine Fx.WM.choose 1 (by rfl) (by kernel_rfl) (by rfl) ?_ ?_
  · skip
    refine Fx.Chooses.call ?_ ?_ (by rfl) ?_ ?_
    rotate_left 2
    · intro w'
      go_simp
      refine ⟨?_, ?_⟩ <;> rfl
    · intro f w' hD hk
      exact (mapped_ok HE.out n c1 c2 c3 _ _ _ m HEX.out (by omega) w' ((R0_3.out.below hD.bel).more hD.bel.size) ((R1_3.out.below hD.bel).more hD.bel.size) ((R2_3.out.below hD.bel).more hD.bel.size)).mono fun e w'' ⟨x, he, hb, hcm⟩ => ⟨(x, (none, 0)), he, hD.choose PfMR.stb hb 1 _ ⟨fun _ => hcm, fun e => absurd e (by decide)⟩⟩
  intro z
  simp only [Act.put, List.setIfInBounds_toArray, List.set_cons_zero, List.set_cons_succ]
  refine Fx.WM.call 3 (.tuple #[.int .i64 0, .int .i64 LE]) ?_ ?_ (by rfl) (by kernel_rfl) (by kernel_rfl) (by kernel_rfl) (by rfl) ?_ ?_ ?_
  rotate_left 2
  · intro w'
    go_simp
    refine ⟨?_, ?_⟩ <;> rfl
  · intro g f w' hx hD hk
    exact (cref_line z.1 a b c d x y LE HL.out HLN.out ia ib ic jd w' ((hD.has 1 z (hx 1 _ (by rfl))).1 rfl).ck).mono fun e w'' ⟨he, hw⟩ => ⟨he, hD.call PfMR.stb hw⟩
  simp only [Act.put, List.setIfInBounds_toArray, List.set_cons_zero, List.set_cons_succ]
  first
  | (refine Fx.WM.skip 4 (by rfl) (by kernel_rfl) (by kernel_rfl) (by kernel_rfl) (by rfl) (fun g f w h => h) ?_; simp only [Act.put, List.setIfInBounds_toArray, List.set_cons_zero, List.set_cons_succ])
  | (refine Fx.WM.val_ 4 ?_ (by rfl) (by kernel_rfl) (by kernel_rfl) (by kernel_rfl) (by rfl) ?_ (fun g f w h => h) ?_
     rotate_left
     · intro g f w' hx hD hk
       obtain hkp := id hD
       clear hx hk hD hkp
       go_simp
       try rfl
     simp only [Act.put, List.setIfInBounds_toArray, List.set_cons_zero, List.set_cons_succ])
  first
  | (refine Fx.WM.skip 5 (by rfl) (by kernel_rfl) (by kernel_rfl) (by kernel_rfl) (by rfl) (fun g f w h => h) ?_; simp only [Act.put, List.setIfInBounds_toArray, List.set_cons_zero, List.set_cons_succ])
  | (refine Fx.WM.val_ 5 ?_ (by rfl) (by kernel_rfl) (by kernel_rfl) (by kernel_rfl) (by rfl) ?_ (fun g f w h => h) ?_
     rotate_left
     · intro g f w' hx hD hk
       obtain hkp := id hD
       clear hx hk hD hkp
       go_simp
       try rfl
     simp only [Act.put, List.setIfInBounds_toArray, List.set_cons_zero, List.set_cons_succ])
  first
  | (refine Fx.WM.skip 6 (by rfl) (by kernel_rfl) (by kernel_rfl) (by kernel_rfl) (by rfl) (fun g f w h => h) ?_; simp only [Act.put, List.setIfInBounds_toArray, List.set_cons_zero, List.set_cons_succ])
  | (refine Fx.WM.val_ 6 ?_ (by rfl) (by kernel_rfl) (by kernel_rfl) (by kernel_rfl) (by rfl) ?_ (fun g f w h => h) ?_
     rotate_left
     · intro g f w' hx hD hk
       obtain hkp := id hD
       clear hx hk hD hkp
       go_simp
       try rfl
     simp only [Act.put, List.setIfInBounds_toArray, List.set_cons_zero, List.set_cons_succ])
  first
  | (refine Fx.WM.skip 7 (by rfl) (by kernel_rfl) (by kernel_rfl) (by kernel_rfl) (by rfl) (fun g f w h => h) ?_; simp only [Act.put, List.setIfInBounds_toArray, List.set_cons_zero, List.set_cons_succ])
  | (refine Fx.WM.val_ 7 ?_ (by rfl) (by kernel_rfl) (by kernel_rfl) (by kernel_rfl) (by rfl) ?_ (fun g f w h => h) ?_
     rotate_left
     · intro g f w' hx hD hk
       obtain hkp := id hD
       clear hx hk hD hkp
       go_simp
       try rfl
     simp only [Act.put, List.setIfInBounds_toArray, List.set_cons_zero, List.set_cons_succ])
  first
  | (refine Fx.WM.skip 8 (by rfl) (by kernel_rfl) (by kernel_rfl) (by kernel_rfl) (by rfl) (fun g f w h => h) ?_; simp only [Act.put, List.setIfInBounds_toArray, List.set_cons_zero, List.set_cons_succ])
  | (refine Fx.WM.val_ 8 ?_ (by rfl) (by kernel_rfl) (by kernel_rfl) (by kernel_rfl) (by rfl) ?_ (fun g f w h => h) ?_
     rotate_left
     · intro g f w' hx hD hk
       obtain hkp := id hD
       clear hx hk hD hkp
       go_simp
       try rfl
     simp only [Act.put, List.setIfInBounds_toArray, List.set_cons_zero, List.set_cons_succ])
  refine Fx.WM.nil (by kernel_rfl) ?_
  intro wz hkp
  have hb := hkp.bel
  clear hkp
  obtain ⟨w4, hnm⟩ : ∃ z : World, z = wz := ⟨_, rfl⟩
  subst hnm
  have HB4 := Lib.hid (show Below w.heap.size w w4 from step_below hb (by repeat' (first | exact Below.refl _ _ | exact HB3.out | refine below_drewN ?_ _ | refine Below.drew ?_ | refine Below.alloc ?_ (by first | omega | (simp; done) | (simp; omega) | (simp [World.setCell]; omega)) _ | refine Below.setCell ?_ (by first | omega | (simp; done) | (simp; omega)) _ | assumption)))
  have K0_4 := Lib.hid (step_blk hb (show Blk _ (w.heap.size) 24 #[.slice (some ⟨b1, o1, none⟩) n c1, .slice (some ⟨b2, o2, none⟩) n c2, .slice (some ⟨b3, o3, none⟩) n c3] by repeat' (first | exact K0_3.out | exact K1_3.out | exact Blk.at_ _ (by first | rfl | (simp; done) | (simp; omega)) _ _ | refine Blk.drewN ?_ _ | refine Blk.drew ?_ | refine Blk.alloc ?_ _ | refine Blk.far ?_ (by first | omega | (simp; done) | (simp; omega)) _ | assumption)))
  have K1_4 := Lib.hid (step_blk hb (show Blk _ (w.heap.size + 1) 75 #[.int .i64 (a), .int .i64 (b), .int .i64 (c), .int .i64 (d), .int .i64 (x), .int .i64 (y)] by repeat' (first | exact K0_3.out | exact K1_3.out | exact Blk.at_ _ (by first | rfl | (simp; done) | (simp; omega)) _ _ | refine Blk.drewN ?_ _ | refine Blk.drew ?_ | refine Blk.alloc ?_ _ | refine Blk.far ?_ (by first | omega | (simp; done) | (simp; omega)) _ | assumption)))
  have hL4 := Lib.hid (show Below w3.heap.size w3 _ from reads_mid hb (by repeat' (first | exact Below.refl _ _ | refine below_drewN ?_ _ | refine Below.drew ?_ | refine Below.alloc ?_ (by first | omega | (simp; done) | (simp; omega) | (simp [World.setCell]; omega)) _ | refine Below.setCell ?_ (by first | omega | (simp; done) | (simp; omega)) _)))
  have R0_4 := Lib.hid (reads_lay hb hL4.out R0_3.out)
  have R1_4 := Lib.hid (reads_lay hb hL4.out R1_3.out)
  have R2_4 := Lib.hid (reads_lay hb hL4.out R2_3.out)
  clear hL4 R0_3 R1_3 R2_3
  have hz4 := hb.size
  try simp only [World.size_alloc, World.drewN, World.drew] at hz4
  clear hb K0_3 K1_3 z0_0_3 z0_1_3 z0_2_3 l0_3 z1_0_3 z1_1_3 z1_2_3 z1_3_3 z1_4_3 z1_5_3 l1_3
  have l0_4 : w.heap.size < w4.heap.size := K0_4.out.lt
  have z0_0_4 : w4.cell? ⟨w.heap.size, 0, none⟩ = some (.slice (some ⟨b1, o1, none⟩) n c1) := K0_4.out.cell 0
  have z0_1_4 : w4.cell? ⟨w.heap.size, 1, none⟩ = some (.slice (some ⟨b2, o2, none⟩) n c2) := K0_4.out.cell 1
  have z0_2_4 : w4.cell? ⟨w.heap.size, 2, none⟩ = some (.slice (some ⟨b3, o3, none⟩) n c3) := K0_4.out.cell 2
  have l1_4 : w.heap.size + 1 < w4.heap.size := K1_4.out.lt
  have z1_0_4 : w4.cell? ⟨w.heap.size + 1, 0, none⟩ = some (.int .i64 (a)) := K1_4.out.cell 0
  have z1_1_4 : w4.cell? ⟨w.heap.size + 1, 1, none⟩ = some (.int .i64 (b)) := K1_4.out.cell 1
  have z1_2_4 : w4.cell? ⟨w.heap.size + 1, 2, none⟩ = some (.int .i64 (c)) := K1_4.out.cell 2
  have z1_3_4 : w4.cell? ⟨w.heap.size + 1, 3, none⟩ = some (.int .i64 (d)) := K1_4.out.cell 3
  have z1_4_4 : w4.cell? ⟨w.heap.size + 1, 4, none⟩ = some (.int .i64 (x)) := K1_4.out.cell 4
  have z1_5_4 : w4.cell? ⟨w.heap.size + 1, 5, none⟩ = some (.int .i64 (y)) := K1_4.out.cell 5
  go_wp2_with fail
  refine Fx.regionM (fun W g f w' => Kt (PfMR m n []) W g w') (fun i (x : Rm × Pick) => x.1.val) (by kernel_rfl) ?_ ?_
  · intro f hf0
    exact Kt.start
  first
  | (refine Fx.WM.skip 0 (by rfl) (by kernel_rfl) (by kernel_rfl) (by kernel_rfl) (by rfl) (fun g f w h => h) ?_; simp only [Act.put, List.setIfInBounds_toArray, List.set_cons_zero, List.set_cons_succ])
  | (refine Fx.WM.val_ 0 ?_ (by rfl) (by kernel_rfl) (by kernel_rfl) (by kernel_rfl) (by rfl) ?_ (fun g f w h => h) ?_
     rotate_left
     · intro g f w' hx hD hk
       obtain hkp := id hD
       have y0_0 := (K0_4.out.below hkp.bel l0_4).cell 0
       have y0_1 := (K0_4.out.below hkp.bel l0_4).cell 1
       have y0_2 := (K0_4.out.below hkp.bel l0_4).cell 2
       have y1_0 := (K1_4.out.below hkp.bel l1_4).cell 0
       have y1_1 := (K1_4.out.below hkp.bel l1_4).cell 1
       have y1_2 := (K1_4.out.below hkp.bel l1_4).cell 2
       have y1_3 := (K1_4.out.below hkp.bel l1_4).cell 3
       have y1_4 := (K1_4.out.below hkp.bel l1_4).cell 4
       have y1_5 := (K1_4.out.below hkp.bel l1_4).cell 5
       clear hx hk hD hkp
       go_simp
       try rfl
     simp only [Act.put, List.setIfInBounds_toArray, List.set_cons_zero, List.set_cons_succ])
  first
  | (refine Fx.WM.skip 2 (by rfl) (by kernel_rfl) (by kernel_rfl) (by kernel_rfl) (by rfl) (fun g f w h => h) ?_; simp only [Act.put, List.setIfInBounds_toArray, List.set_cons_zero, List.set_cons_succ])
  | (refine Fx.WM.val_ 2 ?_ (by rfl) (by kernel_rfl) (by kernel_rfl) (by kernel_rfl) (by rfl) ?_ (fun g f w h => h) ?_
     rotate_left
     · intro g f w' hx hD hk
       obtain hkp := id hD
       have y0_0 := (K0_4.out.below hkp.bel l0_4).cell 0
       have y0_1 := (K0_4.out.below hkp.bel l0_4).cell 1
       have y0_2 := (K0_4.out.below hkp.bel l0_4).cell 2
       have y1_0 := (K1_4.out.below hkp.bel l1_4).cell 0
       have y1_1 := (K1_4.out.below hkp.bel l1_4).cell 1
       have y1_2 := (K1_4.out.below hkp.bel l1_4).cell 2
       have y1_3 := (K1_4.out.below hkp.bel l1_4).cell 3
       have y1_4 := (K1_4.out.below hkp.bel l1_4).cell 4
       have y1_5 := (K1_4.out.below hkp.bel l1_4).cell 5
       clear hx hk hD hkp
       go_simp
       try rfl
     simp only [Act.put, List.setIfInBounds_toArray, List.set_cons_zero, List.set_cons_succ])
  refine Fx.WM.choose 1 (by rfl) (by kernel_rfl) (by rfl) ?_ ?_
  · skip
    refine Fx.Chooses.call ?_ ?_ (by rfl) ?_ ?_
    rotate_left 2
    · intro w'
      go_simp
      refine ⟨?_, ?_⟩ <;> rfl
    · intro f w' hD hk
      exact (mapped_ok HE.out n c1 c2 c3 _ _ _ m HEX.out (by omega) w' ((R0_4.out.below hD.bel).more hD.bel.size) ((R1_4.out.below hD.bel).more hD.bel.size) ((R2_4.out.below hD.bel).more hD.bel.size)).mono fun e w'' ⟨x, he, hb, hcm⟩ => ⟨(x, (none, 0)), he, hD.choose PfMR.stb hb 1 _ ⟨fun _ => hcm, fun e => absurd e (by decide)⟩⟩
  intro y_
  simp only [Act.put, List.setIfInBounds_toArray, List.set_cons_zero, List.set_cons_succ]
  refine Fx.WM.call 3 (.tuple #[.slice none 0 0, .int .i64 LE]) ?_ ?_ (by rfl) (by kernel_rfl) (by kernel_rfl) (by kernel_rfl) (by rfl) ?_ ?_ ?_
  rotate_left 2
  · intro w'
    go_simp
    refine ⟨?_, ?_⟩ <;> rfl
  · intro g f w' hx hD hk
    exact (rems_line y_.1 a b c d x y LE HL.out HLN.out ia ib ic jd w' ((hD.has 1 y_ (hx 1 _ (by rfl))).1 rfl).ck).mono fun e w'' ⟨he, hw⟩ => ⟨he, hD.call PfMR.stb hw⟩
  simp only [Act.put, List.setIfInBounds_toArray, List.set_cons_zero, List.set_cons_succ]
  first
  | (refine Fx.WM.skip 4 (by rfl) (by kernel_rfl) (by kernel_rfl) (by kernel_rfl) (by rfl) (fun g f w h => h) ?_; simp only [Act.put, List.setIfInBounds_toArray, List.set_cons_zero, List.set_cons_succ])
  | (refine Fx.WM.val_ 4 ?_ (by rfl) (by kernel_rfl) (by kernel_rfl) (by kernel_rfl) (by rfl) ?_ (fun g f w h => h) ?_
     rotate_left
     · intro g f w' hx hD hk
       obtain hkp := id hD
       clear hx hk hD hkp
       go_simp
       try rfl
     simp only [Act.put, List.setIfInBounds_toArray, List.set_cons_zero, List.set_cons_succ])
  first
  | (refine Fx.WM.skip 5 (by rfl) (by kernel_rfl) (by kernel_rfl) (by kernel_rfl) (by rfl) (fun g f w h => h) ?_; simp only [Act.put, List.setIfInBounds_toArray, List.set_cons_zero, List.set_cons_succ])
  | (refine Fx.WM.val_ 5 ?_ (by rfl) (by kernel_rfl) (by kernel_rfl) (by kernel_rfl) (by rfl) ?_ (fun g f w h => h) ?_
     rotate_left
     · intro g f w' hx hD hk
       obtain hkp := id hD
       clear hx hk hD hkp
       go_simp
       try rfl
     simp only [Act.put, List.setIfInBounds_toArray, List.set_cons_zero, List.set_cons_succ])
  first
  | (refine Fx.WM.skip 6 (by rfl) (by kernel_rfl) (by kernel_rfl) (by kernel_rfl) (by rfl) (fun g f w h => h) ?_; simp only [Act.put, List.setIfInBounds_toArray, List.set_cons_zero, List.set_cons_succ])
  | (refine Fx.WM.val_ 6 ?_ (by rfl) (by kernel_rfl) (by kernel_rfl) (by kernel_rfl) (by rfl) ?_ (fun g f w h => h) ?_
     rotate_left
     · intro g f w' hx hD hk
       obtain hkp := id hD
       clear hx hk hD hkp
       go_simp
       try rfl
     simp only [Act.put, List.setIfInBounds_toArray, List.set_cons_zero, List.set_cons_succ])
  first
  | (refine Fx.WM.skip 7 (by rfl) (by kernel_rfl) (by kernel_rfl) (by kernel_rfl) (by rfl) (fun g f w h => h) ?_; simp only [Act.put, List.setIfInBounds_toArray, List.set_cons_zero, List.set_cons_succ])
  | (refine Fx.WM.val_ 7 ?_ (by rfl) (by kernel_rfl) (by kernel_rfl) (by kernel_rfl) (by rfl) ?_ (fun g f w h => h) ?_
     rotate_left
     · intro g f w' hx hD hk
       obtain hkp := id hD
       clear hx hk hD hkp
       go_simp
       try rfl
     simp only [Act.put, List.setIfInBounds_toArray, List.set_cons_zero, List.set_cons_succ])
  first
  | (refine Fx.WM.skip 8 (by rfl) (by kernel_rfl) (by kernel_rfl) (by kernel_rfl) (by rfl) (fun g f w h => h) ?_; simp only [Act.put, List.setIfInBounds_toArray, List.set_cons_zero, List.set_cons_succ])
  | (refine Fx.WM.val_ 8 ?_ (by rfl) (by kernel_rfl) (by kernel_rfl) (by kernel_rfl) (by rfl) ?_ (fun g f w h => h) ?_
     rotate_left
     · intro g f w' hx hD hk
       obtain hkp := id hD
       clear hx hk hD hkp
       go_simp
       try rfl
     simp only [Act.put, List.setIfInBounds_toArray, List.set_cons_zero, List.set_cons_succ])
  refine Fx.WM.nil (by kernel_rfl) ?_
  intro wz hkp
  have hb := hkp.bel
  clear hkp
  obtain ⟨w5, hnm⟩ : ∃ z : World, z = wz := ⟨_, rfl⟩
  subst hnm
  have HB5 := Lib.hid (show Below w.heap.size w w5 from step_below hb (by repeat' (first | exact Below.refl _ _ | exact HB4.out | refine below_drewN ?_ _ | refine Below.drew ?_ | refine Below.alloc ?_ (by first | omega | (simp; done) | (simp; omega) | (simp [World.setCell]; omega)) _ | refine Below.setCell ?_ (by first | omega | (simp; done) | (simp; omega)) _ | assumption)))
  have K0_5 := Lib.hid (step_blk hb (show Blk _ (w.heap.size) 24 #[.slice (some ⟨b1, o1, none⟩) n c1, .slice (some ⟨b2, o2, none⟩) n c2, .slice (some ⟨b3, o3, none⟩) n c3] by repeat' (first | exact K0_4.out | exact K1_4.out | exact Blk.at_ _ (by first | rfl | (simp; done) | (simp; omega)) _ _ | refine Blk.drewN ?_ _ | refine Blk.drew ?_ | refine Blk.alloc ?_ _ | refine Blk.far ?_ (by first | omega | (simp; done) | (simp; omega)) _ | assumption)))
  have K1_5 := Lib.hid (step_blk hb (show Blk _ (w.heap.size + 1) 75 #[.int .i64 (a), .int .i64 (b), .int .i64 (c), .int .i64 (d), .int .i64 (x), .int .i64 (y)] by repeat' (first | exact K0_4.out | exact K1_4.out | exact Blk.at_ _ (by first | rfl | (simp; done) | (simp; omega)) _ _ | refine Blk.drewN ?_ _ | refine Blk.drew ?_ | refine Blk.alloc ?_ _ | refine Blk.far ?_ (by first | omega | (simp; done) | (simp; omega)) _ | assumption)))
  have hL5 := Lib.hid (show Below w4.heap.size w4 _ from reads_mid hb (by repeat' (first | exact Below.refl _ _ | refine below_drewN ?_ _ | refine Below.drew ?_ | refine Below.alloc ?_ (by first | omega | (simp; done) | (simp; omega) | (simp [World.setCell]; omega)) _ | refine Below.setCell ?_ (by first | omega | (simp; done) | (simp; omega)) _)))
  have R0_5 := Lib.hid (reads_lay hb hL5.out R0_4.out)
  have R1_5 := Lib.hid (reads_lay hb hL5.out R1_4.out)
  have R2_5 := Lib.hid (reads_lay hb hL5.out R2_4.out)
  clear hL5 R0_4 R1_4 R2_4
  have hz5 := hb.size
  try simp only [World.size_alloc, World.drewN, World.drew] at hz5
  clear hb K0_4 K1_4 z0_0_4 z0_1_4 z0_2_4 l0_4 z1_0_4 z1_1_4 z1_2_4 z1_3_4 z1_4_4 z1_5_4 l1_4
  have l0_5 : w.heap.size < w5.heap.size := K0_5.out.lt
  have z0_0_5 : w5.cell? ⟨w.heap.size, 0, none⟩ = some (.slice (some ⟨b1, o1, none⟩) n c1) := K0_5.out.cell 0
  have z0_1_5 : w5.cell? ⟨w.heap.size, 1, none⟩ = some (.slice (some ⟨b2, o2, none⟩) n c2) := K0_5.out.cell 1
  have z0_2_5 : w5.cell? ⟨w.heap.size, 2, none⟩ = some (.slice (some ⟨b3, o3, none⟩) n c3) := K0_5.out.cell 2
  have l1_5 : w.heap.size + 1 < w5.heap.size := K1_5.out.lt
  have z1_0_5 : w5.cell? ⟨w.heap.size + 1, 0, none⟩ = some (.int .i64 (a)) := K1_5.out.cell 0
  have z1_1_5 : w5.cell? ⟨w.heap.size + 1, 1, none⟩ = some (.int .i64 (b)) := K1_5.out.cell 1
  have z1_2_5 : w5.cell? ⟨w.heap.size + 1, 2, none⟩ = some (.int .i64 (c)) := K1_5.out.cell 2
  have z1_3_5 : w5.cell? ⟨w.heap.size + 1, 3, none⟩ = some (.int .i64 (d)) := K1_5.out.cell 3
  have z1_4_5 : w5.cell? ⟨w.heap.size + 1, 4, none⟩ = some (.int .i64 (x)) := K1_5.out.cell 4
  have z1_5_5 : w5.cell? ⟨w.heap.size + 1, 5, none⟩ = some (.int .i64 (y)) := K1_5.out.cell 5
  go_wp2_with fail
  refine (rcheckmap_is _ n c1 l1 _ n c2 l2 _ n c3 l3 0 HE.out _ R0_5.out R1_5.out R2_5.out (by omega) (by omega) (by omega)).mono ?_
  rintro e w6 ⟨rfl, hb⟩
  have HB6 := Lib.hid (show Below w.heap.size w w6 from step_below hb (by repeat' (first | exact Below.refl _ _ | exact HB5.out | refine below_drewN ?_ _ | refine Below.drew ?_ | refine Below.alloc ?_ (by first | omega | (simp; done) | (simp; omega) | (simp [World.setCell]; omega)) _ | refine Below.setCell ?_ (by first | omega | (simp; done) | (simp; omega)) _ | assumption)))
  have K0_6 := Lib.hid (step_blk hb (show Blk _ (w.heap.size) 24 #[.slice (some ⟨b1, o1, none⟩) n c1, .slice (some ⟨b2, o2, none⟩) n c2, .slice (some ⟨b3, o3, none⟩) n c3] by repeat' (first | exact K0_5.out | exact K1_5.out | exact Blk.at_ _ (by first | rfl | (simp; done) | (simp; omega)) _ _ | refine Blk.drewN ?_ _ | refine Blk.drew ?_ | refine Blk.alloc ?_ _ | refine Blk.far ?_ (by first | omega | (simp; done) | (simp; omega)) _ | assumption)))
  have K1_6 := Lib.hid (step_blk hb (show Blk _ (w.heap.size + 1) 75 #[.int .i64 (a), .int .i64 (b), .int .i64 (c), .int .i64 (d), .int .i64 (x), .int .i64 (y)] by repeat' (first | exact K0_5.out | exact K1_5.out | exact Blk.at_ _ (by first | rfl | (simp; done) | (simp; omega)) _ _ | refine Blk.drewN ?_ _ | refine Blk.drew ?_ | refine Blk.alloc ?_ _ | refine Blk.far ?_ (by first | omega | (simp; done) | (simp; omega)) _ | assumption)))
  have hL6 := Lib.hid (show Below w5.heap.size w5 _ from reads_mid hb (by repeat' (first | exact Below.refl _ _ | refine below_drewN ?_ _ | refine Below.drew ?_ | refine Below.alloc ?_ (by first | omega | (simp; done) | (simp; omega) | (simp [World.setCell]; omega)) _ | refine Below.setCell ?_ (by first | omega | (simp; done) | (simp; omega)) _)))
  have R0_6 := Lib.hid (reads_lay hb hL6.out R0_5.out)
  have R1_6 := Lib.hid (reads_lay hb hL6.out R1_5.out)
  have R2_6 := Lib.hid (reads_lay hb hL6.out R2_5.out)
  clear hL6 R0_5 R1_5 R2_5
  have hz6 := hb.size
  try simp only [World.size_alloc, World.drewN, World.drew] at hz6
  clear hb K0_5 K1_5 z0_0_5 z0_1_5 z0_2_5 l0_5 z1_0_5 z1_1_5 z1_2_5 z1_3_5 z1_4_5 z1_5_5 l1_5
  have l0_6 : w.heap.size < w6.heap.size := K0_6.out.lt
  have z0_0_6 : w6.cell? ⟨w.heap.size, 0, none⟩ = some (.slice (some ⟨b1, o1, none⟩) n c1) := K0_6.out.cell 0
  have z0_1_6 : w6.cell? ⟨w.heap.size, 1, none⟩ = some (.slice (some ⟨b2, o2, none⟩) n c2) := K0_6.out.cell 1
  have z0_2_6 : w6.cell? ⟨w.heap.size, 2, none⟩ = some (.slice (some ⟨b3, o3, none⟩) n c3) := K0_6.out.cell 2
  have l1_6 : w.heap.size + 1 < w6.heap.size := K1_6.out.lt
  have z1_0_6 : w6.cell? ⟨w.heap.size + 1, 0, none⟩ = some (.int .i64 (a)) := K1_6.out.cell 0
  have z1_1_6 : w6.cell? ⟨w.heap.size + 1, 1, none⟩ = some (.int .i64 (b)) := K1_6.out.cell 1
  have z1_2_6 : w6.cell? ⟨w.heap.size + 1, 2, none⟩ = some (.int .i64 (c)) := K1_6.out.cell 2
  have z1_3_6 : w6.cell? ⟨w.heap.size + 1, 3, none⟩ = some (.int .i64 (d)) := K1_6.out.cell 3
  have z1_4_6 : w6.cell? ⟨w.heap.size + 1, 4, none⟩ = some (.int .i64 (x)) := K1_6.out.cell 4
  have z1_5_6 : w6.cell? ⟨w.heap.size + 1, 5, none⟩ = some (.int .i64 (y)) := K1_6.out.cell 5
  go_wp2_with fail
  refine (rcheckline_is a b c d x y LE HL.out ia ib ic jd _).mono ?_
  rintro e w7 ⟨rfl, hb⟩
  have HB7 := Lib.hid (show Below w.heap.size w w7 from step_below hb (by repeat' (first | exact Below.refl _ _ | exact HB6.out | refine below_drewN ?_ _ | refine Below.drew ?_ | refine Below.alloc ?_ (by first | omega | (simp; done) | (simp; omega) | (simp [World.setCell]; omega)) _ | refine Below.setCell ?_ (by first | omega | (simp; done) | (simp; omega)) _ | assumption)))
  have K0_7 := Lib.hid (step_blk hb (show Blk _ (w.heap.size) 24 #[.slice (some ⟨b1, o1, none⟩) n c1, .slice (some ⟨b2, o2, none⟩) n c2, .slice (some ⟨b3, o3, none⟩) n c3] by repeat' (first | exact K0_6.out | exact K1_6.out | exact Blk.at_ _ (by first | rfl | (simp; done) | (simp; omega)) _ _ | refine Blk.drewN ?_ _ | refine Blk.drew ?_ | refine Blk.alloc ?_ _ | refine Blk.far ?_ (by first | omega | (simp; done) | (simp; omega)) _ | assumption)))
  have K1_7 := Lib.hid (step_blk hb (show Blk _ (w.heap.size + 1) 75 #[.int .i64 (a), .int .i64 (b), .int .i64 (c), .int .i64 (d), .int .i64 (x), .int .i64 (y)] by repeat' (first | exact K0_6.out | exact K1_6.out | exact Blk.at_ _ (by first | rfl | (simp; done) | (simp; omega)) _ _ | refine Blk.drewN ?_ _ | refine Blk.drew ?_ | refine Blk.alloc ?_ _ | refine Blk.far ?_ (by first | omega | (simp; done) | (simp; omega)) _ | assumption)))
  have hL7 := Lib.hid (show Below w6.heap.size w6 _ from reads_mid hb (by repeat' (first | exact Below.refl _ _ | refine below_drewN ?_ _ | refine Below.drew ?_ | refine Below.alloc ?_ (by first | omega | (simp; done) | (simp; omega) | (simp [World.setCell]; omega)) _ | refine Below.setCell ?_ (by first | omega | (simp; done) | (simp; omega)) _)))
  have R0_7 := Lib.hid (reads_lay hb hL7.out R0_6.out)
  have R1_7 := Lib.hid (reads_lay hb hL7.out R1_6.out)
  have R2_7 := Lib.hid (reads_lay hb hL7.out R2_6.out)
  clear hL7 R0_6 R1_6 R2_6
  have hz7 := hb.size
  try simp only [World.size_alloc, World.drewN, World.drew] at hz7
  clear hb K0_6 K1_6 z0_0_6 z0_1_6 z0_2_6 l0_6 z1_0_6 z1_1_6 z1_2_6 z1_3_6 z1_4_6 z1_5_6 l1_6
  have l0_7 : w.heap.size < w7.heap.size := K0_7.out.lt
  have z0_0_7 : w7.cell? ⟨w.heap.size, 0, none⟩ = some (.slice (some ⟨b1, o1, none⟩) n c1) := K0_7.out.cell 0
  have z0_1_7 : w7.cell? ⟨w.heap.size, 1, none⟩ = some (.slice (some ⟨b2, o2, none⟩) n c2) := K0_7.out.cell 1
  have z0_2_7 : w7.cell? ⟨w.heap.size, 2, none⟩ = some (.slice (some ⟨b3, o3, none⟩) n c3) := K0_7.out.cell 2
  have l1_7 : w.heap.size + 1 < w7.heap.size := K1_7.out.lt
  have z1_0_7 : w7.cell? ⟨w.heap.size + 1, 0, none⟩ = some (.int .i64 (a)) := K1_7.out.cell 0
  have z1_1_7 : w7.cell? ⟨w.heap.size + 1, 1, none⟩ = some (.int .i64 (b)) := K1_7.out.cell 1
  have z1_2_7 : w7.cell? ⟨w.heap.size + 1, 2, none⟩ = some (.int .i64 (c)) := K1_7.out.cell 2
  have z1_3_7 : w7.cell? ⟨w.heap.size + 1, 3, none⟩ = some (.int .i64 (d)) := K1_7.out.cell 3
  have z1_4_7 : w7.cell? ⟨w.heap.size + 1, 4, none⟩ = some (.int .i64 (x)) := K1_7.out.cell 4
  have z1_5_7 : w7.cell? ⟨w.heap.size + 1, 5, none⟩ = some (.int .i64 (y)) := K1_7.out.cell 5
  go_wp2
  go_ret
  exact ⟨rfl, by repeat' (first | exact Below.refl _ _ | exact HB7.out | refine below_drewN ?_ _ | refine Below.drew ?_ | refine Below.alloc ?_ (by first | omega | (simp; done) | (simp; omega) | (simp [World.setCell]; omega)) _ | refine Below.setCell ?_ (by first | omega | (simp; done) | (simp; omega)) _ | assumption)⟩

set_option maxRecDepth 100000 in
set_option maxHeartbeats 4000000 in
theorem lawFL_ok (n b1 o1 c1 b2 o2 c2 b3 o3 c3 : Nat) (l1 l2 l3 : List Int) (a b c d x y : Int) (w : World) (hF : (fewB6 n && (fewB6 n && fewB6 n)) = true) (hE : mapErr l1 l2 l3 = 0) (hL : lineErr a b c d = 0) (ia : I64 a) (ib : I64 b) (ic : I64 c) (jd : I64 d) (ix : I64 x) (iy : I64 y)
    (r1 : Reads w w.heap.size 1 (some ⟨b1, o1, none⟩) n (l1.map (.int .i64))) (r2 : Reads w w.heap.size 1 (some ⟨b2, o2, none⟩) n (l2.map (.int .i64))) (r3 : Reads w w.heap.size 1 (some ⟨b3, o3, none⟩) n (l3.map (.int .i64))) :
    Calls Try.prog 13 #[.agg #[.slice (some ⟨b1, o1, none⟩) n c1, .slice (some ⟨b2, o2, none⟩) n c2, .slice (some ⟨b3, o3, none⟩) n c3], .agg #[.int .i64 a, .int .i64 b, .int .i64 c, .int .i64 d, .int .i64 x, .int .i64 y]] w fun e w' => e = .returned (.bool true) ∧ Below w.heap.size w w' := by
  have f1 : n ≤ 42 := few6_true (by cases h : fewB6 n <;> simp_all)
  obtain ⟨m, hm⟩ : ∃ m, m = rmL n b1 o1 c1 b2 o2 c2 b3 o3 c3 l1 l2 l3 := ⟨_, rfl⟩
  obtain ⟨-, -, b1', o1', b2', o2', b3', o3', ea, eb, ec, hat, hok, hw1⟩ := rm_of hE c1 c2 c3 r1 r2 r3
  obtain ⟨rfl, rfl⟩ : b1 = b1' ∧ o1 = o1' := by simpa using ea
  obtain ⟨rfl, rfl⟩ : b2 = b2' ∧ o2 = o2' := by simpa using eb
  obtain ⟨rfl, rfl⟩ : b3 = b3' ∧ o3 = o3' := by simpa using ec
  have hmn : m.n = n := by rw [hm]; rfl
  rw [← hm] at hat hok hw1
  rw [← hmn] at hw1
  have hv : m.val = .agg #[.slice (some ⟨b1, o1, none⟩) n c1, .slice (some ⟨b2, o2, none⟩) n c2, .slice (some ⟨b3, o3, none⟩) n c3] := by rw [hm]; rfl
  obtain ⟨⟨q1, q2⟩, hR⟩ : ∃ R, crefF m a b c d x y = R := ⟨_, rfl⟩
  have hrc := rcref_is m hok hw1 a b c d x y (line_ok hL).1 ix iy _ hR
  rw [hv] at hrc
  have hrm := fun z hz => rremoval_is m hok a b c d x y (line_ok hL).1 z hz
  rw [hv] at hrm
  have HEX := Lib.hid (show ∃ b1 o1 c1 b2 o2 c2 b3 o3 c3, m = rmL n b1 o1 c1 b2 o2 c2 b3 o3 c3 l1 l2 l3 from ⟨_, _, _, _, _, _, _, _, _, hm⟩)
  have HT := Lib.hid hF
  have R1 := Lib.hid r1
  have R2 := Lib.hid r2
  have R3 := Lib.hid r3
  have HE := Lib.hid hE
  have HL := Lib.hid hL
  have HAT := Lib.hid hat
  have HOK := Lib.hid hok
  have HR := Lib.hid hR
  have HRC := Lib.hid hrc
  have HRM := Lib.hid hrm
  have HMN := Lib.hid hmn
  have e2 : (q2 != q2) = false := by simp
  have e3 : (q1 != q1) = false := by simp
  have e4 : ((n : Int) != (n : Int)) = false := by simp
  clear r1 r2 r3 hE hL hF hm ea eb ec hat hok hw1 hv hR hrc hrm hmn
  go_enter Try.func13, Try.ntmps13
  go_wp2_with fail
  generalize hwn : ((w.alloc (.cells #[.slice (some ⟨b1, o1, none⟩) n c1, .slice (some ⟨b2, o2, none⟩) n c2, .slice (some ⟨b3, o3, none⟩) n c3] 24)).alloc (.cells #[.int .i64 (a), .int .i64 (b), .int .i64 (c), .int .i64 (d), .int .i64 (x), .int .i64 (y)] 75)) = w1
  have hbn : Below w.heap.size w w1 := by rw [← hwn]; repeat' (first | exact Below.refl _ _ | refine below_drewN ?_ _ | refine Below.drew ?_ | refine Below.alloc ?_ (by first | omega | (simp; done) | (simp; omega) | (simp [World.setCell]; omega)) _ | refine Below.setCell ?_ (by first | omega | (simp; done) | (simp; omega)) _)
  have HB1 := Lib.hid (show Below w.heap.size w w1 from hbn)
  have K0_1 := Lib.hid (show Blk w1 (w.heap.size) 24 #[.slice (some ⟨b1, o1, none⟩) n c1, .slice (some ⟨b2, o2, none⟩) n c2, .slice (some ⟨b3, o3, none⟩) n c3] by rw [← hwn]; repeat' (first | exact Blk.at_ _ (by first | rfl | (simp; done) | (simp; omega)) _ _ | refine Blk.drewN ?_ _ | refine Blk.drew ?_ | refine Blk.alloc ?_ _ | refine Blk.far ?_ (by first | omega | (simp; done) | (simp; omega)) _ | assumption))
  have K1_1 := Lib.hid (show Blk w1 (w.heap.size + 1) 75 #[.int .i64 (a), .int .i64 (b), .int .i64 (c), .int .i64 (d), .int .i64 (x), .int .i64 (y)] by rw [← hwn]; repeat' (first | exact Blk.at_ _ (by first | rfl | (simp; done) | (simp; omega)) _ _ | refine Blk.drewN ?_ _ | refine Blk.drew ?_ | refine Blk.alloc ?_ _ | refine Blk.far ?_ (by first | omega | (simp; done) | (simp; omega)) _ | assumption))
  have HN1 := Lib.hid hbn
  have hz1 := hbn.size
  clear hwn hbn
  have l0_1 : w.heap.size < w1.heap.size := K0_1.out.lt
  have z0_0_1 : w1.cell? ⟨w.heap.size, 0, none⟩ = some (.slice (some ⟨b1, o1, none⟩) n c1) := K0_1.out.cell 0
  have z0_1_1 : w1.cell? ⟨w.heap.size, 1, none⟩ = some (.slice (some ⟨b2, o2, none⟩) n c2) := K0_1.out.cell 1
  have z0_2_1 : w1.cell? ⟨w.heap.size, 2, none⟩ = some (.slice (some ⟨b3, o3, none⟩) n c3) := K0_1.out.cell 2
  have l1_1 : w.heap.size + 1 < w1.heap.size := K1_1.out.lt
  have z1_0_1 : w1.cell? ⟨w.heap.size + 1, 0, none⟩ = some (.int .i64 (a)) := K1_1.out.cell 0
  have z1_1_1 : w1.cell? ⟨w.heap.size + 1, 1, none⟩ = some (.int .i64 (b)) := K1_1.out.cell 1
  have z1_2_1 : w1.cell? ⟨w.heap.size + 1, 2, none⟩ = some (.int .i64 (c)) := K1_1.out.cell 2
  have z1_3_1 : w1.cell? ⟨w.heap.size + 1, 3, none⟩ = some (.int .i64 (d)) := K1_1.out.cell 3
  have z1_4_1 : w1.cell? ⟨w.heap.size + 1, 4, none⟩ = some (.int .i64 (x)) := K1_1.out.cell 4
  have z1_5_1 : w1.cell? ⟨w.heap.size + 1, 5, none⟩ = some (.int .i64 (y)) := K1_1.out.cell 5
  refine (awake6_any _).mono ?_
  rintro e w2 ⟨rfl, hb⟩
  have HB2 := Lib.hid (show Below w.heap.size w w2 from step_below hb (by repeat' (first | exact Below.refl _ _ | exact HB1.out | refine below_drewN ?_ _ | refine Below.drew ?_ | refine Below.alloc ?_ (by first | omega | (simp; done) | (simp; omega) | (simp [World.setCell]; omega)) _ | refine Below.setCell ?_ (by first | omega | (simp; done) | (simp; omega)) _ | assumption)))
  have K0_2 := Lib.hid (step_blk hb (show Blk _ (w.heap.size) 24 #[.slice (some ⟨b1, o1, none⟩) n c1, .slice (some ⟨b2, o2, none⟩) n c2, .slice (some ⟨b3, o3, none⟩) n c3] by repeat' (first | exact K0_1.out | exact K1_1.out | exact Blk.at_ _ (by first | rfl | (simp; done) | (simp; omega)) _ _ | refine Blk.drewN ?_ _ | refine Blk.drew ?_ | refine Blk.alloc ?_ _ | refine Blk.far ?_ (by first | omega | (simp; done) | (simp; omega)) _ | assumption)))
  have K1_2 := Lib.hid (step_blk hb (show Blk _ (w.heap.size + 1) 75 #[.int .i64 (a), .int .i64 (b), .int .i64 (c), .int .i64 (d), .int .i64 (x), .int .i64 (y)] by repeat' (first | exact K0_1.out | exact K1_1.out | exact Blk.at_ _ (by first | rfl | (simp; done) | (simp; omega)) _ _ | refine Blk.drewN ?_ _ | refine Blk.drew ?_ | refine Blk.alloc ?_ _ | refine Blk.far ?_ (by first | omega | (simp; done) | (simp; omega)) _ | assumption)))
  have hz2 := hb.size
  try simp only [World.size_alloc, World.drewN, World.drew] at hz2
  clear hb K0_1 K1_1 z0_0_1 z0_1_1 z0_2_1 l0_1 z1_0_1 z1_1_1 z1_2_1 z1_3_1 z1_4_1 z1_5_1 l1_1
  have l0_2 : w.heap.size < w2.heap.size := K0_2.out.lt
  have z0_0_2 : w2.cell? ⟨w.heap.size, 0, none⟩ = some (.slice (some ⟨b1, o1, none⟩) n c1) := K0_2.out.cell 0
  have z0_1_2 : w2.cell? ⟨w.heap.size, 1, none⟩ = some (.slice (some ⟨b2, o2, none⟩) n c2) := K0_2.out.cell 1
  have z0_2_2 : w2.cell? ⟨w.heap.size, 2, none⟩ = some (.slice (some ⟨b3, o3, none⟩) n c3) := K0_2.out.cell 2
  have l1_2 : w.heap.size + 1 < w2.heap.size := K1_2.out.lt
  have z1_0_2 : w2.cell? ⟨w.heap.size + 1, 0, none⟩ = some (.int .i64 (a)) := K1_2.out.cell 0
  have z1_1_2 : w2.cell? ⟨w.heap.size + 1, 1, none⟩ = some (.int .i64 (b)) := K1_2.out.cell 1
  have z1_2_2 : w2.cell? ⟨w.heap.size + 1, 2, none⟩ = some (.int .i64 (c)) := K1_2.out.cell 2
  have z1_3_2 : w2.cell? ⟨w.heap.size + 1, 3, none⟩ = some (.int .i64 (d)) := K1_2.out.cell 3
  have z1_4_2 : w2.cell? ⟨w.heap.size + 1, 4, none⟩ = some (.int .i64 (x)) := K1_2.out.cell 4
  have z1_5_2 : w2.cell? ⟨w.heap.size + 1, 5, none⟩ = some (.int .i64 (y)) := K1_2.out.cell 5
  go_wp2_with fail
  refine (few6_is _ _ _ n c1 n c2 n c3 true HT.out _).mono ?_
  rintro e w3 ⟨rfl, hb⟩
  have HB3 := Lib.hid (show Below w.heap.size w w3 from step_below hb (by repeat' (first | exact Below.refl _ _ | exact HB2.out | refine below_drewN ?_ _ | refine Below.drew ?_ | refine Below.alloc ?_ (by first | omega | (simp; done) | (simp; omega) | (simp [World.setCell]; omega)) _ | refine Below.setCell ?_ (by first | omega | (simp; done) | (simp; omega)) _ | assumption)))
  have K0_3 := Lib.hid (step_blk hb (show Blk _ (w.heap.size) 24 #[.slice (some ⟨b1, o1, none⟩) n c1, .slice (some ⟨b2, o2, none⟩) n c2, .slice (some ⟨b3, o3, none⟩) n c3] by repeat' (first | exact K0_2.out | exact K1_2.out | exact Blk.at_ _ (by first | rfl | (simp; done) | (simp; omega)) _ _ | refine Blk.drewN ?_ _ | refine Blk.drew ?_ | refine Blk.alloc ?_ _ | refine Blk.far ?_ (by first | omega | (simp; done) | (simp; omega)) _ | assumption)))
  have K1_3 := Lib.hid (step_blk hb (show Blk _ (w.heap.size + 1) 75 #[.int .i64 (a), .int .i64 (b), .int .i64 (c), .int .i64 (d), .int .i64 (x), .int .i64 (y)] by repeat' (first | exact K0_2.out | exact K1_2.out | exact Blk.at_ _ (by first | rfl | (simp; done) | (simp; omega)) _ _ | refine Blk.drewN ?_ _ | refine Blk.drew ?_ | refine Blk.alloc ?_ _ | refine Blk.far ?_ (by first | omega | (simp; done) | (simp; omega)) _ | assumption)))
  have hz3 := hb.size
  try simp only [World.size_alloc, World.drewN, World.drew] at hz3
  clear hb K0_2 K1_2 z0_0_2 z0_1_2 z0_2_2 l0_2 z1_0_2 z1_1_2 z1_2_2 z1_3_2 z1_4_2 z1_5_2 l1_2
  have l0_3 : w.heap.size < w3.heap.size := K0_3.out.lt
  have z0_0_3 : w3.cell? ⟨w.heap.size, 0, none⟩ = some (.slice (some ⟨b1, o1, none⟩) n c1) := K0_3.out.cell 0
  have z0_1_3 : w3.cell? ⟨w.heap.size, 1, none⟩ = some (.slice (some ⟨b2, o2, none⟩) n c2) := K0_3.out.cell 1
  have z0_2_3 : w3.cell? ⟨w.heap.size, 2, none⟩ = some (.slice (some ⟨b3, o3, none⟩) n c3) := K0_3.out.cell 2
  have l1_3 : w.heap.size + 1 < w3.heap.size := K1_3.out.lt
  have z1_0_3 : w3.cell? ⟨w.heap.size + 1, 0, none⟩ = some (.int .i64 (a)) := K1_3.out.cell 0
  have z1_1_3 : w3.cell? ⟨w.heap.size + 1, 1, none⟩ = some (.int .i64 (b)) := K1_3.out.cell 1
  have z1_2_3 : w3.cell? ⟨w.heap.size + 1, 2, none⟩ = some (.int .i64 (c)) := K1_3.out.cell 2
  have z1_3_3 : w3.cell? ⟨w.heap.size + 1, 3, none⟩ = some (.int .i64 (d)) := K1_3.out.cell 3
  have z1_4_3 : w3.cell? ⟨w.heap.size + 1, 4, none⟩ = some (.int .i64 (x)) := K1_3.out.cell 4
  have z1_5_3 : w3.cell? ⟨w.heap.size + 1, 5, none⟩ = some (.int .i64 (y)) := K1_3.out.cell 5
  have g1 := (R1.out.below HB3.out).more HB3.out.size
  have g2 := (R2.out.below HB3.out).more HB3.out.size
  have g3 := (R3.out.below HB3.out).more HB3.out.size
  have R0_3 := Lib.hid g1
  clear g1
  have R1_3 := Lib.hid g2
  clear g2
  have R2_3 := Lib.hid g3
  clear g3
  go_wp2_with fail
  refine Fx.regionM (fun W g f w' => Kt (PfMR m n []) W g w') (fun i (x : Rm × Pick) => x.1.val) (by kernel_rfl) ?_ ?_
  · intro f hf0
    exact Kt.start
  first
  | (refine Fx.WM.skip 0 (by rfl) (by kernel_rfl) (by kernel_rfl) (by kernel_rfl) (by rfl) (fun g f w h => h) ?_; simp only [Act.put, List.setIfInBounds_toArray, List.set_cons_zero, List.set_cons_succ])
  | (refine Fx.WM.val_ 0 ?_ (by rfl) (by kernel_rfl) (by kernel_rfl) (by kernel_rfl) (by rfl) ?_ (fun g f w h => h) ?_
     rotate_left
     · intro g f w' hx hD hk
       obtain hkp := id hD
       have y0_0 := (K0_3.out.below hkp.bel l0_3).cell 0
       have y0_1 := (K0_3.out.below hkp.bel l0_3).cell 1
       have y0_2 := (K0_3.out.below hkp.bel l0_3).cell 2
       have y1_0 := (K1_3.out.below hkp.bel l1_3).cell 0
       have y1_1 := (K1_3.out.below hkp.bel l1_3).cell 1
       have y1_2 := (K1_3.out.below hkp.bel l1_3).cell 2
       have y1_3 := (K1_3.out.below hkp.bel l1_3).cell 3
       have y1_4 := (K1_3.out.below hkp.bel l1_3).cell 4
       have y1_5 := (K1_3.out.below hkp.bel l1_3).cell 5
       clear hx hk hD hkp
       go_simp
       try rfl
     simp only [Act.put, List.setIfInBounds_toArray, List.set_cons_zero, List.set_cons_succ])
  first
  | (refine Fx.WM.skip 2 (by rfl) (by kernel_rfl) (by kernel_rfl) (by kernel_rfl) (by rfl) (fun g f w h => h) ?_; simp only [Act.put, List.setIfInBounds_toArray, List.set_cons_zero, List.set_cons_succ])
  | (refine Fx.WM.val_ 2 ?_ (by rfl) (by kernel_rfl) (by kernel_rfl) (by kernel_rfl) (by rfl) ?_ (fun g f w h => h) ?_
     rotate_left
     · intro g f w' hx hD hk
       obtain hkp := id hD
       have y0_0 := (K0_3.out.below hkp.bel l0_3).cell 0
       have y0_1 := (K0_3.out.below hkp.bel l0_3).cell 1
       have y0_2 := (K0_3.out.below hkp.bel l0_3).cell 2
       have y1_0 := (K1_3.out.below hkp.bel l1_3).cell 0
       have y1_1 := (K1_3.out.below hkp.bel l1_3).cell 1
       have y1_2 := (K1_3.out.below hkp.bel l1_3).cell 2
       have y1_3 := (K1_3.out.below hkp.bel l1_3).cell 3
       have y1_4 := (K1_3.out.below hkp.bel l1_3).cell 4
       have y1_5 := (K1_3.out.below hkp.bel l1_3).cell 5
       clear hx hk hD hkp
       go_simp
       try rfl
     simp only [Act.put, List.setIfInBounds_toArray, List.set_cons_zero, List.set_cons_succ])
  refine Fx.WM.choose 1 (by rfl) (by kernel_rfl) (by rfl) ?_ ?_
  · skip
    refine Fx.Chooses.call ?_ ?_ (by rfl) ?_ ?_
    rotate_left 2
    · intro w'
      go_simp
      refine ⟨?_, ?_⟩ <;> rfl
    · intro f w' hD hk
      exact (mapped_ok HE.out n c1 c2 c3 _ _ _ m HEX.out (by omega) w' ((R0_3.out.below hD.bel).more hD.bel.size) ((R1_3.out.below hD.bel).more hD.bel.size) ((R2_3.out.below hD.bel).more hD.bel.size)).mono fun e w'' ⟨x, he, hb, hcm⟩ => ⟨(x, (none, 0)), he, hD.choose PfMR.stb hb 1 _ ⟨fun _ => hcm, fun e => absurd e (by decide)⟩⟩
  intro z
  simp only [Act.put, List.setIfInBounds_toArray, List.set_cons_zero, List.set_cons_succ]
  refine Fx.WM.call 3 (.tuple #[.int .i64 q1, .int .i64 q2]) ?_ ?_ (by rfl) (by kernel_rfl) (by kernel_rfl) (by kernel_rfl) (by rfl) ?_ ?_ ?_
  rotate_left 2
  · intro w'
    go_simp
    refine ⟨?_, ?_⟩ <;> rfl
  · intro g f w' hx hD hk
    exact (cref_is z.1 (((hD.has 1 z (hx 1 _ (by rfl))).1 rfl).like.ok HOK.out) a b c d x y HL.out ia ib ic jd ix iy (q1, q2) (((((hD.has 1 z (hx 1 _ (by rfl))).1 rfl).like.cref a b c d x y)).trans HR.out) w' ((hD.has 1 z (hx 1 _ (by rfl))).1 rfl).at_ ((hD.has 1 z (hx 1 _ (by rfl))).1 rfl).ck).mono fun e w'' ⟨he, hw⟩ => ⟨he, hD.call PfMR.stb hw⟩
  simp only [Act.put, List.setIfInBounds_toArray, List.set_cons_zero, List.set_cons_succ]
  first
  | (refine Fx.WM.skip 4 (by rfl) (by kernel_rfl) (by kernel_rfl) (by kernel_rfl) (by rfl) (fun g f w h => h) ?_; simp only [Act.put, List.setIfInBounds_toArray, List.set_cons_zero, List.set_cons_succ])
  | (refine Fx.WM.val_ 4 ?_ (by rfl) (by kernel_rfl) (by kernel_rfl) (by kernel_rfl) (by rfl) ?_ (fun g f w h => h) ?_
     rotate_left
     · intro g f w' hx hD hk
       obtain hkp := id hD
       clear hx hk hD hkp
       go_simp
       try rfl
     simp only [Act.put, List.setIfInBounds_toArray, List.set_cons_zero, List.set_cons_succ])
  first
  | (refine Fx.WM.skip 5 (by rfl) (by kernel_rfl) (by kernel_rfl) (by kernel_rfl) (by rfl) (fun g f w h => h) ?_; simp only [Act.put, List.setIfInBounds_toArray, List.set_cons_zero, List.set_cons_succ])
  | (refine Fx.WM.val_ 5 ?_ (by rfl) (by kernel_rfl) (by kernel_rfl) (by kernel_rfl) (by rfl) ?_ (fun g f w h => h) ?_
     rotate_left
     · intro g f w' hx hD hk
       obtain hkp := id hD
       clear hx hk hD hkp
       go_simp
       try rfl
     simp only [Act.put, List.setIfInBounds_toArray, List.set_cons_zero, List.set_cons_succ])
  first
  | (refine Fx.WM.skip 6 (by rfl) (by kernel_rfl) (by kernel_rfl) (by kernel_rfl) (by rfl) (fun g f w h => h) ?_; simp only [Act.put, List.setIfInBounds_toArray, List.set_cons_zero, List.set_cons_succ])
  | (refine Fx.WM.val_ 6 ?_ (by rfl) (by kernel_rfl) (by kernel_rfl) (by kernel_rfl) (by rfl) ?_ (fun g f w h => h) ?_
     rotate_left
     · intro g f w' hx hD hk
       obtain hkp := id hD
       clear hx hk hD hkp
       go_simp
       try rfl
     simp only [Act.put, List.setIfInBounds_toArray, List.set_cons_zero, List.set_cons_succ])
  first
  | (refine Fx.WM.skip 7 (by rfl) (by kernel_rfl) (by kernel_rfl) (by kernel_rfl) (by rfl) (fun g f w h => h) ?_; simp only [Act.put, List.setIfInBounds_toArray, List.set_cons_zero, List.set_cons_succ])
  | (refine Fx.WM.val_ 7 ?_ (by rfl) (by kernel_rfl) (by kernel_rfl) (by kernel_rfl) (by rfl) ?_ (fun g f w h => h) ?_
     rotate_left
     · intro g f w' hx hD hk
       obtain hkp := id hD
       clear hx hk hD hkp
       go_simp
       try rfl
     simp only [Act.put, List.setIfInBounds_toArray, List.set_cons_zero, List.set_cons_succ])
  first
  | (refine Fx.WM.skip 8 (by rfl) (by kernel_rfl) (by kernel_rfl) (by kernel_rfl) (by rfl) (fun g f w h => h) ?_; simp only [Act.put, List.setIfInBounds_toArray, List.set_cons_zero, List.set_cons_succ])
  | (refine Fx.WM.val_ 8 ?_ (by rfl) (by kernel_rfl) (by kernel_rfl) (by kernel_rfl) (by rfl) ?_ (fun g f w h => h) ?_
     rotate_left
     · intro g f w' hx hD hk
       obtain hkp := id hD
       clear hx hk hD hkp
       go_simp
       try rfl
     simp only [Act.put, List.setIfInBounds_toArray, List.set_cons_zero, List.set_cons_succ])
  refine Fx.WM.nil (by kernel_rfl) ?_
  intro wz hkp
  have hb := hkp.bel
  clear hkp
  obtain ⟨w4, hnm⟩ : ∃ z : World, z = wz := ⟨_, rfl⟩
  subst hnm
  have HB4 := Lib.hid (show Below w.heap.size w w4 from step_below hb (by repeat' (first | exact Below.refl _ _ | exact HB3.out | refine below_drewN ?_ _ | refine Below.drew ?_ | refine Below.alloc ?_ (by first | omega | (simp; done) | (simp; omega) | (simp [World.setCell]; omega)) _ | refine Below.setCell ?_ (by first | omega | (simp; done) | (simp; omega)) _ | assumption)))
  have K0_4 := Lib.hid (step_blk hb (show Blk _ (w.heap.size) 24 #[.slice (some ⟨b1, o1, none⟩) n c1, .slice (some ⟨b2, o2, none⟩) n c2, .slice (some ⟨b3, o3, none⟩) n c3] by repeat' (first | exact K0_3.out | exact K1_3.out | exact Blk.at_ _ (by first | rfl | (simp; done) | (simp; omega)) _ _ | refine Blk.drewN ?_ _ | refine Blk.drew ?_ | refine Blk.alloc ?_ _ | refine Blk.far ?_ (by first | omega | (simp; done) | (simp; omega)) _ | assumption)))
  have K1_4 := Lib.hid (step_blk hb (show Blk _ (w.heap.size + 1) 75 #[.int .i64 (a), .int .i64 (b), .int .i64 (c), .int .i64 (d), .int .i64 (x), .int .i64 (y)] by repeat' (first | exact K0_3.out | exact K1_3.out | exact Blk.at_ _ (by first | rfl | (simp; done) | (simp; omega)) _ _ | refine Blk.drewN ?_ _ | refine Blk.drew ?_ | refine Blk.alloc ?_ _ | refine Blk.far ?_ (by first | omega | (simp; done) | (simp; omega)) _ | assumption)))
  have hL4 := Lib.hid (show Below w3.heap.size w3 _ from reads_mid hb (by repeat' (first | exact Below.refl _ _ | refine below_drewN ?_ _ | refine Below.drew ?_ | refine Below.alloc ?_ (by first | omega | (simp; done) | (simp; omega) | (simp [World.setCell]; omega)) _ | refine Below.setCell ?_ (by first | omega | (simp; done) | (simp; omega)) _)))
  have R0_4 := Lib.hid (reads_lay hb hL4.out R0_3.out)
  have R1_4 := Lib.hid (reads_lay hb hL4.out R1_3.out)
  have R2_4 := Lib.hid (reads_lay hb hL4.out R2_3.out)
  clear hL4 R0_3 R1_3 R2_3
  have hz4 := hb.size
  try simp only [World.size_alloc, World.drewN, World.drew] at hz4
  clear hb K0_3 K1_3 z0_0_3 z0_1_3 z0_2_3 l0_3 z1_0_3 z1_1_3 z1_2_3 z1_3_3 z1_4_3 z1_5_3 l1_3
  have l0_4 : w.heap.size < w4.heap.size := K0_4.out.lt
  have z0_0_4 : w4.cell? ⟨w.heap.size, 0, none⟩ = some (.slice (some ⟨b1, o1, none⟩) n c1) := K0_4.out.cell 0
  have z0_1_4 : w4.cell? ⟨w.heap.size, 1, none⟩ = some (.slice (some ⟨b2, o2, none⟩) n c2) := K0_4.out.cell 1
  have z0_2_4 : w4.cell? ⟨w.heap.size, 2, none⟩ = some (.slice (some ⟨b3, o3, none⟩) n c3) := K0_4.out.cell 2
  have l1_4 : w.heap.size + 1 < w4.heap.size := K1_4.out.lt
  have z1_0_4 : w4.cell? ⟨w.heap.size + 1, 0, none⟩ = some (.int .i64 (a)) := K1_4.out.cell 0
  have z1_1_4 : w4.cell? ⟨w.heap.size + 1, 1, none⟩ = some (.int .i64 (b)) := K1_4.out.cell 1
  have z1_2_4 : w4.cell? ⟨w.heap.size + 1, 2, none⟩ = some (.int .i64 (c)) := K1_4.out.cell 2
  have z1_3_4 : w4.cell? ⟨w.heap.size + 1, 3, none⟩ = some (.int .i64 (d)) := K1_4.out.cell 3
  have z1_4_4 : w4.cell? ⟨w.heap.size + 1, 4, none⟩ = some (.int .i64 (x)) := K1_4.out.cell 4
  have z1_5_4 : w4.cell? ⟨w.heap.size + 1, 5, none⟩ = some (.int .i64 (y)) := K1_4.out.cell 5
  go_wp2_with fail
  refine Fx.regionM (fun W g f w' => Kt (PfMR m n (remL m a b c d m.n)) W g w') (fun i (x : Rm × Pick) => if i = 1 then x.1.val else .tuple #[.slice x.2.1 n x.2.2, .int .i64 0]) (by kernel_rfl) ?_ ?_
  · intro f hf0
    exact Kt.start
  first
  | (refine Fx.WM.skip 0 (by rfl) (by kernel_rfl) (by kernel_rfl) (by kernel_rfl) (by rfl) (fun g f w h => h) ?_; simp only [Act.put, List.setIfInBounds_toArray, List.set_cons_zero, List.set_cons_succ])
  | (refine Fx.WM.val_ 0 ?_ (by rfl) (by kernel_rfl) (by kernel_rfl) (by kernel_rfl) (by rfl) ?_ (fun g f w h => h) ?_
     rotate_left
     · intro g f w' hx hD hk
       obtain hkp := id hD
       have y0_0 := (K0_4.out.below hkp.bel l0_4).cell 0
       have y0_1 := (K0_4.out.below hkp.bel l0_4).cell 1
       have y0_2 := (K0_4.out.below hkp.bel l0_4).cell 2
       have y1_0 := (K1_4.out.below hkp.bel l1_4).cell 0
       have y1_1 := (K1_4.out.below hkp.bel l1_4).cell 1
       have y1_2 := (K1_4.out.below hkp.bel l1_4).cell 2
       have y1_3 := (K1_4.out.below hkp.bel l1_4).cell 3
       have y1_4 := (K1_4.out.below hkp.bel l1_4).cell 4
       have y1_5 := (K1_4.out.below hkp.bel l1_4).cell 5
       clear hx hk hD hkp
       go_simp
       try rfl
     simp only [Act.put, List.setIfInBounds_toArray, List.set_cons_zero, List.set_cons_succ])
  first
  | (refine Fx.WM.skip 2 (by rfl) (by kernel_rfl) (by kernel_rfl) (by kernel_rfl) (by rfl) (fun g f w h => h) ?_; simp only [Act.put, List.setIfInBounds_toArray, List.set_cons_zero, List.set_cons_succ])
  | (refine Fx.WM.val_ 2 ?_ (by rfl) (by kernel_rfl) (by kernel_rfl) (by kernel_rfl) (by rfl) ?_ (fun g f w h => h) ?_
     rotate_left
     · intro g f w' hx hD hk
       obtain hkp := id hD
       have y0_0 := (K0_4.out.below hkp.bel l0_4).cell 0
       have y0_1 := (K0_4.out.below hkp.bel l0_4).cell 1
       have y0_2 := (K0_4.out.below hkp.bel l0_4).cell 2
       have y1_0 := (K1_4.out.below hkp.bel l1_4).cell 0
       have y1_1 := (K1_4.out.below hkp.bel l1_4).cell 1
       have y1_2 := (K1_4.out.below hkp.bel l1_4).cell 2
       have y1_3 := (K1_4.out.below hkp.bel l1_4).cell 3
       have y1_4 := (K1_4.out.below hkp.bel l1_4).cell 4
       have y1_5 := (K1_4.out.below hkp.bel l1_4).cell 5
       clear hx hk hD hkp
       go_simp
       try rfl
     simp only [Act.put, List.setIfInBounds_toArray, List.set_cons_zero, List.set_cons_succ])
  refine Fx.WM.choose 1 (by rfl) (by kernel_rfl) (by rfl) ?_ ?_
  · skip
    refine Fx.Chooses.call ?_ ?_ (by rfl) ?_ ?_
    rotate_left 2
    · intro w'
      go_simp
      refine ⟨?_, ?_⟩ <;> rfl
    · intro f w' hD hk
      exact (mapped_ok HE.out n c1 c2 c3 _ _ _ m HEX.out (by omega) w' ((R0_4.out.below hD.bel).more hD.bel.size) ((R1_4.out.below hD.bel).more hD.bel.size) ((R2_4.out.below hD.bel).more hD.bel.size)).mono fun e w'' ⟨x, he, hb, hcm⟩ => ⟨(x, (none, 0)), he, hD.choose PfMR.stb hb 1 _ ⟨fun _ => hcm, fun e => absurd e (by decide)⟩⟩
  intro y_
  simp only [Act.put, List.setIfInBounds_toArray, List.set_cons_zero, List.set_cons_succ]
  refine Fx.WM.choose 3 (by rfl) (by kernel_rfl) (by rfl) ?_ ?_
  · skip
    refine Fx.Chooses.call ?_ ?_ (by rfl) ?_ ?_
    rotate_left 2
    · intro w'
      go_simp
      refine ⟨?_, ?_⟩ <;> rfl
    · intro f w' hD hk
      exact (rems_copy HOK.out HMN.out a b c d x y HL.out ia ib ic jd w' ((hD.has 1 y_ (by rfl)).1 rfl)).mono fun e w'' ⟨A', c', he, hb, hr⟩ => ⟨(y_.1, (A', c')), he, hD.choose PfMR.stb hb 3 _ ⟨fun e => absurd e (by decide), fun _ => hr⟩⟩
  intro u_
  simp only [Act.put, List.setIfInBounds_toArray, List.set_cons_zero, List.set_cons_succ]
  simp only [show ((3 : Nat) = 1) = False from by simp, if_false]
  first
  | (refine Fx.WM.skip 4 (by rfl) (by kernel_rfl) (by kernel_rfl) (by kernel_rfl) (by rfl) (fun g f w h => h) ?_; simp only [Act.put, List.setIfInBounds_toArray, List.set_cons_zero, List.set_cons_succ])
  | (refine Fx.WM.val_ 4 ?_ (by rfl) (by kernel_rfl) (by kernel_rfl) (by kernel_rfl) (by rfl) ?_ (fun g f w h => h) ?_
     rotate_left
     · intro g f w' hx hD hk
       obtain hkp := id hD
       clear hx hk hD hkp
       go_simp
       try rfl
     simp only [Act.put, List.setIfInBounds_toArray, List.set_cons_zero, List.set_cons_succ])
  first
  | (refine Fx.WM.skip 5 (by rfl) (by kernel_rfl) (by kernel_rfl) (by kernel_rfl) (by rfl) (fun g f w h => h) ?_; simp only [Act.put, List.setIfInBounds_toArray, List.set_cons_zero, List.set_cons_succ])
  | (refine Fx.WM.val_ 5 ?_ (by rfl) (by kernel_rfl) (by kernel_rfl) (by kernel_rfl) (by rfl) ?_ (fun g f w h => h) ?_
     rotate_left
     · intro g f w' hx hD hk
       obtain hkp := id hD
       clear hx hk hD hkp
       go_simp
       try rfl
     simp only [Act.put, List.setIfInBounds_toArray, List.set_cons_zero, List.set_cons_succ])
  first
  | (refine Fx.WM.skip 6 (by rfl) (by kernel_rfl) (by kernel_rfl) (by kernel_rfl) (by rfl) (fun g f w h => h) ?_; simp only [Act.put, List.setIfInBounds_toArray, List.set_cons_zero, List.set_cons_succ])
  | (refine Fx.WM.val_ 6 ?_ (by rfl) (by kernel_rfl) (by kernel_rfl) (by kernel_rfl) (by rfl) ?_ (fun g f w h => h) ?_
     rotate_left
     · intro g f w' hx hD hk
       obtain hkp := id hD
       clear hx hk hD hkp
       go_simp
       try rfl
     simp only [Act.put, List.setIfInBounds_toArray, List.set_cons_zero, List.set_cons_succ])
  first
  | (refine Fx.WM.skip 7 (by rfl) (by kernel_rfl) (by kernel_rfl) (by kernel_rfl) (by rfl) (fun g f w h => h) ?_; simp only [Act.put, List.setIfInBounds_toArray, List.set_cons_zero, List.set_cons_succ])
  | (refine Fx.WM.val_ 7 ?_ (by rfl) (by kernel_rfl) (by kernel_rfl) (by kernel_rfl) (by rfl) ?_ (fun g f w h => h) ?_
     rotate_left
     · intro g f w' hx hD hk
       obtain hkp := id hD
       clear hx hk hD hkp
       go_simp
       try rfl
     simp only [Act.put, List.setIfInBounds_toArray, List.set_cons_zero, List.set_cons_succ])
  first
  | (refine Fx.WM.skip 8 (by rfl) (by kernel_rfl) (by kernel_rfl) (by kernel_rfl) (by rfl) (fun g f w h => h) ?_; simp only [Act.put, List.setIfInBounds_toArray, List.set_cons_zero, List.set_cons_succ])
  | (refine Fx.WM.val_ 8 ?_ (by rfl) (by kernel_rfl) (by kernel_rfl) (by kernel_rfl) (by rfl) ?_ (fun g f w h => h) ?_
     rotate_left
     · intro g f w' hx hD hk
       obtain hkp := id hD
       clear hx hk hD hkp
       go_simp
       try rfl
     simp only [Act.put, List.setIfInBounds_toArray, List.set_cons_zero, List.set_cons_succ])
  refine Fx.WM.nil (by kernel_rfl) ?_
  intro wz hkp
  obtain ⟨A5, c5, hy5⟩ : ∃ A5 c5, u_.2 = (A5, c5) := ⟨_, _, rfl⟩
  have hs : Reads wz wz.heap.size 2 u_.2.1 n (cells2 (remL m a b c d m.n)) := (hkp.has 3 u_ (by rfl)).2 rfl
  rw [hy5] at hs
  simp only [hy5]
  have hb := hkp.bel
  clear hkp
  obtain ⟨w5, hnm⟩ : ∃ z : World, z = wz := ⟨_, rfl⟩
  subst hnm
  have HB5 := Lib.hid (show Below w.heap.size w w5 from step_below hb (by repeat' (first | exact Below.refl _ _ | exact HB4.out | refine below_drewN ?_ _ | refine Below.drew ?_ | refine Below.alloc ?_ (by first | omega | (simp; done) | (simp; omega) | (simp [World.setCell]; omega)) _ | refine Below.setCell ?_ (by first | omega | (simp; done) | (simp; omega)) _ | assumption)))
  have K0_5 := Lib.hid (step_blk hb (show Blk _ (w.heap.size) 24 #[.slice (some ⟨b1, o1, none⟩) n c1, .slice (some ⟨b2, o2, none⟩) n c2, .slice (some ⟨b3, o3, none⟩) n c3] by repeat' (first | exact K0_4.out | exact K1_4.out | exact Blk.at_ _ (by first | rfl | (simp; done) | (simp; omega)) _ _ | refine Blk.drewN ?_ _ | refine Blk.drew ?_ | refine Blk.alloc ?_ _ | refine Blk.far ?_ (by first | omega | (simp; done) | (simp; omega)) _ | assumption)))
  have K1_5 := Lib.hid (step_blk hb (show Blk _ (w.heap.size + 1) 75 #[.int .i64 (a), .int .i64 (b), .int .i64 (c), .int .i64 (d), .int .i64 (x), .int .i64 (y)] by repeat' (first | exact K0_4.out | exact K1_4.out | exact Blk.at_ _ (by first | rfl | (simp; done) | (simp; omega)) _ _ | refine Blk.drewN ?_ _ | refine Blk.drew ?_ | refine Blk.alloc ?_ _ | refine Blk.far ?_ (by first | omega | (simp; done) | (simp; omega)) _ | assumption)))
  have hL5 := Lib.hid (show Below w4.heap.size w4 _ from reads_mid hb (by repeat' (first | exact Below.refl _ _ | refine below_drewN ?_ _ | refine Below.drew ?_ | refine Below.alloc ?_ (by first | omega | (simp; done) | (simp; omega) | (simp [World.setCell]; omega)) _ | refine Below.setCell ?_ (by first | omega | (simp; done) | (simp; omega)) _)))
  have R0_5 := Lib.hid (reads_lay hb hL5.out R0_4.out)
  have R1_5 := Lib.hid (reads_lay hb hL5.out R1_4.out)
  have R2_5 := Lib.hid (reads_lay hb hL5.out R2_4.out)
  clear hL5 R0_4 R1_4 R2_4
  have hz5 := hb.size
  try simp only [World.size_alloc, World.drewN, World.drew] at hz5
  clear hb K0_4 K1_4 z0_0_4 z0_1_4 z0_2_4 l0_4 z1_0_4 z1_1_4 z1_2_4 z1_3_4 z1_4_4 z1_5_4 l1_4
  have l0_5 : w.heap.size < w5.heap.size := K0_5.out.lt
  have z0_0_5 : w5.cell? ⟨w.heap.size, 0, none⟩ = some (.slice (some ⟨b1, o1, none⟩) n c1) := K0_5.out.cell 0
  have z0_1_5 : w5.cell? ⟨w.heap.size, 1, none⟩ = some (.slice (some ⟨b2, o2, none⟩) n c2) := K0_5.out.cell 1
  have z0_2_5 : w5.cell? ⟨w.heap.size, 2, none⟩ = some (.slice (some ⟨b3, o3, none⟩) n c3) := K0_5.out.cell 2
  have l1_5 : w.heap.size + 1 < w5.heap.size := K1_5.out.lt
  have z1_0_5 : w5.cell? ⟨w.heap.size + 1, 0, none⟩ = some (.int .i64 (a)) := K1_5.out.cell 0
  have z1_1_5 : w5.cell? ⟨w.heap.size + 1, 1, none⟩ = some (.int .i64 (b)) := K1_5.out.cell 1
  have z1_2_5 : w5.cell? ⟨w.heap.size + 1, 2, none⟩ = some (.int .i64 (c)) := K1_5.out.cell 2
  have z1_3_5 : w5.cell? ⟨w.heap.size + 1, 3, none⟩ = some (.int .i64 (d)) := K1_5.out.cell 3
  have z1_4_5 : w5.cell? ⟨w.heap.size + 1, 4, none⟩ = some (.int .i64 (x)) := K1_5.out.cell 4
  have z1_5_5 : w5.cell? ⟨w.heap.size + 1, 5, none⟩ = some (.int .i64 (y)) := K1_5.out.cell 5
  have R3_5 := Lib.hid hs
  clear hs
  go_wp2_with fail
  refine (rcheckmap_is _ n c1 l1 _ n c2 l2 _ n c3 l3 0 HE.out _ R0_5.out R1_5.out R2_5.out (by omega) (by omega) (by omega)).mono ?_
  rintro e w6 ⟨rfl, hb⟩
  have HB6 := Lib.hid (show Below w.heap.size w w6 from step_below hb (by repeat' (first | exact Below.refl _ _ | exact HB5.out | refine below_drewN ?_ _ | refine Below.drew ?_ | refine Below.alloc ?_ (by first | omega | (simp; done) | (simp; omega) | (simp [World.setCell]; omega)) _ | refine Below.setCell ?_ (by first | omega | (simp; done) | (simp; omega)) _ | assumption)))
  have K0_6 := Lib.hid (step_blk hb (show Blk _ (w.heap.size) 24 #[.slice (some ⟨b1, o1, none⟩) n c1, .slice (some ⟨b2, o2, none⟩) n c2, .slice (some ⟨b3, o3, none⟩) n c3] by repeat' (first | exact K0_5.out | exact K1_5.out | exact Blk.at_ _ (by first | rfl | (simp; done) | (simp; omega)) _ _ | refine Blk.drewN ?_ _ | refine Blk.drew ?_ | refine Blk.alloc ?_ _ | refine Blk.far ?_ (by first | omega | (simp; done) | (simp; omega)) _ | assumption)))
  have K1_6 := Lib.hid (step_blk hb (show Blk _ (w.heap.size + 1) 75 #[.int .i64 (a), .int .i64 (b), .int .i64 (c), .int .i64 (d), .int .i64 (x), .int .i64 (y)] by repeat' (first | exact K0_5.out | exact K1_5.out | exact Blk.at_ _ (by first | rfl | (simp; done) | (simp; omega)) _ _ | refine Blk.drewN ?_ _ | refine Blk.drew ?_ | refine Blk.alloc ?_ _ | refine Blk.far ?_ (by first | omega | (simp; done) | (simp; omega)) _ | assumption)))
  have hL6 := Lib.hid (show Below w5.heap.size w5 _ from reads_mid hb (by repeat' (first | exact Below.refl _ _ | refine below_drewN ?_ _ | refine Below.drew ?_ | refine Below.alloc ?_ (by first | omega | (simp; done) | (simp; omega) | (simp [World.setCell]; omega)) _ | refine Below.setCell ?_ (by first | omega | (simp; done) | (simp; omega)) _)))
  have R0_6 := Lib.hid (reads_lay hb hL6.out R0_5.out)
  have R1_6 := Lib.hid (reads_lay hb hL6.out R1_5.out)
  have R2_6 := Lib.hid (reads_lay hb hL6.out R2_5.out)
  have R3_6 := Lib.hid (reads_lay hb hL6.out R3_5.out)
  clear hL6 R0_5 R1_5 R2_5 R3_5
  have hz6 := hb.size
  try simp only [World.size_alloc, World.drewN, World.drew] at hz6
  clear hb K0_5 K1_5 z0_0_5 z0_1_5 z0_2_5 l0_5 z1_0_5 z1_1_5 z1_2_5 z1_3_5 z1_4_5 z1_5_5 l1_5
  have l0_6 : w.heap.size < w6.heap.size := K0_6.out.lt
  have z0_0_6 : w6.cell? ⟨w.heap.size, 0, none⟩ = some (.slice (some ⟨b1, o1, none⟩) n c1) := K0_6.out.cell 0
  have z0_1_6 : w6.cell? ⟨w.heap.size, 1, none⟩ = some (.slice (some ⟨b2, o2, none⟩) n c2) := K0_6.out.cell 1
  have z0_2_6 : w6.cell? ⟨w.heap.size, 2, none⟩ = some (.slice (some ⟨b3, o3, none⟩) n c3) := K0_6.out.cell 2
  have l1_6 : w.heap.size + 1 < w6.heap.size := K1_6.out.lt
  have z1_0_6 : w6.cell? ⟨w.heap.size + 1, 0, none⟩ = some (.int .i64 (a)) := K1_6.out.cell 0
  have z1_1_6 : w6.cell? ⟨w.heap.size + 1, 1, none⟩ = some (.int .i64 (b)) := K1_6.out.cell 1
  have z1_2_6 : w6.cell? ⟨w.heap.size + 1, 2, none⟩ = some (.int .i64 (c)) := K1_6.out.cell 2
  have z1_3_6 : w6.cell? ⟨w.heap.size + 1, 3, none⟩ = some (.int .i64 (d)) := K1_6.out.cell 3
  have z1_4_6 : w6.cell? ⟨w.heap.size + 1, 4, none⟩ = some (.int .i64 (x)) := K1_6.out.cell 4
  have z1_5_6 : w6.cell? ⟨w.heap.size + 1, 5, none⟩ = some (.int .i64 (y)) := K1_6.out.cell 5
  go_wp2_with fail
  refine (rcheckline_is a b c d x y 0 HL.out ia ib ic jd _).mono ?_
  rintro e w7 ⟨rfl, hb⟩
  have HB7 := Lib.hid (show Below w.heap.size w w7 from step_below hb (by repeat' (first | exact Below.refl _ _ | exact HB6.out | refine below_drewN ?_ _ | refine Below.drew ?_ | refine Below.alloc ?_ (by first | omega | (simp; done) | (simp; omega) | (simp [World.setCell]; omega)) _ | refine Below.setCell ?_ (by first | omega | (simp; done) | (simp; omega)) _ | assumption)))
  have K0_7 := Lib.hid (step_blk hb (show Blk _ (w.heap.size) 24 #[.slice (some ⟨b1, o1, none⟩) n c1, .slice (some ⟨b2, o2, none⟩) n c2, .slice (some ⟨b3, o3, none⟩) n c3] by repeat' (first | exact K0_6.out | exact K1_6.out | exact Blk.at_ _ (by first | rfl | (simp; done) | (simp; omega)) _ _ | refine Blk.drewN ?_ _ | refine Blk.drew ?_ | refine Blk.alloc ?_ _ | refine Blk.far ?_ (by first | omega | (simp; done) | (simp; omega)) _ | assumption)))
  have K1_7 := Lib.hid (step_blk hb (show Blk _ (w.heap.size + 1) 75 #[.int .i64 (a), .int .i64 (b), .int .i64 (c), .int .i64 (d), .int .i64 (x), .int .i64 (y)] by repeat' (first | exact K0_6.out | exact K1_6.out | exact Blk.at_ _ (by first | rfl | (simp; done) | (simp; omega)) _ _ | refine Blk.drewN ?_ _ | refine Blk.drew ?_ | refine Blk.alloc ?_ _ | refine Blk.far ?_ (by first | omega | (simp; done) | (simp; omega)) _ | assumption)))
  have hL7 := Lib.hid (show Below w6.heap.size w6 _ from reads_mid hb (by repeat' (first | exact Below.refl _ _ | refine below_drewN ?_ _ | refine Below.drew ?_ | refine Below.alloc ?_ (by first | omega | (simp; done) | (simp; omega) | (simp [World.setCell]; omega)) _ | refine Below.setCell ?_ (by first | omega | (simp; done) | (simp; omega)) _)))
  have R0_7 := Lib.hid (reads_lay hb hL7.out R0_6.out)
  have R1_7 := Lib.hid (reads_lay hb hL7.out R1_6.out)
  have R2_7 := Lib.hid (reads_lay hb hL7.out R2_6.out)
  have R3_7 := Lib.hid (reads_lay hb hL7.out R3_6.out)
  clear hL7 R0_6 R1_6 R2_6 R3_6
  have hz7 := hb.size
  try simp only [World.size_alloc, World.drewN, World.drew] at hz7
  clear hb K0_6 K1_6 z0_0_6 z0_1_6 z0_2_6 l0_6 z1_0_6 z1_1_6 z1_2_6 z1_3_6 z1_4_6 z1_5_6 l1_6
  have l0_7 : w.heap.size < w7.heap.size := K0_7.out.lt
  have z0_0_7 : w7.cell? ⟨w.heap.size, 0, none⟩ = some (.slice (some ⟨b1, o1, none⟩) n c1) := K0_7.out.cell 0
  have z0_1_7 : w7.cell? ⟨w.heap.size, 1, none⟩ = some (.slice (some ⟨b2, o2, none⟩) n c2) := K0_7.out.cell 1
  have z0_2_7 : w7.cell? ⟨w.heap.size, 2, none⟩ = some (.slice (some ⟨b3, o3, none⟩) n c3) := K0_7.out.cell 2
  have l1_7 : w.heap.size + 1 < w7.heap.size := K1_7.out.lt
  have z1_0_7 : w7.cell? ⟨w.heap.size + 1, 0, none⟩ = some (.int .i64 (a)) := K1_7.out.cell 0
  have z1_1_7 : w7.cell? ⟨w.heap.size + 1, 1, none⟩ = some (.int .i64 (b)) := K1_7.out.cell 1
  have z1_2_7 : w7.cell? ⟨w.heap.size + 1, 2, none⟩ = some (.int .i64 (c)) := K1_7.out.cell 2
  have z1_3_7 : w7.cell? ⟨w.heap.size + 1, 3, none⟩ = some (.int .i64 (d)) := K1_7.out.cell 3
  have z1_4_7 : w7.cell? ⟨w.heap.size + 1, 4, none⟩ = some (.int .i64 (x)) := K1_7.out.cell 4
  have z1_5_7 : w7.cell? ⟨w.heap.size + 1, 5, none⟩ = some (.int .i64 (y)) := K1_7.out.cell 5
  go_wp2_with fail
  refine (HRC.out _ (HAT.out.lay HB7.out)).mono ?_
  rintro e w8 ⟨rfl, hb⟩
  have HB8 := Lib.hid (show Below w.heap.size w w8 from step_below hb (by repeat' (first | exact Below.refl _ _ | exact HB7.out | refine below_drewN ?_ _ | refine Below.drew ?_ | refine Below.alloc ?_ (by first | omega | (simp; done) | (simp; omega) | (simp [World.setCell]; omega)) _ | refine Below.setCell ?_ (by first | omega | (simp; done) | (simp; omega)) _ | assumption)))
  have K0_8 := Lib.hid (step_blk hb (show Blk _ (w.heap.size) 24 #[.slice (some ⟨b1, o1, none⟩) n c1, .slice (some ⟨b2, o2, none⟩) n c2, .slice (some ⟨b3, o3, none⟩) n c3] by repeat' (first | exact K0_7.out | exact K1_7.out | exact Blk.at_ _ (by first | rfl | (simp; done) | (simp; omega)) _ _ | refine Blk.drewN ?_ _ | refine Blk.drew ?_ | refine Blk.alloc ?_ _ | refine Blk.far ?_ (by first | omega | (simp; done) | (simp; omega)) _ | assumption)))
  have K1_8 := Lib.hid (step_blk hb (show Blk _ (w.heap.size + 1) 75 #[.int .i64 (a), .int .i64 (b), .int .i64 (c), .int .i64 (d), .int .i64 (x), .int .i64 (y)] by repeat' (first | exact K0_7.out | exact K1_7.out | exact Blk.at_ _ (by first | rfl | (simp; done) | (simp; omega)) _ _ | refine Blk.drewN ?_ _ | refine Blk.drew ?_ | refine Blk.alloc ?_ _ | refine Blk.far ?_ (by first | omega | (simp; done) | (simp; omega)) _ | assumption)))
  have hL8 := Lib.hid (show Below w7.heap.size w7 _ from reads_mid hb (by repeat' (first | exact Below.refl _ _ | refine below_drewN ?_ _ | refine Below.drew ?_ | refine Below.alloc ?_ (by first | omega | (simp; done) | (simp; omega) | (simp [World.setCell]; omega)) _ | refine Below.setCell ?_ (by first | omega | (simp; done) | (simp; omega)) _)))
  have R0_8 := Lib.hid (reads_lay hb hL8.out R0_7.out)
  have R1_8 := Lib.hid (reads_lay hb hL8.out R1_7.out)
  have R2_8 := Lib.hid (reads_lay hb hL8.out R2_7.out)
  have R3_8 := Lib.hid (reads_lay hb hL8.out R3_7.out)
  clear hL8 R0_7 R1_7 R2_7 R3_7
  have hz8 := hb.size
  try simp only [World.size_alloc, World.drewN, World.drew] at hz8
  clear hb K0_7 K1_7 z0_0_7 z0_1_7 z0_2_7 l0_7 z1_0_7 z1_1_7 z1_2_7 z1_3_7 z1_4_7 z1_5_7 l1_7
  have l0_8 : w.heap.size < w8.heap.size := K0_8.out.lt
  have z0_0_8 : w8.cell? ⟨w.heap.size, 0, none⟩ = some (.slice (some ⟨b1, o1, none⟩) n c1) := K0_8.out.cell 0
  have z0_1_8 : w8.cell? ⟨w.heap.size, 1, none⟩ = some (.slice (some ⟨b2, o2, none⟩) n c2) := K0_8.out.cell 1
  have z0_2_8 : w8.cell? ⟨w.heap.size, 2, none⟩ = some (.slice (some ⟨b3, o3, none⟩) n c3) := K0_8.out.cell 2
  have l1_8 : w.heap.size + 1 < w8.heap.size := K1_8.out.lt
  have z1_0_8 : w8.cell? ⟨w.heap.size + 1, 0, none⟩ = some (.int .i64 (a)) := K1_8.out.cell 0
  have z1_1_8 : w8.cell? ⟨w.heap.size + 1, 1, none⟩ = some (.int .i64 (b)) := K1_8.out.cell 1
  have z1_2_8 : w8.cell? ⟨w.heap.size + 1, 2, none⟩ = some (.int .i64 (c)) := K1_8.out.cell 2
  have z1_3_8 : w8.cell? ⟨w.heap.size + 1, 3, none⟩ = some (.int .i64 (d)) := K1_8.out.cell 3
  have z1_4_8 : w8.cell? ⟨w.heap.size + 1, 4, none⟩ = some (.int .i64 (x)) := K1_8.out.cell 4
  have z1_5_8 : w8.cell? ⟨w.heap.size + 1, 5, none⟩ = some (.int .i64 (y)) := K1_8.out.cell 5
  go_wp2
  have RS := R3_8
  have KT := K0_8
  have KU := K1_8
  clear R0_8 R1_8 R2_8 R3_8
  have hs8 := HB8.out.size
  go_loopw [11] (fun v wr => ∃ j : Nat, j ≤ n ∧ v = .int .i64 j ∧ Below w8.heap.size w8 wr) (fun v _ => n - (intOf v).toNat)
  case atStart => exact ⟨0, by omega, rfl, Below.refl _ _⟩
  case round =>
    obtain ⟨j, hj, rfl, hbj⟩ := hrel
    obtain ⟨w9, hnm⟩ : ∃ z : World, z = wr := ⟨_, rfl⟩
    subst hnm
    have HBJ := Lib.hid hbj
    have hk0 := Blk.below KT.out hbj KT.out.lt
    have hk1 := Blk.below KU.out hbj KU.out.lt
    have hb' := HB8.out.trans (hbj.mono HB8.out.size)
    have hsd := RS.out.below hbj
    clear hbj
    have HB9 := Lib.hid hb'
    have K0_9 := Lib.hid (show Blk w9 (w.heap.size) 24 #[.slice (some ⟨b1, o1, none⟩) n c1, .slice (some ⟨b2, o2, none⟩) n c2, .slice (some ⟨b3, o3, none⟩) n c3] from hk0)
    have K1_9 := Lib.hid (show Blk w9 (w.heap.size + 1) 75 #[.int .i64 (a), .int .i64 (b), .int .i64 (c), .int .i64 (d), .int .i64 (x), .int .i64 (y)] from hk1)
    clear hb' hk0 hk1
    have l0_9 : w.heap.size < w9.heap.size := K0_9.out.lt
    have z0_0_9 : w9.cell? ⟨w.heap.size, 0, none⟩ = some (.slice (some ⟨b1, o1, none⟩) n c1) := K0_9.out.cell 0
    have z0_1_9 : w9.cell? ⟨w.heap.size, 1, none⟩ = some (.slice (some ⟨b2, o2, none⟩) n c2) := K0_9.out.cell 1
    have z0_2_9 : w9.cell? ⟨w.heap.size, 2, none⟩ = some (.slice (some ⟨b3, o3, none⟩) n c3) := K0_9.out.cell 2
    have l1_9 : w.heap.size + 1 < w9.heap.size := K1_9.out.lt
    have z1_0_9 : w9.cell? ⟨w.heap.size + 1, 0, none⟩ = some (.int .i64 (a)) := K1_9.out.cell 0
    have z1_1_9 : w9.cell? ⟨w.heap.size + 1, 1, none⟩ = some (.int .i64 (b)) := K1_9.out.cell 1
    have z1_2_9 : w9.cell? ⟨w.heap.size + 1, 2, none⟩ = some (.int .i64 (c)) := K1_9.out.cell 2
    have z1_3_9 : w9.cell? ⟨w.heap.size + 1, 3, none⟩ = some (.int .i64 (d)) := K1_9.out.cell 3
    have z1_4_9 : w9.cell? ⟨w.heap.size + 1, 4, none⟩ = some (.int .i64 (x)) := K1_9.out.cell 4
    have z1_5_9 : w9.cell? ⟨w.heap.size + 1, 5, none⟩ = some (.int .i64 (y)) := K1_9.out.cell 5
    by_cases hjt : j < n
    · obtain ⟨xb, xo, pq, rfl, hxb, hpq, d0, d1⟩ := hsd.pair hjt
      rw [HMN.out, remL_get m a b c d hjt] at hpq
      obtain rfl : pq = (redN (remN m a b c d j) (b * d), redD (remN m a b c d j) (b * d)) := (Option.some.inj hpq).symm
      obtain ⟨u, hu⟩ : ∃ u, redN (remN m a b c d j) (b * d) = u := ⟨_, rfl⟩
      obtain ⟨v, hv⟩ : ∃ v, redD (remN m a b c d j) (b * d) = v := ⟨_, rfl⟩
      rw [hu, hv] at d0 d1
      simp only at d0 d1
      have HU := Lib.hid hu
      have HV := Lib.hid hv
      have hjj : (j : Int) < (n : Int) := by omega
      have hjm : j < m.n := by rw [HMN.out]; exact hjt
      have hz9 := HBJ.out.size
      have l9x : xb < w9.heap.size := by omega
      clear hpq hu hv hsd
      have C0_9 := Lib.hid d0
      have C1_9 := Lib.hid d1
      clear d0 d1
      go_wp2
      refine Fx.regionW (fun W f w' => Below W.heap.size W w') (by kernel_rfl) (by kernel_rfl) ?_ ?_
      · intro f hf0
        exact below_drewN (Below.refl _ _) 1
      repeat (first
        | (refine Fx.skip_ (by rfl) (fun f w h => h) ?_; simp only [Act.put, List.setIfInBounds_toArray, List.set_cons_zero, List.set_cons_succ])
        | (refine Fx.val_ ?_ (by rfl) ?_ (fun f w h => h) ?_
           rotate_left
           · intro f w' hD hk
             have hb := hD
             have kb0 := step_blk hb (show Blk _ (w.heap.size) 24 #[.slice (some ⟨b1, o1, none⟩) n c1, .slice (some ⟨b2, o2, none⟩) n c2, .slice (some ⟨b3, o3, none⟩) n c3] by repeat' (first | exact K0_9.out | exact K1_9.out | exact Blk.at_ _ (by first | rfl | (simp; done) | (simp; omega)) _ _ | refine Blk.drewN ?_ _ | refine Blk.drew ?_ | refine Blk.alloc ?_ _ | refine Blk.far ?_ (by first | omega | (simp; done) | (simp; omega)) _ | assumption))
             have y0_0 : w'.cell? ⟨w.heap.size, 0, none⟩ = some (.slice (some ⟨b1, o1, none⟩) n c1) := kb0.cell 0
             have y0_1 : w'.cell? ⟨w.heap.size, 1, none⟩ = some (.slice (some ⟨b2, o2, none⟩) n c2) := kb0.cell 1
             have y0_2 : w'.cell? ⟨w.heap.size, 2, none⟩ = some (.slice (some ⟨b3, o3, none⟩) n c3) := kb0.cell 2
             have kb1 := step_blk hb (show Blk _ (w.heap.size + 1) 75 #[.int .i64 (a), .int .i64 (b), .int .i64 (c), .int .i64 (d), .int .i64 (x), .int .i64 (y)] by repeat' (first | exact K0_9.out | exact K1_9.out | exact Blk.at_ _ (by first | rfl | (simp; done) | (simp; omega)) _ _ | refine Blk.drewN ?_ _ | refine Blk.drew ?_ | refine Blk.alloc ?_ _ | refine Blk.far ?_ (by first | omega | (simp; done) | (simp; omega)) _ | assumption))
             have y1_0 : w'.cell? ⟨w.heap.size + 1, 0, none⟩ = some (.int .i64 (a)) := kb1.cell 0
             have y1_1 : w'.cell? ⟨w.heap.size + 1, 1, none⟩ = some (.int .i64 (b)) := kb1.cell 1
             have y1_2 : w'.cell? ⟨w.heap.size + 1, 2, none⟩ = some (.int .i64 (c)) := kb1.cell 2
             have y1_3 : w'.cell? ⟨w.heap.size + 1, 3, none⟩ = some (.int .i64 (d)) := kb1.cell 3
             have y1_4 : w'.cell? ⟨w.heap.size + 1, 4, none⟩ = some (.int .i64 (x)) := kb1.cell 4
             have y1_5 : w'.cell? ⟨w.heap.size + 1, 5, none⟩ = some (.int .i64 (y)) := kb1.cell 5
             have yc0 : w'.cell? ⟨xb, xo + j * 2, none⟩ = some (.int .i64 (u)) := step_cell hb (show World.cell? _ ⟨xb, xo + j * 2, none⟩ = some (.int .i64 (u)) by first | exact C0_9.out | go_simp) (by have := l9x; first | omega | (simp; omega))
             have yc1 : w'.cell? ⟨xb, xo + j * 2 + 1, none⟩ = some (.int .i64 (v)) := step_cell hb (show World.cell? _ ⟨xb, xo + j * 2 + 1, none⟩ = some (.int .i64 (v)) by first | exact C1_9.out | go_simp) (by have := l9x; first | omega | (simp; omega))
             clear kb0 kb1
             clear hk hD hb
             go_simp
             try rfl
           simp only [Act.put, List.setIfInBounds_toArray, List.set_cons_zero, List.set_cons_succ]))
      refine Fx.call_ (.agg #[.int .i64 u, .int .i64 v]) ?_ ?_ (by rfl) ?_ ?_ ?_
      rotate_left 2
      · intro w'
        go_simp
        refine ⟨?_, ?_⟩ <;> rfl
      · intro f w' hD hk
        exact (HRM.out j hjm u v HU.out HV.out w' (HAT.out.lay (HB9.out.trans (hD.mono HB9.out.size)))).mono fun e w'' ⟨he, hw⟩ => ⟨he, step_below hw hD⟩
      simp only [Act.put, List.setIfInBounds_toArray, List.set_cons_zero, List.set_cons_succ]
      repeat (first
        | (refine Fx.skip_ (by rfl) (fun f w h => h) ?_; simp only [Act.put, List.setIfInBounds_toArray, List.set_cons_zero, List.set_cons_succ])
        | (refine Fx.val_ ?_ (by rfl) ?_ (fun f w h => h) ?_
           rotate_left
           · intro f w' hD hk
             have hb := hD
             have kb0 := step_blk hb (show Blk _ (w.heap.size) 24 #[.slice (some ⟨b1, o1, none⟩) n c1, .slice (some ⟨b2, o2, none⟩) n c2, .slice (some ⟨b3, o3, none⟩) n c3] by repeat' (first | exact K0_9.out | exact K1_9.out | exact Blk.at_ _ (by first | rfl | (simp; done) | (simp; omega)) _ _ | refine Blk.drewN ?_ _ | refine Blk.drew ?_ | refine Blk.alloc ?_ _ | refine Blk.far ?_ (by first | omega | (simp; done) | (simp; omega)) _ | assumption))
             have y0_0 : w'.cell? ⟨w.heap.size, 0, none⟩ = some (.slice (some ⟨b1, o1, none⟩) n c1) := kb0.cell 0
             have y0_1 : w'.cell? ⟨w.heap.size, 1, none⟩ = some (.slice (some ⟨b2, o2, none⟩) n c2) := kb0.cell 1
             have y0_2 : w'.cell? ⟨w.heap.size, 2, none⟩ = some (.slice (some ⟨b3, o3, none⟩) n c3) := kb0.cell 2
             have kb1 := step_blk hb (show Blk _ (w.heap.size + 1) 75 #[.int .i64 (a), .int .i64 (b), .int .i64 (c), .int .i64 (d), .int .i64 (x), .int .i64 (y)] by repeat' (first | exact K0_9.out | exact K1_9.out | exact Blk.at_ _ (by first | rfl | (simp; done) | (simp; omega)) _ _ | refine Blk.drewN ?_ _ | refine Blk.drew ?_ | refine Blk.alloc ?_ _ | refine Blk.far ?_ (by first | omega | (simp; done) | (simp; omega)) _ | assumption))
             have y1_0 : w'.cell? ⟨w.heap.size + 1, 0, none⟩ = some (.int .i64 (a)) := kb1.cell 0
             have y1_1 : w'.cell? ⟨w.heap.size + 1, 1, none⟩ = some (.int .i64 (b)) := kb1.cell 1
             have y1_2 : w'.cell? ⟨w.heap.size + 1, 2, none⟩ = some (.int .i64 (c)) := kb1.cell 2
             have y1_3 : w'.cell? ⟨w.heap.size + 1, 3, none⟩ = some (.int .i64 (d)) := kb1.cell 3
             have y1_4 : w'.cell? ⟨w.heap.size + 1, 4, none⟩ = some (.int .i64 (x)) := kb1.cell 4
             have y1_5 : w'.cell? ⟨w.heap.size + 1, 5, none⟩ = some (.int .i64 (y)) := kb1.cell 5
             have yc0 : w'.cell? ⟨xb, xo + j * 2, none⟩ = some (.int .i64 (u)) := step_cell hb (show World.cell? _ ⟨xb, xo + j * 2, none⟩ = some (.int .i64 (u)) by first | exact C0_9.out | go_simp) (by have := l9x; first | omega | (simp; omega))
             have yc1 : w'.cell? ⟨xb, xo + j * 2 + 1, none⟩ = some (.int .i64 (v)) := step_cell hb (show World.cell? _ ⟨xb, xo + j * 2 + 1, none⟩ = some (.int .i64 (v)) by first | exact C1_9.out | go_simp) (by have := l9x; first | omega | (simp; omega))
             clear kb0 kb1
             clear hk hD hb
             go_simp
             try rfl
           simp only [Act.put, List.setIfInBounds_toArray, List.set_cons_zero, List.set_cons_succ]))
      refine Fx.nil_ ?_
      intro f w10 hall hb
      try clear hall
      have HB910 := Lib.hid hb
      have HB10 := Lib.hid (show Below w.heap.size w w10 from step_below hb (by repeat' (first | exact Below.refl _ _ | exact HB9.out | refine below_drewN ?_ _ | refine Below.drew ?_ | refine Below.alloc ?_ (by first | omega | (simp; done) | (simp; omega) | (simp [World.setCell]; omega)) _ | refine Below.setCell ?_ (by first | omega | (simp; done) | (simp; omega)) _ | assumption)))
      have K0_10 := Lib.hid (step_blk hb (show Blk _ (w.heap.size) 24 #[.slice (some ⟨b1, o1, none⟩) n c1, .slice (some ⟨b2, o2, none⟩) n c2, .slice (some ⟨b3, o3, none⟩) n c3] by repeat' (first | exact K0_9.out | exact K1_9.out | exact Blk.at_ _ (by first | rfl | (simp; done) | (simp; omega)) _ _ | refine Blk.drewN ?_ _ | refine Blk.drew ?_ | refine Blk.alloc ?_ _ | refine Blk.far ?_ (by first | omega | (simp; done) | (simp; omega)) _ | assumption)))
      have K1_10 := Lib.hid (step_blk hb (show Blk _ (w.heap.size + 1) 75 #[.int .i64 (a), .int .i64 (b), .int .i64 (c), .int .i64 (d), .int .i64 (x), .int .i64 (y)] by repeat' (first | exact K0_9.out | exact K1_9.out | exact Blk.at_ _ (by first | rfl | (simp; done) | (simp; omega)) _ _ | refine Blk.drewN ?_ _ | refine Blk.drew ?_ | refine Blk.alloc ?_ _ | refine Blk.far ?_ (by first | omega | (simp; done) | (simp; omega)) _ | assumption)))
      have C0_10 := Lib.hid (step_cell hb (show World.cell? _ ⟨xb, xo + j * 2, none⟩ = some (.int .i64 (u)) by first | exact C0_9.out | go_simp) (by have := l9x; first | omega | (simp; omega)))
      have C1_10 := Lib.hid (step_cell hb (show World.cell? _ ⟨xb, xo + j * 2 + 1, none⟩ = some (.int .i64 (v)) by first | exact C1_9.out | go_simp) (by have := l9x; first | omega | (simp; omega)))
      have hz10 := hb.size
      try simp only [World.size_alloc, World.drewN, World.drew] at hz10
      clear hb K0_9 K1_9 z0_0_9 z0_1_9 z0_2_9 l0_9 z1_0_9 z1_1_9 z1_2_9 z1_3_9 z1_4_9 z1_5_9 l1_9
      have l0_10 : w.heap.size < w10.heap.size := K0_10.out.lt
      have z0_0_10 : w10.cell? ⟨w.heap.size, 0, none⟩ = some (.slice (some ⟨b1, o1, none⟩) n c1) := K0_10.out.cell 0
      have z0_1_10 : w10.cell? ⟨w.heap.size, 1, none⟩ = some (.slice (some ⟨b2, o2, none⟩) n c2) := K0_10.out.cell 1
      have z0_2_10 : w10.cell? ⟨w.heap.size, 2, none⟩ = some (.slice (some ⟨b3, o3, none⟩) n c3) := K0_10.out.cell 2
      have l1_10 : w.heap.size + 1 < w10.heap.size := K1_10.out.lt
      have z1_0_10 : w10.cell? ⟨w.heap.size + 1, 0, none⟩ = some (.int .i64 (a)) := K1_10.out.cell 0
      have z1_1_10 : w10.cell? ⟨w.heap.size + 1, 1, none⟩ = some (.int .i64 (b)) := K1_10.out.cell 1
      have z1_2_10 : w10.cell? ⟨w.heap.size + 1, 2, none⟩ = some (.int .i64 (c)) := K1_10.out.cell 2
      have z1_3_10 : w10.cell? ⟨w.heap.size + 1, 3, none⟩ = some (.int .i64 (d)) := K1_10.out.cell 3
      have z1_4_10 : w10.cell? ⟨w.heap.size + 1, 4, none⟩ = some (.int .i64 (x)) := K1_10.out.cell 4
      have z1_5_10 : w10.cell? ⟨w.heap.size + 1, 5, none⟩ = some (.int .i64 (y)) := K1_10.out.cell 5
      have HBZ := Lib.hid (HBJ.out.trans ((show Below w9.heap.size w9 w10 from HB910.out).mono HBJ.out.size))
      go_wp2
      go_roundw
      case rel => exact ⟨j + 1, by omega, by go_num, HBZ.out⟩
      case measure => simp [intOf]; omega
    · obtain rfl : j = n := by omega
      go_wp2
      go_ret
      exact ⟨rfl, by repeat' (first | exact Below.refl _ _ | exact HB10.out | refine below_drewN ?_ _ | refine Below.drew ?_ | refine Below.alloc ?_ (by first | omega | (simp; done) | (simp; omega) | (simp [World.setCell]; omega)) _ | refine Below.setCell ?_ (by first | omega | (simp; done) | (simp; omega)) _ | assumption)⟩

set_option maxRecDepth 100000 in
theorem lawFL_any (A1 : Option Addr) (n1 c1 : Nat) (l1 : List Int) (A2 : Option Addr) (n2 c2 : Nat) (l2 : List Int) (A3 : Option Addr) (n3 c3 : Nat) (l3 : List Int) (a b c d x y : Int) (w : World)
    (_ : n1 ≤ c1 ∧ c1 ≤ 9223372036854775807) (_ : n2 ≤ c2 ∧ c2 ≤ 9223372036854775807) (_ : n3 ≤ c3 ∧ c3 ≤ 9223372036854775807)
    (r1 : Reads w w.heap.size 1 A1 n1 (l1.map (.int .i64))) (r2 : Reads w w.heap.size 1 A2 n2 (l2.map (.int .i64))) (r3 : Reads w w.heap.size 1 A3 n3 (l3.map (.int .i64))) (ia : I64 a) (ib : I64 b) (ic : I64 c) (jd : I64 d) (ix : I64 x) (iy : I64 y) :
    Calls Try.prog 13 #[.agg #[.slice A1 n1 c1, .slice A2 n2 c2, .slice A3 n3 c3], .agg #[.int .i64 a, .int .i64 b, .int .i64 c, .int .i64 d, .int .i64 x, .int .i64 y]] w fun e w' => e = .returned (.bool true) ∧ Below w.heap.size w w' := by
  by_cases hF : (fewB6 n1 && (fewB6 n2 && fewB6 n3)) = true → mapErr l1 l2 l3 ≠ 0
  · exact lawFL_bad A1 n1 c1 l1 A2 n2 c2 l2 A3 n3 c3 l3 a b c d x y w hF r1 r2 r3
  rw [Classical.not_imp, Decidable.not_not] at hF
  obtain ⟨hf, hE⟩ := hF
  obtain ⟨rfl, rfl, b1, o1, b2, o2, b3, o3, rfl, rfl, rfl, -, -, -⟩ := rm_of hE c1 c2 c3 r1 r2 r3
  by_cases h0 : lineErr a b c d = 0
  · exact lawFL_ok _ b1 o1 c1 b2 o2 c2 b3 o3 c3 l1 l2 l3 a b c d x y w hf hE h0 ia ib ic jd ix iy r1 r2 r3
  · exact lawFL_line _ b1 o1 c1 b2 o2 c2 b3 o3 c3 l1 l2 l3 a b c d x y _ w hf hE rfl h0 ia ib ic jd r1 r2 r3
end Go.Proofs.Ytnepjgnnppfibaa

end
