import Derived.Test.YtgamepmipoociaaQ22
import Derived.Test.YtgamepmipoociaaQ23
import Derived.Test.YtgamepmipoociaaQ9

section
/- The examples with which each statement begins are so. -/
namespace Go.Proofs.Ytgamepmipoociaa
open Go Go.RowKit

def NewAt (size n : Nat) (xs : List Value) (w : World) (e : Ending) (w' : World) : Prop := ∃ g, e = .returned (.slice (some ⟨g, 0, none⟩) n n) ∧ Below w.heap.size w w' ∧ w.heap.size ≤ g ∧ Reads w' w'.heap.size size (some ⟨g, 0, none⟩) n xs
theorem flat_any (v : Int) (w : World) : Calls Try.prog 112 #[.int .i64 v] w (NewAt 2 1 (cells2 [(0, v)]) w) := by
  go_enter Try.func112, Try.ntmps112
  go_wp2
  go_ret
  exact ⟨w.heap.size, rfl, by repeat' (first | exact Below.refl _ _ | refine below_drewN ?_ _ | refine Below.drew ?_ | refine Below.alloc ?_ (by first | omega | (simp; done) | (simp; omega) | (simp [World.setCell]; omega)) _ | refine Below.setCell ?_ (by first | omega | (simp; done) | (simp; omega)) _), Nat.le_refl _, Blk.reads (Blk.at_ _ rfl _ _) (by rfl)⟩

def forkM (a b : Nat) : Mnt := ⟨-700000, 1300000, 0, 324000, 100000, some ⟨a, 0, none⟩, 1, 1, [(0, 0)], some ⟨b, 0, none⟩, 1, 1, [(0, 0)]⟩
def ForkPost (w : World) (e : Ending) (w' : World) : Prop := ∃ a b, e = .returned (forkM a b).val ∧ Below w.heap.size w w' ∧ Reads w' w'.heap.size 2 (some ⟨a, 0, none⟩) 1 (cells2 [(0, 0)]) ∧ Reads w' w'.heap.size 2 (some ⟨b, 0, none⟩) 1 (cells2 [(0, 0)])
theorem Reads.other {w wq : World} {size n g x : Nat} {o : Nat} {xs : List Value} (h : Reads w w.heap.size size (some ⟨x, o, none⟩) n xs) (ho : ∀ q, q ≠ g → wq.heap[q]? = w.heap[q]?) (hs : wq.heap.size = w.heap.size) (hx : x ≠ g) : Reads wq wq.heap.size size (some ⟨x, o, none⟩) n xs := by
  refine ⟨h.1, fun hn => ?_⟩
  obtain ⟨b, o', e, hb, hc⟩ := h.2 hn
  cases e
  exact ⟨x, o, rfl, by omega, fun j v hv => (World.cell?_of_block (a := ⟨x, o + j, none⟩) (ho x hx)).trans (hc j v hv)⟩
set_option maxRecDepth 100000 in
set_option maxHeartbeats 2000000 in
theorem fork_any (w : World) : Calls Try.prog 73 #[] w (ForkPost w) := by
  go_enter Try.func73, Try.ntmps73
  go_wp2_with fail
  refine (flat_any 0 _).mono ?_
  rintro e w1 ⟨a, rfl, hb, hga, hr⟩
  have HB1 := Lib.hid (show Below w.heap.size w w1 from step_below hb (by repeat' (first | exact Below.refl _ _ | exact HB0.out | refine below_drewN ?_ _ | refine Below.drew ?_ | refine Below.alloc ?_ (by first | omega | (simp; done) | (simp; omega) | (simp [World.setCell]; omega)) _ | refine Below.setCell ?_ (by first | omega | (simp; done) | (simp; omega)) _ | assumption)))
  have K0_1 := Lib.hid (step_blk hb (show Blk _ (w.heap.size) 42 #[.int .i64 (0), .int .i64 (0), .int .i64 (0), .int .i64 (0), .int .i64 (0), .slice none 0 0, .slice none 0 0] by repeat' (first | exact Blk.at_ _ (by first | rfl | (simp; done) | (simp; omega)) _ _ | refine Blk.drewN ?_ _ | refine Blk.drew ?_ | refine Blk.alloc ?_ _ | refine Blk.far ?_ (by first | omega | (simp; done) | (simp; omega)) _ | assumption)))
  have hz1 := hb.size
  try simp only [World.size_alloc, World.drewN, World.drew] at hz1
  clear hb
  have l0_1 : w.heap.size < w1.heap.size := K0_1.out.lt
  have z0_0_1 : w1.cell? ⟨w.heap.size, 0, none⟩ = some (.int .i64 (0)) := K0_1.out.cell 0
  have z0_1_1 : w1.cell? ⟨w.heap.size, 1, none⟩ = some (.int .i64 (0)) := K0_1.out.cell 1
  have z0_2_1 : w1.cell? ⟨w.heap.size, 2, none⟩ = some (.int .i64 (0)) := K0_1.out.cell 2
  have z0_3_1 : w1.cell? ⟨w.heap.size, 3, none⟩ = some (.int .i64 (0)) := K0_1.out.cell 3
  have z0_4_1 : w1.cell? ⟨w.heap.size, 4, none⟩ = some (.int .i64 (0)) := K0_1.out.cell 4
  have z0_5_1 : w1.cell? ⟨w.heap.size, 5, none⟩ = some (.slice none 0 0) := K0_1.out.cell 5
  have z0_6_1 : w1.cell? ⟨w.heap.size, 6, none⟩ = some (.slice none 0 0) := K0_1.out.cell 6
  simp only [World.size_alloc] at hga
  have R0_1 := Lib.hid hr
  clear hr
  go_wp2_with fail
  refine (flat_any 0 _).mono ?_
  rintro e w2 ⟨b, rfl, hb, hgb, hr⟩
  have HB2 := Lib.hid (show Below w.heap.size w w2 from step_below hb (by repeat' (first | exact Below.refl _ _ | exact HB1.out | refine below_drewN ?_ _ | refine Below.drew ?_ | refine Below.alloc ?_ (by first | omega | (simp; done) | (simp; omega) | (simp [World.setCell]; omega)) _ | refine Below.setCell ?_ (by first | omega | (simp; done) | (simp; omega)) _ | assumption)))
  have K0_2 := Lib.hid (step_blk hb (show Blk _ (w.heap.size) 42 #[.int .i64 (0), .int .i64 (0), .int .i64 (0), .int .i64 (0), .int .i64 (0), .slice none 0 0, .slice none 0 0] by repeat' (first | exact K0_1.out | exact Blk.at_ _ (by first | rfl | (simp; done) | (simp; omega)) _ _ | refine Blk.drewN ?_ _ | refine Blk.drew ?_ | refine Blk.alloc ?_ _ | refine Blk.far ?_ (by first | omega | (simp; done) | (simp; omega)) _ | assumption)))
  have hL2 := Lib.hid (show Below w1.heap.size w1 _ from reads_mid hb (by repeat' (first | exact Below.refl _ _ | refine below_drewN ?_ _ | refine Below.drew ?_ | refine Below.alloc ?_ (by first | omega | (simp; done) | (simp; omega) | (simp [World.setCell]; omega)) _ | refine Below.setCell ?_ (by first | omega | (simp; done) | (simp; omega)) _)))
  have R0_2 := Lib.hid (reads_lay hb hL2.out R0_1.out)
  clear hL2 R0_1
  have hz2 := hb.size
  try simp only [World.size_alloc, World.drewN, World.drew] at hz2
  clear hb K0_1 z0_0_1 z0_1_1 z0_2_1 z0_3_1 z0_4_1 z0_5_1 z0_6_1 l0_1
  have l0_2 : w.heap.size < w2.heap.size := K0_2.out.lt
  have z0_0_2 : w2.cell? ⟨w.heap.size, 0, none⟩ = some (.int .i64 (0)) := K0_2.out.cell 0
  have z0_1_2 : w2.cell? ⟨w.heap.size, 1, none⟩ = some (.int .i64 (0)) := K0_2.out.cell 1
  have z0_2_2 : w2.cell? ⟨w.heap.size, 2, none⟩ = some (.int .i64 (0)) := K0_2.out.cell 2
  have z0_3_2 : w2.cell? ⟨w.heap.size, 3, none⟩ = some (.int .i64 (0)) := K0_2.out.cell 3
  have z0_4_2 : w2.cell? ⟨w.heap.size, 4, none⟩ = some (.int .i64 (0)) := K0_2.out.cell 4
  have z0_5_2 : w2.cell? ⟨w.heap.size, 5, none⟩ = some (.slice none 0 0) := K0_2.out.cell 5
  have z0_6_2 : w2.cell? ⟨w.heap.size, 6, none⟩ = some (.slice none 0 0) := K0_2.out.cell 6
  have R1_2 := Lib.hid hr
  clear hr
  have zf0_0 := K0_2.out.frozen 0
  have zf0_1 := K0_2.out.frozen 1
  have zf0_2 := K0_2.out.frozen 2
  have zf0_3 := K0_2.out.frozen 3
  have zf0_4 := K0_2.out.frozen 4
  have zf0_5 := K0_2.out.frozen 5
  have zf0_6 := K0_2.out.frozen 6
  go_wp2
  generalize hwq : World.setCell _ _ _ = wq
  have hq : Blk wq w.heap.size 42 #[.int .i64 (-700000), .int .i64 1300000, .int .i64 0, .int .i64 324000, .int .i64 100000, .slice (some ⟨a, 0, none⟩) 1 1, .slice (some ⟨b, 0, none⟩) 1 1] := by
    rw [← hwq]
    have := (((((((K0_2.out.set_ 0 (.int .i64 (-700000))).set_ 1 (.int .i64 1300000)).set_ 2 (.int .i64 0)).set_ 3 (.int .i64 324000)).set_ 4 (.int .i64 100000)).set_ 5 (.slice (some ⟨a, 0, none⟩) 1 1)).set_ 6 (.slice (some ⟨b, 0, none⟩) 1 1))
    simpa only [List.setIfInBounds_toArray, List.set_cons_zero, List.set_cons_succ] using this
  have hbq : Below w.heap.size w wq := by rw [← hwq]; exact (Below.setCell (Below.setCell (Below.setCell (Below.setCell (Below.setCell (Below.setCell (Below.setCell HB2.out (p := ⟨w.heap.size, 0, none⟩) (Nat.le_refl _) _) (p := ⟨w.heap.size, 1, none⟩) (Nat.le_refl _) _) (p := ⟨w.heap.size, 2, none⟩) (Nat.le_refl _) _) (p := ⟨w.heap.size, 3, none⟩) (Nat.le_refl _) _) (p := ⟨w.heap.size, 4, none⟩) (Nat.le_refl _) _) (p := ⟨w.heap.size, 5, none⟩) (Nat.le_refl _) _) (p := ⟨w.heap.size, 6, none⟩) (Nat.le_refl _) _)
  have ho : ∀ q, q ≠ w.heap.size → wq.heap[q]? = w2.heap[q]? := fun q hne => by
    rw [← hwq]
    iterate 7 (refine (Below.heap_setCell _ _ _ _ (by simpa using hne)).trans ?_)
    rfl
  have hsz : wq.heap.size = w2.heap.size := by rw [← hwq]; simp [World.setCell]
  clear hwq
  have hr1 := Reads.other R0_2.out ho hsz (by omega)
  have hr2 := Reads.other R1_2.out ho hsz (by omega)
  have q0 := hq.cell 0
  have q1 := hq.cell 1
  have q2 := hq.cell 2
  have q3 := hq.cell 3
  have q4 := hq.cell 4
  have q5 := hq.cell 5
  have q6 := hq.cell 6
  have ql := hq.lt
  refine bodyPost_ret (v := .agg #[.int .i64 (-700000), .int .i64 1300000, .int .i64 0, .int .i64 324000, .int .i64 100000, .slice (some ⟨a, 0, none⟩) 1 1, .slice (some ⟨b, 0, none⟩) 1 1]) ?_ rfl ?_
  · simp [results, Try.results73, go_sem, q0, q1, q2, q3, q4, q5, q6, ql]
  · exact ⟨a, b, rfl, hbq, hr1, hr2⟩

def nightL : List Tgt := [⟨⟨#[97]⟩, 600000, 0, 0, 1000, 5⟩, ⟨⟨#[98]⟩, 1200000, 0, 0, 1000, 5⟩, ⟨⟨#[99]⟩, 500000, 0, 0, 1000, 5⟩]
theorem night_any (w : World) : Calls Try.prog 74 #[] w (NewAt 6 3 (tgtCells nightL) w) := by
  go_enter Try.func74, Try.ntmps74
  go_wp2
  go_ret
  exact ⟨w.heap.size, rfl, by repeat' (first | exact Below.refl _ _ | refine below_drewN ?_ _ | refine Below.drew ?_ | refine Below.alloc ?_ (by first | omega | (simp; done) | (simp; omega) | (simp [World.setCell]; omega)) _ | refine Below.setCell ?_ (by first | omega | (simp; done) | (simp; omega)) _), Nat.le_refl _, Blk.reads (Blk.at_ _ rfl _ _) (by rfl)⟩
theorem night_fits : ∀ t ∈ nightL, t.name.size ≤ maxLen := by
  intro t ht
  simp only [nightL, List.mem_cons, List.not_mem_nil, or_false] at ht
  rcases ht with rfl | rfl | rfl <;> decide

def star3 (x y z : Nat) : List Star := [⟨some ⟨x, 0, none⟩, 2, 2, [1, 0], 1⟩, ⟨some ⟨y, 0, none⟩, 2, 2, [1, 1], 2⟩, ⟨some ⟨z, 0, none⟩, 2, 2, [1, 2], 4⟩]
theorem star3_fit (x y z : Nat) : fitF (star3 x y z) = (([5, 9], 6), 0) := by kernel_rfl
theorem star3_ok (x y z : Nat) : (starsF (star3 x y z)).2 = 0 := by kernel_rfl
theorem awake_tour (a b : Nat) : (tourF (forkM a b) nightL 0 0).2 = 0 := by kernel_rfl
theorem awake_choice (a b : Nat) : choiceF (forkM a b) nightL 0 0 [0, -1, 0] = (10001892000, 0) := of_decide_eq_true (by kernel_rfl)
theorem awake_tab : tabAt [(0, 10), (100, 0)] 35 = 6 := by kernel_rfl
theorem awake_taberr : tabErr [(0, 10), (100, 0)] = 0 := by kernel_rfl

def AwFit (w : World) (e : Ending) (w' : World) : Prop := ∃ A c, e = .returned (.tuple #[.agg #[.slice A 2 c, .int .i64 6], .int .i64 0]) ∧ Below w.heap.size w w' ∧ Reads w' w'.heap.size 1 A 2 (([5, 9] : List Int).map (.int .i64))
theorem awake_fit (x y z : Nat) (A : Option Addr) (c : Nat) (w : World) (hx : StarsAt (star3 x y z) A 3 w) : Calls Try.prog 61 #[.slice A 3 c] w (AwFit w) :=
  (pfit_any (star3 x y z) A 3 c (star3_ok x y z) w hx).mono fun e w' ⟨A', c', he, hb, hr, _⟩ => by
    rw [star3_fit] at he hr
    exact ⟨A', c', he, hb, hr⟩
theorem stars3_at {w : World} {g0 g1 g2 g3 : Nat} {t u : TypeId} (h0 : Blk w g0 t #[.int .i64 1, .int .i64 0]) (h1 : Blk w g1 t #[.int .i64 1, .int .i64 1]) (h2 : Blk w g2 t #[.int .i64 1, .int .i64 2])
    (h3 : Blk w g3 u #[.slice (some ⟨g0, 0, none⟩) 2 2, .int .i64 1, .slice (some ⟨g1, 0, none⟩) 2 2, .int .i64 2, .slice (some ⟨g2, 0, none⟩) 2 2, .int .i64 4]) : StarsAt (star3 g0 g1 g2) (some ⟨g3, 0, none⟩) 3 w := by
  refine ⟨Blk.reads h3 (by kernel_rfl), fun s hs => ?_⟩
  simp only [star3, List.mem_cons, List.not_mem_nil, or_false] at hs
  rcases hs with rfl | rfl | rfl
  · exact ⟨⟨Nat.le_refl 2, by show 2 ≤ _; omega⟩, Blk.reads h0 (by rfl)⟩
  · exact ⟨⟨Nat.le_refl 2, by show 2 ≤ _; omega⟩, Blk.reads h1 (by rfl)⟩
  · exact ⟨⟨Nat.le_refl 2, by show 2 ≤ _; omega⟩, Blk.reads h2 (by rfl)⟩

end Go.Proofs.Ytgamepmipoociaa

end

section
/- The examples with which each statement begins are so: the walk. -/
namespace Go.Proofs.Ytgamepmipoociaa
open Go Go.RowKit

set_option maxRecDepth 100000 in
set_option maxHeartbeats 2000000 in
theorem awakept_any (w : World) : Calls Try.prog 15 #[] w fun e w' => e = .returned (.bool true) ∧ Below w.heap.size w w' := by
  go_enter Try.func15, Try.ntmps15
  go_wp2_with fail
  refine (awake_fit (w.heap.size) (w.heap.size + 1) (w.heap.size + 1 + 1) _ _ _ (stars3_at (t := 3) (u := 121) (by repeat' (first | assumption | exact Blk.at_ _ (by first | rfl | (simp; done) | (simp; omega)) _ _ | refine Blk.drewN ?_ _ | refine Blk.drew ?_ | refine Blk.alloc ?_ _ | refine Blk.far ?_ (by first | omega | (simp; done) | (simp; omega)) _)) (by repeat' (first | assumption | exact Blk.at_ _ (by first | rfl | (simp; done) | (simp; omega)) _ _ | refine Blk.drewN ?_ _ | refine Blk.drew ?_ | refine Blk.alloc ?_ _ | refine Blk.far ?_ (by first | omega | (simp; done) | (simp; omega)) _)) (by repeat' (first | assumption | exact Blk.at_ _ (by first | rfl | (simp; done) | (simp; omega)) _ _ | refine Blk.drewN ?_ _ | refine Blk.drew ?_ | refine Blk.alloc ?_ _ | refine Blk.far ?_ (by first | omega | (simp; done) | (simp; omega)) _)) (by repeat' (first | assumption | exact Blk.at_ _ (by first | rfl | (simp; done) | (simp; omega)) _ _ | refine Blk.drewN ?_ _ | refine Blk.drew ?_ | refine Blk.alloc ?_ _ | refine Blk.far ?_ (by first | omega | (simp; done) | (simp; omega)) _)))).mono ?_
  rintro e w1 ⟨A, c, rfl, hb, hr⟩
  have HB1 := Lib.hid (show Below w.heap.size w w1 from step_below hb (by repeat' (first | exact Below.refl _ _ | exact HB0.out | refine below_drewN ?_ _ | refine Below.drew ?_ | refine Below.alloc ?_ (by first | omega | (simp; done) | (simp; omega) | (simp [World.setCell]; omega)) _ | refine Below.setCell ?_ (by first | omega | (simp; done) | (simp; omega)) _ | assumption)))
  have hz1 := hb.size
  try simp only [World.size_alloc, World.drewN, World.drew] at hz1
  clear hb
  have R0_1 := Lib.hid hr
  clear hr
  go_wp2_with fail
  refine (fork_any _).mono ?_
  rintro e w2 ⟨a, b, rfl, hb, hr1, hr2⟩
  have HB2 := Lib.hid (show Below w.heap.size w w2 from step_below hb (by repeat' (first | exact Below.refl _ _ | exact HB1.out | refine below_drewN ?_ _ | refine Below.drew ?_ | refine Below.alloc ?_ (by first | omega | (simp; done) | (simp; omega) | (simp [World.setCell]; omega)) _ | refine Below.setCell ?_ (by first | omega | (simp; done) | (simp; omega)) _ | assumption)))
  have K0_2 := Lib.hid (step_blk hb (show Blk _ (w1.heap.size) 102 #[.slice A 2 c, .int .i64 (6)] by repeat' (first | exact Blk.at_ _ (by first | rfl | (simp; done) | (simp; omega)) _ _ | refine Blk.drewN ?_ _ | refine Blk.drew ?_ | refine Blk.alloc ?_ _ | refine Blk.far ?_ (by first | omega | (simp; done) | (simp; omega)) _ | assumption)))
  have hL2 := Lib.hid (show Below w1.heap.size w1 _ from reads_mid hb (by repeat' (first | exact Below.refl _ _ | refine below_drewN ?_ _ | refine Below.drew ?_ | refine Below.alloc ?_ (by first | omega | (simp; done) | (simp; omega) | (simp [World.setCell]; omega)) _ | refine Below.setCell ?_ (by first | omega | (simp; done) | (simp; omega)) _)))
  have R0_2 := Lib.hid (reads_lay hb hL2.out R0_1.out)
  clear hL2 R0_1
  have hz2 := hb.size
  try simp only [World.size_alloc, World.drewN, World.drew] at hz2
  clear hb
  have l0_2 : w1.heap.size < w2.heap.size := K0_2.out.lt
  have z0_0_2 : w2.cell? ⟨w1.heap.size, 0, none⟩ = some (.slice A 2 c) := K0_2.out.cell 0
  have z0_1_2 : w2.cell? ⟨w1.heap.size, 1, none⟩ = some (.int .i64 (6)) := K0_2.out.cell 1
  have R1_2 := Lib.hid hr1
  clear hr1
  have R2_2 := Lib.hid hr2
  clear hr2
  go_wp2_with fail
  refine (night_any _).mono ?_
  rintro e w3 ⟨g, rfl, hb, -, hr3⟩
  have HB3 := Lib.hid (show Below w.heap.size w w3 from step_below hb (by repeat' (first | exact Below.refl _ _ | exact HB2.out | refine below_drewN ?_ _ | refine Below.drew ?_ | refine Below.alloc ?_ (by first | omega | (simp; done) | (simp; omega) | (simp [World.setCell]; omega)) _ | refine Below.setCell ?_ (by first | omega | (simp; done) | (simp; omega)) _ | assumption)))
  have K0_3 := Lib.hid (step_blk hb (show Blk _ (w1.heap.size) 102 #[.slice A 2 c, .int .i64 (6)] by repeat' (first | exact K0_2.out | exact Blk.at_ _ (by first | rfl | (simp; done) | (simp; omega)) _ _ | refine Blk.drewN ?_ _ | refine Blk.drew ?_ | refine Blk.alloc ?_ _ | refine Blk.far ?_ (by first | omega | (simp; done) | (simp; omega)) _ | assumption)))
  have hL3 := Lib.hid (show Below w2.heap.size w2 _ from reads_mid hb (by repeat' (first | exact Below.refl _ _ | refine below_drewN ?_ _ | refine Below.drew ?_ | refine Below.alloc ?_ (by first | omega | (simp; done) | (simp; omega) | (simp [World.setCell]; omega)) _ | refine Below.setCell ?_ (by first | omega | (simp; done) | (simp; omega)) _)))
  have R0_3 := Lib.hid (reads_lay hb hL3.out R0_2.out)
  have R1_3 := Lib.hid (reads_lay hb hL3.out R1_2.out)
  have R2_3 := Lib.hid (reads_lay hb hL3.out R2_2.out)
  clear hL3 R0_2 R1_2 R2_2
  have hz3 := hb.size
  try simp only [World.size_alloc, World.drewN, World.drew] at hz3
  clear hb K0_2 z0_0_2 z0_1_2 l0_2
  have l0_3 : w1.heap.size < w3.heap.size := K0_3.out.lt
  have z0_0_3 : w3.cell? ⟨w1.heap.size, 0, none⟩ = some (.slice A 2 c) := K0_3.out.cell 0
  have z0_1_3 : w3.cell? ⟨w1.heap.size, 1, none⟩ = some (.int .i64 (6)) := K0_3.out.cell 1
  have R3_3 := Lib.hid hr3
  clear hr3
  go_wp2_with fail
  refine (pchoice_is (forkM a b) 0 0 nightL (some ⟨g, 0, none⟩) 3 3 (some ⟨w3.heap.size, 0, none⟩) 3 3 [0, -1, 0] 10001892000 0 (awake_choice a b) _ ⟨(R1_3.out.alloc (Nat.le_refl _) _).more (by simp), (R2_3.out.alloc (Nat.le_refl _) _).more (by simp), (by show 1 ≤ _; omega), (by show 1 ≤ _; omega)⟩ ((R3_3.out.alloc (Nat.le_refl _) _).more (by simp)) ⟨Nat.le_refl 3, by omega⟩ night_fits (Blk.reads (Blk.at_ _ rfl _ _) (by rfl)) ⟨Nat.le_refl 3, by omega⟩ (awake_tour a b)).mono ?_
  rintro e w4 ⟨rfl, hb⟩
  have HB4 := Lib.hid (show Below w.heap.size w w4 from step_below hb (by repeat' (first | exact Below.refl _ _ | exact HB3.out | refine below_drewN ?_ _ | refine Below.drew ?_ | refine Below.alloc ?_ (by first | omega | (simp; done) | (simp; omega) | (simp [World.setCell]; omega)) _ | refine Below.setCell ?_ (by first | omega | (simp; done) | (simp; omega)) _ | assumption)))
  have K0_4 := Lib.hid (step_blk hb (show Blk _ (w1.heap.size) 102 #[.slice A 2 c, .int .i64 (6)] by repeat' (first | exact K0_3.out | exact Blk.at_ _ (by first | rfl | (simp; done) | (simp; omega)) _ _ | refine Blk.drewN ?_ _ | refine Blk.drew ?_ | refine Blk.alloc ?_ _ | refine Blk.far ?_ (by first | omega | (simp; done) | (simp; omega)) _ | assumption)))
  have hL4 := Lib.hid (show Below w3.heap.size w3 _ from reads_mid hb (by repeat' (first | exact Below.refl _ _ | refine below_drewN ?_ _ | refine Below.drew ?_ | refine Below.alloc ?_ (by first | omega | (simp; done) | (simp; omega) | (simp [World.setCell]; omega)) _ | refine Below.setCell ?_ (by first | omega | (simp; done) | (simp; omega)) _)))
  have R0_4 := Lib.hid (reads_lay hb hL4.out R0_3.out)
  have R1_4 := Lib.hid (reads_lay hb hL4.out R1_3.out)
  have R2_4 := Lib.hid (reads_lay hb hL4.out R2_3.out)
  have R3_4 := Lib.hid (reads_lay hb hL4.out R3_3.out)
  clear hL4 R0_3 R1_3 R2_3 R3_3
  have hz4 := hb.size
  try simp only [World.size_alloc, World.drewN, World.drew] at hz4
  clear hb K0_3 z0_0_3 z0_1_3 l0_3
  have l0_4 : w1.heap.size < w4.heap.size := K0_4.out.lt
  have z0_0_4 : w4.cell? ⟨w1.heap.size, 0, none⟩ = some (.slice A 2 c) := K0_4.out.cell 0
  have z0_1_4 : w4.cell? ⟨w1.heap.size, 1, none⟩ = some (.int .i64 (6)) := K0_4.out.cell 1
  go_wp2_with fail
  refine (pTable_ok (some ⟨w4.heap.size, 0, none⟩) 2 2 [(0, 10), (100, 0)] 35 6 awake_taberr (by kernel_rfl) awake_tab _ (Blk.reads (Blk.at_ _ rfl _ _) (by rfl)) (by omega)).mono ?_
  rintro e w5 ⟨rfl, hb⟩
  have HB5 := Lib.hid (show Below w.heap.size w w5 from step_below hb (by repeat' (first | exact Below.refl _ _ | exact HB4.out | refine below_drewN ?_ _ | refine Below.drew ?_ | refine Below.alloc ?_ (by first | omega | (simp; done) | (simp; omega) | (simp [World.setCell]; omega)) _ | refine Below.setCell ?_ (by first | omega | (simp; done) | (simp; omega)) _ | assumption)))
  have K0_5 := Lib.hid (step_blk hb (show Blk _ (w1.heap.size) 102 #[.slice A 2 c, .int .i64 (6)] by repeat' (first | exact K0_4.out | exact Blk.at_ _ (by first | rfl | (simp; done) | (simp; omega)) _ _ | refine Blk.drewN ?_ _ | refine Blk.drew ?_ | refine Blk.alloc ?_ _ | refine Blk.far ?_ (by first | omega | (simp; done) | (simp; omega)) _ | assumption)))
  have hL5 := Lib.hid (show Below w4.heap.size w4 _ from reads_mid hb (by repeat' (first | exact Below.refl _ _ | refine below_drewN ?_ _ | refine Below.drew ?_ | refine Below.alloc ?_ (by first | omega | (simp; done) | (simp; omega) | (simp [World.setCell]; omega)) _ | refine Below.setCell ?_ (by first | omega | (simp; done) | (simp; omega)) _)))
  have R0_5 := Lib.hid (reads_lay hb hL5.out R0_4.out)
  have R1_5 := Lib.hid (reads_lay hb hL5.out R1_4.out)
  have R2_5 := Lib.hid (reads_lay hb hL5.out R2_4.out)
  have R3_5 := Lib.hid (reads_lay hb hL5.out R3_4.out)
  clear hL5 R0_4 R1_4 R2_4 R3_4
  have hz5 := hb.size
  try simp only [World.size_alloc, World.drewN, World.drew] at hz5
  clear hb K0_4 z0_0_4 z0_1_4 l0_4
  have l0_5 : w1.heap.size < w5.heap.size := K0_5.out.lt
  have z0_0_5 : w5.cell? ⟨w1.heap.size, 0, none⟩ = some (.slice A 2 c) := K0_5.out.cell 0
  have z0_1_5 : w5.cell? ⟨w1.heap.size, 1, none⟩ = some (.int .i64 (6)) := K0_5.out.cell 1
  go_wp2_with fail
  refine (ints_eqd A (some ⟨w5.heap.size, 0, none⟩) c 2 2 2 [5, 9] [5, 9] true (by decide) _ _ _ (R0_5.out.alloc (Nat.le_refl _) _) (Blk.reads (Blk.at_ _ rfl _ _) (by rfl)) (by omega) (by omega)).mono ?_
  rintro e w' ⟨rfl, q, rfl⟩
  go_wp2
  go_ret
  exact ⟨rfl, by repeat' (first | exact Below.refl _ _ | exact HB5.out | refine below_drewN ?_ _ | refine Below.drew ?_ | refine Below.alloc ?_ (by first | omega | (simp; done) | (simp; omega) | (simp [World.setCell]; omega)) _ | refine Below.setCell ?_ (by first | omega | (simp; done) | (simp; omega)) _ | assumption)⟩
end Go.Proofs.Ytgamepmipoociaa

end
