import Derived.Deep.CutRange
import Derived.Test.YtoiconebcmneiabQ9
import Derived.Test.YtoiconebcmneiabQ18
import Derived.Test.YtoiconebcmneiabQ19
import Derived.Test.YtoiconebcmneiabQ20
import Derived.Test.YtoiconebcmneiabQ21

section
/- The walk of the statement on the best gears. -/
namespace Go.Proofs.Ytoiconebcmneiab
open Go.RowKit

theorem stepR_pos {s : Int × Bool} {f : Int × Int} (h1 : 1 ≤ s.1) (h2 : 0 < f.2) : 1 ≤ (stepR s f).1 := by
  unfold stepR
  by_cases hs : s.2 = true
  · rw [if_pos hs]; exact h1
  · rw [if_neg hs]
    simp only
    have hg : 0 < Int.gcd s.1 f.2 := Int.gcd_pos_of_ne_zero_left _ (by omega)
    have p1 : 0 < s.1 / (Int.gcd s.1 f.2 : Int) := Int.ediv_pos_of_pos_of_dvd (by omega) (by omega) (Int.gcd_dvd_left s.1 f.2)
    exact Int.mul_pos p1 h2
theorem trainR_pos : ∀ (l : List (Int × Int)) (s : Int × Bool) (f : Int × Int), l.all okP = true → 1 ≤ s.1 → 0 < f.2 → 1 ≤ (trainF stepR s f l).1.1
  | [], s, f, _, h, _ => h
  | g :: l, s, f, hl, h1, h2 => by
    rw [List.all_cons, Bool.and_eq_true] at hl
    obtain ⟨p1, p2, p3, p4⟩ := okP_part hl.1
    unfold trainF
    by_cases hs : smallB (f.1 * g.1) (f.2 * g.2) = true
    · rw [if_pos hs]
      have hp : 0 < f.2 * g.2 := Int.mul_pos h2 (by omega)
      obtain ⟨-, m2⟩ := red_mul (a := f.1 * g.1) (b := f.2 * g.2) hp
      exact trainR_pos l _ _ hl.2 (stepR_pos h1 m2) m2
    · rw [if_neg hs]
      exact h1
theorem returns_pos {l : List (Int × Int)} {m : Int} (h : returnsF l = (m, 0)) : 1 ≤ m := by
  unfold returnsF at h
  split at h
  · rename_i h0; exact absurd (congrArg Prod.snd h) h0
  rename_i h0
  have h0' : trainErr l = 0 := by simpa using h0
  split at h
  · cases h
  have e := congrArg Prod.fst h
  simp only at e
  rw [← e]
  exact trainR_pos l _ _ (trainErr_ok h0').2 (stepR_pos (by decide) (by decide)) (by decide)

theorem gconvs_ok (n d : Int) (h : convErr n d = 0) (w : World) (h1 : -9223372036854775808 ≤ n) (h2 : n ≤ 9223372036854775807) (h3 : -9223372036854775808 ≤ d) (h4 : d ≤ 9223372036854775807) :
    Calls Try.prog 34 #[.agg #[.int .i64 n, .int .i64 d]] w fun e w' => ∃ A c, e = .returned (.tuple #[.slice A (convs n d).length c, .int .i64 0]) ∧ Below w.heap.size w w' ∧ Reads w' w'.heap.size 2 A (convs n d).length (cells2 (convs n d)) :=
  (convs_any n d w h1 h2 h3 h4).mono fun e w' ⟨hb, _, he⟩ => by
    obtain ⟨v, rfl, ho⟩ := he h
    obtain ⟨A, c, rfl, hr⟩ := own_reads ho
    exact ⟨A, c, rfl, hb, hr⟩
theorem gfracref_is (n d t : Int) (h : fracErr n d = t) (w : World) (h1 : -9223372036854775808 ≤ n) (h2 : n ≤ 9223372036854775807) (h3 : -9223372036854775808 ≤ d) (h4 : d ≤ 9223372036854775807) :
    Calls Try.prog 33 #[.agg #[.int .i64 n, .int .i64 d]] w fun e w' => e = .returned (.int .i64 t) ∧ Below w.heap.size w w' := h ▸ checkfracref_any n d w h1 h2 h3 h4

theorem greturns_is (A : Option Addr) (n c N : Nat) (l : List (Int × Int)) (t g : Int) (h : returnsF l = (t, g)) (w : World) (hx : Reads w N 2 A n (cells2 l)) (hN : N ≤ w.heap.size) (hn : n ≤ 9223372036854775807) :
    Calls Try.prog 32 #[.slice A n c] w fun e w' => e = .returned (.tuple #[.int .i64 t, .int .i64 g]) ∧ Below w.heap.size w w' :=
  (returns_any A n c N l w hx hN hn).mono fun e w' ⟨he, hb⟩ => ⟨by rw [he, h], hb⟩
theorem ratio_fok {l : List (Int × Int)} {x y : Int} (h : ratioF l = ((x, y), 0)) : FOk (x, y) := by
  obtain ⟨h0, q1, q2⟩ := ratio_part h
  obtain ⟨e1, e2⟩ := ratio_raw h
  have hp := (rawF_pos l (1, 1) (by decide) (by decide) (trainErr_ok h0).2).2
  have hg : Int.gcd x y = 1 := by
    rw [e1, e2]
    exact Int.gcd_ediv_gcd_ediv_gcd (Int.gcd_pos_of_ne_zero_right _ (by omega))
  obtain ⟨x1, x2⟩ := q1
  obtain ⟨y1, y2⟩ := q2
  unfold FOk fracErr
  simp only
  rw [if_neg (by omega), if_neg (by omega)]
theorem ratio_mul {a b : List (Int × Int)} {x1 y1 x2 y2 x3 y3 : Int} (ha : ratioF a = ((x1, y1), 0)) (hb : ratioF b = ((x2, y2), 0)) (hab : ratioF (a ++ b) = ((x3, y3), 0)) : mulF (x1, y1) (x2, y2) = some (x3, y3) := by
  obtain ⟨h1, h2, h3⟩ := ratio_join ha hb hab
  unfold mulF opF
  simp only
  rw [if_pos h3, h1, h2]

theorem join_pairs (w : World) (N : Nat) (A : Option Addr) (n c : Nat) (xs : List (Int × Int)) (hr : Reads w N 2 A n (cells2 xs)) (hN : N ≤ w.heap.size) (B : Option Addr) (m cb : Nat) (ys : List (Int × Int)) (hy : Reads w N 2 B m (cells2 ys)) (hn : n ≤ 4) (hm : m ≤ 4) (g : Nat) (hg : g = w.heap.size) :
    ∃ v1 W1 A' c' W2, (Builtin.append_ #[64, 64] 64 #[.slice (some ⟨g, 0, none⟩) 0 0, .slice A n c]).run Try.prog (w.alloc (.cells #[] 74)) = .ok v1 W1 ∧
      (Builtin.append_ #[64, 64] 64 #[v1, .slice B m cb]).run Try.prog W1 = .ok (.slice A' (n + m) c') W2 ∧ Reads W2 W2.heap.size 2 A' (n + m) (cells2 (xs ++ ys)) ∧ Below w.heap.size w W2 := by
  subst hg
  obtain ⟨v1, W1, v2, W2, h1, h2, ho, hb⟩ := join_run (P := Try.prog) 64 64 74 _ 2 16 Try.underlying64 info_pair rfl (by omega) w N A n c (cells2 xs) hr hN (one_cells2 xs) B m cb (cells2 ys) hy (one_cells2 ys) (by unfold maxLen; omega) (by omega)
  obtain ⟨A', c', rfl, hr'⟩ := own_reads ho
  refine ⟨v1, W1, A', c', W2, h1, h2, ?_, hb⟩
  unfold cells2 at *
  rw [List.flatMap_append]
  exact hr'

set_option maxRecDepth 100000 in
set_option maxHeartbeats 4000000 in
theorem lawG_any (n d : Int) (A : Option Addr) (n1 c1 : Nat) (l1 : List (Int × Int)) (B : Option Addr) (n2 c2 : Nat) (l2 : List (Int × Int)) (w : World)
    (h1 : -9223372036854775808 ≤ n) (h2 : n ≤ 9223372036854775807) (h3 : -9223372036854775808 ≤ d) (h4 : d ≤ 9223372036854775807)
    (hnc1 : n1 ≤ c1 ∧ c1 ≤ 9223372036854775807) (hl1 : l1.length = n1) (hx : Reads w w.heap.size 2 A n1 (cells2 l1)) (hnc2 : n2 ≤ c2 ∧ c2 ≤ 9223372036854775807) (hl2 : l2.length = n2) (hy : Reads w w.heap.size 2 B n2 (cells2 l2)) :
    Calls Try.prog 6 #[.agg #[.int .i64 n, .int .i64 d], .slice A n1 c1, .slice B n2 c2] w fun e w' => e = .returned (.bool true) ∧ Below w.heap.size w w' := by
  obtain ⟨hnc1, hc1⟩ := hnc1
  obtain ⟨hnc2, hc2⟩ := hnc2
  by_cases hA : (4 : Int) < n1
  · go_enter Try.func6, Try.ntmps6
    go_wp2_with fail
    refine (topborne_any _).mono ?_
    rintro e w1 ⟨rfl, hb⟩
    have HB1 := Lib.hid (show Below w.heap.size w w1 from step_below hb (by repeat' (first | exact Below.refl _ _ | exact HB0.out | refine below_drewN ?_ _ | refine Below.drew ?_ | refine Below.alloc ?_ (by first | omega | (simp; done) | (simp; omega) | (simp [World.setCell]; omega)) _ | refine Below.setCell ?_ (by first | omega | (simp; done) | (simp; omega)) _ | assumption)))
    have K0_1 := Lib.hid (step_blk hb (show Blk _ (w.heap.size) 53 #[.int .i64 (n), .int .i64 (d)] by repeat' (first | exact Blk.at_ _ (by first | rfl | (simp; done) | (simp; omega)) _ _ | refine Blk.drewN ?_ _ | refine Blk.drew ?_ | refine Blk.alloc ?_ _ | refine Blk.far ?_ (by first | omega | (simp; done) | (simp; omega)) _ | assumption)))
    have hz1 := hb.size
    try simp only [World.size_alloc, World.drewN, World.drew] at hz1
    clear hb
    have l0_1 : w.heap.size < w1.heap.size := K0_1.out.lt
    have z0_0_1 : w1.cell? ⟨w.heap.size, 0, none⟩ = some (.int .i64 (n)) := K0_1.out.cell 0
    have z0_1_1 : w1.cell? ⟨w.heap.size, 1, none⟩ = some (.int .i64 (d)) := K0_1.out.cell 1
    go_wp2
    go_ret
    exact ⟨rfl, by repeat' (first | exact Below.refl _ _ | exact HB1.out | refine below_drewN ?_ _ | refine Below.drew ?_ | refine Below.alloc ?_ (by first | omega | (simp; done) | (simp; omega) | (simp [World.setCell]; omega)) _ | refine Below.setCell ?_ (by first | omega | (simp; done) | (simp; omega)) _ | assumption)⟩
  by_cases hB : (4 : Int) < n2
  · go_enter Try.func6, Try.ntmps6
    go_wp2_with fail
    refine (topborne_any _).mono ?_
    rintro e w1 ⟨rfl, hb⟩
    have HB1 := Lib.hid (show Below w.heap.size w w1 from step_below hb (by repeat' (first | exact Below.refl _ _ | exact HB0.out | refine below_drewN ?_ _ | refine Below.drew ?_ | refine Below.alloc ?_ (by first | omega | (simp; done) | (simp; omega) | (simp [World.setCell]; omega)) _ | refine Below.setCell ?_ (by first | omega | (simp; done) | (simp; omega)) _ | assumption)))
    have K0_1 := Lib.hid (step_blk hb (show Blk _ (w.heap.size) 53 #[.int .i64 (n), .int .i64 (d)] by repeat' (first | exact Blk.at_ _ (by first | rfl | (simp; done) | (simp; omega)) _ _ | refine Blk.drewN ?_ _ | refine Blk.drew ?_ | refine Blk.alloc ?_ _ | refine Blk.far ?_ (by first | omega | (simp; done) | (simp; omega)) _ | assumption)))
    have hz1 := hb.size
    try simp only [World.size_alloc, World.drewN, World.drew] at hz1
    clear hb
    have l0_1 : w.heap.size < w1.heap.size := K0_1.out.lt
    have z0_0_1 : w1.cell? ⟨w.heap.size, 0, none⟩ = some (.int .i64 (n)) := K0_1.out.cell 0
    have z0_1_1 : w1.cell? ⟨w.heap.size, 1, none⟩ = some (.int .i64 (d)) := K0_1.out.cell 1
    go_wp2
    go_ret
    exact ⟨rfl, by repeat' (first | exact Below.refl _ _ | exact HB1.out | refine below_drewN ?_ _ | refine Below.drew ?_ | refine Below.alloc ?_ (by first | omega | (simp; done) | (simp; omega) | (simp [World.setCell]; omega)) _ | refine Below.setCell ?_ (by first | omega | (simp; done) | (simp; omega)) _ | assumption)⟩
  obtain ⟨E1, hE1⟩ : ∃ E, trainErr l1 = E := ⟨_, rfl⟩
  obtain ⟨E2, hE2⟩ : ∃ E, trainErr l2 = E := ⟨_, rfl⟩
  have H1 := Lib.hid hE1
  have H2 := Lib.hid hE2
  clear hE1 hE2
  by_cases he1 : E1 = 0
  rotate_left
  · have e1 : (E1 != 0) = true := by simpa using he1
    go_enter Try.func6, Try.ntmps6
    have R0_0 := Lib.hid hx
    clear hx
    have R1_0 := Lib.hid hy
    clear hy
    go_wp2_with fail
    refine (topborne_any _).mono ?_
    rintro e w1 ⟨rfl, hb⟩
    have HB1 := Lib.hid (show Below w.heap.size w w1 from step_below hb (by repeat' (first | exact Below.refl _ _ | exact HB0.out | refine below_drewN ?_ _ | refine Below.drew ?_ | refine Below.alloc ?_ (by first | omega | (simp; done) | (simp; omega) | (simp [World.setCell]; omega)) _ | refine Below.setCell ?_ (by first | omega | (simp; done) | (simp; omega)) _ | assumption)))
    have K0_1 := Lib.hid (step_blk hb (show Blk _ (w.heap.size) 53 #[.int .i64 (n), .int .i64 (d)] by repeat' (first | exact Blk.at_ _ (by first | rfl | (simp; done) | (simp; omega)) _ _ | refine Blk.drewN ?_ _ | refine Blk.drew ?_ | refine Blk.alloc ?_ _ | refine Blk.far ?_ (by first | omega | (simp; done) | (simp; omega)) _ | assumption)))
    have hL1 := Lib.hid (show Below w.heap.size w _ from reads_mid hb (by repeat' (first | exact Below.refl _ _ | refine below_drewN ?_ _ | refine Below.drew ?_ | refine Below.alloc ?_ (by first | omega | (simp; done) | (simp; omega) | (simp [World.setCell]; omega)) _ | refine Below.setCell ?_ (by first | omega | (simp; done) | (simp; omega)) _)))
    have R0_1 := Lib.hid (reads_lay hb hL1.out R0_0.out)
    have R1_1 := Lib.hid (reads_lay hb hL1.out R1_0.out)
    clear hL1 R0_0 R1_0
    have hz1 := hb.size
    try simp only [World.size_alloc, World.drewN, World.drew] at hz1
    clear hb
    have l0_1 : w.heap.size < w1.heap.size := K0_1.out.lt
    have z0_0_1 : w1.cell? ⟨w.heap.size, 0, none⟩ = some (.int .i64 (n)) := K0_1.out.cell 0
    have z0_1_1 : w1.cell? ⟨w.heap.size, 1, none⟩ = some (.int .i64 (d)) := K0_1.out.cell 1
    go_wp2_with fail
    refine (rchecktrain_is A n1 c1 _ l1 E1 H1.out _ R0_1.out (Nat.le_refl _) (by omega)).mono ?_
    rintro e w2 ⟨rfl, hb⟩
    have HB2 := Lib.hid (show Below w.heap.size w w2 from step_below hb (by repeat' (first | exact Below.refl _ _ | exact HB1.out | refine below_drewN ?_ _ | refine Below.drew ?_ | refine Below.alloc ?_ (by first | omega | (simp; done) | (simp; omega) | (simp [World.setCell]; omega)) _ | refine Below.setCell ?_ (by first | omega | (simp; done) | (simp; omega)) _ | assumption)))
    have K0_2 := Lib.hid (step_blk hb (show Blk _ (w.heap.size) 53 #[.int .i64 (n), .int .i64 (d)] by repeat' (first | exact K0_1.out | exact Blk.at_ _ (by first | rfl | (simp; done) | (simp; omega)) _ _ | refine Blk.drewN ?_ _ | refine Blk.drew ?_ | refine Blk.alloc ?_ _ | refine Blk.far ?_ (by first | omega | (simp; done) | (simp; omega)) _ | assumption)))
    have hL2 := Lib.hid (show Below w1.heap.size w1 _ from reads_mid hb (by repeat' (first | exact Below.refl _ _ | refine below_drewN ?_ _ | refine Below.drew ?_ | refine Below.alloc ?_ (by first | omega | (simp; done) | (simp; omega) | (simp [World.setCell]; omega)) _ | refine Below.setCell ?_ (by first | omega | (simp; done) | (simp; omega)) _)))
    have R0_2 := Lib.hid (reads_lay hb hL2.out R0_1.out)
    have R1_2 := Lib.hid (reads_lay hb hL2.out R1_1.out)
    clear hL2 R0_1 R1_1
    have hz2 := hb.size
    try simp only [World.size_alloc, World.drewN, World.drew] at hz2
    clear hb K0_1 z0_0_1 z0_1_1 l0_1
    have l0_2 : w.heap.size < w2.heap.size := K0_2.out.lt
    have z0_0_2 : w2.cell? ⟨w.heap.size, 0, none⟩ = some (.int .i64 (n)) := K0_2.out.cell 0
    have z0_1_2 : w2.cell? ⟨w.heap.size, 1, none⟩ = some (.int .i64 (d)) := K0_2.out.cell 1
    go_wp2
    go_ret
    exact ⟨rfl, by repeat' (first | exact Below.refl _ _ | exact HB2.out | refine below_drewN ?_ _ | refine Below.drew ?_ | refine Below.alloc ?_ (by first | omega | (simp; done) | (simp; omega) | (simp [World.setCell]; omega)) _ | refine Below.setCell ?_ (by first | omega | (simp; done) | (simp; omega)) _ | assumption)⟩
  subst he1
  by_cases he2 : E2 = 0
  rotate_left
  · have e1 : (E2 != 0) = true := by simpa using he2
    go_enter Try.func6, Try.ntmps6
    have R0_0 := Lib.hid hx
    clear hx
    have R1_0 := Lib.hid hy
    clear hy
    go_wp2_with fail
    refine (topborne_any _).mono ?_
    rintro e w1 ⟨rfl, hb⟩
    have HB1 := Lib.hid (show Below w.heap.size w w1 from step_below hb (by repeat' (first | exact Below.refl _ _ | exact HB0.out | refine below_drewN ?_ _ | refine Below.drew ?_ | refine Below.alloc ?_ (by first | omega | (simp; done) | (simp; omega) | (simp [World.setCell]; omega)) _ | refine Below.setCell ?_ (by first | omega | (simp; done) | (simp; omega)) _ | assumption)))
    have K0_1 := Lib.hid (step_blk hb (show Blk _ (w.heap.size) 53 #[.int .i64 (n), .int .i64 (d)] by repeat' (first | exact Blk.at_ _ (by first | rfl | (simp; done) | (simp; omega)) _ _ | refine Blk.drewN ?_ _ | refine Blk.drew ?_ | refine Blk.alloc ?_ _ | refine Blk.far ?_ (by first | omega | (simp; done) | (simp; omega)) _ | assumption)))
    have hL1 := Lib.hid (show Below w.heap.size w _ from reads_mid hb (by repeat' (first | exact Below.refl _ _ | refine below_drewN ?_ _ | refine Below.drew ?_ | refine Below.alloc ?_ (by first | omega | (simp; done) | (simp; omega) | (simp [World.setCell]; omega)) _ | refine Below.setCell ?_ (by first | omega | (simp; done) | (simp; omega)) _)))
    have R0_1 := Lib.hid (reads_lay hb hL1.out R0_0.out)
    have R1_1 := Lib.hid (reads_lay hb hL1.out R1_0.out)
    clear hL1 R0_0 R1_0
    have hz1 := hb.size
    try simp only [World.size_alloc, World.drewN, World.drew] at hz1
    clear hb
    have l0_1 : w.heap.size < w1.heap.size := K0_1.out.lt
    have z0_0_1 : w1.cell? ⟨w.heap.size, 0, none⟩ = some (.int .i64 (n)) := K0_1.out.cell 0
    have z0_1_1 : w1.cell? ⟨w.heap.size, 1, none⟩ = some (.int .i64 (d)) := K0_1.out.cell 1
    go_wp2_with fail
    refine (rchecktrain_is A n1 c1 _ l1 0 H1.out _ R0_1.out (Nat.le_refl _) (by omega)).mono ?_
    rintro e w2 ⟨rfl, hb⟩
    have HB2 := Lib.hid (show Below w.heap.size w w2 from step_below hb (by repeat' (first | exact Below.refl _ _ | exact HB1.out | refine below_drewN ?_ _ | refine Below.drew ?_ | refine Below.alloc ?_ (by first | omega | (simp; done) | (simp; omega) | (simp [World.setCell]; omega)) _ | refine Below.setCell ?_ (by first | omega | (simp; done) | (simp; omega)) _ | assumption)))
    have K0_2 := Lib.hid (step_blk hb (show Blk _ (w.heap.size) 53 #[.int .i64 (n), .int .i64 (d)] by repeat' (first | exact K0_1.out | exact Blk.at_ _ (by first | rfl | (simp; done) | (simp; omega)) _ _ | refine Blk.drewN ?_ _ | refine Blk.drew ?_ | refine Blk.alloc ?_ _ | refine Blk.far ?_ (by first | omega | (simp; done) | (simp; omega)) _ | assumption)))
    have hL2 := Lib.hid (show Below w1.heap.size w1 _ from reads_mid hb (by repeat' (first | exact Below.refl _ _ | refine below_drewN ?_ _ | refine Below.drew ?_ | refine Below.alloc ?_ (by first | omega | (simp; done) | (simp; omega) | (simp [World.setCell]; omega)) _ | refine Below.setCell ?_ (by first | omega | (simp; done) | (simp; omega)) _)))
    have R0_2 := Lib.hid (reads_lay hb hL2.out R0_1.out)
    have R1_2 := Lib.hid (reads_lay hb hL2.out R1_1.out)
    clear hL2 R0_1 R1_1
    have hz2 := hb.size
    try simp only [World.size_alloc, World.drewN, World.drew] at hz2
    clear hb K0_1 z0_0_1 z0_1_1 l0_1
    have l0_2 : w.heap.size < w2.heap.size := K0_2.out.lt
    have z0_0_2 : w2.cell? ⟨w.heap.size, 0, none⟩ = some (.int .i64 (n)) := K0_2.out.cell 0
    have z0_1_2 : w2.cell? ⟨w.heap.size, 1, none⟩ = some (.int .i64 (d)) := K0_2.out.cell 1
    go_wp2_with fail
    refine (rchecktrain_is B n2 c2 _ l2 E2 H2.out _ R1_2.out (Nat.le_refl _) (by omega)).mono ?_
    rintro e w3 ⟨rfl, hb⟩
    have HB3 := Lib.hid (show Below w.heap.size w w3 from step_below hb (by repeat' (first | exact Below.refl _ _ | exact HB2.out | refine below_drewN ?_ _ | refine Below.drew ?_ | refine Below.alloc ?_ (by first | omega | (simp; done) | (simp; omega) | (simp [World.setCell]; omega)) _ | refine Below.setCell ?_ (by first | omega | (simp; done) | (simp; omega)) _ | assumption)))
    have K0_3 := Lib.hid (step_blk hb (show Blk _ (w.heap.size) 53 #[.int .i64 (n), .int .i64 (d)] by repeat' (first | exact K0_2.out | exact Blk.at_ _ (by first | rfl | (simp; done) | (simp; omega)) _ _ | refine Blk.drewN ?_ _ | refine Blk.drew ?_ | refine Blk.alloc ?_ _ | refine Blk.far ?_ (by first | omega | (simp; done) | (simp; omega)) _ | assumption)))
    have hL3 := Lib.hid (show Below w2.heap.size w2 _ from reads_mid hb (by repeat' (first | exact Below.refl _ _ | refine below_drewN ?_ _ | refine Below.drew ?_ | refine Below.alloc ?_ (by first | omega | (simp; done) | (simp; omega) | (simp [World.setCell]; omega)) _ | refine Below.setCell ?_ (by first | omega | (simp; done) | (simp; omega)) _)))
    have R0_3 := Lib.hid (reads_lay hb hL3.out R0_2.out)
    have R1_3 := Lib.hid (reads_lay hb hL3.out R1_2.out)
    clear hL3 R0_2 R1_2
    have hz3 := hb.size
    try simp only [World.size_alloc, World.drewN, World.drew] at hz3
    clear hb K0_2 z0_0_2 z0_1_2 l0_2
    have l0_3 : w.heap.size < w3.heap.size := K0_3.out.lt
    have z0_0_3 : w3.cell? ⟨w.heap.size, 0, none⟩ = some (.int .i64 (n)) := K0_3.out.cell 0
    have z0_1_3 : w3.cell? ⟨w.heap.size, 1, none⟩ = some (.int .i64 (d)) := K0_3.out.cell 1
    go_wp2
    go_ret
    exact ⟨rfl, by repeat' (first | exact Below.refl _ _ | exact HB3.out | refine below_drewN ?_ _ | refine Below.drew ?_ | refine Below.alloc ?_ (by first | omega | (simp; done) | (simp; omega) | (simp [World.setCell]; omega)) _ | refine Below.setCell ?_ (by first | omega | (simp; done) | (simp; omega)) _ | assumption)⟩
  subst he2
  obtain ⟨Q1, hQ1⟩ : ∃ R, ratioF l1 = R := ⟨_, rfl⟩
  obtain ⟨Q2, hQ2⟩ : ∃ R, ratioF l2 = R := ⟨_, rfl⟩
  obtain ⟨Q3, hQ3⟩ : ∃ R, ratioF (l1 ++ l2) = R := ⟨_, rfl⟩
  obtain ⟨⟨x1, y1⟩, e1⟩ := Q1
  obtain ⟨⟨x2, y2⟩, e2⟩ := Q2
  obtain ⟨⟨x3, y3⟩, e3⟩ := Q3
  have HQ1 := Lib.hid hQ1
  have HQ2 := Lib.hid hQ2
  have HQ3 := Lib.hid hQ3
  have HL1 := Lib.hid hl1
  have HL2 := Lib.hid hl2
  have hn1 : n1 ≤ 4 := by omega
  have hn2 : n2 ≤ 4 := by omega
  clear hQ1 hQ2 hQ3 hl1 hl2 hA hB
  go_enter Try.func6, Try.ntmps6
  have R0_0 := Lib.hid hx
  clear hx
  have R1_0 := Lib.hid hy
  clear hy
  go_wp2_with fail
  refine (topborne_any _).mono ?_
  rintro e w1 ⟨rfl, hb⟩
  have HB1 := Lib.hid (show Below w.heap.size w w1 from step_below hb (by repeat' (first | exact Below.refl _ _ | exact HB0.out | refine below_drewN ?_ _ | refine Below.drew ?_ | refine Below.alloc ?_ (by first | omega | (simp; done) | (simp; omega) | (simp [World.setCell]; omega)) _ | refine Below.setCell ?_ (by first | omega | (simp; done) | (simp; omega)) _ | assumption)))
  have K0_1 := Lib.hid (step_blk hb (show Blk _ (w.heap.size) 53 #[.int .i64 (n), .int .i64 (d)] by repeat' (first | exact Blk.at_ _ (by first | rfl | (simp; done) | (simp; omega)) _ _ | refine Blk.drewN ?_ _ | refine Blk.drew ?_ | refine Blk.alloc ?_ _ | refine Blk.far ?_ (by first | omega | (simp; done) | (simp; omega)) _ | assumption)))
  have hL1 := Lib.hid (show Below w.heap.size w _ from reads_mid hb (by repeat' (first | exact Below.refl _ _ | refine below_drewN ?_ _ | refine Below.drew ?_ | refine Below.alloc ?_ (by first | omega | (simp; done) | (simp; omega) | (simp [World.setCell]; omega)) _ | refine Below.setCell ?_ (by first | omega | (simp; done) | (simp; omega)) _)))
  have R0_1 := Lib.hid (reads_lay hb hL1.out R0_0.out)
  have R1_1 := Lib.hid (reads_lay hb hL1.out R1_0.out)
  clear hL1 R0_0 R1_0
  have hz1 := hb.size
  try simp only [World.size_alloc, World.drewN, World.drew] at hz1
  clear hb
  have l0_1 : w.heap.size < w1.heap.size := K0_1.out.lt
  have z0_0_1 : w1.cell? ⟨w.heap.size, 0, none⟩ = some (.int .i64 (n)) := K0_1.out.cell 0
  have z0_1_1 : w1.cell? ⟨w.heap.size, 1, none⟩ = some (.int .i64 (d)) := K0_1.out.cell 1
  go_wp2_with fail
  refine (rchecktrain_is A n1 c1 _ l1 0 H1.out _ R0_1.out (Nat.le_refl _) (by omega)).mono ?_
  rintro e w2 ⟨rfl, hb⟩
  have HB2 := Lib.hid (show Below w.heap.size w w2 from step_below hb (by repeat' (first | exact Below.refl _ _ | exact HB1.out | refine below_drewN ?_ _ | refine Below.drew ?_ | refine Below.alloc ?_ (by first | omega | (simp; done) | (simp; omega) | (simp [World.setCell]; omega)) _ | refine Below.setCell ?_ (by first | omega | (simp; done) | (simp; omega)) _ | assumption)))
  have K0_2 := Lib.hid (step_blk hb (show Blk _ (w.heap.size) 53 #[.int .i64 (n), .int .i64 (d)] by repeat' (first | exact K0_1.out | exact Blk.at_ _ (by first | rfl | (simp; done) | (simp; omega)) _ _ | refine Blk.drewN ?_ _ | refine Blk.drew ?_ | refine Blk.alloc ?_ _ | refine Blk.far ?_ (by first | omega | (simp; done) | (simp; omega)) _ | assumption)))
  have hL2 := Lib.hid (show Below w1.heap.size w1 _ from reads_mid hb (by repeat' (first | exact Below.refl _ _ | refine below_drewN ?_ _ | refine Below.drew ?_ | refine Below.alloc ?_ (by first | omega | (simp; done) | (simp; omega) | (simp [World.setCell]; omega)) _ | refine Below.setCell ?_ (by first | omega | (simp; done) | (simp; omega)) _)))
  have R0_2 := Lib.hid (reads_lay hb hL2.out R0_1.out)
  have R1_2 := Lib.hid (reads_lay hb hL2.out R1_1.out)
  clear hL2 R0_1 R1_1
  have hz2 := hb.size
  try simp only [World.size_alloc, World.drewN, World.drew] at hz2
  clear hb K0_1 z0_0_1 z0_1_1 l0_1
  have l0_2 : w.heap.size < w2.heap.size := K0_2.out.lt
  have z0_0_2 : w2.cell? ⟨w.heap.size, 0, none⟩ = some (.int .i64 (n)) := K0_2.out.cell 0
  have z0_1_2 : w2.cell? ⟨w.heap.size, 1, none⟩ = some (.int .i64 (d)) := K0_2.out.cell 1
  go_wp2_with fail
  refine (rchecktrain_is B n2 c2 _ l2 0 H2.out _ R1_2.out (Nat.le_refl _) (by omega)).mono ?_
  rintro e w3 ⟨rfl, hb⟩
  have HB3 := Lib.hid (show Below w.heap.size w w3 from step_below hb (by repeat' (first | exact Below.refl _ _ | exact HB2.out | refine below_drewN ?_ _ | refine Below.drew ?_ | refine Below.alloc ?_ (by first | omega | (simp; done) | (simp; omega) | (simp [World.setCell]; omega)) _ | refine Below.setCell ?_ (by first | omega | (simp; done) | (simp; omega)) _ | assumption)))
  have K0_3 := Lib.hid (step_blk hb (show Blk _ (w.heap.size) 53 #[.int .i64 (n), .int .i64 (d)] by repeat' (first | exact K0_2.out | exact Blk.at_ _ (by first | rfl | (simp; done) | (simp; omega)) _ _ | refine Blk.drewN ?_ _ | refine Blk.drew ?_ | refine Blk.alloc ?_ _ | refine Blk.far ?_ (by first | omega | (simp; done) | (simp; omega)) _ | assumption)))
  have hL3 := Lib.hid (show Below w2.heap.size w2 _ from reads_mid hb (by repeat' (first | exact Below.refl _ _ | refine below_drewN ?_ _ | refine Below.drew ?_ | refine Below.alloc ?_ (by first | omega | (simp; done) | (simp; omega) | (simp [World.setCell]; omega)) _ | refine Below.setCell ?_ (by first | omega | (simp; done) | (simp; omega)) _)))
  have R0_3 := Lib.hid (reads_lay hb hL3.out R0_2.out)
  have R1_3 := Lib.hid (reads_lay hb hL3.out R1_2.out)
  clear hL3 R0_2 R1_2
  have hz3 := hb.size
  try simp only [World.size_alloc, World.drewN, World.drew] at hz3
  clear hb K0_2 z0_0_2 z0_1_2 l0_2
  have l0_3 : w.heap.size < w3.heap.size := K0_3.out.lt
  have z0_0_3 : w3.cell? ⟨w.heap.size, 0, none⟩ = some (.int .i64 (n)) := K0_3.out.cell 0
  have z0_1_3 : w3.cell? ⟨w.heap.size, 1, none⟩ = some (.int .i64 (d)) := K0_3.out.cell 1
  go_wp2_with fail
  refine (ratio_is A n1 c1 _ l1 x1 y1 e1 HQ1.out _ R0_3.out (Nat.le_refl _) (by omega)).mono ?_
  rintro e w4 ⟨rfl, hb⟩
  have HB4 := Lib.hid (show Below w.heap.size w w4 from step_below hb (by repeat' (first | exact Below.refl _ _ | exact HB3.out | refine below_drewN ?_ _ | refine Below.drew ?_ | refine Below.alloc ?_ (by first | omega | (simp; done) | (simp; omega) | (simp [World.setCell]; omega)) _ | refine Below.setCell ?_ (by first | omega | (simp; done) | (simp; omega)) _ | assumption)))
  have K0_4 := Lib.hid (step_blk hb (show Blk _ (w.heap.size) 53 #[.int .i64 (n), .int .i64 (d)] by repeat' (first | exact K0_3.out | exact Blk.at_ _ (by first | rfl | (simp; done) | (simp; omega)) _ _ | refine Blk.drewN ?_ _ | refine Blk.drew ?_ | refine Blk.alloc ?_ _ | refine Blk.far ?_ (by first | omega | (simp; done) | (simp; omega)) _ | assumption)))
  have hL4 := Lib.hid (show Below w3.heap.size w3 _ from reads_mid hb (by repeat' (first | exact Below.refl _ _ | refine below_drewN ?_ _ | refine Below.drew ?_ | refine Below.alloc ?_ (by first | omega | (simp; done) | (simp; omega) | (simp [World.setCell]; omega)) _ | refine Below.setCell ?_ (by first | omega | (simp; done) | (simp; omega)) _)))
  have R0_4 := Lib.hid (reads_lay hb hL4.out R0_3.out)
  have R1_4 := Lib.hid (reads_lay hb hL4.out R1_3.out)
  clear hL4 R0_3 R1_3
  have hz4 := hb.size
  try simp only [World.size_alloc, World.drewN, World.drew] at hz4
  clear hb K0_3 z0_0_3 z0_1_3 l0_3
  have l0_4 : w.heap.size < w4.heap.size := K0_4.out.lt
  have z0_0_4 : w4.cell? ⟨w.heap.size, 0, none⟩ = some (.int .i64 (n)) := K0_4.out.cell 0
  have z0_1_4 : w4.cell? ⟨w.heap.size, 1, none⟩ = some (.int .i64 (d)) := K0_4.out.cell 1
  go_wp2_with fail
  refine (ratio_is B n2 c2 _ l2 x2 y2 e2 HQ2.out _ (R1_4.out.alloc (Nat.le_refl _) _) (by simp) (by omega)).mono ?_
  rintro e w5 ⟨rfl, hb⟩
  have HB5 := Lib.hid (show Below w.heap.size w w5 from step_below hb (by repeat' (first | exact Below.refl _ _ | exact HB4.out | refine below_drewN ?_ _ | refine Below.drew ?_ | refine Below.alloc ?_ (by first | omega | (simp; done) | (simp; omega) | (simp [World.setCell]; omega)) _ | refine Below.setCell ?_ (by first | omega | (simp; done) | (simp; omega)) _ | assumption)))
  have K0_5 := Lib.hid (step_blk hb (show Blk _ (w.heap.size) 53 #[.int .i64 (n), .int .i64 (d)] by repeat' (first | exact K0_4.out | exact Blk.at_ _ (by first | rfl | (simp; done) | (simp; omega)) _ _ | refine Blk.drewN ?_ _ | refine Blk.drew ?_ | refine Blk.alloc ?_ _ | refine Blk.far ?_ (by first | omega | (simp; done) | (simp; omega)) _ | assumption)))
  have K1_5 := Lib.hid (step_blk hb (show Blk _ (w4.heap.size) 53 #[.int .i64 (x1), .int .i64 (y1)] by repeat' (first | exact K0_4.out | exact Blk.at_ _ (by first | rfl | (simp; done) | (simp; omega)) _ _ | refine Blk.drewN ?_ _ | refine Blk.drew ?_ | refine Blk.alloc ?_ _ | refine Blk.far ?_ (by first | omega | (simp; done) | (simp; omega)) _ | assumption)))
  have hL5 := Lib.hid (show Below w4.heap.size w4 _ from reads_mid hb (by repeat' (first | exact Below.refl _ _ | refine below_drewN ?_ _ | refine Below.drew ?_ | refine Below.alloc ?_ (by first | omega | (simp; done) | (simp; omega) | (simp [World.setCell]; omega)) _ | refine Below.setCell ?_ (by first | omega | (simp; done) | (simp; omega)) _)))
  have R0_5 := Lib.hid (reads_lay hb hL5.out R0_4.out)
  have R1_5 := Lib.hid (reads_lay hb hL5.out R1_4.out)
  clear hL5 R0_4 R1_4
  have hz5 := hb.size
  try simp only [World.size_alloc, World.drewN, World.drew] at hz5
  clear hb K0_4 z0_0_4 z0_1_4 l0_4
  have l0_5 : w.heap.size < w5.heap.size := K0_5.out.lt
  have z0_0_5 : w5.cell? ⟨w.heap.size, 0, none⟩ = some (.int .i64 (n)) := K0_5.out.cell 0
  have z0_1_5 : w5.cell? ⟨w.heap.size, 1, none⟩ = some (.int .i64 (d)) := K0_5.out.cell 1
  have l1_5 : w4.heap.size < w5.heap.size := K1_5.out.lt
  have z1_0_5 : w5.cell? ⟨w4.heap.size, 0, none⟩ = some (.int .i64 (x1)) := K1_5.out.cell 0
  have z1_1_5 : w5.cell? ⟨w4.heap.size, 1, none⟩ = some (.int .i64 (y1)) := K1_5.out.cell 1
  obtain ⟨v1, W1, A3, c3, w6, hr1, hr2, hr3, hb⟩ := join_pairs (w5.alloc (.cells #[.int .i64 x2, .int .i64 y2] 53)) w5.heap.size A n1 c1 l1 (R0_5.out.alloc (Nat.le_refl _) _) (by simp) B n2 c2 l2 (R1_5.out.alloc (Nat.le_refl _) _) hn1 hn2 (w5.heap.size + 1) (by simp)
  have HRUN1 := Lib.hid hr1
  have HRUN2 := Lib.hid hr2
  clear hr1 hr2
  go_wp2_with (first | (at_builtin; first | refine wpList_app _ W1 v1 rfl _ _ _ rfl _ _ rfl rfl HRUN1.out ?_ | refine wpList_app _ w6 (.slice A3 (n1 + n2) c3) rfl _ _ _ rfl _ _ rfl rfl HRUN2.out ?_))
  have HB6 := Lib.hid (show Below w.heap.size w w6 from step_below hb (by repeat' (first | exact Below.refl _ _ | exact HB5.out | refine below_drewN ?_ _ | refine Below.drew ?_ | refine Below.alloc ?_ (by first | omega | (simp; done) | (simp; omega) | (simp [World.setCell]; omega)) _ | refine Below.setCell ?_ (by first | omega | (simp; done) | (simp; omega)) _ | assumption)))
  have K0_6 := Lib.hid (step_blk hb (show Blk _ (w.heap.size) 53 #[.int .i64 (n), .int .i64 (d)] by repeat' (first | exact K0_5.out | exact K1_5.out | exact Blk.at_ _ (by first | rfl | (simp; done) | (simp; omega)) _ _ | refine Blk.drewN ?_ _ | refine Blk.drew ?_ | refine Blk.alloc ?_ _ | refine Blk.far ?_ (by first | omega | (simp; done) | (simp; omega)) _ | assumption)))
  have K1_6 := Lib.hid (step_blk hb (show Blk _ (w4.heap.size) 53 #[.int .i64 (x1), .int .i64 (y1)] by repeat' (first | exact K0_5.out | exact K1_5.out | exact Blk.at_ _ (by first | rfl | (simp; done) | (simp; omega)) _ _ | refine Blk.drewN ?_ _ | refine Blk.drew ?_ | refine Blk.alloc ?_ _ | refine Blk.far ?_ (by first | omega | (simp; done) | (simp; omega)) _ | assumption)))
  have K2_6 := Lib.hid (step_blk hb (show Blk _ (w5.heap.size) 53 #[.int .i64 (x2), .int .i64 (y2)] by repeat' (first | exact K0_5.out | exact K1_5.out | exact Blk.at_ _ (by first | rfl | (simp; done) | (simp; omega)) _ _ | refine Blk.drewN ?_ _ | refine Blk.drew ?_ | refine Blk.alloc ?_ _ | refine Blk.far ?_ (by first | omega | (simp; done) | (simp; omega)) _ | assumption)))
  have hL6 := Lib.hid (show Below w5.heap.size w5 _ from reads_mid hb (by repeat' (first | exact Below.refl _ _ | refine below_drewN ?_ _ | refine Below.drew ?_ | refine Below.alloc ?_ (by first | omega | (simp; done) | (simp; omega) | (simp [World.setCell]; omega)) _ | refine Below.setCell ?_ (by first | omega | (simp; done) | (simp; omega)) _)))
  have R0_6 := Lib.hid (reads_lay hb hL6.out R0_5.out)
  have R1_6 := Lib.hid (reads_lay hb hL6.out R1_5.out)
  clear hL6 R0_5 R1_5
  have hz6 := hb.size
  try simp only [World.size_alloc, World.drewN, World.drew] at hz6
  clear hb K0_5 K1_5 z0_0_5 z0_1_5 l0_5 z1_0_5 z1_1_5 l1_5
  have l0_6 : w.heap.size < w6.heap.size := K0_6.out.lt
  have z0_0_6 : w6.cell? ⟨w.heap.size, 0, none⟩ = some (.int .i64 (n)) := K0_6.out.cell 0
  have z0_1_6 : w6.cell? ⟨w.heap.size, 1, none⟩ = some (.int .i64 (d)) := K0_6.out.cell 1
  have l1_6 : w4.heap.size < w6.heap.size := K1_6.out.lt
  have z1_0_6 : w6.cell? ⟨w4.heap.size, 0, none⟩ = some (.int .i64 (x1)) := K1_6.out.cell 0
  have z1_1_6 : w6.cell? ⟨w4.heap.size, 1, none⟩ = some (.int .i64 (y1)) := K1_6.out.cell 1
  have l2_6 : w5.heap.size < w6.heap.size := K2_6.out.lt
  have z2_0_6 : w6.cell? ⟨w5.heap.size, 0, none⟩ = some (.int .i64 (x2)) := K2_6.out.cell 0
  have z2_1_6 : w6.cell? ⟨w5.heap.size, 1, none⟩ = some (.int .i64 (y2)) := K2_6.out.cell 1
  have R2_6 := Lib.hid hr3
  clear hr3
  go_wp2_with fail
  refine (ratio_is A3 (n1 + n2) c3 _ (l1 ++ l2) x3 y3 e3 HQ3.out _ R2_6.out (Nat.le_refl _) (by omega)).mono ?_
  rintro e w7 ⟨rfl, hb⟩
  have HB7 := Lib.hid (show Below w.heap.size w w7 from step_below hb (by repeat' (first | exact Below.refl _ _ | exact HB6.out | refine below_drewN ?_ _ | refine Below.drew ?_ | refine Below.alloc ?_ (by first | omega | (simp; done) | (simp; omega) | (simp [World.setCell]; omega)) _ | refine Below.setCell ?_ (by first | omega | (simp; done) | (simp; omega)) _ | assumption)))
  have K0_7 := Lib.hid (step_blk hb (show Blk _ (w.heap.size) 53 #[.int .i64 (n), .int .i64 (d)] by repeat' (first | exact K0_6.out | exact K1_6.out | exact K2_6.out | exact Blk.at_ _ (by first | rfl | (simp; done) | (simp; omega)) _ _ | refine Blk.drewN ?_ _ | refine Blk.drew ?_ | refine Blk.alloc ?_ _ | refine Blk.far ?_ (by first | omega | (simp; done) | (simp; omega)) _ | assumption)))
  have K1_7 := Lib.hid (step_blk hb (show Blk _ (w4.heap.size) 53 #[.int .i64 (x1), .int .i64 (y1)] by repeat' (first | exact K0_6.out | exact K1_6.out | exact K2_6.out | exact Blk.at_ _ (by first | rfl | (simp; done) | (simp; omega)) _ _ | refine Blk.drewN ?_ _ | refine Blk.drew ?_ | refine Blk.alloc ?_ _ | refine Blk.far ?_ (by first | omega | (simp; done) | (simp; omega)) _ | assumption)))
  have K2_7 := Lib.hid (step_blk hb (show Blk _ (w5.heap.size) 53 #[.int .i64 (x2), .int .i64 (y2)] by repeat' (first | exact K0_6.out | exact K1_6.out | exact K2_6.out | exact Blk.at_ _ (by first | rfl | (simp; done) | (simp; omega)) _ _ | refine Blk.drewN ?_ _ | refine Blk.drew ?_ | refine Blk.alloc ?_ _ | refine Blk.far ?_ (by first | omega | (simp; done) | (simp; omega)) _ | assumption)))
  have hL7 := Lib.hid (show Below w6.heap.size w6 _ from reads_mid hb (by repeat' (first | exact Below.refl _ _ | refine below_drewN ?_ _ | refine Below.drew ?_ | refine Below.alloc ?_ (by first | omega | (simp; done) | (simp; omega) | (simp [World.setCell]; omega)) _ | refine Below.setCell ?_ (by first | omega | (simp; done) | (simp; omega)) _)))
  have R0_7 := Lib.hid (reads_lay hb hL7.out R0_6.out)
  have R1_7 := Lib.hid (reads_lay hb hL7.out R1_6.out)
  have R2_7 := Lib.hid (reads_lay hb hL7.out R2_6.out)
  clear hL7 R0_6 R1_6 R2_6
  have hz7 := hb.size
  try simp only [World.size_alloc, World.drewN, World.drew] at hz7
  clear hb K0_6 K1_6 K2_6 z0_0_6 z0_1_6 l0_6 z1_0_6 z1_1_6 l1_6 z2_0_6 z2_1_6 l2_6
  have l0_7 : w.heap.size < w7.heap.size := K0_7.out.lt
  have z0_0_7 : w7.cell? ⟨w.heap.size, 0, none⟩ = some (.int .i64 (n)) := K0_7.out.cell 0
  have z0_1_7 : w7.cell? ⟨w.heap.size, 1, none⟩ = some (.int .i64 (d)) := K0_7.out.cell 1
  have l1_7 : w4.heap.size < w7.heap.size := K1_7.out.lt
  have z1_0_7 : w7.cell? ⟨w4.heap.size, 0, none⟩ = some (.int .i64 (x1)) := K1_7.out.cell 0
  have z1_1_7 : w7.cell? ⟨w4.heap.size, 1, none⟩ = some (.int .i64 (y1)) := K1_7.out.cell 1
  have l2_7 : w5.heap.size < w7.heap.size := K2_7.out.lt
  have z2_0_7 : w7.cell? ⟨w5.heap.size, 0, none⟩ = some (.int .i64 (x2)) := K2_7.out.cell 0
  have z2_1_7 : w7.cell? ⟨w5.heap.size, 1, none⟩ = some (.int .i64 (y2)) := K2_7.out.cell 1
  go_upto_region 8 with fail
  go_cut [74] from 66 to 74 (fun b wx => b = .bool (decide (e1 = 0 ∧ e2 = 0 ∧ e3 = 0)) ∧ wx = w7.alloc (.cells #[.int .i64 x3, .int .i64 y3] 53))
  case first =>
    by_cases q1 : e1 = 0
    · by_cases q2 : e2 = 0
      · by_cases q3 : e3 = 0
        · subst q1 q2 q3
          go_wp2_with fail
          go_meet
          exact ⟨rfl, rfl⟩
        · subst q1 q2
          have b3 : (e3 == 0) = false := by simpa using q3
          go_wp2_with fail
          go_meet
          exact ⟨by simp [q3], rfl⟩
      · subst q1
        have b2 : (e2 == 0) = false := by simpa using q2
        go_wp2_with fail
        go_meet
        exact ⟨by simp [q2], rfl⟩
    · have b1 : (e1 == 0) = false := by simpa using q1
      go_wp2_with fail
      go_meet
      exact ⟨by simp [q1], rfl⟩
  case rest =>
  obtain ⟨rfl, rfl⟩ := hcut
  go_upto_if 74 with fail
  go_cut [] from 7 to 117 (fun wx => Below w.heap.size w wx ∧ Blk wx w.heap.size 53 #[.int .i64 n, .int .i64 d])
  case first =>
    by_cases hq : e1 = 0 ∧ e2 = 0 ∧ e3 = 0
    rotate_left
    · have hd := decide_eq_false hq
      go_wp2_with fail
      go_meet
      exact ⟨by repeat' (first | exact Below.refl _ _ | exact HB7.out | refine below_drewN ?_ _ | refine Below.drew ?_ | refine Below.alloc ?_ (by first | omega | (simp; done) | (simp; omega) | (simp [World.setCell]; omega)) _ | refine Below.setCell ?_ (by first | omega | (simp; done) | (simp; omega)) _ | assumption), by repeat' (first | exact K0_7.out | exact Blk.at_ _ (by first | rfl | (simp; done) | (simp; omega)) _ _ | refine Blk.drewN ?_ _ | refine Blk.drew ?_ | refine Blk.alloc ?_ _ | refine Blk.far ?_ (by first | omega | (simp; done) | (simp; omega)) _ | assumption)⟩
    have hd := decide_eq_true hq
    obtain ⟨rfl, rfl, rfl⟩ := hq
    have HM := Lib.hid (ratio_mul HQ1.out HQ2.out HQ3.out)
    go_wp2_with fail
    refine (numMul_ok (x1, y1) (x2, y2) (ratio_fok HQ1.out) (ratio_fok HQ2.out) (x3, y3) HM.out _).mono ?_
    rintro e w8 ⟨rfl, hb⟩
    have HB8 := Lib.hid (show Below w.heap.size w w8 from step_below hb (by repeat' (first | exact Below.refl _ _ | exact HB7.out | refine below_drewN ?_ _ | refine Below.drew ?_ | refine Below.alloc ?_ (by first | omega | (simp; done) | (simp; omega) | (simp [World.setCell]; omega)) _ | refine Below.setCell ?_ (by first | omega | (simp; done) | (simp; omega)) _ | assumption)))
    have K0_8 := Lib.hid (step_blk hb (show Blk _ (w.heap.size) 53 #[.int .i64 (n), .int .i64 (d)] by repeat' (first | exact K0_7.out | exact K1_7.out | exact K2_7.out | exact Blk.at_ _ (by first | rfl | (simp; done) | (simp; omega)) _ _ | refine Blk.drewN ?_ _ | refine Blk.drew ?_ | refine Blk.alloc ?_ _ | refine Blk.far ?_ (by first | omega | (simp; done) | (simp; omega)) _ | assumption)))
    have K1_8 := Lib.hid (step_blk hb (show Blk _ (w4.heap.size) 53 #[.int .i64 (x1), .int .i64 (y1)] by repeat' (first | exact K0_7.out | exact K1_7.out | exact K2_7.out | exact Blk.at_ _ (by first | rfl | (simp; done) | (simp; omega)) _ _ | refine Blk.drewN ?_ _ | refine Blk.drew ?_ | refine Blk.alloc ?_ _ | refine Blk.far ?_ (by first | omega | (simp; done) | (simp; omega)) _ | assumption)))
    have K2_8 := Lib.hid (step_blk hb (show Blk _ (w5.heap.size) 53 #[.int .i64 (x2), .int .i64 (y2)] by repeat' (first | exact K0_7.out | exact K1_7.out | exact K2_7.out | exact Blk.at_ _ (by first | rfl | (simp; done) | (simp; omega)) _ _ | refine Blk.drewN ?_ _ | refine Blk.drew ?_ | refine Blk.alloc ?_ _ | refine Blk.far ?_ (by first | omega | (simp; done) | (simp; omega)) _ | assumption)))
    have K3_8 := Lib.hid (step_blk hb (show Blk _ (w7.heap.size) 53 #[.int .i64 (x3), .int .i64 (y3)] by repeat' (first | exact K0_7.out | exact K1_7.out | exact K2_7.out | exact Blk.at_ _ (by first | rfl | (simp; done) | (simp; omega)) _ _ | refine Blk.drewN ?_ _ | refine Blk.drew ?_ | refine Blk.alloc ?_ _ | refine Blk.far ?_ (by first | omega | (simp; done) | (simp; omega)) _ | assumption)))
    have hL8 := Lib.hid (show Below w7.heap.size w7 _ from reads_mid hb (by repeat' (first | exact Below.refl _ _ | refine below_drewN ?_ _ | refine Below.drew ?_ | refine Below.alloc ?_ (by first | omega | (simp; done) | (simp; omega) | (simp [World.setCell]; omega)) _ | refine Below.setCell ?_ (by first | omega | (simp; done) | (simp; omega)) _)))
    have R0_8 := Lib.hid (reads_lay hb hL8.out R0_7.out)
    have R1_8 := Lib.hid (reads_lay hb hL8.out R1_7.out)
    have R2_8 := Lib.hid (reads_lay hb hL8.out R2_7.out)
    clear hL8 R0_7 R1_7 R2_7
    have hz8 := hb.size
    try simp only [World.size_alloc, World.drewN, World.drew] at hz8
    clear hb K0_7 K1_7 K2_7 z0_0_7 z0_1_7 l0_7 z1_0_7 z1_1_7 l1_7 z2_0_7 z2_1_7 l2_7
    have l0_8 : w.heap.size < w8.heap.size := K0_8.out.lt
    have z0_0_8 : w8.cell? ⟨w.heap.size, 0, none⟩ = some (.int .i64 (n)) := K0_8.out.cell 0
    have z0_1_8 : w8.cell? ⟨w.heap.size, 1, none⟩ = some (.int .i64 (d)) := K0_8.out.cell 1
    have l1_8 : w4.heap.size < w8.heap.size := K1_8.out.lt
    have z1_0_8 : w8.cell? ⟨w4.heap.size, 0, none⟩ = some (.int .i64 (x1)) := K1_8.out.cell 0
    have z1_1_8 : w8.cell? ⟨w4.heap.size, 1, none⟩ = some (.int .i64 (y1)) := K1_8.out.cell 1
    have l2_8 : w5.heap.size < w8.heap.size := K2_8.out.lt
    have z2_0_8 : w8.cell? ⟨w5.heap.size, 0, none⟩ = some (.int .i64 (x2)) := K2_8.out.cell 0
    have z2_1_8 : w8.cell? ⟨w5.heap.size, 1, none⟩ = some (.int .i64 (y2)) := K2_8.out.cell 1
    have l3_8 : w7.heap.size < w8.heap.size := K3_8.out.lt
    have z3_0_8 : w8.cell? ⟨w7.heap.size, 0, none⟩ = some (.int .i64 (x3)) := K3_8.out.cell 0
    have z3_1_8 : w8.cell? ⟨w7.heap.size, 1, none⟩ = some (.int .i64 (y3)) := K3_8.out.cell 1
    obtain ⟨⟨m, h⟩, hm⟩ : ∃ M, returnsF l1 = M := ⟨_, rfl⟩
    obtain ⟨⟨q, i⟩, hqr⟩ : ∃ M, returnsF (l1 ++ l2) = M := ⟨_, rfl⟩
    have HR1 := Lib.hid hm
    have HR2 := Lib.hid hqr
    clear hm hqr hd
    go_wp2_with fail
    refine (greturns_is A n1 c1 _ l1 m h HR1.out _ (R0_8.out.alloc (Nat.le_refl _) _) (by simp) (by omega)).mono ?_
    rintro e w9 ⟨rfl, hb⟩
    have HB9 := Lib.hid (show Below w.heap.size w w9 from step_below hb (by repeat' (first | exact Below.refl _ _ | exact HB8.out | refine below_drewN ?_ _ | refine Below.drew ?_ | refine Below.alloc ?_ (by first | omega | (simp; done) | (simp; omega) | (simp [World.setCell]; omega)) _ | refine Below.setCell ?_ (by first | omega | (simp; done) | (simp; omega)) _ | assumption)))
    have K0_9 := Lib.hid (step_blk hb (show Blk _ (w.heap.size) 53 #[.int .i64 (n), .int .i64 (d)] by repeat' (first | exact K0_8.out | exact K1_8.out | exact K2_8.out | exact K3_8.out | exact Blk.at_ _ (by first | rfl | (simp; done) | (simp; omega)) _ _ | refine Blk.drewN ?_ _ | refine Blk.drew ?_ | refine Blk.alloc ?_ _ | refine Blk.far ?_ (by first | omega | (simp; done) | (simp; omega)) _ | assumption)))
    have K1_9 := Lib.hid (step_blk hb (show Blk _ (w4.heap.size) 53 #[.int .i64 (x1), .int .i64 (y1)] by repeat' (first | exact K0_8.out | exact K1_8.out | exact K2_8.out | exact K3_8.out | exact Blk.at_ _ (by first | rfl | (simp; done) | (simp; omega)) _ _ | refine Blk.drewN ?_ _ | refine Blk.drew ?_ | refine Blk.alloc ?_ _ | refine Blk.far ?_ (by first | omega | (simp; done) | (simp; omega)) _ | assumption)))
    have K2_9 := Lib.hid (step_blk hb (show Blk _ (w5.heap.size) 53 #[.int .i64 (x2), .int .i64 (y2)] by repeat' (first | exact K0_8.out | exact K1_8.out | exact K2_8.out | exact K3_8.out | exact Blk.at_ _ (by first | rfl | (simp; done) | (simp; omega)) _ _ | refine Blk.drewN ?_ _ | refine Blk.drew ?_ | refine Blk.alloc ?_ _ | refine Blk.far ?_ (by first | omega | (simp; done) | (simp; omega)) _ | assumption)))
    have K3_9 := Lib.hid (step_blk hb (show Blk _ (w7.heap.size) 53 #[.int .i64 (x3), .int .i64 (y3)] by repeat' (first | exact K0_8.out | exact K1_8.out | exact K2_8.out | exact K3_8.out | exact Blk.at_ _ (by first | rfl | (simp; done) | (simp; omega)) _ _ | refine Blk.drewN ?_ _ | refine Blk.drew ?_ | refine Blk.alloc ?_ _ | refine Blk.far ?_ (by first | omega | (simp; done) | (simp; omega)) _ | assumption)))
    have K4_9 := Lib.hid (step_blk hb (show Blk _ (w8.heap.size) 53 #[.int .i64 (x3), .int .i64 (y3)] by repeat' (first | exact K0_8.out | exact K1_8.out | exact K2_8.out | exact K3_8.out | exact Blk.at_ _ (by first | rfl | (simp; done) | (simp; omega)) _ _ | refine Blk.drewN ?_ _ | refine Blk.drew ?_ | refine Blk.alloc ?_ _ | refine Blk.far ?_ (by first | omega | (simp; done) | (simp; omega)) _ | assumption)))
    have hL9 := Lib.hid (show Below w8.heap.size w8 _ from reads_mid hb (by repeat' (first | exact Below.refl _ _ | refine below_drewN ?_ _ | refine Below.drew ?_ | refine Below.alloc ?_ (by first | omega | (simp; done) | (simp; omega) | (simp [World.setCell]; omega)) _ | refine Below.setCell ?_ (by first | omega | (simp; done) | (simp; omega)) _)))
    have R0_9 := Lib.hid (reads_lay hb hL9.out R0_8.out)
    have R1_9 := Lib.hid (reads_lay hb hL9.out R1_8.out)
    have R2_9 := Lib.hid (reads_lay hb hL9.out R2_8.out)
    clear hL9 R0_8 R1_8 R2_8
    have hz9 := hb.size
    try simp only [World.size_alloc, World.drewN, World.drew] at hz9
    clear hb K0_8 K1_8 K2_8 K3_8 z0_0_8 z0_1_8 l0_8 z1_0_8 z1_1_8 l1_8 z2_0_8 z2_1_8 l2_8 z3_0_8 z3_1_8 l3_8
    have l0_9 : w.heap.size < w9.heap.size := K0_9.out.lt
    have z0_0_9 : w9.cell? ⟨w.heap.size, 0, none⟩ = some (.int .i64 (n)) := K0_9.out.cell 0
    have z0_1_9 : w9.cell? ⟨w.heap.size, 1, none⟩ = some (.int .i64 (d)) := K0_9.out.cell 1
    have l1_9 : w4.heap.size < w9.heap.size := K1_9.out.lt
    have z1_0_9 : w9.cell? ⟨w4.heap.size, 0, none⟩ = some (.int .i64 (x1)) := K1_9.out.cell 0
    have z1_1_9 : w9.cell? ⟨w4.heap.size, 1, none⟩ = some (.int .i64 (y1)) := K1_9.out.cell 1
    have l2_9 : w5.heap.size < w9.heap.size := K2_9.out.lt
    have z2_0_9 : w9.cell? ⟨w5.heap.size, 0, none⟩ = some (.int .i64 (x2)) := K2_9.out.cell 0
    have z2_1_9 : w9.cell? ⟨w5.heap.size, 1, none⟩ = some (.int .i64 (y2)) := K2_9.out.cell 1
    have l3_9 : w7.heap.size < w9.heap.size := K3_9.out.lt
    have z3_0_9 : w9.cell? ⟨w7.heap.size, 0, none⟩ = some (.int .i64 (x3)) := K3_9.out.cell 0
    have z3_1_9 : w9.cell? ⟨w7.heap.size, 1, none⟩ = some (.int .i64 (y3)) := K3_9.out.cell 1
    have l4_9 : w8.heap.size < w9.heap.size := K4_9.out.lt
    have z4_0_9 : w9.cell? ⟨w8.heap.size, 0, none⟩ = some (.int .i64 (x3)) := K4_9.out.cell 0
    have z4_1_9 : w9.cell? ⟨w8.heap.size, 1, none⟩ = some (.int .i64 (y3)) := K4_9.out.cell 1
    obtain ⟨v1', W1', A4, c4, w10, hr1, hr2, hr3, hb⟩ := join_pairs w9 w9.heap.size A n1 c1 l1 R0_9.out (Nat.le_refl _) B n2 c2 l2 R1_9.out hn1 hn2 w9.heap.size rfl
    have HRUN3 := Lib.hid hr1
    have HRUN4 := Lib.hid hr2
    clear hr1 hr2
    go_wp2_with (first | (at_builtin; first | refine wpList_app _ W1' v1' rfl _ _ _ rfl _ _ rfl rfl HRUN3.out ?_ | refine wpList_app _ w10 (.slice A4 (n1 + n2) c4) rfl _ _ _ rfl _ _ rfl rfl HRUN4.out ?_))
    have HB10 := Lib.hid (show Below w.heap.size w w10 from step_below hb (by repeat' (first | exact Below.refl _ _ | exact HB9.out | refine below_drewN ?_ _ | refine Below.drew ?_ | refine Below.alloc ?_ (by first | omega | (simp; done) | (simp; omega) | (simp [World.setCell]; omega)) _ | refine Below.setCell ?_ (by first | omega | (simp; done) | (simp; omega)) _ | assumption)))
    have K0_10 := Lib.hid (step_blk hb (show Blk _ (w.heap.size) 53 #[.int .i64 (n), .int .i64 (d)] by repeat' (first | exact K0_9.out | exact K1_9.out | exact K2_9.out | exact K3_9.out | exact K4_9.out | exact Blk.at_ _ (by first | rfl | (simp; done) | (simp; omega)) _ _ | refine Blk.drewN ?_ _ | refine Blk.drew ?_ | refine Blk.alloc ?_ _ | refine Blk.far ?_ (by first | omega | (simp; done) | (simp; omega)) _ | assumption)))
    have K1_10 := Lib.hid (step_blk hb (show Blk _ (w4.heap.size) 53 #[.int .i64 (x1), .int .i64 (y1)] by repeat' (first | exact K0_9.out | exact K1_9.out | exact K2_9.out | exact K3_9.out | exact K4_9.out | exact Blk.at_ _ (by first | rfl | (simp; done) | (simp; omega)) _ _ | refine Blk.drewN ?_ _ | refine Blk.drew ?_ | refine Blk.alloc ?_ _ | refine Blk.far ?_ (by first | omega | (simp; done) | (simp; omega)) _ | assumption)))
    have K2_10 := Lib.hid (step_blk hb (show Blk _ (w5.heap.size) 53 #[.int .i64 (x2), .int .i64 (y2)] by repeat' (first | exact K0_9.out | exact K1_9.out | exact K2_9.out | exact K3_9.out | exact K4_9.out | exact Blk.at_ _ (by first | rfl | (simp; done) | (simp; omega)) _ _ | refine Blk.drewN ?_ _ | refine Blk.drew ?_ | refine Blk.alloc ?_ _ | refine Blk.far ?_ (by first | omega | (simp; done) | (simp; omega)) _ | assumption)))
    have K3_10 := Lib.hid (step_blk hb (show Blk _ (w7.heap.size) 53 #[.int .i64 (x3), .int .i64 (y3)] by repeat' (first | exact K0_9.out | exact K1_9.out | exact K2_9.out | exact K3_9.out | exact K4_9.out | exact Blk.at_ _ (by first | rfl | (simp; done) | (simp; omega)) _ _ | refine Blk.drewN ?_ _ | refine Blk.drew ?_ | refine Blk.alloc ?_ _ | refine Blk.far ?_ (by first | omega | (simp; done) | (simp; omega)) _ | assumption)))
    have K4_10 := Lib.hid (step_blk hb (show Blk _ (w8.heap.size) 53 #[.int .i64 (x3), .int .i64 (y3)] by repeat' (first | exact K0_9.out | exact K1_9.out | exact K2_9.out | exact K3_9.out | exact K4_9.out | exact Blk.at_ _ (by first | rfl | (simp; done) | (simp; omega)) _ _ | refine Blk.drewN ?_ _ | refine Blk.drew ?_ | refine Blk.alloc ?_ _ | refine Blk.far ?_ (by first | omega | (simp; done) | (simp; omega)) _ | assumption)))
    have hL10 := Lib.hid (show Below w9.heap.size w9 _ from reads_mid hb (by repeat' (first | exact Below.refl _ _ | refine below_drewN ?_ _ | refine Below.drew ?_ | refine Below.alloc ?_ (by first | omega | (simp; done) | (simp; omega) | (simp [World.setCell]; omega)) _ | refine Below.setCell ?_ (by first | omega | (simp; done) | (simp; omega)) _)))
    have R0_10 := Lib.hid (reads_lay hb hL10.out R0_9.out)
    have R1_10 := Lib.hid (reads_lay hb hL10.out R1_9.out)
    have R2_10 := Lib.hid (reads_lay hb hL10.out R2_9.out)
    clear hL10 R0_9 R1_9 R2_9
    have hz10 := hb.size
    try simp only [World.size_alloc, World.drewN, World.drew] at hz10
    clear hb K0_9 K1_9 K2_9 K3_9 K4_9 z0_0_9 z0_1_9 l0_9 z1_0_9 z1_1_9 l1_9 z2_0_9 z2_1_9 l2_9 z3_0_9 z3_1_9 l3_9 z4_0_9 z4_1_9 l4_9
    have l0_10 : w.heap.size < w10.heap.size := K0_10.out.lt
    have z0_0_10 : w10.cell? ⟨w.heap.size, 0, none⟩ = some (.int .i64 (n)) := K0_10.out.cell 0
    have z0_1_10 : w10.cell? ⟨w.heap.size, 1, none⟩ = some (.int .i64 (d)) := K0_10.out.cell 1
    have l1_10 : w4.heap.size < w10.heap.size := K1_10.out.lt
    have z1_0_10 : w10.cell? ⟨w4.heap.size, 0, none⟩ = some (.int .i64 (x1)) := K1_10.out.cell 0
    have z1_1_10 : w10.cell? ⟨w4.heap.size, 1, none⟩ = some (.int .i64 (y1)) := K1_10.out.cell 1
    have l2_10 : w5.heap.size < w10.heap.size := K2_10.out.lt
    have z2_0_10 : w10.cell? ⟨w5.heap.size, 0, none⟩ = some (.int .i64 (x2)) := K2_10.out.cell 0
    have z2_1_10 : w10.cell? ⟨w5.heap.size, 1, none⟩ = some (.int .i64 (y2)) := K2_10.out.cell 1
    have l3_10 : w7.heap.size < w10.heap.size := K3_10.out.lt
    have z3_0_10 : w10.cell? ⟨w7.heap.size, 0, none⟩ = some (.int .i64 (x3)) := K3_10.out.cell 0
    have z3_1_10 : w10.cell? ⟨w7.heap.size, 1, none⟩ = some (.int .i64 (y3)) := K3_10.out.cell 1
    have l4_10 : w8.heap.size < w10.heap.size := K4_10.out.lt
    have z4_0_10 : w10.cell? ⟨w8.heap.size, 0, none⟩ = some (.int .i64 (x3)) := K4_10.out.cell 0
    have z4_1_10 : w10.cell? ⟨w8.heap.size, 1, none⟩ = some (.int .i64 (y3)) := K4_10.out.cell 1
    have R3_10 := Lib.hid hr3
    clear hr3
    go_wp2_with fail
    refine (greturns_is A4 (n1 + n2) c4 _ (l1 ++ l2) q i HR2.out _ R3_10.out (Nat.le_refl _) (by omega)).mono ?_
    rintro e w11 ⟨rfl, hb⟩
    have HB11 := Lib.hid (show Below w.heap.size w w11 from step_below hb (by repeat' (first | exact Below.refl _ _ | exact HB10.out | refine below_drewN ?_ _ | refine Below.drew ?_ | refine Below.alloc ?_ (by first | omega | (simp; done) | (simp; omega) | (simp [World.setCell]; omega)) _ | refine Below.setCell ?_ (by first | omega | (simp; done) | (simp; omega)) _ | assumption)))
    have K0_11 := Lib.hid (step_blk hb (show Blk _ (w.heap.size) 53 #[.int .i64 (n), .int .i64 (d)] by repeat' (first | exact K0_10.out | exact K1_10.out | exact K2_10.out | exact K3_10.out | exact K4_10.out | exact Blk.at_ _ (by first | rfl | (simp; done) | (simp; omega)) _ _ | refine Blk.drewN ?_ _ | refine Blk.drew ?_ | refine Blk.alloc ?_ _ | refine Blk.far ?_ (by first | omega | (simp; done) | (simp; omega)) _ | assumption)))
    have K1_11 := Lib.hid (step_blk hb (show Blk _ (w4.heap.size) 53 #[.int .i64 (x1), .int .i64 (y1)] by repeat' (first | exact K0_10.out | exact K1_10.out | exact K2_10.out | exact K3_10.out | exact K4_10.out | exact Blk.at_ _ (by first | rfl | (simp; done) | (simp; omega)) _ _ | refine Blk.drewN ?_ _ | refine Blk.drew ?_ | refine Blk.alloc ?_ _ | refine Blk.far ?_ (by first | omega | (simp; done) | (simp; omega)) _ | assumption)))
    have K2_11 := Lib.hid (step_blk hb (show Blk _ (w5.heap.size) 53 #[.int .i64 (x2), .int .i64 (y2)] by repeat' (first | exact K0_10.out | exact K1_10.out | exact K2_10.out | exact K3_10.out | exact K4_10.out | exact Blk.at_ _ (by first | rfl | (simp; done) | (simp; omega)) _ _ | refine Blk.drewN ?_ _ | refine Blk.drew ?_ | refine Blk.alloc ?_ _ | refine Blk.far ?_ (by first | omega | (simp; done) | (simp; omega)) _ | assumption)))
    have K3_11 := Lib.hid (step_blk hb (show Blk _ (w7.heap.size) 53 #[.int .i64 (x3), .int .i64 (y3)] by repeat' (first | exact K0_10.out | exact K1_10.out | exact K2_10.out | exact K3_10.out | exact K4_10.out | exact Blk.at_ _ (by first | rfl | (simp; done) | (simp; omega)) _ _ | refine Blk.drewN ?_ _ | refine Blk.drew ?_ | refine Blk.alloc ?_ _ | refine Blk.far ?_ (by first | omega | (simp; done) | (simp; omega)) _ | assumption)))
    have K4_11 := Lib.hid (step_blk hb (show Blk _ (w8.heap.size) 53 #[.int .i64 (x3), .int .i64 (y3)] by repeat' (first | exact K0_10.out | exact K1_10.out | exact K2_10.out | exact K3_10.out | exact K4_10.out | exact Blk.at_ _ (by first | rfl | (simp; done) | (simp; omega)) _ _ | refine Blk.drewN ?_ _ | refine Blk.drew ?_ | refine Blk.alloc ?_ _ | refine Blk.far ?_ (by first | omega | (simp; done) | (simp; omega)) _ | assumption)))
    have hL11 := Lib.hid (show Below w10.heap.size w10 _ from reads_mid hb (by repeat' (first | exact Below.refl _ _ | refine below_drewN ?_ _ | refine Below.drew ?_ | refine Below.alloc ?_ (by first | omega | (simp; done) | (simp; omega) | (simp [World.setCell]; omega)) _ | refine Below.setCell ?_ (by first | omega | (simp; done) | (simp; omega)) _)))
    have R0_11 := Lib.hid (reads_lay hb hL11.out R0_10.out)
    have R1_11 := Lib.hid (reads_lay hb hL11.out R1_10.out)
    have R2_11 := Lib.hid (reads_lay hb hL11.out R2_10.out)
    have R3_11 := Lib.hid (reads_lay hb hL11.out R3_10.out)
    clear hL11 R0_10 R1_10 R2_10 R3_10
    have hz11 := hb.size
    try simp only [World.size_alloc, World.drewN, World.drew] at hz11
    clear hb K0_10 K1_10 K2_10 K3_10 K4_10 z0_0_10 z0_1_10 l0_10 z1_0_10 z1_1_10 l1_10 z2_0_10 z2_1_10 l2_10 z3_0_10 z3_1_10 l3_10 z4_0_10 z4_1_10 l4_10
    have l0_11 : w.heap.size < w11.heap.size := K0_11.out.lt
    have z0_0_11 : w11.cell? ⟨w.heap.size, 0, none⟩ = some (.int .i64 (n)) := K0_11.out.cell 0
    have z0_1_11 : w11.cell? ⟨w.heap.size, 1, none⟩ = some (.int .i64 (d)) := K0_11.out.cell 1
    have l1_11 : w4.heap.size < w11.heap.size := K1_11.out.lt
    have z1_0_11 : w11.cell? ⟨w4.heap.size, 0, none⟩ = some (.int .i64 (x1)) := K1_11.out.cell 0
    have z1_1_11 : w11.cell? ⟨w4.heap.size, 1, none⟩ = some (.int .i64 (y1)) := K1_11.out.cell 1
    have l2_11 : w5.heap.size < w11.heap.size := K2_11.out.lt
    have z2_0_11 : w11.cell? ⟨w5.heap.size, 0, none⟩ = some (.int .i64 (x2)) := K2_11.out.cell 0
    have z2_1_11 : w11.cell? ⟨w5.heap.size, 1, none⟩ = some (.int .i64 (y2)) := K2_11.out.cell 1
    have l3_11 : w7.heap.size < w11.heap.size := K3_11.out.lt
    have z3_0_11 : w11.cell? ⟨w7.heap.size, 0, none⟩ = some (.int .i64 (x3)) := K3_11.out.cell 0
    have z3_1_11 : w11.cell? ⟨w7.heap.size, 1, none⟩ = some (.int .i64 (y3)) := K3_11.out.cell 1
    have l4_11 : w8.heap.size < w11.heap.size := K4_11.out.lt
    have z4_0_11 : w11.cell? ⟨w8.heap.size, 0, none⟩ = some (.int .i64 (x3)) := K4_11.out.cell 0
    have z4_1_11 : w11.cell? ⟨w8.heap.size, 1, none⟩ = some (.int .i64 (y3)) := K4_11.out.cell 1
    by_cases p1 : h = 0
    · by_cases p2 : i = 0
      · subst p1 p2
        have hm1 := returns_pos HR1.out
        have u1 : q.tmod m = 0 := Int.tmod_eq_zero_of_dvd (returns_join HR1.out HR2.out)
        have u0 : ¬ m = 0 := by omega
        have u2 : ¬ m < 1 := by omega
        go_wp2_with fail
        go_meet
        exact ⟨by repeat' (first | exact Below.refl _ _ | exact HB11.out | refine below_drewN ?_ _ | refine Below.drew ?_ | refine Below.alloc ?_ (by first | omega | (simp; done) | (simp; omega) | (simp [World.setCell]; omega)) _ | refine Below.setCell ?_ (by first | omega | (simp; done) | (simp; omega)) _ | assumption), by repeat' (first | exact K0_11.out | exact Blk.at_ _ (by first | rfl | (simp; done) | (simp; omega)) _ _ | refine Blk.drewN ?_ _ | refine Blk.drew ?_ | refine Blk.alloc ?_ _ | refine Blk.far ?_ (by first | omega | (simp; done) | (simp; omega)) _ | assumption)⟩
      · subst p1
        have b2 : (i == 0) = false := by simpa using p2
        go_wp2_with fail
        go_meet
        exact ⟨by repeat' (first | exact Below.refl _ _ | exact HB11.out | refine below_drewN ?_ _ | refine Below.drew ?_ | refine Below.alloc ?_ (by first | omega | (simp; done) | (simp; omega) | (simp [World.setCell]; omega)) _ | refine Below.setCell ?_ (by first | omega | (simp; done) | (simp; omega)) _ | assumption), by repeat' (first | exact K0_11.out | exact Blk.at_ _ (by first | rfl | (simp; done) | (simp; omega)) _ _ | refine Blk.drewN ?_ _ | refine Blk.drew ?_ | refine Blk.alloc ?_ _ | refine Blk.far ?_ (by first | omega | (simp; done) | (simp; omega)) _ | assumption)⟩
    · have b1 : (h == 0) = false := by simpa using p1
      go_wp2_with fail
      go_meet
      exact ⟨by repeat' (first | exact Below.refl _ _ | exact HB11.out | refine below_drewN ?_ _ | refine Below.drew ?_ | refine Below.alloc ?_ (by first | omega | (simp; done) | (simp; omega) | (simp [World.setCell]; omega)) _ | refine Below.setCell ?_ (by first | omega | (simp; done) | (simp; omega)) _ | assumption), by repeat' (first | exact K0_11.out | exact Blk.at_ _ (by first | rfl | (simp; done) | (simp; omega)) _ _ | refine Blk.drewN ?_ _ | refine Blk.drew ?_ | refine Blk.alloc ?_ _ | refine Blk.far ?_ (by first | omega | (simp; done) | (simp; omega)) _ | assumption)⟩
  case rest =>
  obtain ⟨hb, hk⟩ := hcut
  obtain ⟨wf, hwf⟩ : ∃ z : World, z = wc := ⟨_, rfl⟩
  subst hwf
  have HB21 := Lib.hid hb
  have K0_21 := Lib.hid (show Blk wf (w.heap.size) 53 #[.int .i64 (n), .int .i64 (d)] from hk)
  clear hb hk
  have l0_21 : w.heap.size < wf.heap.size := K0_21.out.lt
  have z0_0_21 : wf.cell? ⟨w.heap.size, 0, none⟩ = some (.int .i64 (n)) := K0_21.out.cell 0
  have z0_1_21 : wf.cell? ⟨w.heap.size, 1, none⟩ = some (.int .i64 (d)) := K0_21.out.cell 1
  clear HQ1 HQ2 HQ3 HRUN1 HRUN2 HB1 HB2 HB3 HB4 HB5 HB6 HB7 hz1 hz2 hz3 hz4 hz5 hz6 hz7
  obtain ⟨E, hE⟩ : ∃ E, fracErr n d = E := ⟨_, rfl⟩
  have HE := Lib.hid hE
  clear hE
  obtain ⟨w21, hnm⟩ : ∃ z : World, z = wf := ⟨_, rfl⟩
  subst hnm
  by_cases h0 : E = 0
  rotate_left
  · have e0 : (E != 0) = true := by simpa using h0
    go_wp2_with fail
    refine (gfracref_is n d E HE.out _ h1 h2 h3 h4).mono ?_
    rintro e w22 ⟨rfl, hb⟩
    have HB22 := Lib.hid (show Below w.heap.size w w22 from step_below hb (by repeat' (first | exact Below.refl _ _ | exact HB21.out | refine below_drewN ?_ _ | refine Below.drew ?_ | refine Below.alloc ?_ (by first | omega | (simp; done) | (simp; omega) | (simp [World.setCell]; omega)) _ | refine Below.setCell ?_ (by first | omega | (simp; done) | (simp; omega)) _ | assumption)))
    have K0_22 := Lib.hid (step_blk hb (show Blk _ (w.heap.size) 53 #[.int .i64 (n), .int .i64 (d)] by repeat' (first | exact K0_21.out | exact Blk.at_ _ (by first | rfl | (simp; done) | (simp; omega)) _ _ | refine Blk.drewN ?_ _ | refine Blk.drew ?_ | refine Blk.alloc ?_ _ | refine Blk.far ?_ (by first | omega | (simp; done) | (simp; omega)) _ | assumption)))
    have hz22 := hb.size
    try simp only [World.size_alloc, World.drewN, World.drew] at hz22
    clear hb K0_21 z0_0_21 z0_1_21 l0_21
    have l0_22 : w.heap.size < w22.heap.size := K0_22.out.lt
    have z0_0_22 : w22.cell? ⟨w.heap.size, 0, none⟩ = some (.int .i64 (n)) := K0_22.out.cell 0
    have z0_1_22 : w22.cell? ⟨w.heap.size, 1, none⟩ = some (.int .i64 (d)) := K0_22.out.cell 1
    go_wp2
    go_ret
    exact ⟨rfl, by repeat' (first | exact Below.refl _ _ | exact HB22.out | refine below_drewN ?_ _ | refine Below.drew ?_ | refine Below.alloc ?_ (by first | omega | (simp; done) | (simp; omega) | (simp [World.setCell]; omega)) _ | refine Below.setCell ?_ (by first | omega | (simp; done) | (simp; omega)) _ | assumption)⟩
  subst h0
  obtain ⟨d1, d2, n1', n2', hg⟩ := fracErr_ok HE.out
  clear K0_7 K1_7 K2_7 R0_7 R1_7 R2_7 l0_7 l1_7 l2_7 z0_0_7 z0_1_7 z1_0_7 z1_1_7 z2_0_7 z2_1_7
  by_cases hneg : n ≤ 0
  · skip
    go_wp2_with fail
    refine (gfracref_is n d 0 HE.out _ h1 h2 h3 h4).mono ?_
    rintro e w22 ⟨rfl, hb⟩
    have HB22 := Lib.hid (show Below w.heap.size w w22 from step_below hb (by repeat' (first | exact Below.refl _ _ | exact HB21.out | refine below_drewN ?_ _ | refine Below.drew ?_ | refine Below.alloc ?_ (by first | omega | (simp; done) | (simp; omega) | (simp [World.setCell]; omega)) _ | refine Below.setCell ?_ (by first | omega | (simp; done) | (simp; omega)) _ | assumption)))
    have K0_22 := Lib.hid (step_blk hb (show Blk _ (w.heap.size) 53 #[.int .i64 (n), .int .i64 (d)] by repeat' (first | exact K0_21.out | exact Blk.at_ _ (by first | rfl | (simp; done) | (simp; omega)) _ _ | refine Blk.drewN ?_ _ | refine Blk.drew ?_ | refine Blk.alloc ?_ _ | refine Blk.far ?_ (by first | omega | (simp; done) | (simp; omega)) _ | assumption)))
    have hz22 := hb.size
    try simp only [World.size_alloc, World.drewN, World.drew] at hz22
    clear hb K0_21 z0_0_21 z0_1_21 l0_21
    have l0_22 : w.heap.size < w22.heap.size := K0_22.out.lt
    have z0_0_22 : w22.cell? ⟨w.heap.size, 0, none⟩ = some (.int .i64 (n)) := K0_22.out.cell 0
    have z0_1_22 : w22.cell? ⟨w.heap.size, 1, none⟩ = some (.int .i64 (d)) := K0_22.out.cell 1
    go_wp2
    go_ret
    exact ⟨rfl, by repeat' (first | exact Below.refl _ _ | exact HB22.out | refine below_drewN ?_ _ | refine Below.drew ?_ | refine Below.alloc ?_ (by first | omega | (simp; done) | (simp; omega) | (simp [World.setCell]; omega)) _ | refine Below.setCell ?_ (by first | omega | (simp; done) | (simp; omega)) _ | assumption)⟩
  have HC : Hid (convErr n d = 0) := by show _ = _; unfold convErr; rw [if_neg (by rw [HE.out]; simp), if_neg (by omega)]
  have hst := Step.start (n := n) (d := d) (by omega) n2' d1
  have hlen : ((convs n d).length : Int) ≤ d := conv_length n d n d _ _ hst n2' d2
  have HPARTS := Lib.hid (conv_parts n d n d _ _ hst n2' d2)
  have HBEST := Lib.hid (convs_best (n := n) (d := d) (by omega) d1)
  obtain ⟨m, hm⟩ : ∃ m, (convs n d).length = m := ⟨_, rfl⟩
  have HCV : Hid (∀ w : World, Calls Try.prog 34 #[.agg #[.int .i64 n, .int .i64 d]] w fun e w' => ∃ A c, e = .returned (.tuple #[.slice A m c, .int .i64 0]) ∧ Below w.heap.size w w' ∧ Reads w' w'.heap.size 2 A m (cells2 (convs n d))) := fun w => by
    have := gconvs_ok n d HC.out w h1 h2 h3 h4
    rw [hm] at this
    exact this
  rw [hm] at hlen
  clear hm hst
  have hneg' : ¬ n ≤ 0 := hneg
  go_wp2_with fail
  refine (gfracref_is n d 0 HE.out _ h1 h2 h3 h4).mono ?_
  rintro e w22 ⟨rfl, hb⟩
  have HB22 := Lib.hid (show Below w.heap.size w w22 from step_below hb (by repeat' (first | exact Below.refl _ _ | exact HB21.out | refine below_drewN ?_ _ | refine Below.drew ?_ | refine Below.alloc ?_ (by first | omega | (simp; done) | (simp; omega) | (simp [World.setCell]; omega)) _ | refine Below.setCell ?_ (by first | omega | (simp; done) | (simp; omega)) _ | assumption)))
  have K0_22 := Lib.hid (step_blk hb (show Blk _ (w.heap.size) 53 #[.int .i64 (n), .int .i64 (d)] by repeat' (first | exact K0_21.out | exact Blk.at_ _ (by first | rfl | (simp; done) | (simp; omega)) _ _ | refine Blk.drewN ?_ _ | refine Blk.drew ?_ | refine Blk.alloc ?_ _ | refine Blk.far ?_ (by first | omega | (simp; done) | (simp; omega)) _ | assumption)))
  have hz22 := hb.size
  try simp only [World.size_alloc, World.drewN, World.drew] at hz22
  clear hb K0_21 z0_0_21 z0_1_21 l0_21
  have l0_22 : w.heap.size < w22.heap.size := K0_22.out.lt
  have z0_0_22 : w22.cell? ⟨w.heap.size, 0, none⟩ = some (.int .i64 (n)) := K0_22.out.cell 0
  have z0_1_22 : w22.cell? ⟨w.heap.size, 1, none⟩ = some (.int .i64 (d)) := K0_22.out.cell 1
  go_wp2_with fail
  refine (HCV.out _).mono ?_
  rintro e w23 ⟨A5, c5, rfl, hb, hr⟩
  have HB23 := Lib.hid (show Below w.heap.size w w23 from step_below hb (by repeat' (first | exact Below.refl _ _ | exact HB22.out | refine below_drewN ?_ _ | refine Below.drew ?_ | refine Below.alloc ?_ (by first | omega | (simp; done) | (simp; omega) | (simp [World.setCell]; omega)) _ | refine Below.setCell ?_ (by first | omega | (simp; done) | (simp; omega)) _ | assumption)))
  have K0_23 := Lib.hid (step_blk hb (show Blk _ (w.heap.size) 53 #[.int .i64 (n), .int .i64 (d)] by repeat' (first | exact K0_22.out | exact Blk.at_ _ (by first | rfl | (simp; done) | (simp; omega)) _ _ | refine Blk.drewN ?_ _ | refine Blk.drew ?_ | refine Blk.alloc ?_ _ | refine Blk.far ?_ (by first | omega | (simp; done) | (simp; omega)) _ | assumption)))
  have hz23 := hb.size
  try simp only [World.size_alloc, World.drewN, World.drew] at hz23
  clear hb K0_22 z0_0_22 z0_1_22 l0_22
  have l0_23 : w.heap.size < w23.heap.size := K0_23.out.lt
  have z0_0_23 : w23.cell? ⟨w.heap.size, 0, none⟩ = some (.int .i64 (n)) := K0_23.out.cell 0
  have z0_1_23 : w23.cell? ⟨w.heap.size, 1, none⟩ = some (.int .i64 (d)) := K0_23.out.cell 1
  have R0_23 := Lib.hid hr
  clear hr
  go_wp2
  go_loopw [21] (fun i wr => ∃ k : Nat, 1 ≤ k ∧ i = .int .i64 k ∧ Below w.heap.size w wr ∧ Blk wr w.heap.size 53 #[.int .i64 n, .int .i64 d] ∧ Reads wr wr.heap.size 2 A5 m (cells2 (convs n d))) (fun i _ => m - (intOf i).toNat)
  case atStart => exact ⟨1, by omega, rfl, HB23.out, K0_23.out, R0_23.out⟩
  case round =>
    obtain ⟨k, hk, rfl, hb, hk0, hrd⟩ := hrel
    obtain ⟨w30, hnm⟩ : ∃ z : World, z = wr := ⟨_, rfl⟩
    subst hnm
    by_cases hlt : k < m
    rotate_left
    · go_wp2
      go_ret
      exact ⟨rfl, hb⟩
    have HB30 := Lib.hid hb
    have K0_30 := Lib.hid (show Blk w30 (w.heap.size) 53 #[.int .i64 (n), .int .i64 (d)] from hk0)
    clear hb hk0
    have l0_30 : w.heap.size < w30.heap.size := K0_30.out.lt
    have z0_0_30 : w30.cell? ⟨w.heap.size, 0, none⟩ = some (.int .i64 (n)) := K0_30.out.cell 0
    have z0_1_30 : w30.cell? ⟨w.heap.size, 1, none⟩ = some (.int .i64 (d)) := K0_30.out.cell 1
    obtain ⟨xb, xo, p, rfl, hxb, hp, c0, c1⟩ := hrd.pair hlt
    have R0_30 := Lib.hid hrd
    clear hrd
    have hbc := HBEST.out k p hk hp
    obtain ⟨p1, p2, p3, p4⟩ := HPARTS.out p (List.mem_of_getElem? hp)
    have HBC := Lib.hid hbc
    obtain ⟨b1, b2, b3, -⟩ := hbc
    obtain ⟨pn, pd⟩ := p
    simp only at c0 c1 b1 b2 b3 p1 p2 p3 p4
    have HPE : Hid (fracErr pn pd = 0) := by show _ = _; unfold fracErr; rw [if_neg (by omega), if_neg (by omega)]
    clear hp
    go_wp2_with fail
    refine (gfracref_is pn pd 0 HPE.out _ (by omega) (by omega) (by omega) (by omega)).mono ?_
    rintro e w31 ⟨rfl, hb⟩
    have HB31 := Lib.hid (show Below w.heap.size w w31 from step_below hb (by repeat' (first | exact Below.refl _ _ | exact HB30.out | refine below_drewN ?_ _ | refine Below.drew ?_ | refine Below.alloc ?_ (by first | omega | (simp; done) | (simp; omega) | (simp [World.setCell]; omega)) _ | refine Below.setCell ?_ (by first | omega | (simp; done) | (simp; omega)) _ | assumption)))
    have K0_31 := Lib.hid (step_blk hb (show Blk _ (w.heap.size) 53 #[.int .i64 (n), .int .i64 (d)] by repeat' (first | exact K0_30.out | exact Blk.at_ _ (by first | rfl | (simp; done) | (simp; omega)) _ _ | refine Blk.drewN ?_ _ | refine Blk.drew ?_ | refine Blk.alloc ?_ _ | refine Blk.far ?_ (by first | omega | (simp; done) | (simp; omega)) _ | assumption)))
    have K1_31 := Lib.hid (step_blk hb (show Blk _ (w30.heap.size) 53 #[.int .i64 (pn), .int .i64 (pd)] by repeat' (first | exact K0_30.out | exact Blk.at_ _ (by first | rfl | (simp; done) | (simp; omega)) _ _ | refine Blk.drewN ?_ _ | refine Blk.drew ?_ | refine Blk.alloc ?_ _ | refine Blk.far ?_ (by first | omega | (simp; done) | (simp; omega)) _ | assumption)))
    have hL31 := Lib.hid (show Below w30.heap.size w30 _ from reads_mid hb (by repeat' (first | exact Below.refl _ _ | refine below_drewN ?_ _ | refine Below.drew ?_ | refine Below.alloc ?_ (by first | omega | (simp; done) | (simp; omega) | (simp [World.setCell]; omega)) _ | refine Below.setCell ?_ (by first | omega | (simp; done) | (simp; omega)) _)))
    have R0_31 := Lib.hid (reads_lay hb hL31.out R0_30.out)
    clear hL31 R0_30
    have hz31 := hb.size
    try simp only [World.size_alloc, World.drewN, World.drew] at hz31
    clear hb K0_30 z0_0_30 z0_1_30 l0_30
    have l0_31 : w.heap.size < w31.heap.size := K0_31.out.lt
    have z0_0_31 : w31.cell? ⟨w.heap.size, 0, none⟩ = some (.int .i64 (n)) := K0_31.out.cell 0
    have z0_1_31 : w31.cell? ⟨w.heap.size, 1, none⟩ = some (.int .i64 (d)) := K0_31.out.cell 1
    have l1_31 : w30.heap.size < w31.heap.size := K1_31.out.lt
    have z1_0_31 : w31.cell? ⟨w30.heap.size, 0, none⟩ = some (.int .i64 (pn)) := K1_31.out.cell 0
    have z1_1_31 : w31.cell? ⟨w30.heap.size, 1, none⟩ = some (.int .i64 (pd)) := K1_31.out.cell 1
    clear c0 c1
    by_cases hs1 : 60 < pn
    · go_wp2
      go_ret
      exact ⟨rfl, by repeat' (first | exact Below.refl _ _ | exact HB31.out | refine below_drewN ?_ _ | refine Below.drew ?_ | refine Below.alloc ?_ (by first | omega | (simp; done) | (simp; omega) | (simp [World.setCell]; omega)) _ | refine Below.setCell ?_ (by first | omega | (simp; done) | (simp; omega)) _ | assumption)⟩
    by_cases hs2 : 60 < pd
    · go_wp2
      go_ret
      exact ⟨rfl, by repeat' (first | exact Below.refl _ _ | exact HB31.out | refine below_drewN ?_ _ | refine Below.drew ?_ | refine Below.alloc ?_ (by first | omega | (simp; done) | (simp; omega) | (simp [World.setCell]; omega)) _ | refine Below.setCell ?_ (by first | omega | (simp; done) | (simp; omega)) _ | assumption)⟩
    clear z0_0_31 z0_1_31 z1_0_31 z1_1_31
    have z1_0_31 : w31.cell? ⟨w30.heap.size, 0, none⟩ = some (.int .i64 pn) := K1_31.out.cell 0
    have z1_1_31 : w31.cell? ⟨w30.heap.size, 1, none⟩ = some (.int .i64 pd) := K1_31.out.cell 1
    go_wp2
    clear z1_0_31 z1_1_31
    go_loopw [24] (fun i wr => ∃ j : Nat, 1 ≤ j ∧ (j : Int) ≤ pd + 1 ∧ i = .int .i64 j ∧ Below w31.heap.size w31 wr ∧ Blk wr w31.heap.size 74 #[.int .i64 pn, .int .i64 pd]) (fun i _ => (pd + 1 - intOf i).toNat)
    case atStart => exact ⟨1, by omega, by omega, rfl, (Below.refl _ _).alloc (Nat.le_refl _) _, Blk.new _ _ _⟩
    case round =>
      obtain ⟨j, hj1, hj2, rfl, hb, hko⟩ := hrel
      obtain ⟨wo, hnm⟩ : ∃ z : World, z = wr := ⟨_, rfl⟩
      subst hnm
      have HB2 := Lib.hid hb
      have HKO := Lib.hid hko
      have d1 : wo.cell? ⟨w30.heap.size, 1, none⟩ = some (.int .i64 pd) := (K1_31.out.below hb l1_31).cell 1
      have hbs := hb.size
      clear hb hko
      by_cases hlt3 : (j : Int) ≤ pd
      · go_wp2
        clear d1
        go_loopw [25] (fun i wr => ∃ q : Nat, 1 ≤ q ∧ q ≤ 61 ∧ i = .int .i64 q ∧ Below w31.heap.size w31 wr ∧ Blk wr w31.heap.size 74 #[.int .i64 pn, .int .i64 pd]) (fun i _ => (61 - intOf i).toNat)
        case atStart => exact ⟨1, by omega, by omega, rfl, HB2.out, HKO.out⟩
        case round =>
          obtain ⟨q, hq1, hq2, rfl, hb, hko⟩ := hrel
          obtain ⟨wp, hnm⟩ : ∃ z : World, z = wr := ⟨_, rfl⟩
          subst hnm
          by_cases hlt4 : (q : Int) ≤ 60
          · have n0 : wp.cell? ⟨w.heap.size, 0, none⟩ = some (.int .i64 n) := (K0_31.out.below hb l0_31).cell 0
            have n1 : wp.cell? ⟨w.heap.size, 1, none⟩ = some (.int .i64 d) := (K0_31.out.below hb l0_31).cell 1
            have o0 : wp.cell? ⟨w31.heap.size, 0, none⟩ = some (.int .i64 pn) := hko.cell 0
            have o1 : wp.cell? ⟨w31.heap.size, 1, none⟩ = some (.int .i64 pd) := hko.cell 1
            have HB3 := Lib.hid hb
            have HKO3 := Lib.hid hko
            have HF := Lib.hid (HBC.out.far (x := (q : Int)) (y := (j : Int)) (by omega) hlt3)
            clear hb hko
            go_wp2_with fail
            refine (nearer_is n d (q : Int) (j : Int) (pn, pd) false HF.out _ (by omega) (by omega) (by omega) (by omega) (by omega) (by omega) (by omega) (by omega) (by simp only; omega) (by simp only; omega) (by simp only; omega) (by simp only; omega)).mono ?_
            rintro e w' ⟨rfl, hbn⟩
            have HBN := Lib.hid hbn
            clear hbn n0 n1 o0 o1
            go_wp2
            go_roundw
            case rel => exact ⟨q + 1, by omega, by omega, by go_num, HB3.out.trans (HBN.out.mono HB3.out.size), HKO3.out.below HBN.out HKO3.out.lt⟩
            case measure => simp [intOf]; omega
          · go_wp2
            go_roundw
            case rel => exact ⟨j + 1, by omega, by omega, by go_num, hb, hko⟩
            case measure => simp [intOf]; omega
      · go_wp2
        go_roundw
        case rel =>
          exact ⟨k + 1, by omega, by go_num, HB31.out.trans (HB2.out.mono HB31.out.size), K0_31.out.below HB2.out l0_31, (R0_31.out.below HB2.out).more hbs⟩
        case measure => simp [intOf]; omega

end Go.Proofs.Ytoiconebcmneiab

end
