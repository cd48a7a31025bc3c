import Derived.Test.YtgamepmipoociaaQ24
import Derived.Test.YtgamepmipoociaaQ26
import Derived.Test.YtgamepmipoociaaQ29
import Derived.Test.YtgamepmipoociaaQ30

section
/- The walk of the statement on cables. -/
namespace Go.Proofs.Ytgamepmipoociaa
open Go Go.RowKit

theorem turnsAt_ok {m : Mnt} {X Y : Int} {L : List Int} (h : turnsAt m X Y = (L, 0)) : withinB Y m.lo m.hi = true ∧ L = turnsL m.ls m.ms X ∧ turnsL m.ls m.ms X ≠ [] := by
  unfold turnsAt at h
  cases h1 : withinB Y m.lo m.hi
  · rw [if_pos h1] at h; cases h
  · rw [if_neg (by rw [h1]; simp)] at h
    by_cases h2 : turnsL m.ls m.ms X = []
    · rw [if_pos h2] at h; cases h
    · rw [if_neg h2] at h
      exact ⟨rfl, (Prod.mk.inj h).1.symm, h2⟩
theorem turnsAt_len (m : Mnt) (X Y : Int) : (turnsAt m X Y).1.length ≤ 43 := by
  unfold turnsAt
  split
  · simp
  · split
    · simp
    · exact turnsTo_len _ _ _ _

theorem tab_vals {l : List (Int × Int)} (h : tabErr l = 0) : ∀ p ∈ l, -1000000 ≤ p.2 ∧ p.2 ≤ 1000000 := by
  unfold tabErr at h
  split at h
  · exact absurd h (by decide)
  · exact fun p hp => ((rows_ok l none h).1 p hp).2
theorem tgt_az {t : Tgt} (h : tgtErr t = 0) (z : Int) (h0 : 0 ≤ z) (h1 : z ≤ 1295999) : tgtErr { t with az := z } = 0 := by
  obtain ⟨a1, a2, a3, a4, a5, a6⟩ := tgt_right h
  have hr : ({ t with az := z } : Tgt).rng = true := by
    unfold Tgt.rng
    simp only [Bool.and_eq_true, withinB_iff]
    omega
  unfold tgtErr
  rw [hr, if_neg (by simp only; rw [a1]; simp), if_neg (by simp), if_neg (by simp only; omega)]
/-- The first k values have a constant added. -/
def mixV (k : Nat) (l : List (Int × Int)) : List (Int × Int) := addV 996000 (l.take k) ++ l.drop k
theorem mixV_zero (l : List (Int × Int)) : mixV 0 l = l := by simp [mixV, addV]
theorem mixV_all {l : List (Int × Int)} {n : Nat} (h : l.length = n) : mixV n l = addV 996000 l := by
  unfold mixV
  rw [← h, List.take_length, List.drop_length, List.append_nil]
theorem addV_len (c : Int) (l : List (Int × Int)) : (addV c l).length = l.length := by simp [addV]
theorem mixV_get {l : List (Int × Int)} {k : Nat} {p : Int × Int} (h : l[k]? = some p) : (mixV k l)[k]? = some p := by
  have hk := (List.getElem?_eq_some_iff.1 h).1
  have hl : (addV 996000 (l.take k)).length = k := by rw [addV_len, List.length_take]; omega
  unfold mixV
  rw [List.getElem?_append_right (by omega), hl, Nat.sub_self, List.getElem?_drop]
  simpa using h
theorem mixV_set {l : List (Int × Int)} {k : Nat} {p : Int × Int} (h : l[k]? = some p) : (mixV k l).set k (p.1, p.2 + 996000) = mixV (k + 1) l := by
  obtain ⟨hk, hp⟩ := List.getElem?_eq_some_iff.1 h
  have hl : (addV 996000 (l.take k)).length = k := by rw [addV_len, List.length_take]; omega
  unfold mixV
  rw [List.set_append_right _ _ (by omega), hl, Nat.sub_self, List.drop_eq_getElem_cons hk, List.set_cons_zero, List.take_add_one, h]
  unfold addV
  rw [List.map_append]
  simp
theorem cells2_set1' : ∀ {l : List (Int × Int)} {k : Nat} {p : Int × Int} (_ : l[k]? = some p) (z : Int), (cells2 l).set (k * 2 + 1) (.int .i64 z) = cells2 (l.set k (p.1, z))
  | [], _, _, h, _ => by simp at h
  | q :: l, 0, p, h, z => by
    obtain rfl : q = p := by simpa using h
    rfl
  | q :: l, k + 1, p, h, z => by
    have ih := cells2_set1' (l := l) (k := k) (by simpa using h) z
    show ([Value.int .i64 q.1, Value.int .i64 q.2] ++ cells2 l).set _ _ = [Value.int .i64 q.1, Value.int .i64 q.2] ++ cells2 (l.set k _)
    rw [← ih, List.set_append_right _ _ (by show 2 ≤ _; omega)]
    congr 2
    show _ = k * 2 + 1
    simp
    omega

set_option maxRecDepth 100000 in
set_option maxHeartbeats 4000000 in
theorem lawPC_no (m : Mnt) (t : Tgt) (day : Int) (w : World) (hma : MntAt m w) (hts : t.name.size ≤ maxLen) (h0 : lightB m = false ∨ 30 < t.name.size ∨ mtdErr m t day ≠ 0) :
    Calls Try.prog 8 #[m.val, t.val, .int .i64 day] w fun e w' => e = .returned (.bool true) ∧ Below w.heap.size w w' := by
  unfold Mnt.val Tgt.val
  cases hl : lightB m
  · have HL := Lib.hid hl
    clear hl h0
    go_enter Try.func8, Try.ntmps8
    go_wp2_with fail
    refine (awakept_any _).mono ?_
    rintro e w1 ⟨rfl, hb⟩
    have HB1 := Lib.hid (show Below w.heap.size w w1 from step_below hb (by repeat' (first | exact Below.refl _ _ | exact HB0.out | refine below_drewN ?_ _ | refine Below.drew ?_ | refine Below.alloc ?_ (by first | omega | (simp; done) | (simp; omega) | (simp [World.setCell]; omega)) _ | refine Below.setCell ?_ (by first | omega | (simp; done) | (simp; omega)) _ | assumption)))
    have K0_1 := Lib.hid (step_blk hb (show Blk _ (w.heap.size) 42 #[.int .i64 (m.ls), .int .i64 (m.ms), .int .i64 (m.lo), .int .i64 (m.hi), .int .i64 (m.sp), .slice m.A1 m.n1 m.c1, .slice m.A2 m.n2 m.c2] by repeat' (first | exact Blk.at_ _ (by first | rfl | (simp; done) | (simp; omega)) _ _ | refine Blk.drewN ?_ _ | refine Blk.drew ?_ | refine Blk.alloc ?_ _ | refine Blk.far ?_ (by first | omega | (simp; done) | (simp; omega)) _ | assumption)))
    have K1_1 := Lib.hid (step_blk hb (show Blk _ (w.heap.size + 1) 44 #[.string t.name, .int .i64 (t.az), .int .i64 (t.ht), .int .i64 (t.fr), .int .i64 (t.to), .int .i64 (t.dw)] by repeat' (first | exact Blk.at_ _ (by first | rfl | (simp; done) | (simp; omega)) _ _ | refine Blk.drewN ?_ _ | refine Blk.drew ?_ | refine Blk.alloc ?_ _ | refine Blk.far ?_ (by first | omega | (simp; done) | (simp; omega)) _ | assumption)))
    have hz1 := hb.size
    try simp only [World.size_alloc, World.drewN, World.drew] at hz1
    clear hb
    have l0_1 : w.heap.size < w1.heap.size := K0_1.out.lt
    have z0_0_1 : w1.cell? ⟨w.heap.size, 0, none⟩ = some (.int .i64 (m.ls)) := K0_1.out.cell 0
    have z0_1_1 : w1.cell? ⟨w.heap.size, 1, none⟩ = some (.int .i64 (m.ms)) := K0_1.out.cell 1
    have z0_2_1 : w1.cell? ⟨w.heap.size, 2, none⟩ = some (.int .i64 (m.lo)) := K0_1.out.cell 2
    have z0_3_1 : w1.cell? ⟨w.heap.size, 3, none⟩ = some (.int .i64 (m.hi)) := K0_1.out.cell 3
    have z0_4_1 : w1.cell? ⟨w.heap.size, 4, none⟩ = some (.int .i64 (m.sp)) := K0_1.out.cell 4
    have z0_5_1 : w1.cell? ⟨w.heap.size, 5, none⟩ = some (.slice m.A1 m.n1 m.c1) := K0_1.out.cell 5
    have z0_6_1 : w1.cell? ⟨w.heap.size, 6, none⟩ = some (.slice m.A2 m.n2 m.c2) := K0_1.out.cell 6
    have l1_1 : w.heap.size + 1 < w1.heap.size := K1_1.out.lt
    have z1_0_1 : w1.cell? ⟨w.heap.size + 1, 0, none⟩ = some (.string t.name) := K1_1.out.cell 0
    have z1_1_1 : w1.cell? ⟨w.heap.size + 1, 1, none⟩ = some (.int .i64 (t.az)) := K1_1.out.cell 1
    have z1_2_1 : w1.cell? ⟨w.heap.size + 1, 2, none⟩ = some (.int .i64 (t.ht)) := K1_1.out.cell 2
    have z1_3_1 : w1.cell? ⟨w.heap.size + 1, 3, none⟩ = some (.int .i64 (t.fr)) := K1_1.out.cell 3
    have z1_4_1 : w1.cell? ⟨w.heap.size + 1, 4, none⟩ = some (.int .i64 (t.to)) := K1_1.out.cell 4
    have z1_5_1 : w1.cell? ⟨w.heap.size + 1, 5, none⟩ = some (.int .i64 (t.dw)) := K1_1.out.cell 5
    go_wp2_with fail
    refine (light_is m false HL.out _).mono ?_
    rintro e w2 ⟨rfl, hb⟩
    have HB2 := Lib.hid (show Below w.heap.size w w2 from step_below hb (by repeat' (first | exact Below.refl _ _ | exact HB1.out | refine below_drewN ?_ _ | refine Below.drew ?_ | refine Below.alloc ?_ (by first | omega | (simp; done) | (simp; omega) | (simp [World.setCell]; omega)) _ | refine Below.setCell ?_ (by first | omega | (simp; done) | (simp; omega)) _ | assumption)))
    have K0_2 := Lib.hid (step_blk hb (show Blk _ (w.heap.size) 42 #[.int .i64 (m.ls), .int .i64 (m.ms), .int .i64 (m.lo), .int .i64 (m.hi), .int .i64 (m.sp), .slice m.A1 m.n1 m.c1, .slice m.A2 m.n2 m.c2] by repeat' (first | exact K0_1.out | exact K1_1.out | exact Blk.at_ _ (by first | rfl | (simp; done) | (simp; omega)) _ _ | refine Blk.drewN ?_ _ | refine Blk.drew ?_ | refine Blk.alloc ?_ _ | refine Blk.far ?_ (by first | omega | (simp; done) | (simp; omega)) _ | assumption)))
    have K1_2 := Lib.hid (step_blk hb (show Blk _ (w.heap.size + 1) 44 #[.string t.name, .int .i64 (t.az), .int .i64 (t.ht), .int .i64 (t.fr), .int .i64 (t.to), .int .i64 (t.dw)] by repeat' (first | exact K0_1.out | exact K1_1.out | exact Blk.at_ _ (by first | rfl | (simp; done) | (simp; omega)) _ _ | refine Blk.drewN ?_ _ | refine Blk.drew ?_ | refine Blk.alloc ?_ _ | refine Blk.far ?_ (by first | omega | (simp; done) | (simp; omega)) _ | assumption)))
    have hz2 := hb.size
    try simp only [World.size_alloc, World.drewN, World.drew] at hz2
    clear hb K0_1 K1_1 z0_0_1 z0_1_1 z0_2_1 z0_3_1 z0_4_1 z0_5_1 z0_6_1 l0_1 z1_0_1 z1_1_1 z1_2_1 z1_3_1 z1_4_1 z1_5_1 l1_1
    have l0_2 : w.heap.size < w2.heap.size := K0_2.out.lt
    have z0_0_2 : w2.cell? ⟨w.heap.size, 0, none⟩ = some (.int .i64 (m.ls)) := K0_2.out.cell 0
    have z0_1_2 : w2.cell? ⟨w.heap.size, 1, none⟩ = some (.int .i64 (m.ms)) := K0_2.out.cell 1
    have z0_2_2 : w2.cell? ⟨w.heap.size, 2, none⟩ = some (.int .i64 (m.lo)) := K0_2.out.cell 2
    have z0_3_2 : w2.cell? ⟨w.heap.size, 3, none⟩ = some (.int .i64 (m.hi)) := K0_2.out.cell 3
    have z0_4_2 : w2.cell? ⟨w.heap.size, 4, none⟩ = some (.int .i64 (m.sp)) := K0_2.out.cell 4
    have z0_5_2 : w2.cell? ⟨w.heap.size, 5, none⟩ = some (.slice m.A1 m.n1 m.c1) := K0_2.out.cell 5
    have z0_6_2 : w2.cell? ⟨w.heap.size, 6, none⟩ = some (.slice m.A2 m.n2 m.c2) := K0_2.out.cell 6
    have l1_2 : w.heap.size + 1 < w2.heap.size := K1_2.out.lt
    have z1_0_2 : w2.cell? ⟨w.heap.size + 1, 0, none⟩ = some (.string t.name) := K1_2.out.cell 0
    have z1_1_2 : w2.cell? ⟨w.heap.size + 1, 1, none⟩ = some (.int .i64 (t.az)) := K1_2.out.cell 1
    have z1_2_2 : w2.cell? ⟨w.heap.size + 1, 2, none⟩ = some (.int .i64 (t.ht)) := K1_2.out.cell 2
    have z1_3_2 : w2.cell? ⟨w.heap.size + 1, 3, none⟩ = some (.int .i64 (t.fr)) := K1_2.out.cell 3
    have z1_4_2 : w2.cell? ⟨w.heap.size + 1, 4, none⟩ = some (.int .i64 (t.to)) := K1_2.out.cell 4
    have z1_5_2 : w2.cell? ⟨w.heap.size + 1, 5, none⟩ = some (.int .i64 (t.dw)) := K1_2.out.cell 5
    go_wp2
    go_ret
    exact ⟨rfl, by repeat' (first | exact Below.refl _ _ | exact HB2.out | refine below_drewN ?_ _ | refine Below.drew ?_ | refine Below.alloc ?_ (by first | omega | (simp; done) | (simp; omega) | (simp [World.setCell]; omega)) _ | refine Below.setCell ?_ (by first | omega | (simp; done) | (simp; omega)) _ | assumption)⟩
  have hn1 := rowsB_le (show rowsB m.n1 = true by unfold lightB at hl; simp at hl; exact hl.1)
  have hn2 := rowsB_le (show rowsB m.n2 = true by unfold lightB at hl; simp at hl; exact hl.2)
  have HL := Lib.hid hl
  by_cases h30 : (30 : Int) < (t.name.size : Int)
  · clear hl h0
    go_enter Try.func8, Try.ntmps8
    go_wp2_with fail
    refine (awakept_any _).mono ?_
    rintro e w1 ⟨rfl, hb⟩
    have HB1 := Lib.hid (show Below w.heap.size w w1 from step_below hb (by repeat' (first | exact Below.refl _ _ | exact HB0.out | refine below_drewN ?_ _ | refine Below.drew ?_ | refine Below.alloc ?_ (by first | omega | (simp; done) | (simp; omega) | (simp [World.setCell]; omega)) _ | refine Below.setCell ?_ (by first | omega | (simp; done) | (simp; omega)) _ | assumption)))
    have K0_1 := Lib.hid (step_blk hb (show Blk _ (w.heap.size) 42 #[.int .i64 (m.ls), .int .i64 (m.ms), .int .i64 (m.lo), .int .i64 (m.hi), .int .i64 (m.sp), .slice m.A1 m.n1 m.c1, .slice m.A2 m.n2 m.c2] by repeat' (first | exact Blk.at_ _ (by first | rfl | (simp; done) | (simp; omega)) _ _ | refine Blk.drewN ?_ _ | refine Blk.drew ?_ | refine Blk.alloc ?_ _ | refine Blk.far ?_ (by first | omega | (simp; done) | (simp; omega)) _ | assumption)))
    have K1_1 := Lib.hid (step_blk hb (show Blk _ (w.heap.size + 1) 44 #[.string t.name, .int .i64 (t.az), .int .i64 (t.ht), .int .i64 (t.fr), .int .i64 (t.to), .int .i64 (t.dw)] by repeat' (first | exact Blk.at_ _ (by first | rfl | (simp; done) | (simp; omega)) _ _ | refine Blk.drewN ?_ _ | refine Blk.drew ?_ | refine Blk.alloc ?_ _ | refine Blk.far ?_ (by first | omega | (simp; done) | (simp; omega)) _ | assumption)))
    have hz1 := hb.size
    try simp only [World.size_alloc, World.drewN, World.drew] at hz1
    clear hb
    have l0_1 : w.heap.size < w1.heap.size := K0_1.out.lt
    have z0_0_1 : w1.cell? ⟨w.heap.size, 0, none⟩ = some (.int .i64 (m.ls)) := K0_1.out.cell 0
    have z0_1_1 : w1.cell? ⟨w.heap.size, 1, none⟩ = some (.int .i64 (m.ms)) := K0_1.out.cell 1
    have z0_2_1 : w1.cell? ⟨w.heap.size, 2, none⟩ = some (.int .i64 (m.lo)) := K0_1.out.cell 2
    have z0_3_1 : w1.cell? ⟨w.heap.size, 3, none⟩ = some (.int .i64 (m.hi)) := K0_1.out.cell 3
    have z0_4_1 : w1.cell? ⟨w.heap.size, 4, none⟩ = some (.int .i64 (m.sp)) := K0_1.out.cell 4
    have z0_5_1 : w1.cell? ⟨w.heap.size, 5, none⟩ = some (.slice m.A1 m.n1 m.c1) := K0_1.out.cell 5
    have z0_6_1 : w1.cell? ⟨w.heap.size, 6, none⟩ = some (.slice m.A2 m.n2 m.c2) := K0_1.out.cell 6
    have l1_1 : w.heap.size + 1 < w1.heap.size := K1_1.out.lt
    have z1_0_1 : w1.cell? ⟨w.heap.size + 1, 0, none⟩ = some (.string t.name) := K1_1.out.cell 0
    have z1_1_1 : w1.cell? ⟨w.heap.size + 1, 1, none⟩ = some (.int .i64 (t.az)) := K1_1.out.cell 1
    have z1_2_1 : w1.cell? ⟨w.heap.size + 1, 2, none⟩ = some (.int .i64 (t.ht)) := K1_1.out.cell 2
    have z1_3_1 : w1.cell? ⟨w.heap.size + 1, 3, none⟩ = some (.int .i64 (t.fr)) := K1_1.out.cell 3
    have z1_4_1 : w1.cell? ⟨w.heap.size + 1, 4, none⟩ = some (.int .i64 (t.to)) := K1_1.out.cell 4
    have z1_5_1 : w1.cell? ⟨w.heap.size + 1, 5, none⟩ = some (.int .i64 (t.dw)) := K1_1.out.cell 5
    go_wp2_with fail
    refine (light_is m true HL.out _).mono ?_
    rintro e w2 ⟨rfl, hb⟩
    have HB2 := Lib.hid (show Below w.heap.size w w2 from step_below hb (by repeat' (first | exact Below.refl _ _ | exact HB1.out | refine below_drewN ?_ _ | refine Below.drew ?_ | refine Below.alloc ?_ (by first | omega | (simp; done) | (simp; omega) | (simp [World.setCell]; omega)) _ | refine Below.setCell ?_ (by first | omega | (simp; done) | (simp; omega)) _ | assumption)))
    have K0_2 := Lib.hid (step_blk hb (show Blk _ (w.heap.size) 42 #[.int .i64 (m.ls), .int .i64 (m.ms), .int .i64 (m.lo), .int .i64 (m.hi), .int .i64 (m.sp), .slice m.A1 m.n1 m.c1, .slice m.A2 m.n2 m.c2] by repeat' (first | exact K0_1.out | exact K1_1.out | exact Blk.at_ _ (by first | rfl | (simp; done) | (simp; omega)) _ _ | refine Blk.drewN ?_ _ | refine Blk.drew ?_ | refine Blk.alloc ?_ _ | refine Blk.far ?_ (by first | omega | (simp; done) | (simp; omega)) _ | assumption)))
    have K1_2 := Lib.hid (step_blk hb (show Blk _ (w.heap.size + 1) 44 #[.string t.name, .int .i64 (t.az), .int .i64 (t.ht), .int .i64 (t.fr), .int .i64 (t.to), .int .i64 (t.dw)] by repeat' (first | exact K0_1.out | exact K1_1.out | exact Blk.at_ _ (by first | rfl | (simp; done) | (simp; omega)) _ _ | refine Blk.drewN ?_ _ | refine Blk.drew ?_ | refine Blk.alloc ?_ _ | refine Blk.far ?_ (by first | omega | (simp; done) | (simp; omega)) _ | assumption)))
    have hz2 := hb.size
    try simp only [World.size_alloc, World.drewN, World.drew] at hz2
    clear hb K0_1 K1_1 z0_0_1 z0_1_1 z0_2_1 z0_3_1 z0_4_1 z0_5_1 z0_6_1 l0_1 z1_0_1 z1_1_1 z1_2_1 z1_3_1 z1_4_1 z1_5_1 l1_1
    have l0_2 : w.heap.size < w2.heap.size := K0_2.out.lt
    have z0_0_2 : w2.cell? ⟨w.heap.size, 0, none⟩ = some (.int .i64 (m.ls)) := K0_2.out.cell 0
    have z0_1_2 : w2.cell? ⟨w.heap.size, 1, none⟩ = some (.int .i64 (m.ms)) := K0_2.out.cell 1
    have z0_2_2 : w2.cell? ⟨w.heap.size, 2, none⟩ = some (.int .i64 (m.lo)) := K0_2.out.cell 2
    have z0_3_2 : w2.cell? ⟨w.heap.size, 3, none⟩ = some (.int .i64 (m.hi)) := K0_2.out.cell 3
    have z0_4_2 : w2.cell? ⟨w.heap.size, 4, none⟩ = some (.int .i64 (m.sp)) := K0_2.out.cell 4
    have z0_5_2 : w2.cell? ⟨w.heap.size, 5, none⟩ = some (.slice m.A1 m.n1 m.c1) := K0_2.out.cell 5
    have z0_6_2 : w2.cell? ⟨w.heap.size, 6, none⟩ = some (.slice m.A2 m.n2 m.c2) := K0_2.out.cell 6
    have l1_2 : w.heap.size + 1 < w2.heap.size := K1_2.out.lt
    have z1_0_2 : w2.cell? ⟨w.heap.size + 1, 0, none⟩ = some (.string t.name) := K1_2.out.cell 0
    have z1_1_2 : w2.cell? ⟨w.heap.size + 1, 1, none⟩ = some (.int .i64 (t.az)) := K1_2.out.cell 1
    have z1_2_2 : w2.cell? ⟨w.heap.size + 1, 2, none⟩ = some (.int .i64 (t.ht)) := K1_2.out.cell 2
    have z1_3_2 : w2.cell? ⟨w.heap.size + 1, 3, none⟩ = some (.int .i64 (t.fr)) := K1_2.out.cell 3
    have z1_4_2 : w2.cell? ⟨w.heap.size + 1, 4, none⟩ = some (.int .i64 (t.to)) := K1_2.out.cell 4
    have z1_5_2 : w2.cell? ⟨w.heap.size + 1, 5, none⟩ = some (.int .i64 (t.dw)) := K1_2.out.cell 5
    go_wp2
    go_ret
    exact ⟨rfl, by repeat' (first | exact Below.refl _ _ | exact HB2.out | refine below_drewN ?_ _ | refine Below.drew ?_ | refine Below.alloc ?_ (by first | omega | (simp; done) | (simp; omega) | (simp [World.setCell]; omega)) _ | refine Below.setCell ?_ (by first | omega | (simp; done) | (simp; omega)) _ | assumption)⟩
  obtain ⟨E, hE⟩ : ∃ E, mtdErr m t day = E := ⟨_, rfl⟩
  have hE0 : E ≠ 0 := by
    rcases h0 with h | h | h
    · rw [hl] at h; cases h
    · exact absurd (by omega) h30
    · rwa [hE] at h
  have HE := Lib.hid hE
  have HE0 := Lib.hid hE0
  have q2 : (E != 0) = true := by simpa using hE0
  clear hE hE0 h0 hl
  go_enter Try.func8, Try.ntmps8
  have R0_0 := Lib.hid hma
  clear hma
  go_wp2_with fail
  refine (awakept_any _).mono ?_
  rintro e w1 ⟨rfl, hb⟩
  have HB1 := Lib.hid (show Below w.heap.size w w1 from step_below hb (by repeat' (first | exact Below.refl _ _ | exact HB0.out | refine below_drewN ?_ _ | refine Below.drew ?_ | refine Below.alloc ?_ (by first | omega | (simp; done) | (simp; omega) | (simp [World.setCell]; omega)) _ | refine Below.setCell ?_ (by first | omega | (simp; done) | (simp; omega)) _ | assumption)))
  have K0_1 := Lib.hid (step_blk hb (show Blk _ (w.heap.size) 42 #[.int .i64 (m.ls), .int .i64 (m.ms), .int .i64 (m.lo), .int .i64 (m.hi), .int .i64 (m.sp), .slice m.A1 m.n1 m.c1, .slice m.A2 m.n2 m.c2] by repeat' (first | exact Blk.at_ _ (by first | rfl | (simp; done) | (simp; omega)) _ _ | refine Blk.drewN ?_ _ | refine Blk.drew ?_ | refine Blk.alloc ?_ _ | refine Blk.far ?_ (by first | omega | (simp; done) | (simp; omega)) _ | assumption)))
  have K1_1 := Lib.hid (step_blk hb (show Blk _ (w.heap.size + 1) 44 #[.string t.name, .int .i64 (t.az), .int .i64 (t.ht), .int .i64 (t.fr), .int .i64 (t.to), .int .i64 (t.dw)] by repeat' (first | exact Blk.at_ _ (by first | rfl | (simp; done) | (simp; omega)) _ _ | refine Blk.drewN ?_ _ | refine Blk.drew ?_ | refine Blk.alloc ?_ _ | refine Blk.far ?_ (by first | omega | (simp; done) | (simp; omega)) _ | assumption)))
  have hL1 := Lib.hid (show Below w.heap.size w _ from reads_mid hb (by repeat' (first | exact Below.refl _ _ | refine below_drewN ?_ _ | refine Below.drew ?_ | refine Below.alloc ?_ (by first | omega | (simp; done) | (simp; omega) | (simp [World.setCell]; omega)) _ | refine Below.setCell ?_ (by first | omega | (simp; done) | (simp; omega)) _)))
  have R0_1 := Lib.hid (mnt_lay hb hL1.out R0_0.out)
  clear hL1 R0_0
  have hz1 := hb.size
  try simp only [World.size_alloc, World.drewN, World.drew] at hz1
  clear hb
  have l0_1 : w.heap.size < w1.heap.size := K0_1.out.lt
  have z0_0_1 : w1.cell? ⟨w.heap.size, 0, none⟩ = some (.int .i64 (m.ls)) := K0_1.out.cell 0
  have z0_1_1 : w1.cell? ⟨w.heap.size, 1, none⟩ = some (.int .i64 (m.ms)) := K0_1.out.cell 1
  have z0_2_1 : w1.cell? ⟨w.heap.size, 2, none⟩ = some (.int .i64 (m.lo)) := K0_1.out.cell 2
  have z0_3_1 : w1.cell? ⟨w.heap.size, 3, none⟩ = some (.int .i64 (m.hi)) := K0_1.out.cell 3
  have z0_4_1 : w1.cell? ⟨w.heap.size, 4, none⟩ = some (.int .i64 (m.sp)) := K0_1.out.cell 4
  have z0_5_1 : w1.cell? ⟨w.heap.size, 5, none⟩ = some (.slice m.A1 m.n1 m.c1) := K0_1.out.cell 5
  have z0_6_1 : w1.cell? ⟨w.heap.size, 6, none⟩ = some (.slice m.A2 m.n2 m.c2) := K0_1.out.cell 6
  have l1_1 : w.heap.size + 1 < w1.heap.size := K1_1.out.lt
  have z1_0_1 : w1.cell? ⟨w.heap.size + 1, 0, none⟩ = some (.string t.name) := K1_1.out.cell 0
  have z1_1_1 : w1.cell? ⟨w.heap.size + 1, 1, none⟩ = some (.int .i64 (t.az)) := K1_1.out.cell 1
  have z1_2_1 : w1.cell? ⟨w.heap.size + 1, 2, none⟩ = some (.int .i64 (t.ht)) := K1_1.out.cell 2
  have z1_3_1 : w1.cell? ⟨w.heap.size + 1, 3, none⟩ = some (.int .i64 (t.fr)) := K1_1.out.cell 3
  have z1_4_1 : w1.cell? ⟨w.heap.size + 1, 4, none⟩ = some (.int .i64 (t.to)) := K1_1.out.cell 4
  have z1_5_1 : w1.cell? ⟨w.heap.size + 1, 5, none⟩ = some (.int .i64 (t.dw)) := K1_1.out.cell 5
  go_wp2_with fail
  refine (light_is m true HL.out _).mono ?_
  rintro e w2 ⟨rfl, hb⟩
  have HB2 := Lib.hid (show Below w.heap.size w w2 from step_below hb (by repeat' (first | exact Below.refl _ _ | exact HB1.out | refine below_drewN ?_ _ | refine Below.drew ?_ | refine Below.alloc ?_ (by first | omega | (simp; done) | (simp; omega) | (simp [World.setCell]; omega)) _ | refine Below.setCell ?_ (by first | omega | (simp; done) | (simp; omega)) _ | assumption)))
  have K0_2 := Lib.hid (step_blk hb (show Blk _ (w.heap.size) 42 #[.int .i64 (m.ls), .int .i64 (m.ms), .int .i64 (m.lo), .int .i64 (m.hi), .int .i64 (m.sp), .slice m.A1 m.n1 m.c1, .slice m.A2 m.n2 m.c2] by repeat' (first | exact K0_1.out | exact K1_1.out | exact Blk.at_ _ (by first | rfl | (simp; done) | (simp; omega)) _ _ | refine Blk.drewN ?_ _ | refine Blk.drew ?_ | refine Blk.alloc ?_ _ | refine Blk.far ?_ (by first | omega | (simp; done) | (simp; omega)) _ | assumption)))
  have K1_2 := Lib.hid (step_blk hb (show Blk _ (w.heap.size + 1) 44 #[.string t.name, .int .i64 (t.az), .int .i64 (t.ht), .int .i64 (t.fr), .int .i64 (t.to), .int .i64 (t.dw)] by repeat' (first | exact K0_1.out | exact K1_1.out | exact Blk.at_ _ (by first | rfl | (simp; done) | (simp; omega)) _ _ | refine Blk.drewN ?_ _ | refine Blk.drew ?_ | refine Blk.alloc ?_ _ | refine Blk.far ?_ (by first | omega | (simp; done) | (simp; omega)) _ | assumption)))
  have hL2 := Lib.hid (show Below w1.heap.size w1 _ from reads_mid hb (by repeat' (first | exact Below.refl _ _ | refine below_drewN ?_ _ | refine Below.drew ?_ | refine Below.alloc ?_ (by first | omega | (simp; done) | (simp; omega) | (simp [World.setCell]; omega)) _ | refine Below.setCell ?_ (by first | omega | (simp; done) | (simp; omega)) _)))
  have R0_2 := Lib.hid (mnt_lay hb hL2.out R0_1.out)
  clear hL2 R0_1
  have hz2 := hb.size
  try simp only [World.size_alloc, World.drewN, World.drew] at hz2
  clear hb K0_1 K1_1 z0_0_1 z0_1_1 z0_2_1 z0_3_1 z0_4_1 z0_5_1 z0_6_1 l0_1 z1_0_1 z1_1_1 z1_2_1 z1_3_1 z1_4_1 z1_5_1 l1_1
  have l0_2 : w.heap.size < w2.heap.size := K0_2.out.lt
  have z0_0_2 : w2.cell? ⟨w.heap.size, 0, none⟩ = some (.int .i64 (m.ls)) := K0_2.out.cell 0
  have z0_1_2 : w2.cell? ⟨w.heap.size, 1, none⟩ = some (.int .i64 (m.ms)) := K0_2.out.cell 1
  have z0_2_2 : w2.cell? ⟨w.heap.size, 2, none⟩ = some (.int .i64 (m.lo)) := K0_2.out.cell 2
  have z0_3_2 : w2.cell? ⟨w.heap.size, 3, none⟩ = some (.int .i64 (m.hi)) := K0_2.out.cell 3
  have z0_4_2 : w2.cell? ⟨w.heap.size, 4, none⟩ = some (.int .i64 (m.sp)) := K0_2.out.cell 4
  have z0_5_2 : w2.cell? ⟨w.heap.size, 5, none⟩ = some (.slice m.A1 m.n1 m.c1) := K0_2.out.cell 5
  have z0_6_2 : w2.cell? ⟨w.heap.size, 6, none⟩ = some (.slice m.A2 m.n2 m.c2) := K0_2.out.cell 6
  have l1_2 : w.heap.size + 1 < w2.heap.size := K1_2.out.lt
  have z1_0_2 : w2.cell? ⟨w.heap.size + 1, 0, none⟩ = some (.string t.name) := K1_2.out.cell 0
  have z1_1_2 : w2.cell? ⟨w.heap.size + 1, 1, none⟩ = some (.int .i64 (t.az)) := K1_2.out.cell 1
  have z1_2_2 : w2.cell? ⟨w.heap.size + 1, 2, none⟩ = some (.int .i64 (t.ht)) := K1_2.out.cell 2
  have z1_3_2 : w2.cell? ⟨w.heap.size + 1, 3, none⟩ = some (.int .i64 (t.fr)) := K1_2.out.cell 3
  have z1_4_2 : w2.cell? ⟨w.heap.size + 1, 4, none⟩ = some (.int .i64 (t.to)) := K1_2.out.cell 4
  have z1_5_2 : w2.cell? ⟨w.heap.size + 1, 5, none⟩ = some (.int .i64 (t.dw)) := K1_2.out.cell 5
  go_wp2
  apply share (Fact := fun (_ z : Pick2) (wz : World) => ∃ bx, z.1.1 = some ⟨bx, 0, none⟩ ∧ w2.heap.size ≤ bx ∧ Below w2.heap.size w2 wz ∧ Blk wz bx 46 #[.int .i64 (0), .int .i64 (0)])
  · intro key
    refine Fx.regionM (fun W g f w' => KpS (PfT m 0 [] 0 [] 1 99 98) 46 (.int .i64 (0)) (.int .i64 (0)) 8 9 W g f w') (fun i (x : Pick2) => if i = 8 then .pointer x.1.1 else valT m 0 0 1 99 i x) (by kernel_rfl) ?_ ?_
    · intro f hf0
      exact KpS.start
    first
    | (refine Fx.WM.skip 0 (by rfl) (by kernel_rfl) (by kernel_rfl) (by kernel_rfl) (by rfl) (fun g f w h => h.same (by decide)) ?_; simp only [Act.put, List.setIfInBounds_toArray, List.set_cons_zero, List.set_cons_succ])
    | (refine Fx.WM.val_ 0 ?_ (by rfl) (by kernel_rfl) (by kernel_rfl) (by kernel_rfl) (by rfl) ?_ (fun g f w h => h.same (by decide)) ?_
       rotate_left
       · intro g f w' hx hD hk
         obtain hkp := id hD
         have y0_0 := (K0_2.out.below hkp.bel l0_2).cell 0
         have y0_1 := (K0_2.out.below hkp.bel l0_2).cell 1
         have y0_2 := (K0_2.out.below hkp.bel l0_2).cell 2
         have y0_3 := (K0_2.out.below hkp.bel l0_2).cell 3
         have y0_4 := (K0_2.out.below hkp.bel l0_2).cell 4
         have y0_5 := (K0_2.out.below hkp.bel l0_2).cell 5
         have y0_6 := (K0_2.out.below hkp.bel l0_2).cell 6
         clear hx hk hD hkp
         go_simp
         try rfl
       simp only [Act.put, List.setIfInBounds_toArray, List.set_cons_zero, List.set_cons_succ])
    first
    | (refine Fx.WM.skip 2 (by rfl) (by kernel_rfl) (by kernel_rfl) (by kernel_rfl) (by rfl) (fun g f w h => h.same (by decide)) ?_; simp only [Act.put, List.setIfInBounds_toArray, List.set_cons_zero, List.set_cons_succ])
    | (refine Fx.WM.val_ 2 ?_ (by rfl) (by kernel_rfl) (by kernel_rfl) (by kernel_rfl) (by rfl) ?_ (fun g f w h => h.same (by decide)) ?_
       rotate_left
       · intro g f w' hx hD hk
         obtain hkp := id hD
         have y1_0 := (K1_2.out.below hkp.bel l1_2).cell 0
         have y1_1 := (K1_2.out.below hkp.bel l1_2).cell 1
         have y1_2 := (K1_2.out.below hkp.bel l1_2).cell 2
         have y1_3 := (K1_2.out.below hkp.bel l1_2).cell 3
         have y1_4 := (K1_2.out.below hkp.bel l1_2).cell 4
         have y1_5 := (K1_2.out.below hkp.bel l1_2).cell 5
         clear hx hk hD hkp
         go_simp
         try rfl
       simp only [Act.put, List.setIfInBounds_toArray, List.set_cons_zero, List.set_cons_succ])
    first
    | (refine Fx.WM.skip 3 (by rfl) (by kernel_rfl) (by kernel_rfl) (by kernel_rfl) (by rfl) (fun g f w h => h.same (by decide)) ?_; simp only [Act.put, List.setIfInBounds_toArray, List.set_cons_zero, List.set_cons_succ])
    | (refine Fx.WM.val_ 3 ?_ (by rfl) (by kernel_rfl) (by kernel_rfl) (by kernel_rfl) (by rfl) ?_ (fun g f w h => h.same (by decide)) ?_
       rotate_left
       · intro g f w' hx hD hk
         obtain hkp := id hD
         clear hx hk hD hkp
         go_simp
         try rfl
       simp only [Act.put, List.setIfInBounds_toArray, List.set_cons_zero, List.set_cons_succ])
    refine Fx.WM.choose2 1 8 (by rfl) (by rfl) (by kernel_rfl) (by rfl) (by rfl) ?_ ?_ ?_ ?_
    · skip
      refine Fx.Chooses.call ?_ ?_ (by rfl) ?_ ?_
      rotate_left 2
      · intro w'
        go_simp
        refine ⟨?_, ?_⟩ <;> rfl
      · intro f w' hD hk
        exact (mount_any m w' (R0_2.out.lay hD.bel) (by omega) (by omega)).mono fun e w'' ⟨A', c', B', d', he, hb, hm⟩ => ⟨((A', c'), (B', d')), he, hD.choose PfT.stb hb 1 _ (by decide) (by decide) ⟨fun _ => hm, fun e => absurd e (by decide), fun e => absurd e (by decide)⟩⟩
    · skip
      refine Fx.Chooses.make (by rfl) ?_
      intro f w' hD hk
      refine ⟨((some ⟨w'.heap.size, 0, none⟩, 0), (none, 0)), w'.alloc (.cells #[.int .i64 (0), .int .i64 (0)] 46), ?_, ?_⟩
      · clear hk hD
        go_simp
        try rfl
      · exact hD.make PfT.stb (hk.2.1 9 (by kernel_rfl)) (by decide)
    · intro x
      simp only [Act.put, List.setIfInBounds_toArray, List.set_cons_zero, List.set_cons_succ]
      refine Fx.WM.call 4 (.tuple #[.agg #[.int .i64 (0), .int .i64 (0)], .int .i64 (E)]) ?_ ?_ (by rfl) (by kernel_rfl) (by kernel_rfl) (by kernel_rfl) (by rfl) ?_ ?_ ?_
      rotate_left 2
      · intro w'
        go_simp
        refine ⟨?_, ?_⟩ <;> rfl
      · intro g f w' hx hD hk
        exact (pApparent_bad (m.to x.1.1 x.1.2 x.2.1 x.2.2) t day E HE.out HE0.out w' ((hD.has (hk.2.1 9 (by kernel_rfl)) 1 x (hx 1 _ (by rfl)) (by decide)).1 rfl) hts).mono fun e w'' ⟨he, hw⟩ => ⟨he, hD.call PfT.stb (by decide) hw⟩
      simp only [Act.put, List.setIfInBounds_toArray, List.set_cons_zero, List.set_cons_succ]
      first
      | (refine Fx.WM.skip 5 (by rfl) (by kernel_rfl) (by kernel_rfl) (by kernel_rfl) (by rfl) (fun g f w h => h.same (by decide)) ?_; simp only [Act.put, List.setIfInBounds_toArray, List.set_cons_zero, List.set_cons_succ])
      | (refine Fx.WM.val_ 5 ?_ (by rfl) (by kernel_rfl) (by kernel_rfl) (by kernel_rfl) (by rfl) ?_ (fun g f w h => h.same (by decide)) ?_
         rotate_left
         · intro g f w' hx hD hk
           obtain hkp := id hD
           clear hx hk hD hkp
           go_simp
           try rfl
         simp only [Act.put, List.setIfInBounds_toArray, List.set_cons_zero, List.set_cons_succ])
      first
      | (refine Fx.WM.skip 6 (by rfl) (by kernel_rfl) (by kernel_rfl) (by kernel_rfl) (by rfl) (fun g f w h => h.same (by decide)) ?_; simp only [Act.put, List.setIfInBounds_toArray, List.set_cons_zero, List.set_cons_succ])
      | (refine Fx.WM.val_ 6 ?_ (by rfl) (by kernel_rfl) (by kernel_rfl) (by kernel_rfl) (by rfl) ?_ (fun g f w h => h.same (by decide)) ?_
         rotate_left
         · intro g f w' hx hD hk
           obtain hkp := id hD
           clear hx hk hD hkp
           go_simp
           try rfl
         simp only [Act.put, List.setIfInBounds_toArray, List.set_cons_zero, List.set_cons_succ])
      first
      | (refine Fx.WM.skip 7 (by rfl) (by kernel_rfl) (by kernel_rfl) (by kernel_rfl) (by rfl) (fun g f w h => h.same (by decide)) ?_; simp only [Act.put, List.setIfInBounds_toArray, List.set_cons_zero, List.set_cons_succ])
      | (refine Fx.WM.val_ 7 ?_ (by rfl) (by kernel_rfl) (by kernel_rfl) (by kernel_rfl) (by rfl) ?_ (fun g f w h => h.same (by decide)) ?_
         rotate_left
         · intro g f w' hx hD hk
           obtain hkp := id hD
           clear hx hk hD hkp
           go_simp
           try rfl
         simp only [Act.put, List.setIfInBounds_toArray, List.set_cons_zero, List.set_cons_succ])
      refine Fx.WM.choose 8 (by rfl) (by kernel_rfl) (by rfl) ?_ ?_
      · skip
        refine Fx.Chooses.make (by rfl) ?_
        intro f w' hD hk
        refine ⟨((some ⟨w'.heap.size, 0, none⟩, 0), (none, 0)), w'.alloc (.cells #[.int .i64 (0), .int .i64 (0)] 46), ?_, ?_⟩
        · clear hk hD
          go_simp
          try rfl
        · exact hD.make PfT.stb (hk.2.1 9 (by kernel_rfl)) (by decide)
      intro z
      simp only [Act.put, List.setIfInBounds_toArray, List.set_cons_zero, List.set_cons_succ]
      refine Fx.WM.eff 9 undef (by rfl) (by kernel_rfl) (by kernel_rfl) (by kernel_rfl) (by rfl) ?_ ?_
      · intro g f w' hx hD hk
        obtain ⟨bx, e0, e1, r0, r1, r2, r3, r4, r5⟩ := KpS.cells hD (hx 8 _ (by rfl))
        refine Fx.gives_skip (w' := ((w'.setCell ⟨bx, 0, none⟩ (.int .i64 (0))).setCell ⟨bx, 1, none⟩ (.int .i64 (0)))) ?_ ?_
        · clear hx hk hD
          go_simp
          try rfl
        · exact KpS.store hD (hx 8 _ (by rfl)) r0
      simp only [Act.put, List.setIfInBounds_toArray, List.set_cons_zero, List.set_cons_succ]
      first
      | (refine Fx.WM.skip 10 (by rfl) (by kernel_rfl) (by kernel_rfl) (by kernel_rfl) (by rfl) (fun g f w h => h.same (by decide)) ?_; simp only [Act.put, List.setIfInBounds_toArray, List.set_cons_zero, List.set_cons_succ])
      | (refine Fx.WM.val_ 10 ?_ (by rfl) (by kernel_rfl) (by kernel_rfl) (by kernel_rfl) (by rfl) ?_ (fun g f w h => h.same (by decide)) ?_
         rotate_left
         · intro g f w' hx hD hk
           obtain hkp := id hD
           clear hx hk hD hkp
           go_simp
           try rfl
         simp only [Act.put, List.setIfInBounds_toArray, List.set_cons_zero, List.set_cons_succ])
      refine Fx.WM.nil (by kernel_rfl) ?_
      intro wz hkp
      obtain ⟨bx, h1, h2, h3⟩ := KpS.end_ hkp (x := z) (by rfl) (by rfl)
      exact key x z wz ⟨bx, h1, h2, hkp.bel, h3⟩
    · intro z
      simp only [Act.put, List.setIfInBounds_toArray, List.set_cons_zero, List.set_cons_succ]
      refine Fx.WM.choose 1 (by rfl) (by kernel_rfl) (by rfl) ?_ ?_
      · skip
        refine Fx.Chooses.call ?_ ?_ (by rfl) ?_ ?_
        rotate_left 2
        · intro w'
          go_simp
          refine ⟨?_, ?_⟩ <;> rfl
        · intro f w' hD hk
          exact (mount_any m w' (R0_2.out.lay hD.bel) (by omega) (by omega)).mono fun e w'' ⟨A', c', B', d', he, hb, hm⟩ => ⟨((A', c'), (B', d')), he, hD.choose PfT.stb hb 1 _ (by decide) (by decide) ⟨fun _ => hm, fun e => absurd e (by decide), fun e => absurd e (by decide)⟩⟩
      intro x
      simp only [Act.put, List.setIfInBounds_toArray, List.set_cons_zero, List.set_cons_succ]
      refine Fx.WM.call 4 (.tuple #[.agg #[.int .i64 (0), .int .i64 (0)], .int .i64 (E)]) ?_ ?_ (by rfl) (by kernel_rfl) (by kernel_rfl) (by kernel_rfl) (by rfl) ?_ ?_ ?_
      rotate_left 2
      · intro w'
        go_simp
        refine ⟨?_, ?_⟩ <;> rfl
      · intro g f w' hx hD hk
        exact (pApparent_bad (m.to x.1.1 x.1.2 x.2.1 x.2.2) t day E HE.out HE0.out w' ((hD.has (hk.2.1 9 (by kernel_rfl)) 1 x (hx 1 _ (by rfl)) (by decide)).1 rfl) hts).mono fun e w'' ⟨he, hw⟩ => ⟨he, hD.call PfT.stb (by decide) hw⟩
      simp only [Act.put, List.setIfInBounds_toArray, List.set_cons_zero, List.set_cons_succ]
      first
      | (refine Fx.WM.skip 5 (by rfl) (by kernel_rfl) (by kernel_rfl) (by kernel_rfl) (by rfl) (fun g f w h => h.same (by decide)) ?_; simp only [Act.put, List.setIfInBounds_toArray, List.set_cons_zero, List.set_cons_succ])
      | (refine Fx.WM.val_ 5 ?_ (by rfl) (by kernel_rfl) (by kernel_rfl) (by kernel_rfl) (by rfl) ?_ (fun g f w h => h.same (by decide)) ?_
         rotate_left
         · intro g f w' hx hD hk
           obtain hkp := id hD
           clear hx hk hD hkp
           go_simp
           try rfl
         simp only [Act.put, List.setIfInBounds_toArray, List.set_cons_zero, List.set_cons_succ])
      first
      | (refine Fx.WM.skip 6 (by rfl) (by kernel_rfl) (by kernel_rfl) (by kernel_rfl) (by rfl) (fun g f w h => h.same (by decide)) ?_; simp only [Act.put, List.setIfInBounds_toArray, List.set_cons_zero, List.set_cons_succ])
      | (refine Fx.WM.val_ 6 ?_ (by rfl) (by kernel_rfl) (by kernel_rfl) (by kernel_rfl) (by rfl) ?_ (fun g f w h => h.same (by decide)) ?_
         rotate_left
         · intro g f w' hx hD hk
           obtain hkp := id hD
           clear hx hk hD hkp
           go_simp
           try rfl
         simp only [Act.put, List.setIfInBounds_toArray, List.set_cons_zero, List.set_cons_succ])
      first
      | (refine Fx.WM.skip 7 (by rfl) (by kernel_rfl) (by kernel_rfl) (by kernel_rfl) (by rfl) (fun g f w h => h.same (by decide)) ?_; simp only [Act.put, List.setIfInBounds_toArray, List.set_cons_zero, List.set_cons_succ])
      | (refine Fx.WM.val_ 7 ?_ (by rfl) (by kernel_rfl) (by kernel_rfl) (by kernel_rfl) (by rfl) ?_ (fun g f w h => h.same (by decide)) ?_
         rotate_left
         · intro g f w' hx hD hk
           obtain hkp := id hD
           clear hx hk hD hkp
           go_simp
           try rfl
         simp only [Act.put, List.setIfInBounds_toArray, List.set_cons_zero, List.set_cons_succ])
      refine Fx.WM.eff 9 undef (by rfl) (by kernel_rfl) (by kernel_rfl) (by kernel_rfl) (by rfl) ?_ ?_
      · intro g f w' hx hD hk
        obtain ⟨bx, e0, e1, r0, r1, r2, r3, r4, r5⟩ := KpS.cells hD (hx 8 _ (by rfl))
        refine Fx.gives_skip (w' := ((w'.setCell ⟨bx, 0, none⟩ (.int .i64 (0))).setCell ⟨bx, 1, none⟩ (.int .i64 (0)))) ?_ ?_
        · clear hx hk hD
          go_simp
          try rfl
        · exact KpS.store hD (hx 8 _ (by rfl)) r0
      simp only [Act.put, List.setIfInBounds_toArray, List.set_cons_zero, List.set_cons_succ]
      first
      | (refine Fx.WM.skip 10 (by rfl) (by kernel_rfl) (by kernel_rfl) (by kernel_rfl) (by rfl) (fun g f w h => h.same (by decide)) ?_; simp only [Act.put, List.setIfInBounds_toArray, List.set_cons_zero, List.set_cons_succ])
      | (refine Fx.WM.val_ 10 ?_ (by rfl) (by kernel_rfl) (by kernel_rfl) (by kernel_rfl) (by rfl) ?_ (fun g f w h => h.same (by decide)) ?_
         rotate_left
         · intro g f w' hx hD hk
           obtain hkp := id hD
           clear hx hk hD hkp
           go_simp
           try rfl
         simp only [Act.put, List.setIfInBounds_toArray, List.set_cons_zero, List.set_cons_succ])
      refine Fx.WM.nil (by kernel_rfl) ?_
      intro wz hkp
      obtain ⟨bx, h1, h2, h3⟩ := KpS.end_ hkp (x := z) (by rfl) (by rfl)
      exact key x z wz ⟨bx, h1, h2, hkp.bel, h3⟩
  rintro x ⟨⟨z1, z2⟩, z3⟩ w3 ⟨bx, hz, hbx, hb, hblk⟩
  simp only at hz
  subst hz
  have HB3 := Lib.hid (show Below w.heap.size w w3 from step_below hb (by repeat' (first | exact Below.refl _ _ | exact HB2.out | refine below_drewN ?_ _ | refine Below.drew ?_ | refine Below.alloc ?_ (by first | omega | (simp; done) | (simp; omega) | (simp [World.setCell]; omega)) _ | refine Below.setCell ?_ (by first | omega | (simp; done) | (simp; omega)) _ | assumption)))
  have K0_3 := Lib.hid (step_blk hb (show Blk _ (w.heap.size) 42 #[.int .i64 (m.ls), .int .i64 (m.ms), .int .i64 (m.lo), .int .i64 (m.hi), .int .i64 (m.sp), .slice m.A1 m.n1 m.c1, .slice m.A2 m.n2 m.c2] by repeat' (first | exact K0_2.out | exact K1_2.out | exact Blk.at_ _ (by first | rfl | (simp; done) | (simp; omega)) _ _ | refine Blk.drewN ?_ _ | refine Blk.drew ?_ | refine Blk.alloc ?_ _ | refine Blk.far ?_ (by first | omega | (simp; done) | (simp; omega)) _ | assumption)))
  have K1_3 := Lib.hid (step_blk hb (show Blk _ (w.heap.size + 1) 44 #[.string t.name, .int .i64 (t.az), .int .i64 (t.ht), .int .i64 (t.fr), .int .i64 (t.to), .int .i64 (t.dw)] by repeat' (first | exact K0_2.out | exact K1_2.out | exact Blk.at_ _ (by first | rfl | (simp; done) | (simp; omega)) _ _ | refine Blk.drewN ?_ _ | refine Blk.drew ?_ | refine Blk.alloc ?_ _ | refine Blk.far ?_ (by first | omega | (simp; done) | (simp; omega)) _ | assumption)))
  have hL3 := Lib.hid (show Below w2.heap.size w2 _ from reads_mid hb (by repeat' (first | exact Below.refl _ _ | refine below_drewN ?_ _ | refine Below.drew ?_ | refine Below.alloc ?_ (by first | omega | (simp; done) | (simp; omega) | (simp [World.setCell]; omega)) _ | refine Below.setCell ?_ (by first | omega | (simp; done) | (simp; omega)) _)))
  have R0_3 := Lib.hid (mnt_lay hb hL3.out R0_2.out)
  clear hL3 R0_2
  have hz3 := hb.size
  try simp only [World.size_alloc, World.drewN, World.drew] at hz3
  clear hb K0_2 K1_2 z0_0_2 z0_1_2 z0_2_2 z0_3_2 z0_4_2 z0_5_2 z0_6_2 l0_2 z1_0_2 z1_1_2 z1_2_2 z1_3_2 z1_4_2 z1_5_2 l1_2
  have l0_3 : w.heap.size < w3.heap.size := K0_3.out.lt
  have z0_0_3 : w3.cell? ⟨w.heap.size, 0, none⟩ = some (.int .i64 (m.ls)) := K0_3.out.cell 0
  have z0_1_3 : w3.cell? ⟨w.heap.size, 1, none⟩ = some (.int .i64 (m.ms)) := K0_3.out.cell 1
  have z0_2_3 : w3.cell? ⟨w.heap.size, 2, none⟩ = some (.int .i64 (m.lo)) := K0_3.out.cell 2
  have z0_3_3 : w3.cell? ⟨w.heap.size, 3, none⟩ = some (.int .i64 (m.hi)) := K0_3.out.cell 3
  have z0_4_3 : w3.cell? ⟨w.heap.size, 4, none⟩ = some (.int .i64 (m.sp)) := K0_3.out.cell 4
  have z0_5_3 : w3.cell? ⟨w.heap.size, 5, none⟩ = some (.slice m.A1 m.n1 m.c1) := K0_3.out.cell 5
  have z0_6_3 : w3.cell? ⟨w.heap.size, 6, none⟩ = some (.slice m.A2 m.n2 m.c2) := K0_3.out.cell 6
  have l1_3 : w.heap.size + 1 < w3.heap.size := K1_3.out.lt
  have z1_0_3 : w3.cell? ⟨w.heap.size + 1, 0, none⟩ = some (.string t.name) := K1_3.out.cell 0
  have z1_1_3 : w3.cell? ⟨w.heap.size + 1, 1, none⟩ = some (.int .i64 (t.az)) := K1_3.out.cell 1
  have z1_2_3 : w3.cell? ⟨w.heap.size + 1, 2, none⟩ = some (.int .i64 (t.ht)) := K1_3.out.cell 2
  have z1_3_3 : w3.cell? ⟨w.heap.size + 1, 3, none⟩ = some (.int .i64 (t.fr)) := K1_3.out.cell 3
  have z1_4_3 : w3.cell? ⟨w.heap.size + 1, 4, none⟩ = some (.int .i64 (t.to)) := K1_3.out.cell 4
  have z1_5_3 : w3.cell? ⟨w.heap.size + 1, 5, none⟩ = some (.int .i64 (t.dw)) := K1_3.out.cell 5
  have K2_3 := Lib.hid (show Blk w3 (bx) 46 #[.int .i64 (0), .int .i64 (0)] from hblk)
  clear hblk
  have l2_3 : bx < w3.heap.size := K2_3.out.lt
  have z2_0_3 : w3.cell? ⟨bx, 0, none⟩ = some (.int .i64 (0)) := K2_3.out.cell 0
  have z2_1_3 : w3.cell? ⟨bx, 1, none⟩ = some (.int .i64 (0)) := K2_3.out.cell 1
  go_wp2
  refine Fx.regionM (fun W g f w' => Kp (PfT m 0 [] 0 [] 1 99 98) W g w') (valT m 0 0 1 99) (by kernel_rfl) ?_ ?_
  · intro f hf0
    exact Kp.start
  first
  | (refine Fx.WM.skip 0 (by rfl) (by kernel_rfl) (by kernel_rfl) (by kernel_rfl) (by rfl) (fun g f w h => h) ?_; simp only [Act.put, List.setIfInBounds_toArray, List.set_cons_zero, List.set_cons_succ])
  | (refine Fx.WM.val_ 0 ?_ (by rfl) (by kernel_rfl) (by kernel_rfl) (by kernel_rfl) (by rfl) ?_ (fun g f w h => h) ?_
     rotate_left
     · intro g f w' hx hD hk
       obtain hkp := id hD
       have y0_0 := (K0_3.out.below hkp.bel l0_3).cell 0
       have y0_1 := (K0_3.out.below hkp.bel l0_3).cell 1
       have y0_2 := (K0_3.out.below hkp.bel l0_3).cell 2
       have y0_3 := (K0_3.out.below hkp.bel l0_3).cell 3
       have y0_4 := (K0_3.out.below hkp.bel l0_3).cell 4
       have y0_5 := (K0_3.out.below hkp.bel l0_3).cell 5
       have y0_6 := (K0_3.out.below hkp.bel l0_3).cell 6
       clear hx hk hD hkp
       go_simp
       try rfl
     simp only [Act.put, List.setIfInBounds_toArray, List.set_cons_zero, List.set_cons_succ])
  first
  | (refine Fx.WM.skip 2 (by rfl) (by kernel_rfl) (by kernel_rfl) (by kernel_rfl) (by rfl) (fun g f w h => h) ?_; simp only [Act.put, List.setIfInBounds_toArray, List.set_cons_zero, List.set_cons_succ])
  | (refine Fx.WM.val_ 2 ?_ (by rfl) (by kernel_rfl) (by kernel_rfl) (by kernel_rfl) (by rfl) ?_ (fun g f w h => h) ?_
     rotate_left
     · intro g f w' hx hD hk
       obtain hkp := id hD
       have y1_0 := (K1_3.out.below hkp.bel l1_3).cell 0
       have y1_1 := (K1_3.out.below hkp.bel l1_3).cell 1
       have y1_2 := (K1_3.out.below hkp.bel l1_3).cell 2
       have y1_3 := (K1_3.out.below hkp.bel l1_3).cell 3
       have y1_4 := (K1_3.out.below hkp.bel l1_3).cell 4
       have y1_5 := (K1_3.out.below hkp.bel l1_3).cell 5
       clear hx hk hD hkp
       go_simp
       try rfl
     simp only [Act.put, List.setIfInBounds_toArray, List.set_cons_zero, List.set_cons_succ])
  first
  | (refine Fx.WM.skip 3 (by rfl) (by kernel_rfl) (by kernel_rfl) (by kernel_rfl) (by rfl) (fun g f w h => h) ?_; simp only [Act.put, List.setIfInBounds_toArray, List.set_cons_zero, List.set_cons_succ])
  | (refine Fx.WM.val_ 3 ?_ (by rfl) (by kernel_rfl) (by kernel_rfl) (by kernel_rfl) (by rfl) ?_ (fun g f w h => h) ?_
     rotate_left
     · intro g f w' hx hD hk
       obtain hkp := id hD
       clear hx hk hD hkp
       go_simp
       try rfl
     simp only [Act.put, List.setIfInBounds_toArray, List.set_cons_zero, List.set_cons_succ])
  refine Fx.WM.choose 1 (by rfl) (by kernel_rfl) (by rfl) ?_ ?_
  · skip
    refine Fx.Chooses.call ?_ ?_ (by rfl) ?_ ?_
    rotate_left 2
    · intro w'
      go_simp
      refine ⟨?_, ?_⟩ <;> rfl
    · intro f w' hD hk
      exact (mount_any m w' (R0_3.out.lay hD.bel) (by omega) (by omega)).mono fun e w'' ⟨A', c', B', d', he, hb, hm⟩ => ⟨((A', c'), (B', d')), he, hD.choose PfT.stb hb 1 _ ⟨fun _ => hm, fun e => absurd e (by decide), fun e => absurd e (by decide)⟩⟩
  intro x
  simp only [Act.put, List.setIfInBounds_toArray, List.set_cons_zero, List.set_cons_succ]
  refine Fx.WM.call 4 (.tuple #[.slice none 0 0, .int .i64 E]) ?_ ?_ (by rfl) (by kernel_rfl) (by kernel_rfl) (by kernel_rfl) (by rfl) ?_ ?_ ?_
  rotate_left 2
  · intro w'
    go_simp
    refine ⟨?_, ?_⟩ <;> rfl
  · intro g f w' hx hD hk
    exact (pTurns_bad (m.to x.1.1 x.1.2 x.2.1 x.2.2) t day E HE.out HE0.out w' ((hD.has 1 x (hx 1 _ (by rfl))).1 rfl) hts).mono fun e w'' ⟨he, hw⟩ => ⟨he, hD.call PfT.stb hw⟩
  simp only [Act.put, List.setIfInBounds_toArray, List.set_cons_zero, List.set_cons_succ]
  first
  | (refine Fx.WM.skip 5 (by rfl) (by kernel_rfl) (by kernel_rfl) (by kernel_rfl) (by rfl) (fun g f w h => h) ?_; simp only [Act.put, List.setIfInBounds_toArray, List.set_cons_zero, List.set_cons_succ])
  | (refine Fx.WM.val_ 5 ?_ (by rfl) (by kernel_rfl) (by kernel_rfl) (by kernel_rfl) (by rfl) ?_ (fun g f w h => h) ?_
     rotate_left
     · intro g f w' hx hD hk
       obtain hkp := id hD
       clear hx hk hD hkp
       go_simp
       try rfl
     simp only [Act.put, List.setIfInBounds_toArray, List.set_cons_zero, List.set_cons_succ])
  first
  | (refine Fx.WM.skip 6 (by rfl) (by kernel_rfl) (by kernel_rfl) (by kernel_rfl) (by rfl) (fun g f w h => h) ?_; simp only [Act.put, List.setIfInBounds_toArray, List.set_cons_zero, List.set_cons_succ])
  | (refine Fx.WM.val_ 6 ?_ (by rfl) (by kernel_rfl) (by kernel_rfl) (by kernel_rfl) (by rfl) ?_ (fun g f w h => h) ?_
     rotate_left
     · intro g f w' hx hD hk
       obtain hkp := id hD
       clear hx hk hD hkp
       go_simp
       try rfl
     simp only [Act.put, List.setIfInBounds_toArray, List.set_cons_zero, List.set_cons_succ])
  first
  | (refine Fx.WM.skip 7 (by rfl) (by kernel_rfl) (by kernel_rfl) (by kernel_rfl) (by rfl) (fun g f w h => h) ?_; simp only [Act.put, List.setIfInBounds_toArray, List.set_cons_zero, List.set_cons_succ])
  | (refine Fx.WM.val_ 7 ?_ (by rfl) (by kernel_rfl) (by kernel_rfl) (by kernel_rfl) (by rfl) ?_ (fun g f w h => h) ?_
     rotate_left
     · intro g f w' hx hD hk
       obtain hkp := id hD
       clear hx hk hD hkp
       go_simp
       try rfl
     simp only [Act.put, List.setIfInBounds_toArray, List.set_cons_zero, List.set_cons_succ])
  first
  | (refine Fx.WM.skip 8 (by rfl) (by kernel_rfl) (by kernel_rfl) (by kernel_rfl) (by rfl) (fun g f w h => h) ?_; simp only [Act.put, List.setIfInBounds_toArray, List.set_cons_zero, List.set_cons_succ])
  | (refine Fx.WM.val_ 8 ?_ (by rfl) (by kernel_rfl) (by kernel_rfl) (by kernel_rfl) (by rfl) ?_ (fun g f w h => h) ?_
     rotate_left
     · intro g f w' hx hD hk
       obtain hkp := id hD
       clear hx hk hD hkp
       go_simp
       try rfl
     simp only [Act.put, List.setIfInBounds_toArray, List.set_cons_zero, List.set_cons_succ])
  first
  | (refine Fx.WM.skip 9 (by rfl) (by kernel_rfl) (by kernel_rfl) (by kernel_rfl) (by rfl) (fun g f w h => h) ?_; simp only [Act.put, List.setIfInBounds_toArray, List.set_cons_zero, List.set_cons_succ])
  | (refine Fx.WM.val_ 9 ?_ (by rfl) (by kernel_rfl) (by kernel_rfl) (by kernel_rfl) (by rfl) ?_ (fun g f w h => h) ?_
     rotate_left
     · intro g f w' hx hD hk
       obtain hkp := id hD
       clear hx hk hD hkp
       go_simp
       try rfl
     simp only [Act.put, List.setIfInBounds_toArray, List.set_cons_zero, List.set_cons_succ])
  refine Fx.WM.nil (by kernel_rfl) ?_
  intro wz hkp
  have hb := hkp.bel
  clear hkp
  obtain ⟨w4, hnm⟩ : ∃ z : World, z = wz := ⟨_, rfl⟩
  subst hnm
  have HB4 := Lib.hid (show Below w.heap.size w w4 from step_below hb (by repeat' (first | exact Below.refl _ _ | exact HB3.out | refine below_drewN ?_ _ | refine Below.drew ?_ | refine Below.alloc ?_ (by first | omega | (simp; done) | (simp; omega) | (simp [World.setCell]; omega)) _ | refine Below.setCell ?_ (by first | omega | (simp; done) | (simp; omega)) _ | assumption)))
  have K0_4 := Lib.hid (step_blk hb (show Blk _ (w.heap.size) 42 #[.int .i64 (m.ls), .int .i64 (m.ms), .int .i64 (m.lo), .int .i64 (m.hi), .int .i64 (m.sp), .slice m.A1 m.n1 m.c1, .slice m.A2 m.n2 m.c2] by repeat' (first | exact K0_3.out | exact K1_3.out | exact K2_3.out | exact Blk.at_ _ (by first | rfl | (simp; done) | (simp; omega)) _ _ | refine Blk.drewN ?_ _ | refine Blk.drew ?_ | refine Blk.alloc ?_ _ | refine Blk.far ?_ (by first | omega | (simp; done) | (simp; omega)) _ | assumption)))
  have K1_4 := Lib.hid (step_blk hb (show Blk _ (w.heap.size + 1) 44 #[.string t.name, .int .i64 (t.az), .int .i64 (t.ht), .int .i64 (t.fr), .int .i64 (t.to), .int .i64 (t.dw)] by repeat' (first | exact K0_3.out | exact K1_3.out | exact K2_3.out | exact Blk.at_ _ (by first | rfl | (simp; done) | (simp; omega)) _ _ | refine Blk.drewN ?_ _ | refine Blk.drew ?_ | refine Blk.alloc ?_ _ | refine Blk.far ?_ (by first | omega | (simp; done) | (simp; omega)) _ | assumption)))
  have K2_4 := Lib.hid (step_blk hb (show Blk _ (bx) 46 #[.int .i64 (0), .int .i64 (0)] by repeat' (first | exact K0_3.out | exact K1_3.out | exact K2_3.out | exact Blk.at_ _ (by first | rfl | (simp; done) | (simp; omega)) _ _ | refine Blk.drewN ?_ _ | refine Blk.drew ?_ | refine Blk.alloc ?_ _ | refine Blk.far ?_ (by first | omega | (simp; done) | (simp; omega)) _ | assumption)))
  have hL4 := Lib.hid (show Below w3.heap.size w3 _ from reads_mid hb (by repeat' (first | exact Below.refl _ _ | refine below_drewN ?_ _ | refine Below.drew ?_ | refine Below.alloc ?_ (by first | omega | (simp; done) | (simp; omega) | (simp [World.setCell]; omega)) _ | refine Below.setCell ?_ (by first | omega | (simp; done) | (simp; omega)) _)))
  have R0_4 := Lib.hid (mnt_lay hb hL4.out R0_3.out)
  clear hL4 R0_3
  have hz4 := hb.size
  try simp only [World.size_alloc, World.drewN, World.drew] at hz4
  clear hb K0_3 K1_3 K2_3 z0_0_3 z0_1_3 z0_2_3 z0_3_3 z0_4_3 z0_5_3 z0_6_3 l0_3 z1_0_3 z1_1_3 z1_2_3 z1_3_3 z1_4_3 z1_5_3 l1_3 z2_0_3 z2_1_3 l2_3
  have l0_4 : w.heap.size < w4.heap.size := K0_4.out.lt
  have z0_0_4 : w4.cell? ⟨w.heap.size, 0, none⟩ = some (.int .i64 (m.ls)) := K0_4.out.cell 0
  have z0_1_4 : w4.cell? ⟨w.heap.size, 1, none⟩ = some (.int .i64 (m.ms)) := K0_4.out.cell 1
  have z0_2_4 : w4.cell? ⟨w.heap.size, 2, none⟩ = some (.int .i64 (m.lo)) := K0_4.out.cell 2
  have z0_3_4 : w4.cell? ⟨w.heap.size, 3, none⟩ = some (.int .i64 (m.hi)) := K0_4.out.cell 3
  have z0_4_4 : w4.cell? ⟨w.heap.size, 4, none⟩ = some (.int .i64 (m.sp)) := K0_4.out.cell 4
  have z0_5_4 : w4.cell? ⟨w.heap.size, 5, none⟩ = some (.slice m.A1 m.n1 m.c1) := K0_4.out.cell 5
  have z0_6_4 : w4.cell? ⟨w.heap.size, 6, none⟩ = some (.slice m.A2 m.n2 m.c2) := K0_4.out.cell 6
  have l1_4 : w.heap.size + 1 < w4.heap.size := K1_4.out.lt
  have z1_0_4 : w4.cell? ⟨w.heap.size + 1, 0, none⟩ = some (.string t.name) := K1_4.out.cell 0
  have z1_1_4 : w4.cell? ⟨w.heap.size + 1, 1, none⟩ = some (.int .i64 (t.az)) := K1_4.out.cell 1
  have z1_2_4 : w4.cell? ⟨w.heap.size + 1, 2, none⟩ = some (.int .i64 (t.ht)) := K1_4.out.cell 2
  have z1_3_4 : w4.cell? ⟨w.heap.size + 1, 3, none⟩ = some (.int .i64 (t.fr)) := K1_4.out.cell 3
  have z1_4_4 : w4.cell? ⟨w.heap.size + 1, 4, none⟩ = some (.int .i64 (t.to)) := K1_4.out.cell 4
  have z1_5_4 : w4.cell? ⟨w.heap.size + 1, 5, none⟩ = some (.int .i64 (t.dw)) := K1_4.out.cell 5
  have l2_4 : bx < w4.heap.size := K2_4.out.lt
  have z2_0_4 : w4.cell? ⟨bx, 0, none⟩ = some (.int .i64 (0)) := K2_4.out.cell 0
  have z2_1_4 : w4.cell? ⟨bx, 1, none⟩ = some (.int .i64 (0)) := K2_4.out.cell 1
  go_wp2
  go_ret
  exact ⟨rfl, by repeat' (first | exact Below.refl _ _ | exact HB4.out | refine below_drewN ?_ _ | refine Below.drew ?_ | refine Below.alloc ?_ (by first | omega | (simp; done) | (simp; omega) | (simp [World.setCell]; omega)) _ | refine Below.setCell ?_ (by first | omega | (simp; done) | (simp; omega)) _ | assumption)⟩

set_option maxRecDepth 100000 in
set_option maxHeartbeats 8000000 in
theorem lawPC_yes (m : Mnt) (t : Tgt) (day : Int) (w : World) (hma : MntAt m w) (hts : t.name.size ≤ maxLen) (hl : lightB m = true) (h30 : ¬ 30 < t.name.size) (hE : mtdErr m t day = 0) :
    Calls Try.prog 8 #[m.val, t.val, .int .i64 day] w fun e w' => e = .returned (.bool true) ∧ Below w.heap.size w w' := by
  unfold Mnt.val Tgt.val
  have hn1 := rowsB_le (show rowsB m.n1 = true by unfold lightB at hl; simp at hl; exact hl.1)
  have hn2 := rowsB_le (show rowsB m.n2 = true by unfold lightB at hl; simp at hl; exact hl.2)
  have HL := Lib.hid hl
  have d30 : ¬ (30 : Int) < (t.name.size : Int) := by omega
  obtain ⟨e1, e2, e3⟩ := mtd_zero hE
  obtain ⟨X, Y, hA⟩ : ∃ X Y, appF m t day = (X, Y) := ⟨_, _, rfl⟩
  obtain ⟨L, F, hT⟩ : ∃ L F, turnsAt m X Y = (L, F) := ⟨_, _, rfl⟩
  obtain ⟨q, hq⟩ : ∃ q, L.length = q := ⟨_, rfl⟩
  have hq43 : q ≤ 43 := by rw [← hq, ← show (turnsAt m X Y).1 = L by rw [hT]]; exact turnsAt_len m X Y
  have HE := Lib.hid hE
  have HA := Lib.hid hA
  have HT := Lib.hid hT
  have HQ := Lib.hid hq
  have H1 := Lib.hid e1
  have H2 := Lib.hid e2
  have H3 := Lib.hid e3
  have HMA := Lib.hid hma
  clear hl hE hA hT hq e1 e2 e3
  go_enter Try.func8, Try.ntmps8
  have R0_0 := Lib.hid hma
  clear hma
  go_wp2_with fail
  refine (awakept_any _).mono ?_
  rintro e w1 ⟨rfl, hb⟩
  have HB1 := Lib.hid (show Below w.heap.size w w1 from step_below hb (by repeat' (first | exact Below.refl _ _ | exact HB0.out | refine below_drewN ?_ _ | refine Below.drew ?_ | refine Below.alloc ?_ (by first | omega | (simp; done) | (simp; omega) | (simp [World.setCell]; omega)) _ | refine Below.setCell ?_ (by first | omega | (simp; done) | (simp; omega)) _ | assumption)))
  have K0_1 := Lib.hid (step_blk hb (show Blk _ (w.heap.size) 42 #[.int .i64 (m.ls), .int .i64 (m.ms), .int .i64 (m.lo), .int .i64 (m.hi), .int .i64 (m.sp), .slice m.A1 m.n1 m.c1, .slice m.A2 m.n2 m.c2] by repeat' (first | exact Blk.at_ _ (by first | rfl | (simp; done) | (simp; omega)) _ _ | refine Blk.drewN ?_ _ | refine Blk.drew ?_ | refine Blk.alloc ?_ _ | refine Blk.far ?_ (by first | omega | (simp; done) | (simp; omega)) _ | assumption)))
  have K1_1 := Lib.hid (step_blk hb (show Blk _ (w.heap.size + 1) 44 #[.string t.name, .int .i64 (t.az), .int .i64 (t.ht), .int .i64 (t.fr), .int .i64 (t.to), .int .i64 (t.dw)] by repeat' (first | exact Blk.at_ _ (by first | rfl | (simp; done) | (simp; omega)) _ _ | refine Blk.drewN ?_ _ | refine Blk.drew ?_ | refine Blk.alloc ?_ _ | refine Blk.far ?_ (by first | omega | (simp; done) | (simp; omega)) _ | assumption)))
  have hL1 := Lib.hid (show Below w.heap.size w _ from reads_mid hb (by repeat' (first | exact Below.refl _ _ | refine below_drewN ?_ _ | refine Below.drew ?_ | refine Below.alloc ?_ (by first | omega | (simp; done) | (simp; omega) | (simp [World.setCell]; omega)) _ | refine Below.setCell ?_ (by first | omega | (simp; done) | (simp; omega)) _)))
  have R0_1 := Lib.hid (mnt_lay hb hL1.out R0_0.out)
  clear hL1 R0_0
  have hz1 := hb.size
  try simp only [World.size_alloc, World.drewN, World.drew] at hz1
  clear hb
  have l0_1 : w.heap.size < w1.heap.size := K0_1.out.lt
  have z0_0_1 : w1.cell? ⟨w.heap.size, 0, none⟩ = some (.int .i64 (m.ls)) := K0_1.out.cell 0
  have z0_1_1 : w1.cell? ⟨w.heap.size, 1, none⟩ = some (.int .i64 (m.ms)) := K0_1.out.cell 1
  have z0_2_1 : w1.cell? ⟨w.heap.size, 2, none⟩ = some (.int .i64 (m.lo)) := K0_1.out.cell 2
  have z0_3_1 : w1.cell? ⟨w.heap.size, 3, none⟩ = some (.int .i64 (m.hi)) := K0_1.out.cell 3
  have z0_4_1 : w1.cell? ⟨w.heap.size, 4, none⟩ = some (.int .i64 (m.sp)) := K0_1.out.cell 4
  have z0_5_1 : w1.cell? ⟨w.heap.size, 5, none⟩ = some (.slice m.A1 m.n1 m.c1) := K0_1.out.cell 5
  have z0_6_1 : w1.cell? ⟨w.heap.size, 6, none⟩ = some (.slice m.A2 m.n2 m.c2) := K0_1.out.cell 6
  have l1_1 : w.heap.size + 1 < w1.heap.size := K1_1.out.lt
  have z1_0_1 : w1.cell? ⟨w.heap.size + 1, 0, none⟩ = some (.string t.name) := K1_1.out.cell 0
  have z1_1_1 : w1.cell? ⟨w.heap.size + 1, 1, none⟩ = some (.int .i64 (t.az)) := K1_1.out.cell 1
  have z1_2_1 : w1.cell? ⟨w.heap.size + 1, 2, none⟩ = some (.int .i64 (t.ht)) := K1_1.out.cell 2
  have z1_3_1 : w1.cell? ⟨w.heap.size + 1, 3, none⟩ = some (.int .i64 (t.fr)) := K1_1.out.cell 3
  have z1_4_1 : w1.cell? ⟨w.heap.size + 1, 4, none⟩ = some (.int .i64 (t.to)) := K1_1.out.cell 4
  have z1_5_1 : w1.cell? ⟨w.heap.size + 1, 5, none⟩ = some (.int .i64 (t.dw)) := K1_1.out.cell 5
  go_wp2_with fail
  refine (light_is m true HL.out _).mono ?_
  rintro e w2 ⟨rfl, hb⟩
  have HB2 := Lib.hid (show Below w.heap.size w w2 from step_below hb (by repeat' (first | exact Below.refl _ _ | exact HB1.out | refine below_drewN ?_ _ | refine Below.drew ?_ | refine Below.alloc ?_ (by first | omega | (simp; done) | (simp; omega) | (simp [World.setCell]; omega)) _ | refine Below.setCell ?_ (by first | omega | (simp; done) | (simp; omega)) _ | assumption)))
  have K0_2 := Lib.hid (step_blk hb (show Blk _ (w.heap.size) 42 #[.int .i64 (m.ls), .int .i64 (m.ms), .int .i64 (m.lo), .int .i64 (m.hi), .int .i64 (m.sp), .slice m.A1 m.n1 m.c1, .slice m.A2 m.n2 m.c2] by repeat' (first | exact K0_1.out | exact K1_1.out | exact Blk.at_ _ (by first | rfl | (simp; done) | (simp; omega)) _ _ | refine Blk.drewN ?_ _ | refine Blk.drew ?_ | refine Blk.alloc ?_ _ | refine Blk.far ?_ (by first | omega | (simp; done) | (simp; omega)) _ | assumption)))
  have K1_2 := Lib.hid (step_blk hb (show Blk _ (w.heap.size + 1) 44 #[.string t.name, .int .i64 (t.az), .int .i64 (t.ht), .int .i64 (t.fr), .int .i64 (t.to), .int .i64 (t.dw)] by repeat' (first | exact K0_1.out | exact K1_1.out | exact Blk.at_ _ (by first | rfl | (simp; done) | (simp; omega)) _ _ | refine Blk.drewN ?_ _ | refine Blk.drew ?_ | refine Blk.alloc ?_ _ | refine Blk.far ?_ (by first | omega | (simp; done) | (simp; omega)) _ | assumption)))
  have hL2 := Lib.hid (show Below w1.heap.size w1 _ from reads_mid hb (by repeat' (first | exact Below.refl _ _ | refine below_drewN ?_ _ | refine Below.drew ?_ | refine Below.alloc ?_ (by first | omega | (simp; done) | (simp; omega) | (simp [World.setCell]; omega)) _ | refine Below.setCell ?_ (by first | omega | (simp; done) | (simp; omega)) _)))
  have R0_2 := Lib.hid (mnt_lay hb hL2.out R0_1.out)
  clear hL2 R0_1
  have hz2 := hb.size
  try simp only [World.size_alloc, World.drewN, World.drew] at hz2
  clear hb K0_1 K1_1 z0_0_1 z0_1_1 z0_2_1 z0_3_1 z0_4_1 z0_5_1 z0_6_1 l0_1 z1_0_1 z1_1_1 z1_2_1 z1_3_1 z1_4_1 z1_5_1 l1_1
  have l0_2 : w.heap.size < w2.heap.size := K0_2.out.lt
  have z0_0_2 : w2.cell? ⟨w.heap.size, 0, none⟩ = some (.int .i64 (m.ls)) := K0_2.out.cell 0
  have z0_1_2 : w2.cell? ⟨w.heap.size, 1, none⟩ = some (.int .i64 (m.ms)) := K0_2.out.cell 1
  have z0_2_2 : w2.cell? ⟨w.heap.size, 2, none⟩ = some (.int .i64 (m.lo)) := K0_2.out.cell 2
  have z0_3_2 : w2.cell? ⟨w.heap.size, 3, none⟩ = some (.int .i64 (m.hi)) := K0_2.out.cell 3
  have z0_4_2 : w2.cell? ⟨w.heap.size, 4, none⟩ = some (.int .i64 (m.sp)) := K0_2.out.cell 4
  have z0_5_2 : w2.cell? ⟨w.heap.size, 5, none⟩ = some (.slice m.A1 m.n1 m.c1) := K0_2.out.cell 5
  have z0_6_2 : w2.cell? ⟨w.heap.size, 6, none⟩ = some (.slice m.A2 m.n2 m.c2) := K0_2.out.cell 6
  have l1_2 : w.heap.size + 1 < w2.heap.size := K1_2.out.lt
  have z1_0_2 : w2.cell? ⟨w.heap.size + 1, 0, none⟩ = some (.string t.name) := K1_2.out.cell 0
  have z1_1_2 : w2.cell? ⟨w.heap.size + 1, 1, none⟩ = some (.int .i64 (t.az)) := K1_2.out.cell 1
  have z1_2_2 : w2.cell? ⟨w.heap.size + 1, 2, none⟩ = some (.int .i64 (t.ht)) := K1_2.out.cell 2
  have z1_3_2 : w2.cell? ⟨w.heap.size + 1, 3, none⟩ = some (.int .i64 (t.fr)) := K1_2.out.cell 3
  have z1_4_2 : w2.cell? ⟨w.heap.size + 1, 4, none⟩ = some (.int .i64 (t.to)) := K1_2.out.cell 4
  have z1_5_2 : w2.cell? ⟨w.heap.size + 1, 5, none⟩ = some (.int .i64 (t.dw)) := K1_2.out.cell 5
  go_wp2
  apply share (Fact := fun (_ z : Pick2) (wz : World) => ∃ bx, z.1.1 = some ⟨bx, 0, none⟩ ∧ w2.heap.size ≤ bx ∧ Below w2.heap.size w2 wz ∧ Blk wz bx 46 #[.int .i64 (X), .int .i64 (Y)])
  · intro key
    refine Fx.regionM (fun W g f w' => KpS (PfT m 0 [] 0 [] 1 99 98) 46 (.int .i64 (X)) (.int .i64 (Y)) 8 9 W g f w') (fun i (x : Pick2) => if i = 8 then .pointer x.1.1 else valT m 0 0 1 99 i x) (by kernel_rfl) ?_ ?_
    · intro f hf0
      exact KpS.start
    first
    | (refine Fx.WM.skip 0 (by rfl) (by kernel_rfl) (by kernel_rfl) (by kernel_rfl) (by rfl) (fun g f w h => h.same (by decide)) ?_; simp only [Act.put, List.setIfInBounds_toArray, List.set_cons_zero, List.set_cons_succ])
    | (refine Fx.WM.val_ 0 ?_ (by rfl) (by kernel_rfl) (by kernel_rfl) (by kernel_rfl) (by rfl) ?_ (fun g f w h => h.same (by decide)) ?_
       rotate_left
       · intro g f w' hx hD hk
         obtain hkp := id hD
         have y0_0 := (K0_2.out.below hkp.bel l0_2).cell 0
         have y0_1 := (K0_2.out.below hkp.bel l0_2).cell 1
         have y0_2 := (K0_2.out.below hkp.bel l0_2).cell 2
         have y0_3 := (K0_2.out.below hkp.bel l0_2).cell 3
         have y0_4 := (K0_2.out.below hkp.bel l0_2).cell 4
         have y0_5 := (K0_2.out.below hkp.bel l0_2).cell 5
         have y0_6 := (K0_2.out.below hkp.bel l0_2).cell 6
         clear hx hk hD hkp
         go_simp
         try rfl
       simp only [Act.put, List.setIfInBounds_toArray, List.set_cons_zero, List.set_cons_succ])
    first
    | (refine Fx.WM.skip 2 (by rfl) (by kernel_rfl) (by kernel_rfl) (by kernel_rfl) (by rfl) (fun g f w h => h.same (by decide)) ?_; simp only [Act.put, List.setIfInBounds_toArray, List.set_cons_zero, List.set_cons_succ])
    | (refine Fx.WM.val_ 2 ?_ (by rfl) (by kernel_rfl) (by kernel_rfl) (by kernel_rfl) (by rfl) ?_ (fun g f w h => h.same (by decide)) ?_
       rotate_left
       · intro g f w' hx hD hk
         obtain hkp := id hD
         have y1_0 := (K1_2.out.below hkp.bel l1_2).cell 0
         have y1_1 := (K1_2.out.below hkp.bel l1_2).cell 1
         have y1_2 := (K1_2.out.below hkp.bel l1_2).cell 2
         have y1_3 := (K1_2.out.below hkp.bel l1_2).cell 3
         have y1_4 := (K1_2.out.below hkp.bel l1_2).cell 4
         have y1_5 := (K1_2.out.below hkp.bel l1_2).cell 5
         clear hx hk hD hkp
         go_simp
         try rfl
       simp only [Act.put, List.setIfInBounds_toArray, List.set_cons_zero, List.set_cons_succ])
    first
    | (refine Fx.WM.skip 3 (by rfl) (by kernel_rfl) (by kernel_rfl) (by kernel_rfl) (by rfl) (fun g f w h => h.same (by decide)) ?_; simp only [Act.put, List.setIfInBounds_toArray, List.set_cons_zero, List.set_cons_succ])
    | (refine Fx.WM.val_ 3 ?_ (by rfl) (by kernel_rfl) (by kernel_rfl) (by kernel_rfl) (by rfl) ?_ (fun g f w h => h.same (by decide)) ?_
       rotate_left
       · intro g f w' hx hD hk
         obtain hkp := id hD
         clear hx hk hD hkp
         go_simp
         try rfl
       simp only [Act.put, List.setIfInBounds_toArray, List.set_cons_zero, List.set_cons_succ])
    refine Fx.WM.choose2 1 8 (by rfl) (by rfl) (by kernel_rfl) (by rfl) (by rfl) ?_ ?_ ?_ ?_
    · skip
      refine Fx.Chooses.call ?_ ?_ (by rfl) ?_ ?_
      rotate_left 2
      · intro w'
        go_simp
        refine ⟨?_, ?_⟩ <;> rfl
      · intro f w' hD hk
        exact (mount_any m w' (R0_2.out.lay hD.bel) (by omega) (by omega)).mono fun e w'' ⟨A', c', B', d', he, hb, hm⟩ => ⟨((A', c'), (B', d')), he, hD.choose PfT.stb hb 1 _ (by decide) (by decide) ⟨fun _ => hm, fun e => absurd e (by decide), fun e => absurd e (by decide)⟩⟩
    · skip
      refine Fx.Chooses.make (by rfl) ?_
      intro f w' hD hk
      refine ⟨((some ⟨w'.heap.size, 0, none⟩, 0), (none, 0)), w'.alloc (.cells #[.int .i64 (0), .int .i64 (0)] 46), ?_, ?_⟩
      · clear hk hD
        go_simp
        try rfl
      · exact hD.make PfT.stb (hk.2.1 9 (by kernel_rfl)) (by decide)
    · intro x
      simp only [Act.put, List.setIfInBounds_toArray, List.set_cons_zero, List.set_cons_succ]
      refine Fx.WM.call 4 (.tuple #[.agg #[.int .i64 (X), .int .i64 (Y)], .int .i64 (0)]) ?_ ?_ (by rfl) (by kernel_rfl) (by kernel_rfl) (by kernel_rfl) (by rfl) ?_ ?_ ?_
      rotate_left 2
      · intro w'
        go_simp
        refine ⟨?_, ?_⟩ <;> rfl
      · intro g f w' hx hD hk
        exact (pApparent_ok (m.to x.1.1 x.1.2 x.2.1 x.2.2) t day X Y HA.out HE.out w' ((hD.has (hk.2.1 9 (by kernel_rfl)) 1 x (hx 1 _ (by rfl)) (by decide)).1 rfl) hts).mono fun e w'' ⟨he, hw⟩ => ⟨he, hD.call PfT.stb (by decide) hw⟩
      simp only [Act.put, List.setIfInBounds_toArray, List.set_cons_zero, List.set_cons_succ]
      first
      | (refine Fx.WM.skip 5 (by rfl) (by kernel_rfl) (by kernel_rfl) (by kernel_rfl) (by rfl) (fun g f w h => h.same (by decide)) ?_; simp only [Act.put, List.setIfInBounds_toArray, List.set_cons_zero, List.set_cons_succ])
      | (refine Fx.WM.val_ 5 ?_ (by rfl) (by kernel_rfl) (by kernel_rfl) (by kernel_rfl) (by rfl) ?_ (fun g f w h => h.same (by decide)) ?_
         rotate_left
         · intro g f w' hx hD hk
           obtain hkp := id hD
           clear hx hk hD hkp
           go_simp
           try rfl
         simp only [Act.put, List.setIfInBounds_toArray, List.set_cons_zero, List.set_cons_succ])
      first
      | (refine Fx.WM.skip 6 (by rfl) (by kernel_rfl) (by kernel_rfl) (by kernel_rfl) (by rfl) (fun g f w h => h.same (by decide)) ?_; simp only [Act.put, List.setIfInBounds_toArray, List.set_cons_zero, List.set_cons_succ])
      | (refine Fx.WM.val_ 6 ?_ (by rfl) (by kernel_rfl) (by kernel_rfl) (by kernel_rfl) (by rfl) ?_ (fun g f w h => h.same (by decide)) ?_
         rotate_left
         · intro g f w' hx hD hk
           obtain hkp := id hD
           clear hx hk hD hkp
           go_simp
           try rfl
         simp only [Act.put, List.setIfInBounds_toArray, List.set_cons_zero, List.set_cons_succ])
      first
      | (refine Fx.WM.skip 7 (by rfl) (by kernel_rfl) (by kernel_rfl) (by kernel_rfl) (by rfl) (fun g f w h => h.same (by decide)) ?_; simp only [Act.put, List.setIfInBounds_toArray, List.set_cons_zero, List.set_cons_succ])
      | (refine Fx.WM.val_ 7 ?_ (by rfl) (by kernel_rfl) (by kernel_rfl) (by kernel_rfl) (by rfl) ?_ (fun g f w h => h.same (by decide)) ?_
         rotate_left
         · intro g f w' hx hD hk
           obtain hkp := id hD
           clear hx hk hD hkp
           go_simp
           try rfl
         simp only [Act.put, List.setIfInBounds_toArray, List.set_cons_zero, List.set_cons_succ])
      refine Fx.WM.choose 8 (by rfl) (by kernel_rfl) (by rfl) ?_ ?_
      · skip
        refine Fx.Chooses.make (by rfl) ?_
        intro f w' hD hk
        refine ⟨((some ⟨w'.heap.size, 0, none⟩, 0), (none, 0)), w'.alloc (.cells #[.int .i64 (0), .int .i64 (0)] 46), ?_, ?_⟩
        · clear hk hD
          go_simp
          try rfl
        · exact hD.make PfT.stb (hk.2.1 9 (by kernel_rfl)) (by decide)
      intro z
      simp only [Act.put, List.setIfInBounds_toArray, List.set_cons_zero, List.set_cons_succ]
      refine Fx.WM.eff 9 undef (by rfl) (by kernel_rfl) (by kernel_rfl) (by kernel_rfl) (by rfl) ?_ ?_
      · intro g f w' hx hD hk
        obtain ⟨bx, e0, e1, r0, r1, r2, r3, r4, r5⟩ := KpS.cells hD (hx 8 _ (by rfl))
        refine Fx.gives_skip (w' := ((w'.setCell ⟨bx, 0, none⟩ (.int .i64 (X))).setCell ⟨bx, 1, none⟩ (.int .i64 (Y)))) ?_ ?_
        · clear hx hk hD
          go_simp
          try rfl
        · exact KpS.store hD (hx 8 _ (by rfl)) r0
      simp only [Act.put, List.setIfInBounds_toArray, List.set_cons_zero, List.set_cons_succ]
      first
      | (refine Fx.WM.skip 10 (by rfl) (by kernel_rfl) (by kernel_rfl) (by kernel_rfl) (by rfl) (fun g f w h => h.same (by decide)) ?_; simp only [Act.put, List.setIfInBounds_toArray, List.set_cons_zero, List.set_cons_succ])
      | (refine Fx.WM.val_ 10 ?_ (by rfl) (by kernel_rfl) (by kernel_rfl) (by kernel_rfl) (by rfl) ?_ (fun g f w h => h.same (by decide)) ?_
         rotate_left
         · intro g f w' hx hD hk
           obtain hkp := id hD
           clear hx hk hD hkp
           go_simp
           try rfl
         simp only [Act.put, List.setIfInBounds_toArray, List.set_cons_zero, List.set_cons_succ])
      refine Fx.WM.nil (by kernel_rfl) ?_
      intro wz hkp
      obtain ⟨bx, h1, h2, h3⟩ := KpS.end_ hkp (x := z) (by rfl) (by rfl)
      exact key x z wz ⟨bx, h1, h2, hkp.bel, h3⟩
    · intro z
      simp only [Act.put, List.setIfInBounds_toArray, List.set_cons_zero, List.set_cons_succ]
      refine Fx.WM.choose 1 (by rfl) (by kernel_rfl) (by rfl) ?_ ?_
      · skip
        refine Fx.Chooses.call ?_ ?_ (by rfl) ?_ ?_
        rotate_left 2
        · intro w'
          go_simp
          refine ⟨?_, ?_⟩ <;> rfl
        · intro f w' hD hk
          exact (mount_any m w' (R0_2.out.lay hD.bel) (by omega) (by omega)).mono fun e w'' ⟨A', c', B', d', he, hb, hm⟩ => ⟨((A', c'), (B', d')), he, hD.choose PfT.stb hb 1 _ (by decide) (by decide) ⟨fun _ => hm, fun e => absurd e (by decide), fun e => absurd e (by decide)⟩⟩
      intro x
      simp only [Act.put, List.setIfInBounds_toArray, List.set_cons_zero, List.set_cons_succ]
      refine Fx.WM.call 4 (.tuple #[.agg #[.int .i64 (X), .int .i64 (Y)], .int .i64 (0)]) ?_ ?_ (by rfl) (by kernel_rfl) (by kernel_rfl) (by kernel_rfl) (by rfl) ?_ ?_ ?_
      rotate_left 2
      · intro w'
        go_simp
        refine ⟨?_, ?_⟩ <;> rfl
      · intro g f w' hx hD hk
        exact (pApparent_ok (m.to x.1.1 x.1.2 x.2.1 x.2.2) t day X Y HA.out HE.out w' ((hD.has (hk.2.1 9 (by kernel_rfl)) 1 x (hx 1 _ (by rfl)) (by decide)).1 rfl) hts).mono fun e w'' ⟨he, hw⟩ => ⟨he, hD.call PfT.stb (by decide) hw⟩
      simp only [Act.put, List.setIfInBounds_toArray, List.set_cons_zero, List.set_cons_succ]
      first
      | (refine Fx.WM.skip 5 (by rfl) (by kernel_rfl) (by kernel_rfl) (by kernel_rfl) (by rfl) (fun g f w h => h.same (by decide)) ?_; simp only [Act.put, List.setIfInBounds_toArray, List.set_cons_zero, List.set_cons_succ])
      | (refine Fx.WM.val_ 5 ?_ (by rfl) (by kernel_rfl) (by kernel_rfl) (by kernel_rfl) (by rfl) ?_ (fun g f w h => h.same (by decide)) ?_
         rotate_left
         · intro g f w' hx hD hk
           obtain hkp := id hD
           clear hx hk hD hkp
           go_simp
           try rfl
         simp only [Act.put, List.setIfInBounds_toArray, List.set_cons_zero, List.set_cons_succ])
      first
      | (refine Fx.WM.skip 6 (by rfl) (by kernel_rfl) (by kernel_rfl) (by kernel_rfl) (by rfl) (fun g f w h => h.same (by decide)) ?_; simp only [Act.put, List.setIfInBounds_toArray, List.set_cons_zero, List.set_cons_succ])
      | (refine Fx.WM.val_ 6 ?_ (by rfl) (by kernel_rfl) (by kernel_rfl) (by kernel_rfl) (by rfl) ?_ (fun g f w h => h.same (by decide)) ?_
         rotate_left
         · intro g f w' hx hD hk
           obtain hkp := id hD
           clear hx hk hD hkp
           go_simp
           try rfl
         simp only [Act.put, List.setIfInBounds_toArray, List.set_cons_zero, List.set_cons_succ])
      first
      | (refine Fx.WM.skip 7 (by rfl) (by kernel_rfl) (by kernel_rfl) (by kernel_rfl) (by rfl) (fun g f w h => h.same (by decide)) ?_; simp only [Act.put, List.setIfInBounds_toArray, List.set_cons_zero, List.set_cons_succ])
      | (refine Fx.WM.val_ 7 ?_ (by rfl) (by kernel_rfl) (by kernel_rfl) (by kernel_rfl) (by rfl) ?_ (fun g f w h => h.same (by decide)) ?_
         rotate_left
         · intro g f w' hx hD hk
           obtain hkp := id hD
           clear hx hk hD hkp
           go_simp
           try rfl
         simp only [Act.put, List.setIfInBounds_toArray, List.set_cons_zero, List.set_cons_succ])
      refine Fx.WM.eff 9 undef (by rfl) (by kernel_rfl) (by kernel_rfl) (by kernel_rfl) (by rfl) ?_ ?_
      · intro g f w' hx hD hk
        obtain ⟨bx, e0, e1, r0, r1, r2, r3, r4, r5⟩ := KpS.cells hD (hx 8 _ (by rfl))
        refine Fx.gives_skip (w' := ((w'.setCell ⟨bx, 0, none⟩ (.int .i64 (X))).setCell ⟨bx, 1, none⟩ (.int .i64 (Y)))) ?_ ?_
        · clear hx hk hD
          go_simp
          try rfl
        · exact KpS.store hD (hx 8 _ (by rfl)) r0
      simp only [Act.put, List.setIfInBounds_toArray, List.set_cons_zero, List.set_cons_succ]
      first
      | (refine Fx.WM.skip 10 (by rfl) (by kernel_rfl) (by kernel_rfl) (by kernel_rfl) (by rfl) (fun g f w h => h.same (by decide)) ?_; simp only [Act.put, List.setIfInBounds_toArray, List.set_cons_zero, List.set_cons_succ])
      | (refine Fx.WM.val_ 10 ?_ (by rfl) (by kernel_rfl) (by kernel_rfl) (by kernel_rfl) (by rfl) ?_ (fun g f w h => h.same (by decide)) ?_
         rotate_left
         · intro g f w' hx hD hk
           obtain hkp := id hD
           clear hx hk hD hkp
           go_simp
           try rfl
         simp only [Act.put, List.setIfInBounds_toArray, List.set_cons_zero, List.set_cons_succ])
      refine Fx.WM.nil (by kernel_rfl) ?_
      intro wz hkp
      obtain ⟨bx, h1, h2, h3⟩ := KpS.end_ hkp (x := z) (by rfl) (by rfl)
      exact key x z wz ⟨bx, h1, h2, hkp.bel, h3⟩
  rintro x ⟨⟨z1, z2⟩, z3⟩ w3 ⟨bx, hz, hbx, hb, hblk⟩
  simp only at hz
  subst hz
  have HB3 := Lib.hid (show Below w.heap.size w w3 from step_below hb (by repeat' (first | exact Below.refl _ _ | exact HB2.out | refine below_drewN ?_ _ | refine Below.drew ?_ | refine Below.alloc ?_ (by first | omega | (simp; done) | (simp; omega) | (simp [World.setCell]; omega)) _ | refine Below.setCell ?_ (by first | omega | (simp; done) | (simp; omega)) _ | assumption)))
  have K0_3 := Lib.hid (step_blk hb (show Blk _ (w.heap.size) 42 #[.int .i64 (m.ls), .int .i64 (m.ms), .int .i64 (m.lo), .int .i64 (m.hi), .int .i64 (m.sp), .slice m.A1 m.n1 m.c1, .slice m.A2 m.n2 m.c2] by repeat' (first | exact K0_2.out | exact K1_2.out | exact Blk.at_ _ (by first | rfl | (simp; done) | (simp; omega)) _ _ | refine Blk.drewN ?_ _ | refine Blk.drew ?_ | refine Blk.alloc ?_ _ | refine Blk.far ?_ (by first | omega | (simp; done) | (simp; omega)) _ | assumption)))
  have K1_3 := Lib.hid (step_blk hb (show Blk _ (w.heap.size + 1) 44 #[.string t.name, .int .i64 (t.az), .int .i64 (t.ht), .int .i64 (t.fr), .int .i64 (t.to), .int .i64 (t.dw)] by repeat' (first | exact K0_2.out | exact K1_2.out | exact Blk.at_ _ (by first | rfl | (simp; done) | (simp; omega)) _ _ | refine Blk.drewN ?_ _ | refine Blk.drew ?_ | refine Blk.alloc ?_ _ | refine Blk.far ?_ (by first | omega | (simp; done) | (simp; omega)) _ | assumption)))
  have hL3 := Lib.hid (show Below w2.heap.size w2 _ from reads_mid hb (by repeat' (first | exact Below.refl _ _ | refine below_drewN ?_ _ | refine Below.drew ?_ | refine Below.alloc ?_ (by first | omega | (simp; done) | (simp; omega) | (simp [World.setCell]; omega)) _ | refine Below.setCell ?_ (by first | omega | (simp; done) | (simp; omega)) _)))
  have R0_3 := Lib.hid (mnt_lay hb hL3.out R0_2.out)
  clear hL3 R0_2
  have hz3 := hb.size
  try simp only [World.size_alloc, World.drewN, World.drew] at hz3
  clear hb K0_2 K1_2 z0_0_2 z0_1_2 z0_2_2 z0_3_2 z0_4_2 z0_5_2 z0_6_2 l0_2 z1_0_2 z1_1_2 z1_2_2 z1_3_2 z1_4_2 z1_5_2 l1_2
  have l0_3 : w.heap.size < w3.heap.size := K0_3.out.lt
  have z0_0_3 : w3.cell? ⟨w.heap.size, 0, none⟩ = some (.int .i64 (m.ls)) := K0_3.out.cell 0
  have z0_1_3 : w3.cell? ⟨w.heap.size, 1, none⟩ = some (.int .i64 (m.ms)) := K0_3.out.cell 1
  have z0_2_3 : w3.cell? ⟨w.heap.size, 2, none⟩ = some (.int .i64 (m.lo)) := K0_3.out.cell 2
  have z0_3_3 : w3.cell? ⟨w.heap.size, 3, none⟩ = some (.int .i64 (m.hi)) := K0_3.out.cell 3
  have z0_4_3 : w3.cell? ⟨w.heap.size, 4, none⟩ = some (.int .i64 (m.sp)) := K0_3.out.cell 4
  have z0_5_3 : w3.cell? ⟨w.heap.size, 5, none⟩ = some (.slice m.A1 m.n1 m.c1) := K0_3.out.cell 5
  have z0_6_3 : w3.cell? ⟨w.heap.size, 6, none⟩ = some (.slice m.A2 m.n2 m.c2) := K0_3.out.cell 6
  have l1_3 : w.heap.size + 1 < w3.heap.size := K1_3.out.lt
  have z1_0_3 : w3.cell? ⟨w.heap.size + 1, 0, none⟩ = some (.string t.name) := K1_3.out.cell 0
  have z1_1_3 : w3.cell? ⟨w.heap.size + 1, 1, none⟩ = some (.int .i64 (t.az)) := K1_3.out.cell 1
  have z1_2_3 : w3.cell? ⟨w.heap.size + 1, 2, none⟩ = some (.int .i64 (t.ht)) := K1_3.out.cell 2
  have z1_3_3 : w3.cell? ⟨w.heap.size + 1, 3, none⟩ = some (.int .i64 (t.fr)) := K1_3.out.cell 3
  have z1_4_3 : w3.cell? ⟨w.heap.size + 1, 4, none⟩ = some (.int .i64 (t.to)) := K1_3.out.cell 4
  have z1_5_3 : w3.cell? ⟨w.heap.size + 1, 5, none⟩ = some (.int .i64 (t.dw)) := K1_3.out.cell 5
  have K2_3 := Lib.hid (show Blk w3 (bx) 46 #[.int .i64 (X), .int .i64 (Y)] from hblk)
  clear hblk
  have l2_3 : bx < w3.heap.size := K2_3.out.lt
  have z2_0_3 : w3.cell? ⟨bx, 0, none⟩ = some (.int .i64 (X)) := K2_3.out.cell 0
  have z2_1_3 : w3.cell? ⟨bx, 1, none⟩ = some (.int .i64 (Y)) := K2_3.out.cell 1
  go_wp2
  refine Fx.regionM (fun W g f w' => Kp (PfQ m q L 1 4) W g w') (fun i (x : Pick2) => if i = 4 then .tuple #[.slice x.1.1 q x.1.2, .int .i64 F] else valT m 0 0 1 99 i x) (by kernel_rfl) ?_ ?_
  · intro f hf0
    exact Kp.start
  first
  | (refine Fx.WM.skip 0 (by rfl) (by kernel_rfl) (by kernel_rfl) (by kernel_rfl) (by rfl) (fun g f w h => h) ?_; simp only [Act.put, List.setIfInBounds_toArray, List.set_cons_zero, List.set_cons_succ])
  | (refine Fx.WM.val_ 0 ?_ (by rfl) (by kernel_rfl) (by kernel_rfl) (by kernel_rfl) (by rfl) ?_ (fun g f w h => h) ?_
     rotate_left
     · intro g f w' hx hD hk
       obtain hkp := id hD
       have y0_0 := (K0_3.out.below hkp.bel l0_3).cell 0
       have y0_1 := (K0_3.out.below hkp.bel l0_3).cell 1
       have y0_2 := (K0_3.out.below hkp.bel l0_3).cell 2
       have y0_3 := (K0_3.out.below hkp.bel l0_3).cell 3
       have y0_4 := (K0_3.out.below hkp.bel l0_3).cell 4
       have y0_5 := (K0_3.out.below hkp.bel l0_3).cell 5
       have y0_6 := (K0_3.out.below hkp.bel l0_3).cell 6
       clear hx hk hD hkp
       go_simp
       try rfl
     simp only [Act.put, List.setIfInBounds_toArray, List.set_cons_zero, List.set_cons_succ])
  first
  | (refine Fx.WM.skip 2 (by rfl) (by kernel_rfl) (by kernel_rfl) (by kernel_rfl) (by rfl) (fun g f w h => h) ?_; simp only [Act.put, List.setIfInBounds_toArray, List.set_cons_zero, List.set_cons_succ])
  | (refine Fx.WM.val_ 2 ?_ (by rfl) (by kernel_rfl) (by kernel_rfl) (by kernel_rfl) (by rfl) ?_ (fun g f w h => h) ?_
     rotate_left
     · intro g f w' hx hD hk
       obtain hkp := id hD
       have y1_0 := (K1_3.out.below hkp.bel l1_3).cell 0
       have y1_1 := (K1_3.out.below hkp.bel l1_3).cell 1
       have y1_2 := (K1_3.out.below hkp.bel l1_3).cell 2
       have y1_3 := (K1_3.out.below hkp.bel l1_3).cell 3
       have y1_4 := (K1_3.out.below hkp.bel l1_3).cell 4
       have y1_5 := (K1_3.out.below hkp.bel l1_3).cell 5
       clear hx hk hD hkp
       go_simp
       try rfl
     simp only [Act.put, List.setIfInBounds_toArray, List.set_cons_zero, List.set_cons_succ])
  first
  | (refine Fx.WM.skip 3 (by rfl) (by kernel_rfl) (by kernel_rfl) (by kernel_rfl) (by rfl) (fun g f w h => h) ?_; simp only [Act.put, List.setIfInBounds_toArray, List.set_cons_zero, List.set_cons_succ])
  | (refine Fx.WM.val_ 3 ?_ (by rfl) (by kernel_rfl) (by kernel_rfl) (by kernel_rfl) (by rfl) ?_ (fun g f w h => h) ?_
     rotate_left
     · intro g f w' hx hD hk
       obtain hkp := id hD
       clear hx hk hD hkp
       go_simp
       try rfl
     simp only [Act.put, List.setIfInBounds_toArray, List.set_cons_zero, List.set_cons_succ])
  refine Fx.WM.choose 1 (by rfl) (by kernel_rfl) (by rfl) ?_ ?_
  · skip
    refine Fx.Chooses.call ?_ ?_ (by rfl) ?_ ?_
    rotate_left 2
    · intro w'
      go_simp
      refine ⟨?_, ?_⟩ <;> rfl
    · intro f w' hD hk
      exact (mount_any m w' (R0_3.out.lay hD.bel) (by omega) (by omega)).mono fun e w'' ⟨A', c', B', d', he, hb, hm⟩ => ⟨((A', c'), (B', d')), he, hD.choose PfQ.stb hb 1 _ ⟨fun _ => hm, fun e => absurd e (by decide)⟩⟩
  intro x
  simp only [Act.put, List.setIfInBounds_toArray, List.set_cons_zero, List.set_cons_succ]
  refine Fx.WM.choose 4 (by rfl) (by kernel_rfl) (by rfl) ?_ ?_
  · skip
    refine Fx.Chooses.call ?_ ?_ (by rfl) ?_ ?_
    rotate_left 2
    · intro w'
      go_simp
      refine ⟨?_, ?_⟩ <;> rfl
    · intro f w' hD hk
      exact (pTurns_ok (m.to x.1.1 x.1.2 x.2.1 x.2.2) t day X Y L F q HA.out HT.out HQ.out HE.out w' ((hD.has 1 x (by rfl)).1 rfl) hts).mono fun e w'' ⟨A', c', he, hb, hr⟩ => ⟨((A', c'), (none, 0)), he, hD.choose PfQ.stb hb 4 _ ⟨fun e => absurd e (by decide), fun _ => hr⟩⟩
  intro y
  simp only [Act.put, List.setIfInBounds_toArray, List.set_cons_zero, List.set_cons_succ]
  first
  | (refine Fx.WM.skip 5 (by rfl) (by kernel_rfl) (by kernel_rfl) (by kernel_rfl) (by rfl) (fun g f w h => h) ?_; simp only [Act.put, List.setIfInBounds_toArray, List.set_cons_zero, List.set_cons_succ])
  | (refine Fx.WM.val_ 5 ?_ (by rfl) (by kernel_rfl) (by kernel_rfl) (by kernel_rfl) (by rfl) ?_ (fun g f w h => h) ?_
     rotate_left
     · intro g f w' hx hD hk
       obtain hkp := id hD
       clear hx hk hD hkp
       go_simp
       try rfl
     simp only [Act.put, List.setIfInBounds_toArray, List.set_cons_zero, List.set_cons_succ])
  first
  | (refine Fx.WM.skip 6 (by rfl) (by kernel_rfl) (by kernel_rfl) (by kernel_rfl) (by rfl) (fun g f w h => h) ?_; simp only [Act.put, List.setIfInBounds_toArray, List.set_cons_zero, List.set_cons_succ])
  | (refine Fx.WM.val_ 6 ?_ (by rfl) (by kernel_rfl) (by kernel_rfl) (by kernel_rfl) (by rfl) ?_ (fun g f w h => h) ?_
     rotate_left
     · intro g f w' hx hD hk
       obtain hkp := id hD
       clear hx hk hD hkp
       go_simp
       try rfl
     simp only [Act.put, List.setIfInBounds_toArray, List.set_cons_zero, List.set_cons_succ])
  first
  | (refine Fx.WM.skip 7 (by rfl) (by kernel_rfl) (by kernel_rfl) (by kernel_rfl) (by rfl) (fun g f w h => h) ?_; simp only [Act.put, List.setIfInBounds_toArray, List.set_cons_zero, List.set_cons_succ])
  | (refine Fx.WM.val_ 7 ?_ (by rfl) (by kernel_rfl) (by kernel_rfl) (by kernel_rfl) (by rfl) ?_ (fun g f w h => h) ?_
     rotate_left
     · intro g f w' hx hD hk
       obtain hkp := id hD
       clear hx hk hD hkp
       go_simp
       try rfl
     simp only [Act.put, List.setIfInBounds_toArray, List.set_cons_zero, List.set_cons_succ])
  first
  | (refine Fx.WM.skip 8 (by rfl) (by kernel_rfl) (by kernel_rfl) (by kernel_rfl) (by rfl) (fun g f w h => h) ?_; simp only [Act.put, List.setIfInBounds_toArray, List.set_cons_zero, List.set_cons_succ])
  | (refine Fx.WM.val_ 8 ?_ (by rfl) (by kernel_rfl) (by kernel_rfl) (by kernel_rfl) (by rfl) ?_ (fun g f w h => h) ?_
     rotate_left
     · intro g f w' hx hD hk
       obtain hkp := id hD
       clear hx hk hD hkp
       go_simp
       try rfl
     simp only [Act.put, List.setIfInBounds_toArray, List.set_cons_zero, List.set_cons_succ])
  first
  | (refine Fx.WM.skip 9 (by rfl) (by kernel_rfl) (by kernel_rfl) (by kernel_rfl) (by rfl) (fun g f w h => h) ?_; simp only [Act.put, List.setIfInBounds_toArray, List.set_cons_zero, List.set_cons_succ])
  | (refine Fx.WM.val_ 9 ?_ (by rfl) (by kernel_rfl) (by kernel_rfl) (by kernel_rfl) (by rfl) ?_ (fun g f w h => h) ?_
     rotate_left
     · intro g f w' hx hD hk
       obtain hkp := id hD
       clear hx hk hD hkp
       go_simp
       try rfl
     simp only [Act.put, List.setIfInBounds_toArray, List.set_cons_zero, List.set_cons_succ])
  refine Fx.WM.nil (by kernel_rfl) ?_
  intro wz hkp
  obtain ⟨⟨yA, yc⟩, y2⟩ := y
  have hb := hkp.bel
  have hr := (hkp.has 4 _ (by rfl)).2 rfl
  clear hkp
  simp only at hr
  obtain ⟨w4, hnm⟩ : ∃ z : World, z = wz := ⟨_, rfl⟩
  subst hnm
  have HB4 := Lib.hid (show Below w.heap.size w w4 from step_below hb (by repeat' (first | exact Below.refl _ _ | exact HB3.out | refine below_drewN ?_ _ | refine Below.drew ?_ | refine Below.alloc ?_ (by first | omega | (simp; done) | (simp; omega) | (simp [World.setCell]; omega)) _ | refine Below.setCell ?_ (by first | omega | (simp; done) | (simp; omega)) _ | assumption)))
  have K0_4 := Lib.hid (step_blk hb (show Blk _ (w.heap.size) 42 #[.int .i64 (m.ls), .int .i64 (m.ms), .int .i64 (m.lo), .int .i64 (m.hi), .int .i64 (m.sp), .slice m.A1 m.n1 m.c1, .slice m.A2 m.n2 m.c2] by repeat' (first | exact K0_3.out | exact K1_3.out | exact K2_3.out | exact Blk.at_ _ (by first | rfl | (simp; done) | (simp; omega)) _ _ | refine Blk.drewN ?_ _ | refine Blk.drew ?_ | refine Blk.alloc ?_ _ | refine Blk.far ?_ (by first | omega | (simp; done) | (simp; omega)) _ | assumption)))
  have K1_4 := Lib.hid (step_blk hb (show Blk _ (w.heap.size + 1) 44 #[.string t.name, .int .i64 (t.az), .int .i64 (t.ht), .int .i64 (t.fr), .int .i64 (t.to), .int .i64 (t.dw)] by repeat' (first | exact K0_3.out | exact K1_3.out | exact K2_3.out | exact Blk.at_ _ (by first | rfl | (simp; done) | (simp; omega)) _ _ | refine Blk.drewN ?_ _ | refine Blk.drew ?_ | refine Blk.alloc ?_ _ | refine Blk.far ?_ (by first | omega | (simp; done) | (simp; omega)) _ | assumption)))
  have K2_4 := Lib.hid (step_blk hb (show Blk _ (bx) 46 #[.int .i64 (X), .int .i64 (Y)] by repeat' (first | exact K0_3.out | exact K1_3.out | exact K2_3.out | exact Blk.at_ _ (by first | rfl | (simp; done) | (simp; omega)) _ _ | refine Blk.drewN ?_ _ | refine Blk.drew ?_ | refine Blk.alloc ?_ _ | refine Blk.far ?_ (by first | omega | (simp; done) | (simp; omega)) _ | assumption)))
  have hL4 := Lib.hid (show Below w3.heap.size w3 _ from reads_mid hb (by repeat' (first | exact Below.refl _ _ | refine below_drewN ?_ _ | refine Below.drew ?_ | refine Below.alloc ?_ (by first | omega | (simp; done) | (simp; omega) | (simp [World.setCell]; omega)) _ | refine Below.setCell ?_ (by first | omega | (simp; done) | (simp; omega)) _)))
  have R0_4 := Lib.hid (mnt_lay hb hL4.out R0_3.out)
  clear hL4 R0_3
  have hz4 := hb.size
  try simp only [World.size_alloc, World.drewN, World.drew] at hz4
  clear hb K0_3 K1_3 K2_3 z0_0_3 z0_1_3 z0_2_3 z0_3_3 z0_4_3 z0_5_3 z0_6_3 l0_3 z1_0_3 z1_1_3 z1_2_3 z1_3_3 z1_4_3 z1_5_3 l1_3 z2_0_3 z2_1_3 l2_3
  have l0_4 : w.heap.size < w4.heap.size := K0_4.out.lt
  have z0_0_4 : w4.cell? ⟨w.heap.size, 0, none⟩ = some (.int .i64 (m.ls)) := K0_4.out.cell 0
  have z0_1_4 : w4.cell? ⟨w.heap.size, 1, none⟩ = some (.int .i64 (m.ms)) := K0_4.out.cell 1
  have z0_2_4 : w4.cell? ⟨w.heap.size, 2, none⟩ = some (.int .i64 (m.lo)) := K0_4.out.cell 2
  have z0_3_4 : w4.cell? ⟨w.heap.size, 3, none⟩ = some (.int .i64 (m.hi)) := K0_4.out.cell 3
  have z0_4_4 : w4.cell? ⟨w.heap.size, 4, none⟩ = some (.int .i64 (m.sp)) := K0_4.out.cell 4
  have z0_5_4 : w4.cell? ⟨w.heap.size, 5, none⟩ = some (.slice m.A1 m.n1 m.c1) := K0_4.out.cell 5
  have z0_6_4 : w4.cell? ⟨w.heap.size, 6, none⟩ = some (.slice m.A2 m.n2 m.c2) := K0_4.out.cell 6
  have l1_4 : w.heap.size + 1 < w4.heap.size := K1_4.out.lt
  have z1_0_4 : w4.cell? ⟨w.heap.size + 1, 0, none⟩ = some (.string t.name) := K1_4.out.cell 0
  have z1_1_4 : w4.cell? ⟨w.heap.size + 1, 1, none⟩ = some (.int .i64 (t.az)) := K1_4.out.cell 1
  have z1_2_4 : w4.cell? ⟨w.heap.size + 1, 2, none⟩ = some (.int .i64 (t.ht)) := K1_4.out.cell 2
  have z1_3_4 : w4.cell? ⟨w.heap.size + 1, 3, none⟩ = some (.int .i64 (t.fr)) := K1_4.out.cell 3
  have z1_4_4 : w4.cell? ⟨w.heap.size + 1, 4, none⟩ = some (.int .i64 (t.to)) := K1_4.out.cell 4
  have z1_5_4 : w4.cell? ⟨w.heap.size + 1, 5, none⟩ = some (.int .i64 (t.dw)) := K1_4.out.cell 5
  have l2_4 : bx < w4.heap.size := K2_4.out.lt
  have z2_0_4 : w4.cell? ⟨bx, 0, none⟩ = some (.int .i64 (X)) := K2_4.out.cell 0
  have z2_1_4 : w4.cell? ⟨bx, 1, none⟩ = some (.int .i64 (Y)) := K2_4.out.cell 1
  have R1_4 := Lib.hid hr
  clear hr
  by_cases hF : F = 0
  rotate_left
  · have q2 : (F != 0) = true := by simpa using hF
    go_wp2
    go_ret
    exact ⟨rfl, by repeat' (first | exact Below.refl _ _ | exact HB4.out | refine below_drewN ?_ _ | refine Below.drew ?_ | refine Below.alloc ?_ (by first | omega | (simp; done) | (simp; omega) | (simp [World.setCell]; omega)) _ | refine Below.setCell ?_ (by first | omega | (simp; done) | (simp; omega)) _ | assumption)⟩
  subst hF
  obtain ⟨t1, t2, t3⟩ := turnsAt_ok HT.out
  obtain ⟨r1, r2, r3, r4, r5, r6⟩ := mnt_right H1.out
  obtain ⟨a1, a2, a3, a4⟩ := app_in (day := day) H1.out H2.out
  rw [HA.out] at a1 a2 a3 a4
  simp only at a1 a2 a3 a4
  obtain ⟨k0, n, n0, s1, s2, s3, s4, s5, s6⟩ := turns_seq (X := X) ⟨a1, a2⟩ r1.1 r1.2.2.2 t3
  rw [← t2, HQ.out] at s3
  subst s3
  obtain ⟨p, hqp⟩ : ∃ p, q = p + 1 := ⟨q - 1, by omega⟩
  have hLi : ∀ i : Nat, i < q → L[i]? = some (k0 + i) := fun i hi => by rw [t2]; exact (s4 i hi).1
  have hLb : ∀ i : Nat, i < q → m.ls ≤ X + (k0 + i) * 1296000 ∧ X + (k0 + i) * 1296000 ≤ m.ms := fun i hi => (s4 i hi).2
  obtain ⟨kb, ko, rfl, hkb, hkc⟩ := (R1_4.out).2 (by omega)
  have hcell : ∀ i : Nat, i < q → w4.cell? ⟨kb, ko + i, none⟩ = some (.int .i64 (k0 + i)) := fun i hi => hkc i _ (by rw [List.getElem?_map, hLi i hi]; rfl)
  have c0 : w4.cell? ⟨kb, ko, none⟩ = some (.int .i64 k0) := by simpa using hcell 0 (by omega)
  have cp := hcell p (by omega)
  have hw0 : withinB k0 (-30) 30 = true := (withinB_iff _ _ _).2 (by omega)
  have hwp : withinB (k0 + p) (-30) 30 = true := (withinB_iff _ _ _).2 (by omega)
  have HW0 := Lib.hid hw0
  have HWP := Lib.hid hwp
  have HLB := Lib.hid hLb
  have HCE := Lib.hid hcell
  have HT2 := Lib.hid t2
  have HY := Lib.hid t1
  have HNE := Lib.hid t3
  have HS5 := Lib.hid s5
  have HS6 := Lib.hid s6
  have g1 : ((q : Int) == 0) = false := by simp; omega
  have g2 : ¬ X < 0 := by omega
  have g3 : ¬ (1296000 : Int) ≤ X := by omega
  have g4 : IntKind.i64.wrap ((q : Int) - 1) = (p : Int) := by rw [IntWalk.i64_in _ ⟨by omega, by omega⟩]; omega
  have g5 : (p : Int) < (q : Int) := by omega
  have g6 : 0 < q := by omega
  have g7 : p < q := by omega
  have HQP := Lib.hid hqp
  clear hw0 hwp hLi hLb hkc hcell t1 t2 t3 s4 s5 s6 hqp
  go_wp2_with fail
  refine (withinref_is _ _ _ true HW0.out _).mono ?_
  rintro e w' ⟨rfl, rfl⟩
  go_wp2_with fail
  refine (withinref_is _ _ _ true HWP.out _).mono ?_
  rintro e w' ⟨rfl, rfl⟩
  clear c0 cp
  go_wp2
  go_loopw [11] (fun i wr => ∃ k : Nat, k ≤ q ∧ i = .int .i64 k ∧ Below w4.heap.size w4 wr) (fun i _ => q - (intOf i).toNat)
  case atStart => exact ⟨0, by omega, rfl, Below.refl _ _⟩
  case round =>
    obtain ⟨k, hk, rfl, hb5⟩ := hrel
    obtain ⟨w5, hnm⟩ : ∃ z : World, z = wr := ⟨_, rfl⟩
    subst hnm
    have HB45 := Lib.hid hb5
    have hbw := HB4.out.trans (hb5.mono HB4.out.size)
    have kk0 := Blk.below K0_4.out hb5 l0_4
    have kk1 := Blk.below K1_4.out hb5 l1_4
    have kk2 := Blk.below K2_4.out hb5 l2_4
    have hma5 := R0_4.out.lay hb5
    have hc5 : ∀ i : Nat, i < q → w5.cell? ⟨kb, ko + i, none⟩ = some (.int .i64 (k0 + i)) := fun i hi => (hb5.cell (p := ⟨kb, ko + i, none⟩) hkb).trans (HCE.out i hi)
    have hkb5 := Nat.lt_of_lt_of_le hkb hb5.size
    have HC5 := Lib.hid hc5
    clear hb5 hc5
    have HB5 := Lib.hid hbw
    have K0_5 := Lib.hid (show Blk w5 (w.heap.size) 42 #[.int .i64 (m.ls), .int .i64 (m.ms), .int .i64 (m.lo), .int .i64 (m.hi), .int .i64 (m.sp), .slice m.A1 m.n1 m.c1, .slice m.A2 m.n2 m.c2] from kk0)
    have K1_5 := Lib.hid (show Blk w5 (w.heap.size + 1) 44 #[.string t.name, .int .i64 (t.az), .int .i64 (t.ht), .int .i64 (t.fr), .int .i64 (t.to), .int .i64 (t.dw)] from kk1)
    have K2_5 := Lib.hid (show Blk w5 (bx) 46 #[.int .i64 (X), .int .i64 (Y)] from kk2)
    clear hbw kk0 kk1 kk2
    have l0_5 : w.heap.size < w5.heap.size := K0_5.out.lt
    have z0_0_5 : w5.cell? ⟨w.heap.size, 0, none⟩ = some (.int .i64 (m.ls)) := K0_5.out.cell 0
    have z0_1_5 : w5.cell? ⟨w.heap.size, 1, none⟩ = some (.int .i64 (m.ms)) := K0_5.out.cell 1
    have z0_2_5 : w5.cell? ⟨w.heap.size, 2, none⟩ = some (.int .i64 (m.lo)) := K0_5.out.cell 2
    have z0_3_5 : w5.cell? ⟨w.heap.size, 3, none⟩ = some (.int .i64 (m.hi)) := K0_5.out.cell 3
    have z0_4_5 : w5.cell? ⟨w.heap.size, 4, none⟩ = some (.int .i64 (m.sp)) := K0_5.out.cell 4
    have z0_5_5 : w5.cell? ⟨w.heap.size, 5, none⟩ = some (.slice m.A1 m.n1 m.c1) := K0_5.out.cell 5
    have z0_6_5 : w5.cell? ⟨w.heap.size, 6, none⟩ = some (.slice m.A2 m.n2 m.c2) := K0_5.out.cell 6
    have l1_5 : w.heap.size + 1 < w5.heap.size := K1_5.out.lt
    have z1_0_5 : w5.cell? ⟨w.heap.size + 1, 0, none⟩ = some (.string t.name) := K1_5.out.cell 0
    have z1_1_5 : w5.cell? ⟨w.heap.size + 1, 1, none⟩ = some (.int .i64 (t.az)) := K1_5.out.cell 1
    have z1_2_5 : w5.cell? ⟨w.heap.size + 1, 2, none⟩ = some (.int .i64 (t.ht)) := K1_5.out.cell 2
    have z1_3_5 : w5.cell? ⟨w.heap.size + 1, 3, none⟩ = some (.int .i64 (t.fr)) := K1_5.out.cell 3
    have z1_4_5 : w5.cell? ⟨w.heap.size + 1, 4, none⟩ = some (.int .i64 (t.to)) := K1_5.out.cell 4
    have z1_5_5 : w5.cell? ⟨w.heap.size + 1, 5, none⟩ = some (.int .i64 (t.dw)) := K1_5.out.cell 5
    have l2_5 : bx < w5.heap.size := K2_5.out.lt
    have z2_0_5 : w5.cell? ⟨bx, 0, none⟩ = some (.int .i64 (X)) := K2_5.out.cell 0
    have z2_1_5 : w5.cell? ⟨bx, 1, none⟩ = some (.int .i64 (Y)) := K2_5.out.cell 1
    have R0_5 := Lib.hid hma5
    clear hma5
    have hbx5 : bx < w5.heap.size := l2_5
    have hz5 := HB5.out.size
    by_cases hlt : k < q
    · have b1 := HLB.out k hlt
      have v1 := IntWalk.i64_in ((k0 + k) * 1296000) ⟨by omega, by omega⟩
      have v2 := IntWalk.i64_in (X + (k0 + k) * 1296000) ⟨by omega, by omega⟩
      have e1 : decide (X + (k0 + k) * 1296000 < m.ls) = false := decide_eq_false (by omega)
      have e2 : decide (m.ms < X + (k0 + k) * 1296000) = false := decide_eq_false (by omega)
      have ck := HC5.out k hlt
      have hkk : (k : Int) < (q : Int) := by omega
      by_cases h0 : k = 0
      · subst h0
        have v1' : IntKind.i64.wrap (k0 * 1296000) = k0 * 1296000 := by simpa using v1
        have v2' : IntKind.i64.wrap (X + k0 * 1296000) = X + k0 * 1296000 := by simpa using v2
        have e1' : decide (X + k0 * 1296000 < m.ls) = false := decide_eq_false (by simp at b1; omega)
        have e2' : decide (m.ms < X + k0 * 1296000) = false := decide_eq_false (by simp at b1; omega)
        have ck' : w5.cell? ⟨kb, ko, none⟩ = some (.int .i64 k0) := by simpa using ck
        clear v1 v2 e1 e2 ck b1
        go_wp2_with fail
        refine Fx.regionW (fun W f w' => Below W.heap.size W w') (by kernel_rfl) (by kernel_rfl) ?_ ?_
        · intro f hf0
          exact below_drewN (Below.refl _ _) 1
        repeat (first
          | (refine Fx.skip_ (by rfl) (fun f w h => h) ?_; simp only [Act.put, List.setIfInBounds_toArray, List.set_cons_zero, List.set_cons_succ])
          | (refine Fx.val_ ?_ (by rfl) ?_ (fun f w h => h) ?_
             rotate_left
             · intro f w' hD hk
               have hb := hD
               have kb0 := step_blk hb (show Blk _ (w.heap.size) 42 #[.int .i64 (m.ls), .int .i64 (m.ms), .int .i64 (m.lo), .int .i64 (m.hi), .int .i64 (m.sp), .slice m.A1 m.n1 m.c1, .slice m.A2 m.n2 m.c2] by repeat' (first | exact K0_5.out | exact K1_5.out | exact K2_5.out | exact Blk.at_ _ (by first | rfl | (simp; done) | (simp; omega)) _ _ | refine Blk.drewN ?_ _ | refine Blk.drew ?_ | refine Blk.alloc ?_ _ | refine Blk.far ?_ (by first | omega | (simp; done) | (simp; omega)) _ | assumption))
               have y0_0 : w'.cell? ⟨w.heap.size, 0, none⟩ = some (.int .i64 (m.ls)) := kb0.cell 0
               have y0_1 : w'.cell? ⟨w.heap.size, 1, none⟩ = some (.int .i64 (m.ms)) := kb0.cell 1
               have y0_2 : w'.cell? ⟨w.heap.size, 2, none⟩ = some (.int .i64 (m.lo)) := kb0.cell 2
               have y0_3 : w'.cell? ⟨w.heap.size, 3, none⟩ = some (.int .i64 (m.hi)) := kb0.cell 3
               have y0_4 : w'.cell? ⟨w.heap.size, 4, none⟩ = some (.int .i64 (m.sp)) := kb0.cell 4
               have y0_5 : w'.cell? ⟨w.heap.size, 5, none⟩ = some (.slice m.A1 m.n1 m.c1) := kb0.cell 5
               have y0_6 : w'.cell? ⟨w.heap.size, 6, none⟩ = some (.slice m.A2 m.n2 m.c2) := kb0.cell 6
               have kb1 := step_blk hb (show Blk _ (w.heap.size + 1) 44 #[.string t.name, .int .i64 (t.az), .int .i64 (t.ht), .int .i64 (t.fr), .int .i64 (t.to), .int .i64 (t.dw)] by repeat' (first | exact K0_5.out | exact K1_5.out | exact K2_5.out | exact Blk.at_ _ (by first | rfl | (simp; done) | (simp; omega)) _ _ | refine Blk.drewN ?_ _ | refine Blk.drew ?_ | refine Blk.alloc ?_ _ | refine Blk.far ?_ (by first | omega | (simp; done) | (simp; omega)) _ | assumption))
               have y1_0 : w'.cell? ⟨w.heap.size + 1, 0, none⟩ = some (.string t.name) := kb1.cell 0
               have y1_1 : w'.cell? ⟨w.heap.size + 1, 1, none⟩ = some (.int .i64 (t.az)) := kb1.cell 1
               have y1_2 : w'.cell? ⟨w.heap.size + 1, 2, none⟩ = some (.int .i64 (t.ht)) := kb1.cell 2
               have y1_3 : w'.cell? ⟨w.heap.size + 1, 3, none⟩ = some (.int .i64 (t.fr)) := kb1.cell 3
               have y1_4 : w'.cell? ⟨w.heap.size + 1, 4, none⟩ = some (.int .i64 (t.to)) := kb1.cell 4
               have y1_5 : w'.cell? ⟨w.heap.size + 1, 5, none⟩ = some (.int .i64 (t.dw)) := kb1.cell 5
               have kb2 := step_blk hb (show Blk _ (bx) 46 #[.int .i64 (X), .int .i64 (Y)] by repeat' (first | exact K0_5.out | exact K1_5.out | exact K2_5.out | exact Blk.at_ _ (by first | rfl | (simp; done) | (simp; omega)) _ _ | refine Blk.drewN ?_ _ | refine Blk.drew ?_ | refine Blk.alloc ?_ _ | refine Blk.far ?_ (by first | omega | (simp; done) | (simp; omega)) _ | assumption))
               have y2_0 : w'.cell? ⟨bx, 0, none⟩ = some (.int .i64 (X)) := kb2.cell 0
               have y2_1 : w'.cell? ⟨bx, 1, none⟩ = some (.int .i64 (Y)) := kb2.cell 1
               have x9 := (hb.cell (p := ⟨kb, ko, none⟩) hkb5).trans ck'
               clear kb0 kb1 kb2
               clear hk hD hb
               go_simp
               try rfl
             simp only [Act.put, List.setIfInBounds_toArray, List.set_cons_zero, List.set_cons_succ]))
        refine Fx.nil_ ?_
        intro f w6 hall hb
        try clear hall
        have HB56 := Lib.hid hb
        have HB6 := Lib.hid (show Below w.heap.size w w6 from step_below hb (by repeat' (first | exact Below.refl _ _ | exact HB5.out | refine below_drewN ?_ _ | refine Below.drew ?_ | refine Below.alloc ?_ (by first | omega | (simp; done) | (simp; omega) | (simp [World.setCell]; omega)) _ | refine Below.setCell ?_ (by first | omega | (simp; done) | (simp; omega)) _ | assumption)))
        have K0_6 := Lib.hid (step_blk hb (show Blk _ (w.heap.size) 42 #[.int .i64 (m.ls), .int .i64 (m.ms), .int .i64 (m.lo), .int .i64 (m.hi), .int .i64 (m.sp), .slice m.A1 m.n1 m.c1, .slice m.A2 m.n2 m.c2] by repeat' (first | exact K0_5.out | exact K1_5.out | exact K2_5.out | exact Blk.at_ _ (by first | rfl | (simp; done) | (simp; omega)) _ _ | refine Blk.drewN ?_ _ | refine Blk.drew ?_ | refine Blk.alloc ?_ _ | refine Blk.far ?_ (by first | omega | (simp; done) | (simp; omega)) _ | assumption)))
        have K1_6 := Lib.hid (step_blk hb (show Blk _ (w.heap.size + 1) 44 #[.string t.name, .int .i64 (t.az), .int .i64 (t.ht), .int .i64 (t.fr), .int .i64 (t.to), .int .i64 (t.dw)] by repeat' (first | exact K0_5.out | exact K1_5.out | exact K2_5.out | exact Blk.at_ _ (by first | rfl | (simp; done) | (simp; omega)) _ _ | refine Blk.drewN ?_ _ | refine Blk.drew ?_ | refine Blk.alloc ?_ _ | refine Blk.far ?_ (by first | omega | (simp; done) | (simp; omega)) _ | assumption)))
        have K2_6 := Lib.hid (step_blk hb (show Blk _ (bx) 46 #[.int .i64 (X), .int .i64 (Y)] by repeat' (first | exact K0_5.out | exact K1_5.out | exact K2_5.out | exact Blk.at_ _ (by first | rfl | (simp; done) | (simp; omega)) _ _ | refine Blk.drewN ?_ _ | refine Blk.drew ?_ | refine Blk.alloc ?_ _ | refine Blk.far ?_ (by first | omega | (simp; done) | (simp; omega)) _ | assumption)))
        have hL6 := Lib.hid (show Below w5.heap.size w5 _ from reads_mid hb (by repeat' (first | exact Below.refl _ _ | refine below_drewN ?_ _ | refine Below.drew ?_ | refine Below.alloc ?_ (by first | omega | (simp; done) | (simp; omega) | (simp [World.setCell]; omega)) _ | refine Below.setCell ?_ (by first | omega | (simp; done) | (simp; omega)) _)))
        have R0_6 := Lib.hid (mnt_lay hb hL6.out R0_5.out)
        clear hL6 R0_5
        have hz6 := hb.size
        try simp only [World.size_alloc, World.drewN, World.drew] at hz6
        clear hb K0_5 K1_5 K2_5 z0_0_5 z0_1_5 z0_2_5 z0_3_5 z0_4_5 z0_5_5 z0_6_5 l0_5 z1_0_5 z1_1_5 z1_2_5 z1_3_5 z1_4_5 z1_5_5 l1_5 z2_0_5 z2_1_5 l2_5
        have l0_6 : w.heap.size < w6.heap.size := K0_6.out.lt
        have z0_0_6 : w6.cell? ⟨w.heap.size, 0, none⟩ = some (.int .i64 (m.ls)) := K0_6.out.cell 0
        have z0_1_6 : w6.cell? ⟨w.heap.size, 1, none⟩ = some (.int .i64 (m.ms)) := K0_6.out.cell 1
        have z0_2_6 : w6.cell? ⟨w.heap.size, 2, none⟩ = some (.int .i64 (m.lo)) := K0_6.out.cell 2
        have z0_3_6 : w6.cell? ⟨w.heap.size, 3, none⟩ = some (.int .i64 (m.hi)) := K0_6.out.cell 3
        have z0_4_6 : w6.cell? ⟨w.heap.size, 4, none⟩ = some (.int .i64 (m.sp)) := K0_6.out.cell 4
        have z0_5_6 : w6.cell? ⟨w.heap.size, 5, none⟩ = some (.slice m.A1 m.n1 m.c1) := K0_6.out.cell 5
        have z0_6_6 : w6.cell? ⟨w.heap.size, 6, none⟩ = some (.slice m.A2 m.n2 m.c2) := K0_6.out.cell 6
        have l1_6 : w.heap.size + 1 < w6.heap.size := K1_6.out.lt
        have z1_0_6 : w6.cell? ⟨w.heap.size + 1, 0, none⟩ = some (.string t.name) := K1_6.out.cell 0
        have z1_1_6 : w6.cell? ⟨w.heap.size + 1, 1, none⟩ = some (.int .i64 (t.az)) := K1_6.out.cell 1
        have z1_2_6 : w6.cell? ⟨w.heap.size + 1, 2, none⟩ = some (.int .i64 (t.ht)) := K1_6.out.cell 2
        have z1_3_6 : w6.cell? ⟨w.heap.size + 1, 3, none⟩ = some (.int .i64 (t.fr)) := K1_6.out.cell 3
        have z1_4_6 : w6.cell? ⟨w.heap.size + 1, 4, none⟩ = some (.int .i64 (t.to)) := K1_6.out.cell 4
        have z1_5_6 : w6.cell? ⟨w.heap.size + 1, 5, none⟩ = some (.int .i64 (t.dw)) := K1_6.out.cell 5
        have l2_6 : bx < w6.heap.size := K2_6.out.lt
        have z2_0_6 : w6.cell? ⟨bx, 0, none⟩ = some (.int .i64 (X)) := K2_6.out.cell 0
        have z2_1_6 : w6.cell? ⟨bx, 1, none⟩ = some (.int .i64 (Y)) := K2_6.out.cell 1
        go_wp2
        go_roundw
        case rel => exact ⟨0 + 1, by omega, by go_num, HB45.out.trans (HB56.out.mono HB45.out.size)⟩
        case measure => simp [intOf]; omega
      · obtain ⟨j, hj⟩ : ∃ j, k = j + 1 := ⟨k - 1, by omega⟩
        have cj := HC5.out j (by omega)
        have v3 : IntKind.i64.wrap ((k : Int) - 1) = (j : Int) := by rw [IntWalk.i64_in _ ⟨by omega, by omega⟩]; omega
        have v4 : IntKind.i64.wrap (k0 + j + 1) = k0 + k := by rw [IntWalk.i64_in _ ⟨by omega, by omega⟩]; omega
        have hjq : (j : Int) < (q : Int) := by omega
        have hjq' : j < q := by omega
        have h0k : (0 : Int) < (k : Int) := by omega
        have h0k' : 0 < k := by omega
        clear hj b1 h0
        go_wp2_with fail
        refine Fx.regionW (fun W f w' => Below W.heap.size W w') (by kernel_rfl) (by kernel_rfl) ?_ ?_
        · intro f hf0
          exact below_drewN (Below.refl _ _) 1
        repeat (first
          | (refine Fx.skip_ (by rfl) (fun f w h => h) ?_; simp only [Act.put, List.setIfInBounds_toArray, List.set_cons_zero, List.set_cons_succ])
          | (refine Fx.val_ ?_ (by rfl) ?_ (fun f w h => h) ?_
             rotate_left
             · intro f w' hD hk
               have hb := hD
               have kb0 := step_blk hb (show Blk _ (w.heap.size) 42 #[.int .i64 (m.ls), .int .i64 (m.ms), .int .i64 (m.lo), .int .i64 (m.hi), .int .i64 (m.sp), .slice m.A1 m.n1 m.c1, .slice m.A2 m.n2 m.c2] by repeat' (first | exact K0_5.out | exact K1_5.out | exact K2_5.out | exact Blk.at_ _ (by first | rfl | (simp; done) | (simp; omega)) _ _ | refine Blk.drewN ?_ _ | refine Blk.drew ?_ | refine Blk.alloc ?_ _ | refine Blk.far ?_ (by first | omega | (simp; done) | (simp; omega)) _ | assumption))
               have y0_0 : w'.cell? ⟨w.heap.size, 0, none⟩ = some (.int .i64 (m.ls)) := kb0.cell 0
               have y0_1 : w'.cell? ⟨w.heap.size, 1, none⟩ = some (.int .i64 (m.ms)) := kb0.cell 1
               have y0_2 : w'.cell? ⟨w.heap.size, 2, none⟩ = some (.int .i64 (m.lo)) := kb0.cell 2
               have y0_3 : w'.cell? ⟨w.heap.size, 3, none⟩ = some (.int .i64 (m.hi)) := kb0.cell 3
               have y0_4 : w'.cell? ⟨w.heap.size, 4, none⟩ = some (.int .i64 (m.sp)) := kb0.cell 4
               have y0_5 : w'.cell? ⟨w.heap.size, 5, none⟩ = some (.slice m.A1 m.n1 m.c1) := kb0.cell 5
               have y0_6 : w'.cell? ⟨w.heap.size, 6, none⟩ = some (.slice m.A2 m.n2 m.c2) := kb0.cell 6
               have kb1 := step_blk hb (show Blk _ (w.heap.size + 1) 44 #[.string t.name, .int .i64 (t.az), .int .i64 (t.ht), .int .i64 (t.fr), .int .i64 (t.to), .int .i64 (t.dw)] by repeat' (first | exact K0_5.out | exact K1_5.out | exact K2_5.out | exact Blk.at_ _ (by first | rfl | (simp; done) | (simp; omega)) _ _ | refine Blk.drewN ?_ _ | refine Blk.drew ?_ | refine Blk.alloc ?_ _ | refine Blk.far ?_ (by first | omega | (simp; done) | (simp; omega)) _ | assumption))
               have y1_0 : w'.cell? ⟨w.heap.size + 1, 0, none⟩ = some (.string t.name) := kb1.cell 0
               have y1_1 : w'.cell? ⟨w.heap.size + 1, 1, none⟩ = some (.int .i64 (t.az)) := kb1.cell 1
               have y1_2 : w'.cell? ⟨w.heap.size + 1, 2, none⟩ = some (.int .i64 (t.ht)) := kb1.cell 2
               have y1_3 : w'.cell? ⟨w.heap.size + 1, 3, none⟩ = some (.int .i64 (t.fr)) := kb1.cell 3
               have y1_4 : w'.cell? ⟨w.heap.size + 1, 4, none⟩ = some (.int .i64 (t.to)) := kb1.cell 4
               have y1_5 : w'.cell? ⟨w.heap.size + 1, 5, none⟩ = some (.int .i64 (t.dw)) := kb1.cell 5
               have kb2 := step_blk hb (show Blk _ (bx) 46 #[.int .i64 (X), .int .i64 (Y)] by repeat' (first | exact K0_5.out | exact K1_5.out | exact K2_5.out | exact Blk.at_ _ (by first | rfl | (simp; done) | (simp; omega)) _ _ | refine Blk.drewN ?_ _ | refine Blk.drew ?_ | refine Blk.alloc ?_ _ | refine Blk.far ?_ (by first | omega | (simp; done) | (simp; omega)) _ | assumption))
               have y2_0 : w'.cell? ⟨bx, 0, none⟩ = some (.int .i64 (X)) := kb2.cell 0
               have y2_1 : w'.cell? ⟨bx, 1, none⟩ = some (.int .i64 (Y)) := kb2.cell 1
               have x8 := (hb.cell (p := ⟨kb, ko + k, none⟩) hkb5).trans ck
               have x9 := (hb.cell (p := ⟨kb, ko + j, none⟩) hkb5).trans cj
               clear kb0 kb1 kb2
               clear hk hD hb
               go_simp
               try rfl
             simp only [Act.put, List.setIfInBounds_toArray, List.set_cons_zero, List.set_cons_succ]))
        refine Fx.nil_ ?_
        intro f w6 hall hb
        try clear hall
        have HB56 := Lib.hid hb
        have HB6 := Lib.hid (show Below w.heap.size w w6 from step_below hb (by repeat' (first | exact Below.refl _ _ | exact HB5.out | refine below_drewN ?_ _ | refine Below.drew ?_ | refine Below.alloc ?_ (by first | omega | (simp; done) | (simp; omega) | (simp [World.setCell]; omega)) _ | refine Below.setCell ?_ (by first | omega | (simp; done) | (simp; omega)) _ | assumption)))
        have K0_6 := Lib.hid (step_blk hb (show Blk _ (w.heap.size) 42 #[.int .i64 (m.ls), .int .i64 (m.ms), .int .i64 (m.lo), .int .i64 (m.hi), .int .i64 (m.sp), .slice m.A1 m.n1 m.c1, .slice m.A2 m.n2 m.c2] by repeat' (first | exact K0_5.out | exact K1_5.out | exact K2_5.out | exact Blk.at_ _ (by first | rfl | (simp; done) | (simp; omega)) _ _ | refine Blk.drewN ?_ _ | refine Blk.drew ?_ | refine Blk.alloc ?_ _ | refine Blk.far ?_ (by first | omega | (simp; done) | (simp; omega)) _ | assumption)))
        have K1_6 := Lib.hid (step_blk hb (show Blk _ (w.heap.size + 1) 44 #[.string t.name, .int .i64 (t.az), .int .i64 (t.ht), .int .i64 (t.fr), .int .i64 (t.to), .int .i64 (t.dw)] by repeat' (first | exact K0_5.out | exact K1_5.out | exact K2_5.out | exact Blk.at_ _ (by first | rfl | (simp; done) | (simp; omega)) _ _ | refine Blk.drewN ?_ _ | refine Blk.drew ?_ | refine Blk.alloc ?_ _ | refine Blk.far ?_ (by first | omega | (simp; done) | (simp; omega)) _ | assumption)))
        have K2_6 := Lib.hid (step_blk hb (show Blk _ (bx) 46 #[.int .i64 (X), .int .i64 (Y)] by repeat' (first | exact K0_5.out | exact K1_5.out | exact K2_5.out | exact Blk.at_ _ (by first | rfl | (simp; done) | (simp; omega)) _ _ | refine Blk.drewN ?_ _ | refine Blk.drew ?_ | refine Blk.alloc ?_ _ | refine Blk.far ?_ (by first | omega | (simp; done) | (simp; omega)) _ | assumption)))
        have hL6 := Lib.hid (show Below w5.heap.size w5 _ from reads_mid hb (by repeat' (first | exact Below.refl _ _ | refine below_drewN ?_ _ | refine Below.drew ?_ | refine Below.alloc ?_ (by first | omega | (simp; done) | (simp; omega) | (simp [World.setCell]; omega)) _ | refine Below.setCell ?_ (by first | omega | (simp; done) | (simp; omega)) _)))
        have R0_6 := Lib.hid (mnt_lay hb hL6.out R0_5.out)
        clear hL6 R0_5
        have hz6 := hb.size
        try simp only [World.size_alloc, World.drewN, World.drew] at hz6
        clear hb K0_5 K1_5 K2_5 z0_0_5 z0_1_5 z0_2_5 z0_3_5 z0_4_5 z0_5_5 z0_6_5 l0_5 z1_0_5 z1_1_5 z1_2_5 z1_3_5 z1_4_5 z1_5_5 l1_5 z2_0_5 z2_1_5 l2_5
        have l0_6 : w.heap.size < w6.heap.size := K0_6.out.lt
        have z0_0_6 : w6.cell? ⟨w.heap.size, 0, none⟩ = some (.int .i64 (m.ls)) := K0_6.out.cell 0
        have z0_1_6 : w6.cell? ⟨w.heap.size, 1, none⟩ = some (.int .i64 (m.ms)) := K0_6.out.cell 1
        have z0_2_6 : w6.cell? ⟨w.heap.size, 2, none⟩ = some (.int .i64 (m.lo)) := K0_6.out.cell 2
        have z0_3_6 : w6.cell? ⟨w.heap.size, 3, none⟩ = some (.int .i64 (m.hi)) := K0_6.out.cell 3
        have z0_4_6 : w6.cell? ⟨w.heap.size, 4, none⟩ = some (.int .i64 (m.sp)) := K0_6.out.cell 4
        have z0_5_6 : w6.cell? ⟨w.heap.size, 5, none⟩ = some (.slice m.A1 m.n1 m.c1) := K0_6.out.cell 5
        have z0_6_6 : w6.cell? ⟨w.heap.size, 6, none⟩ = some (.slice m.A2 m.n2 m.c2) := K0_6.out.cell 6
        have l1_6 : w.heap.size + 1 < w6.heap.size := K1_6.out.lt
        have z1_0_6 : w6.cell? ⟨w.heap.size + 1, 0, none⟩ = some (.string t.name) := K1_6.out.cell 0
        have z1_1_6 : w6.cell? ⟨w.heap.size + 1, 1, none⟩ = some (.int .i64 (t.az)) := K1_6.out.cell 1
        have z1_2_6 : w6.cell? ⟨w.heap.size + 1, 2, none⟩ = some (.int .i64 (t.ht)) := K1_6.out.cell 2
        have z1_3_6 : w6.cell? ⟨w.heap.size + 1, 3, none⟩ = some (.int .i64 (t.fr)) := K1_6.out.cell 3
        have z1_4_6 : w6.cell? ⟨w.heap.size + 1, 4, none⟩ = some (.int .i64 (t.to)) := K1_6.out.cell 4
        have z1_5_6 : w6.cell? ⟨w.heap.size + 1, 5, none⟩ = some (.int .i64 (t.dw)) := K1_6.out.cell 5
        have l2_6 : bx < w6.heap.size := K2_6.out.lt
        have z2_0_6 : w6.cell? ⟨bx, 0, none⟩ = some (.int .i64 (X)) := K2_6.out.cell 0
        have z2_1_6 : w6.cell? ⟨bx, 1, none⟩ = some (.int .i64 (Y)) := K2_6.out.cell 1
        go_wp2
        go_roundw
        case rel => exact ⟨k + 1, by omega, by go_num, HB45.out.trans (HB56.out.mono HB45.out.size)⟩
        case measure => simp [intOf]; omega
    · obtain rfl : q = k := by omega
      have c0 : w5.cell? ⟨kb, ko, none⟩ = some (.int .i64 k0) := by simpa using HC5.out 0 (by omega)
      have cp := HC5.out p (by omega)
      have u1 := IntWalk.i64_in (k0 - 1) ⟨by omega, by omega⟩
      have u2 := IntWalk.i64_in ((k0 - 1) * 1296000) ⟨by omega, by omega⟩
      have u3 := IntWalk.i64_in (X + (k0 - 1) * 1296000) ⟨by omega, by omega⟩
      have u4 : IntKind.i64.wrap (k0 + p + 1) = k0 + q := by rw [IntWalk.i64_in _ ⟨by have := HQP.out; omega, by have := HQP.out; omega⟩]; have := HQP.out; omega
      have u5 := IntWalk.i64_in ((k0 + q) * 1296000) ⟨by omega, by omega⟩
      have u6 := IntWalk.i64_in (X + (k0 + q) * 1296000) ⟨by omega, by omega⟩
      have e1 : decide (m.ls ≤ X + (k0 - 1) * 1296000) = false := decide_eq_false (by have := HS5.out; omega)
      have e2 : decide (X + (k0 + q) * 1296000 ≤ m.ms) = false := decide_eq_false (by have := HS6.out; omega)
      clear hlt
      go_wp2_with fail
      refine Fx.regionW (fun W f w' => Below W.heap.size W w') (by kernel_rfl) (by kernel_rfl) ?_ ?_
      · intro f hf0
        exact below_drewN (Below.refl _ _) 1
      repeat (first
        | (refine Fx.skip_ (by rfl) (fun f w h => h) ?_; simp only [Act.put, List.setIfInBounds_toArray, List.set_cons_zero, List.set_cons_succ])
        | (refine Fx.val_ ?_ (by rfl) ?_ (fun f w h => h) ?_
           rotate_left
           · intro f w' hD hk
             have hb := hD
             have kb0 := step_blk hb (show Blk _ (w.heap.size) 42 #[.int .i64 (m.ls), .int .i64 (m.ms), .int .i64 (m.lo), .int .i64 (m.hi), .int .i64 (m.sp), .slice m.A1 m.n1 m.c1, .slice m.A2 m.n2 m.c2] by repeat' (first | exact K0_5.out | exact K1_5.out | exact K2_5.out | exact Blk.at_ _ (by first | rfl | (simp; done) | (simp; omega)) _ _ | refine Blk.drewN ?_ _ | refine Blk.drew ?_ | refine Blk.alloc ?_ _ | refine Blk.far ?_ (by first | omega | (simp; done) | (simp; omega)) _ | assumption))
             have y0_0 : w'.cell? ⟨w.heap.size, 0, none⟩ = some (.int .i64 (m.ls)) := kb0.cell 0
             have y0_1 : w'.cell? ⟨w.heap.size, 1, none⟩ = some (.int .i64 (m.ms)) := kb0.cell 1
             have y0_2 : w'.cell? ⟨w.heap.size, 2, none⟩ = some (.int .i64 (m.lo)) := kb0.cell 2
             have y0_3 : w'.cell? ⟨w.heap.size, 3, none⟩ = some (.int .i64 (m.hi)) := kb0.cell 3
             have y0_4 : w'.cell? ⟨w.heap.size, 4, none⟩ = some (.int .i64 (m.sp)) := kb0.cell 4
             have y0_5 : w'.cell? ⟨w.heap.size, 5, none⟩ = some (.slice m.A1 m.n1 m.c1) := kb0.cell 5
             have y0_6 : w'.cell? ⟨w.heap.size, 6, none⟩ = some (.slice m.A2 m.n2 m.c2) := kb0.cell 6
             have kb1 := step_blk hb (show Blk _ (w.heap.size + 1) 44 #[.string t.name, .int .i64 (t.az), .int .i64 (t.ht), .int .i64 (t.fr), .int .i64 (t.to), .int .i64 (t.dw)] by repeat' (first | exact K0_5.out | exact K1_5.out | exact K2_5.out | exact Blk.at_ _ (by first | rfl | (simp; done) | (simp; omega)) _ _ | refine Blk.drewN ?_ _ | refine Blk.drew ?_ | refine Blk.alloc ?_ _ | refine Blk.far ?_ (by first | omega | (simp; done) | (simp; omega)) _ | assumption))
             have y1_0 : w'.cell? ⟨w.heap.size + 1, 0, none⟩ = some (.string t.name) := kb1.cell 0
             have y1_1 : w'.cell? ⟨w.heap.size + 1, 1, none⟩ = some (.int .i64 (t.az)) := kb1.cell 1
             have y1_2 : w'.cell? ⟨w.heap.size + 1, 2, none⟩ = some (.int .i64 (t.ht)) := kb1.cell 2
             have y1_3 : w'.cell? ⟨w.heap.size + 1, 3, none⟩ = some (.int .i64 (t.fr)) := kb1.cell 3
             have y1_4 : w'.cell? ⟨w.heap.size + 1, 4, none⟩ = some (.int .i64 (t.to)) := kb1.cell 4
             have y1_5 : w'.cell? ⟨w.heap.size + 1, 5, none⟩ = some (.int .i64 (t.dw)) := kb1.cell 5
             have kb2 := step_blk hb (show Blk _ (bx) 46 #[.int .i64 (X), .int .i64 (Y)] by repeat' (first | exact K0_5.out | exact K1_5.out | exact K2_5.out | exact Blk.at_ _ (by first | rfl | (simp; done) | (simp; omega)) _ _ | refine Blk.drewN ?_ _ | refine Blk.drew ?_ | refine Blk.alloc ?_ _ | refine Blk.far ?_ (by first | omega | (simp; done) | (simp; omega)) _ | assumption))
             have y2_0 : w'.cell? ⟨bx, 0, none⟩ = some (.int .i64 (X)) := kb2.cell 0
             have y2_1 : w'.cell? ⟨bx, 1, none⟩ = some (.int .i64 (Y)) := kb2.cell 1
             have x8 := (hb.cell (p := ⟨kb, ko, none⟩) hkb5).trans c0
             have x9 := (hb.cell (p := ⟨kb, ko + p, none⟩) hkb5).trans cp
             clear kb0 kb1 kb2
             clear hk hD hb
             go_simp
             try rfl
           simp only [Act.put, List.setIfInBounds_toArray, List.set_cons_zero, List.set_cons_succ]))
      refine Fx.nil_ ?_
      intro f w6 hall hb
      try clear hall
      have HB56 := Lib.hid hb
      have HB6 := Lib.hid (show Below w.heap.size w w6 from step_below hb (by repeat' (first | exact Below.refl _ _ | exact HB5.out | refine below_drewN ?_ _ | refine Below.drew ?_ | refine Below.alloc ?_ (by first | omega | (simp; done) | (simp; omega) | (simp [World.setCell]; omega)) _ | refine Below.setCell ?_ (by first | omega | (simp; done) | (simp; omega)) _ | assumption)))
      have K0_6 := Lib.hid (step_blk hb (show Blk _ (w.heap.size) 42 #[.int .i64 (m.ls), .int .i64 (m.ms), .int .i64 (m.lo), .int .i64 (m.hi), .int .i64 (m.sp), .slice m.A1 m.n1 m.c1, .slice m.A2 m.n2 m.c2] by repeat' (first | exact K0_5.out | exact K1_5.out | exact K2_5.out | exact Blk.at_ _ (by first | rfl | (simp; done) | (simp; omega)) _ _ | refine Blk.drewN ?_ _ | refine Blk.drew ?_ | refine Blk.alloc ?_ _ | refine Blk.far ?_ (by first | omega | (simp; done) | (simp; omega)) _ | assumption)))
      have K1_6 := Lib.hid (step_blk hb (show Blk _ (w.heap.size + 1) 44 #[.string t.name, .int .i64 (t.az), .int .i64 (t.ht), .int .i64 (t.fr), .int .i64 (t.to), .int .i64 (t.dw)] by repeat' (first | exact K0_5.out | exact K1_5.out | exact K2_5.out | exact Blk.at_ _ (by first | rfl | (simp; done) | (simp; omega)) _ _ | refine Blk.drewN ?_ _ | refine Blk.drew ?_ | refine Blk.alloc ?_ _ | refine Blk.far ?_ (by first | omega | (simp; done) | (simp; omega)) _ | assumption)))
      have K2_6 := Lib.hid (step_blk hb (show Blk _ (bx) 46 #[.int .i64 (X), .int .i64 (Y)] by repeat' (first | exact K0_5.out | exact K1_5.out | exact K2_5.out | exact Blk.at_ _ (by first | rfl | (simp; done) | (simp; omega)) _ _ | refine Blk.drewN ?_ _ | refine Blk.drew ?_ | refine Blk.alloc ?_ _ | refine Blk.far ?_ (by first | omega | (simp; done) | (simp; omega)) _ | assumption)))
      have hL6 := Lib.hid (show Below w5.heap.size w5 _ from reads_mid hb (by repeat' (first | exact Below.refl _ _ | refine below_drewN ?_ _ | refine Below.drew ?_ | refine Below.alloc ?_ (by first | omega | (simp; done) | (simp; omega) | (simp [World.setCell]; omega)) _ | refine Below.setCell ?_ (by first | omega | (simp; done) | (simp; omega)) _)))
      have R0_6 := Lib.hid (mnt_lay hb hL6.out R0_5.out)
      clear hL6 R0_5
      have hz6 := hb.size
      try simp only [World.size_alloc, World.drewN, World.drew] at hz6
      clear hb K0_5 K1_5 K2_5 z0_0_5 z0_1_5 z0_2_5 z0_3_5 z0_4_5 z0_5_5 z0_6_5 l0_5 z1_0_5 z1_1_5 z1_2_5 z1_3_5 z1_4_5 z1_5_5 l1_5 z2_0_5 z2_1_5 l2_5
      have l0_6 : w.heap.size < w6.heap.size := K0_6.out.lt
      have z0_0_6 : w6.cell? ⟨w.heap.size, 0, none⟩ = some (.int .i64 (m.ls)) := K0_6.out.cell 0
      have z0_1_6 : w6.cell? ⟨w.heap.size, 1, none⟩ = some (.int .i64 (m.ms)) := K0_6.out.cell 1
      have z0_2_6 : w6.cell? ⟨w.heap.size, 2, none⟩ = some (.int .i64 (m.lo)) := K0_6.out.cell 2
      have z0_3_6 : w6.cell? ⟨w.heap.size, 3, none⟩ = some (.int .i64 (m.hi)) := K0_6.out.cell 3
      have z0_4_6 : w6.cell? ⟨w.heap.size, 4, none⟩ = some (.int .i64 (m.sp)) := K0_6.out.cell 4
      have z0_5_6 : w6.cell? ⟨w.heap.size, 5, none⟩ = some (.slice m.A1 m.n1 m.c1) := K0_6.out.cell 5
      have z0_6_6 : w6.cell? ⟨w.heap.size, 6, none⟩ = some (.slice m.A2 m.n2 m.c2) := K0_6.out.cell 6
      have l1_6 : w.heap.size + 1 < w6.heap.size := K1_6.out.lt
      have z1_0_6 : w6.cell? ⟨w.heap.size + 1, 0, none⟩ = some (.string t.name) := K1_6.out.cell 0
      have z1_1_6 : w6.cell? ⟨w.heap.size + 1, 1, none⟩ = some (.int .i64 (t.az)) := K1_6.out.cell 1
      have z1_2_6 : w6.cell? ⟨w.heap.size + 1, 2, none⟩ = some (.int .i64 (t.ht)) := K1_6.out.cell 2
      have z1_3_6 : w6.cell? ⟨w.heap.size + 1, 3, none⟩ = some (.int .i64 (t.fr)) := K1_6.out.cell 3
      have z1_4_6 : w6.cell? ⟨w.heap.size + 1, 4, none⟩ = some (.int .i64 (t.to)) := K1_6.out.cell 4
      have z1_5_6 : w6.cell? ⟨w.heap.size + 1, 5, none⟩ = some (.int .i64 (t.dw)) := K1_6.out.cell 5
      have l2_6 : bx < w6.heap.size := K2_6.out.lt
      have z2_0_6 : w6.cell? ⟨bx, 0, none⟩ = some (.int .i64 (X)) := K2_6.out.cell 0
      have z2_1_6 : w6.cell? ⟨bx, 1, none⟩ = some (.int .i64 (Y)) := K2_6.out.cell 1
      clear c0 cp u1 u2 u3 u4 u5 u6 e1 e2
      go_wp2_with fail
      refine (mountagg_any m _ R0_6.out (by omega) (by omega)).mono ?_
      rintro e w7 ⟨A7, c7, B7, d7, rfl, hb, hm7, -, -, -⟩
      have HB7 := Lib.hid (show Below w.heap.size w w7 from step_below hb (by repeat' (first | exact Below.refl _ _ | exact HB6.out | refine below_drewN ?_ _ | refine Below.drew ?_ | refine Below.alloc ?_ (by first | omega | (simp; done) | (simp; omega) | (simp [World.setCell]; omega)) _ | refine Below.setCell ?_ (by first | omega | (simp; done) | (simp; omega)) _ | assumption)))
      have K0_7 := Lib.hid (step_blk hb (show Blk _ (w.heap.size) 42 #[.int .i64 (m.ls), .int .i64 (m.ms), .int .i64 (m.lo), .int .i64 (m.hi), .int .i64 (m.sp), .slice m.A1 m.n1 m.c1, .slice m.A2 m.n2 m.c2] by repeat' (first | exact K0_6.out | exact K1_6.out | exact K2_6.out | exact Blk.at_ _ (by first | rfl | (simp; done) | (simp; omega)) _ _ | refine Blk.drewN ?_ _ | refine Blk.drew ?_ | refine Blk.alloc ?_ _ | refine Blk.far ?_ (by first | omega | (simp; done) | (simp; omega)) _ | assumption)))
      have K1_7 := Lib.hid (step_blk hb (show Blk _ (w.heap.size + 1) 44 #[.string t.name, .int .i64 (t.az), .int .i64 (t.ht), .int .i64 (t.fr), .int .i64 (t.to), .int .i64 (t.dw)] by repeat' (first | exact K0_6.out | exact K1_6.out | exact K2_6.out | exact Blk.at_ _ (by first | rfl | (simp; done) | (simp; omega)) _ _ | refine Blk.drewN ?_ _ | refine Blk.drew ?_ | refine Blk.alloc ?_ _ | refine Blk.far ?_ (by first | omega | (simp; done) | (simp; omega)) _ | assumption)))
      have K2_7 := Lib.hid (step_blk hb (show Blk _ (bx) 46 #[.int .i64 (X), .int .i64 (Y)] by repeat' (first | exact K0_6.out | exact K1_6.out | exact K2_6.out | exact Blk.at_ _ (by first | rfl | (simp; done) | (simp; omega)) _ _ | refine Blk.drewN ?_ _ | refine Blk.drew ?_ | refine Blk.alloc ?_ _ | refine Blk.far ?_ (by first | omega | (simp; done) | (simp; omega)) _ | assumption)))
      have hL7 := Lib.hid (show Below w6.heap.size w6 _ from reads_mid hb (by repeat' (first | exact Below.refl _ _ | refine below_drewN ?_ _ | refine Below.drew ?_ | refine Below.alloc ?_ (by first | omega | (simp; done) | (simp; omega) | (simp [World.setCell]; omega)) _ | refine Below.setCell ?_ (by first | omega | (simp; done) | (simp; omega)) _)))
      have R0_7 := Lib.hid (mnt_lay hb hL7.out R0_6.out)
      clear hL7 R0_6
      have hz7 := hb.size
      try simp only [World.size_alloc, World.drewN, World.drew] at hz7
      clear hb K0_6 K1_6 K2_6 z0_0_6 z0_1_6 z0_2_6 z0_3_6 z0_4_6 z0_5_6 z0_6_6 l0_6 z1_0_6 z1_1_6 z1_2_6 z1_3_6 z1_4_6 z1_5_6 l1_6 z2_0_6 z2_1_6 l2_6
      have l0_7 : w.heap.size < w7.heap.size := K0_7.out.lt
      have z0_0_7 : w7.cell? ⟨w.heap.size, 0, none⟩ = some (.int .i64 (m.ls)) := K0_7.out.cell 0
      have z0_1_7 : w7.cell? ⟨w.heap.size, 1, none⟩ = some (.int .i64 (m.ms)) := K0_7.out.cell 1
      have z0_2_7 : w7.cell? ⟨w.heap.size, 2, none⟩ = some (.int .i64 (m.lo)) := K0_7.out.cell 2
      have z0_3_7 : w7.cell? ⟨w.heap.size, 3, none⟩ = some (.int .i64 (m.hi)) := K0_7.out.cell 3
      have z0_4_7 : w7.cell? ⟨w.heap.size, 4, none⟩ = some (.int .i64 (m.sp)) := K0_7.out.cell 4
      have z0_5_7 : w7.cell? ⟨w.heap.size, 5, none⟩ = some (.slice m.A1 m.n1 m.c1) := K0_7.out.cell 5
      have z0_6_7 : w7.cell? ⟨w.heap.size, 6, none⟩ = some (.slice m.A2 m.n2 m.c2) := K0_7.out.cell 6
      have l1_7 : w.heap.size + 1 < w7.heap.size := K1_7.out.lt
      have z1_0_7 : w7.cell? ⟨w.heap.size + 1, 0, none⟩ = some (.string t.name) := K1_7.out.cell 0
      have z1_1_7 : w7.cell? ⟨w.heap.size + 1, 1, none⟩ = some (.int .i64 (t.az)) := K1_7.out.cell 1
      have z1_2_7 : w7.cell? ⟨w.heap.size + 1, 2, none⟩ = some (.int .i64 (t.ht)) := K1_7.out.cell 2
      have z1_3_7 : w7.cell? ⟨w.heap.size + 1, 3, none⟩ = some (.int .i64 (t.fr)) := K1_7.out.cell 3
      have z1_4_7 : w7.cell? ⟨w.heap.size + 1, 4, none⟩ = some (.int .i64 (t.to)) := K1_7.out.cell 4
      have z1_5_7 : w7.cell? ⟨w.heap.size + 1, 5, none⟩ = some (.int .i64 (t.dw)) := K1_7.out.cell 5
      have l2_7 : bx < w7.heap.size := K2_7.out.lt
      have z2_0_7 : w7.cell? ⟨bx, 0, none⟩ = some (.int .i64 (X)) := K2_7.out.cell 0
      have z2_1_7 : w7.cell? ⟨bx, 1, none⟩ = some (.int .i64 (Y)) := K2_7.out.cell 1
      have HM7 := Lib.hid hm7
      have hl07 := l0_7
      have hl17 := l1_7
      have hl27 := l2_7
      clear hm7
      go_wp2_with fail
      generalize hwn : (w7.alloc (.cells #[.int .i64 (m.ls), .int .i64 (m.ms), .int .i64 (m.lo), .int .i64 (m.hi), .int .i64 (m.sp), .slice A7 m.n1 c7, .slice B7 m.n2 d7] 42)) = w8
      have hbn : Below w7.heap.size w7 w8 := by rw [← hwn]; repeat' (first | exact Below.refl _ _ | refine below_drewN ?_ _ | refine Below.drew ?_ | refine Below.alloc ?_ (by first | omega | (simp; done) | (simp; omega) | (simp [World.setCell]; omega)) _ | refine Below.setCell ?_ (by first | omega | (simp; done) | (simp; omega)) _)
      have HB8 := Lib.hid (show Below w.heap.size w w8 from HB7.out.trans (hbn.mono HB7.out.size))
      have K0_8 := Lib.hid (step_blk hbn K0_7.out)
      have K1_8 := Lib.hid (step_blk hbn K1_7.out)
      have K2_8 := Lib.hid (step_blk hbn K2_7.out)
      have K3_8 := Lib.hid (show Blk w8 (w7.heap.size) 42 #[.int .i64 (m.ls), .int .i64 (m.ms), .int .i64 (m.lo), .int .i64 (m.hi), .int .i64 (m.sp), .slice A7 m.n1 c7, .slice B7 m.n2 d7] by rw [← hwn]; repeat' (first | exact Blk.at_ _ (by first | rfl | (simp; done) | (simp; omega)) _ _ | refine Blk.drewN ?_ _ | refine Blk.drew ?_ | refine Blk.alloc ?_ _ | refine Blk.far ?_ (by first | omega | (simp; done) | (simp; omega)) _ | assumption))
      have R0_8 := Lib.hid (R0_7.out.lay hbn)
      have HN8 := Lib.hid hbn
      have hz8 := hbn.size
      clear hwn hbn K0_7 l0_7 z0_0_7 z0_1_7 z0_2_7 z0_3_7 z0_4_7 z0_5_7 z0_6_7 K1_7 l1_7 z1_0_7 z1_1_7 z1_2_7 z1_3_7 z1_4_7 z1_5_7 K2_7 l2_7 z2_0_7 z2_1_7 R0_7
      have l0_8 : w.heap.size < w8.heap.size := K0_8.out.lt
      have z0_0_8 : w8.cell? ⟨w.heap.size, 0, none⟩ = some (.int .i64 (m.ls)) := K0_8.out.cell 0
      have z0_1_8 : w8.cell? ⟨w.heap.size, 1, none⟩ = some (.int .i64 (m.ms)) := K0_8.out.cell 1
      have z0_2_8 : w8.cell? ⟨w.heap.size, 2, none⟩ = some (.int .i64 (m.lo)) := K0_8.out.cell 2
      have z0_3_8 : w8.cell? ⟨w.heap.size, 3, none⟩ = some (.int .i64 (m.hi)) := K0_8.out.cell 3
      have z0_4_8 : w8.cell? ⟨w.heap.size, 4, none⟩ = some (.int .i64 (m.sp)) := K0_8.out.cell 4
      have z0_5_8 : w8.cell? ⟨w.heap.size, 5, none⟩ = some (.slice m.A1 m.n1 m.c1) := K0_8.out.cell 5
      have z0_6_8 : w8.cell? ⟨w.heap.size, 6, none⟩ = some (.slice m.A2 m.n2 m.c2) := K0_8.out.cell 6
      have l1_8 : w.heap.size + 1 < w8.heap.size := K1_8.out.lt
      have z1_0_8 : w8.cell? ⟨w.heap.size + 1, 0, none⟩ = some (.string t.name) := K1_8.out.cell 0
      have z1_1_8 : w8.cell? ⟨w.heap.size + 1, 1, none⟩ = some (.int .i64 (t.az)) := K1_8.out.cell 1
      have z1_2_8 : w8.cell? ⟨w.heap.size + 1, 2, none⟩ = some (.int .i64 (t.ht)) := K1_8.out.cell 2
      have z1_3_8 : w8.cell? ⟨w.heap.size + 1, 3, none⟩ = some (.int .i64 (t.fr)) := K1_8.out.cell 3
      have z1_4_8 : w8.cell? ⟨w.heap.size + 1, 4, none⟩ = some (.int .i64 (t.to)) := K1_8.out.cell 4
      have z1_5_8 : w8.cell? ⟨w.heap.size + 1, 5, none⟩ = some (.int .i64 (t.dw)) := K1_8.out.cell 5
      have l2_8 : bx < w8.heap.size := K2_8.out.lt
      have z2_0_8 : w8.cell? ⟨bx, 0, none⟩ = some (.int .i64 (X)) := K2_8.out.cell 0
      have z2_1_8 : w8.cell? ⟨bx, 1, none⟩ = some (.int .i64 (Y)) := K2_8.out.cell 1
      have l3_8 : w7.heap.size < w8.heap.size := K3_8.out.lt
      have z3_0_8 : w8.cell? ⟨w7.heap.size, 0, none⟩ = some (.int .i64 (m.ls)) := K3_8.out.cell 0
      have z3_1_8 : w8.cell? ⟨w7.heap.size, 1, none⟩ = some (.int .i64 (m.ms)) := K3_8.out.cell 1
      have z3_2_8 : w8.cell? ⟨w7.heap.size, 2, none⟩ = some (.int .i64 (m.lo)) := K3_8.out.cell 2
      have z3_3_8 : w8.cell? ⟨w7.heap.size, 3, none⟩ = some (.int .i64 (m.hi)) := K3_8.out.cell 3
      have z3_4_8 : w8.cell? ⟨w7.heap.size, 4, none⟩ = some (.int .i64 (m.sp)) := K3_8.out.cell 4
      have z3_5_8 : w8.cell? ⟨w7.heap.size, 5, none⟩ = some (.slice A7 m.n1 c7) := K3_8.out.cell 5
      have z3_6_8 : w8.cell? ⟨w7.heap.size, 6, none⟩ = some (.slice B7 m.n2 d7) := K3_8.out.cell 6
      obtain ⟨Wl, hWl⟩ : ∃ z : Int, (if m.ls - 400000 < -25920000 then -25920000 else m.ls - 400000) = z := ⟨_, rfl⟩
      obtain ⟨Wm, hWm⟩ : ∃ z : Int, (if 25920000 < m.ms + 900000 then 25920000 else m.ms + 900000) = z := ⟨_, rfl⟩
      have v1 := IntWalk.i64_in (m.ls - 400000) ⟨by omega, by omega⟩
      have v2 := IntWalk.i64_in (m.ms + 900000) ⟨by omega, by omega⟩
      refine Fx.regionW (fun W f w' => Below w7.heap.size W w' ∧ Blk w' w7.heap.size 42 (if f 11 then #[.int .i64 Wl, .int .i64 Wm, .int .i64 m.lo, .int .i64 m.hi, .int .i64 m.sp, .slice A7 m.n1 c7, .slice B7 m.n2 d7] else if f 9 then #[.int .i64 Wl, .int .i64 m.ms, .int .i64 m.lo, .int .i64 m.hi, .int .i64 m.sp, .slice A7 m.n1 c7, .slice B7 m.n2 d7] else #[.int .i64 m.ls, .int .i64 m.ms, .int .i64 m.lo, .int .i64 m.hi, .int .i64 m.sp, .slice A7 m.n1 c7, .slice B7 m.n2 d7])) (by kernel_rfl) (by kernel_rfl) ?_ ?_
      · intro f hf0
        rw [hf0 11, hf0 9]
        exact ⟨below_drewN (Below.refl _ _) 1, Blk.drewN K3_8.out 1⟩
      repeat (first
        | (refine Fx.skip_ (by rfl) (fun f w h => h) ?_; simp only [Act.put, List.setIfInBounds_toArray, List.set_cons_zero, List.set_cons_succ])
        | (refine Fx.val_ ?_ (by rfl) ?_ (fun f w h => h) ?_
           rotate_left
           · intro f w' hD hk
             obtain ⟨hb, hblk⟩ := id hD
             have y0_0 := (Blk.below K0_8.out hb hl07).cell 0
             have y0_1 := (Blk.below K0_8.out hb hl07).cell 1
             clear hk hD hb hblk
             go_simp
             try rfl
           simp only [Act.put, List.setIfInBounds_toArray, List.set_cons_zero, List.set_cons_succ]))
      refine Fx.store_ (fun w' => w'.setCell ⟨w7.heap.size, 0, none⟩ (.int .i64 Wl)) (by rfl) ?_ ?_ ?_
      · intro f w' hD hk
        obtain ⟨hb, hblk⟩ := id hD
        have h11 : f 11 = false := hk.2.1 11 (by kernel_rfl)
        have h9 : f 9 = false := hk.1
        simp only [h11, h9, Bool.false_eq_true, if_false] at hblk
        have q0 := hblk.cell 0
        have p0 := hblk.frozen 0
        clear hk hD
        go_simp
      · intro f w' hD hk
        obtain ⟨hb, hblk⟩ := id hD
        have h11 : f 11 = false := hk.2.1 11 (by kernel_rfl)
        have h9 : f 9 = false := hk.1
        simp only [h11, h9, Bool.false_eq_true, if_false] at hblk
        have q0 := hblk.cell 0
        have p0 := hblk.frozen 0
        exact ⟨hb.setCell (p := ⟨w7.heap.size, 0, none⟩) (Nat.le_refl _) _, by simpa [Fx.add, h11] using hblk.set_ 0 (.int .i64 Wl)⟩
      simp only [Act.put, List.setIfInBounds_toArray, List.set_cons_zero, List.set_cons_succ]
      repeat (first
        | (refine Fx.skip_ (by rfl) (fun f w h => h) ?_; simp only [Act.put, List.setIfInBounds_toArray, List.set_cons_zero, List.set_cons_succ])
        | (refine Fx.val_ ?_ (by rfl) ?_ (fun f w h => h) ?_
           rotate_left
           · intro f w' hD hk
             obtain ⟨hb, hblk⟩ := id hD
             have y0_0 := (Blk.below K0_8.out hb hl07).cell 0
             have y0_1 := (Blk.below K0_8.out hb hl07).cell 1
             clear hk hD hb hblk
             go_simp
             try rfl
           simp only [Act.put, List.setIfInBounds_toArray, List.set_cons_zero, List.set_cons_succ]))
      refine Fx.store_ (fun w' => w'.setCell ⟨w7.heap.size, 1, none⟩ (.int .i64 Wm)) (by rfl) ?_ ?_ ?_
      · intro f w' hD hk
        obtain ⟨hb, hblk⟩ := id hD
        have h9 : f 9 = true := hk.2.2.1 9 (by kernel_rfl)
        have h11 : f 11 = false := hk.1
        simp only [h11, h9, Bool.false_eq_true, if_false, if_true] at hblk
        have q0 := hblk.cell 1
        have p0 := hblk.frozen 1
        clear hk hD
        go_simp
      · intro f w' hD hk
        obtain ⟨hb, hblk⟩ := id hD
        have h9 : f 9 = true := hk.2.2.1 9 (by kernel_rfl)
        have h11 : f 11 = false := hk.1
        simp only [h11, h9, Bool.false_eq_true, if_false, if_true] at hblk
        have q0 := hblk.cell 1
        have p0 := hblk.frozen 1
        exact ⟨hb.setCell (p := ⟨w7.heap.size, 1, none⟩) (Nat.le_refl _) _, by simpa [Fx.add] using hblk.set_ 1 (.int .i64 Wm)⟩
      simp only [Act.put, List.setIfInBounds_toArray, List.set_cons_zero, List.set_cons_succ]
      refine Fx.nil_ ?_
      intro f w9 hall hD
      obtain ⟨hb, hblk⟩ := hD
      rw [hall 11 (by simp)] at hblk
      clear hall v1 v2
      replace hblk : Blk w9 w7.heap.size 42 #[.int .i64 Wl, .int .i64 Wm, .int .i64 m.lo, .int .i64 m.hi, .int .i64 m.sp, .slice A7 m.n1 c7, .slice B7 m.n2 d7] := hblk
      have hbw := HB8.out.trans (hb.mono (show w.heap.size ≤ w7.heap.size by omega))
      have kk0 := Blk.below K0_8.out hb hl07
      have kk1 := Blk.below K1_8.out hb hl17
      have kk2 := Blk.below K2_8.out hb hl27
      have hm9 := HM7.out.lay (HN8.out.trans hb)
      have hm9' : MntAt ({ m with ls := Wl, ms := Wm, A1 := A7, c1 := c7, A2 := B7, c2 := d7 }) w9 := ⟨hm9.r1, hm9.r2, hm9.b1, hm9.b2⟩
      have hma9 := HMA.out.lay hbw
      have hl1 : Wl ≤ m.ls ∧ -25920000 ≤ Wl := by rw [← hWl]; split <;> omega
      have hl2 : m.ms ≤ Wm ∧ Wm ≤ 25920000 := by rw [← hWm]; split <;> omega
      have hz9 := hb.size
      clear hb hWl hWm
      have HB9 := Lib.hid hbw
      have K0_9 := Lib.hid (show Blk w9 (w.heap.size) 42 #[.int .i64 (m.ls), .int .i64 (m.ms), .int .i64 (m.lo), .int .i64 (m.hi), .int .i64 (m.sp), .slice m.A1 m.n1 m.c1, .slice m.A2 m.n2 m.c2] from kk0)
      have K1_9 := Lib.hid (show Blk w9 (w.heap.size + 1) 44 #[.string t.name, .int .i64 (t.az), .int .i64 (t.ht), .int .i64 (t.fr), .int .i64 (t.to), .int .i64 (t.dw)] from kk1)
      have K2_9 := Lib.hid (show Blk w9 (bx) 46 #[.int .i64 (X), .int .i64 (Y)] from kk2)
      have K3_9 := Lib.hid (show Blk w9 (w7.heap.size) 42 #[.int .i64 (Wl), .int .i64 (Wm), .int .i64 (m.lo), .int .i64 (m.hi), .int .i64 (m.sp), .slice A7 m.n1 c7, .slice B7 m.n2 d7] from hblk)
      clear hbw kk0 kk1 kk2 hblk
      have l0_9 : w.heap.size < w9.heap.size := K0_9.out.lt
      have z0_0_9 : w9.cell? ⟨w.heap.size, 0, none⟩ = some (.int .i64 (m.ls)) := K0_9.out.cell 0
      have z0_1_9 : w9.cell? ⟨w.heap.size, 1, none⟩ = some (.int .i64 (m.ms)) := K0_9.out.cell 1
      have z0_2_9 : w9.cell? ⟨w.heap.size, 2, none⟩ = some (.int .i64 (m.lo)) := K0_9.out.cell 2
      have z0_3_9 : w9.cell? ⟨w.heap.size, 3, none⟩ = some (.int .i64 (m.hi)) := K0_9.out.cell 3
      have z0_4_9 : w9.cell? ⟨w.heap.size, 4, none⟩ = some (.int .i64 (m.sp)) := K0_9.out.cell 4
      have z0_5_9 : w9.cell? ⟨w.heap.size, 5, none⟩ = some (.slice m.A1 m.n1 m.c1) := K0_9.out.cell 5
      have z0_6_9 : w9.cell? ⟨w.heap.size, 6, none⟩ = some (.slice m.A2 m.n2 m.c2) := K0_9.out.cell 6
      have l1_9 : w.heap.size + 1 < w9.heap.size := K1_9.out.lt
      have z1_0_9 : w9.cell? ⟨w.heap.size + 1, 0, none⟩ = some (.string t.name) := K1_9.out.cell 0
      have z1_1_9 : w9.cell? ⟨w.heap.size + 1, 1, none⟩ = some (.int .i64 (t.az)) := K1_9.out.cell 1
      have z1_2_9 : w9.cell? ⟨w.heap.size + 1, 2, none⟩ = some (.int .i64 (t.ht)) := K1_9.out.cell 2
      have z1_3_9 : w9.cell? ⟨w.heap.size + 1, 3, none⟩ = some (.int .i64 (t.fr)) := K1_9.out.cell 3
      have z1_4_9 : w9.cell? ⟨w.heap.size + 1, 4, none⟩ = some (.int .i64 (t.to)) := K1_9.out.cell 4
      have z1_5_9 : w9.cell? ⟨w.heap.size + 1, 5, none⟩ = some (.int .i64 (t.dw)) := K1_9.out.cell 5
      have l2_9 : bx < w9.heap.size := K2_9.out.lt
      have z2_0_9 : w9.cell? ⟨bx, 0, none⟩ = some (.int .i64 (X)) := K2_9.out.cell 0
      have z2_1_9 : w9.cell? ⟨bx, 1, none⟩ = some (.int .i64 (Y)) := K2_9.out.cell 1
      have l3_9 : w7.heap.size < w9.heap.size := K3_9.out.lt
      have z3_0_9 : w9.cell? ⟨w7.heap.size, 0, none⟩ = some (.int .i64 (Wl)) := K3_9.out.cell 0
      have z3_1_9 : w9.cell? ⟨w7.heap.size, 1, none⟩ = some (.int .i64 (Wm)) := K3_9.out.cell 1
      have z3_2_9 : w9.cell? ⟨w7.heap.size, 2, none⟩ = some (.int .i64 (m.lo)) := K3_9.out.cell 2
      have z3_3_9 : w9.cell? ⟨w7.heap.size, 3, none⟩ = some (.int .i64 (m.hi)) := K3_9.out.cell 3
      have z3_4_9 : w9.cell? ⟨w7.heap.size, 4, none⟩ = some (.int .i64 (m.sp)) := K3_9.out.cell 4
      have z3_5_9 : w9.cell? ⟨w7.heap.size, 5, none⟩ = some (.slice A7 m.n1 c7) := K3_9.out.cell 5
      have z3_6_9 : w9.cell? ⟨w7.heap.size, 6, none⟩ = some (.slice B7 m.n2 d7) := K3_9.out.cell 6
      have R0_9 := Lib.hid hma9
      clear hma9
      have R1_9 := Lib.hid hm9'
      clear hm9'
      clear hm9
      have hlen := turns_wide (X := X) hl1.1 hl2.1
      rw [← HT2.out, HQ.out] at hlen
      obtain ⟨L2, hL2⟩ : ∃ z, turnsL Wl Wm X = z := ⟨_, rfl⟩
      obtain ⟨q2, hq2⟩ : ∃ z, L2.length = z := ⟨_, rfl⟩
      rw [hL2, hq2] at hlen
      have hne2 : L2 ≠ [] := fun e => by rw [e] at hq2; simp at hq2; omega
      have hA2 : appF ({ m with ls := Wl, ms := Wm, A1 := A7, c1 := c7, A2 := B7, c2 := d7 } : Mnt) t day = (X, Y) := HA.out
      have hT2 : turnsAt ({ m with ls := Wl, ms := Wm, A1 := A7, c1 := c7, A2 := B7, c2 := d7 } : Mnt) X Y = (L2, 0) := by
        unfold turnsAt
        rw [if_neg (by simp only; rw [HY.out]; simp), if_neg (by simp only; rw [hL2]; exact hne2)]
        simp only
        rw [hL2]
      have hE2 : mtdErr ({ m with ls := Wl, ms := Wm, A1 := A7, c1 := c7, A2 := B7, c2 := d7 } : Mnt) t day = 0 := by
        unfold mtdErr
        rw [wide_right H1.out hl1.1 hl1.2 hl2.1 hl2.2, H2.out, H3.out]
        rfl
      have f1 : ¬ (q2 : Int) < (q : Int) := by omega
      have HA2 := Lib.hid hA2
      have HT2' := Lib.hid hT2
      have HQ2 := Lib.hid hq2
      have HE2 := Lib.hid hE2
      clear hlen hL2 hq2 hne2 hA2 hT2 hE2 hl1 hl2
      go_wp2_with fail
      refine (pTurns_ok ({ m with ls := Wl, ms := Wm, A1 := A7, c1 := c7, A2 := B7, c2 := d7 } : Mnt) t day X Y L2 0 q2 HA2.out HT2'.out HQ2.out HE2.out _ R1_9.out hts).mono ?_
      rintro e w10 ⟨A10, c10, rfl, hb, -⟩
      have HB10 := Lib.hid (show Below w.heap.size w w10 from step_below hb (by repeat' (first | exact Below.refl _ _ | exact HB9.out | refine below_drewN ?_ _ | refine Below.drew ?_ | refine Below.alloc ?_ (by first | omega | (simp; done) | (simp; omega) | (simp [World.setCell]; omega)) _ | refine Below.setCell ?_ (by first | omega | (simp; done) | (simp; omega)) _ | assumption)))
      have K0_10 := Lib.hid (step_blk hb (show Blk _ (w.heap.size) 42 #[.int .i64 (m.ls), .int .i64 (m.ms), .int .i64 (m.lo), .int .i64 (m.hi), .int .i64 (m.sp), .slice m.A1 m.n1 m.c1, .slice m.A2 m.n2 m.c2] by repeat' (first | exact K0_9.out | exact K1_9.out | exact K2_9.out | exact K3_9.out | exact Blk.at_ _ (by first | rfl | (simp; done) | (simp; omega)) _ _ | refine Blk.drewN ?_ _ | refine Blk.drew ?_ | refine Blk.alloc ?_ _ | refine Blk.far ?_ (by first | omega | (simp; done) | (simp; omega)) _ | assumption)))
      have K1_10 := Lib.hid (step_blk hb (show Blk _ (w.heap.size + 1) 44 #[.string t.name, .int .i64 (t.az), .int .i64 (t.ht), .int .i64 (t.fr), .int .i64 (t.to), .int .i64 (t.dw)] by repeat' (first | exact K0_9.out | exact K1_9.out | exact K2_9.out | exact K3_9.out | exact Blk.at_ _ (by first | rfl | (simp; done) | (simp; omega)) _ _ | refine Blk.drewN ?_ _ | refine Blk.drew ?_ | refine Blk.alloc ?_ _ | refine Blk.far ?_ (by first | omega | (simp; done) | (simp; omega)) _ | assumption)))
      have K2_10 := Lib.hid (step_blk hb (show Blk _ (bx) 46 #[.int .i64 (X), .int .i64 (Y)] by repeat' (first | exact K0_9.out | exact K1_9.out | exact K2_9.out | exact K3_9.out | exact Blk.at_ _ (by first | rfl | (simp; done) | (simp; omega)) _ _ | refine Blk.drewN ?_ _ | refine Blk.drew ?_ | refine Blk.alloc ?_ _ | refine Blk.far ?_ (by first | omega | (simp; done) | (simp; omega)) _ | assumption)))
      have K3_10 := Lib.hid (step_blk hb (show Blk _ (w7.heap.size) 42 #[.int .i64 (Wl), .int .i64 (Wm), .int .i64 (m.lo), .int .i64 (m.hi), .int .i64 (m.sp), .slice A7 m.n1 c7, .slice B7 m.n2 d7] by repeat' (first | exact K0_9.out | exact K1_9.out | exact K2_9.out | exact K3_9.out | exact Blk.at_ _ (by first | rfl | (simp; done) | (simp; omega)) _ _ | refine Blk.drewN ?_ _ | refine Blk.drew ?_ | refine Blk.alloc ?_ _ | refine Blk.far ?_ (by first | omega | (simp; done) | (simp; omega)) _ | assumption)))
      have hL10 := Lib.hid (show Below w9.heap.size w9 _ from reads_mid hb (by repeat' (first | exact Below.refl _ _ | refine below_drewN ?_ _ | refine Below.drew ?_ | refine Below.alloc ?_ (by first | omega | (simp; done) | (simp; omega) | (simp [World.setCell]; omega)) _ | refine Below.setCell ?_ (by first | omega | (simp; done) | (simp; omega)) _)))
      have R0_10 := Lib.hid (mnt_lay hb hL10.out R0_9.out)
      have R1_10 := Lib.hid (mnt_lay hb hL10.out R1_9.out)
      clear hL10 R0_9 R1_9
      have hz10 := hb.size
      try simp only [World.size_alloc, World.drewN, World.drew] at hz10
      clear hb K0_9 K1_9 K2_9 K3_9 z0_0_9 z0_1_9 z0_2_9 z0_3_9 z0_4_9 z0_5_9 z0_6_9 l0_9 z1_0_9 z1_1_9 z1_2_9 z1_3_9 z1_4_9 z1_5_9 l1_9 z2_0_9 z2_1_9 l2_9 z3_0_9 z3_1_9 z3_2_9 z3_3_9 z3_4_9 z3_5_9 z3_6_9 l3_9
      have l0_10 : w.heap.size < w10.heap.size := K0_10.out.lt
      have z0_0_10 : w10.cell? ⟨w.heap.size, 0, none⟩ = some (.int .i64 (m.ls)) := K0_10.out.cell 0
      have z0_1_10 : w10.cell? ⟨w.heap.size, 1, none⟩ = some (.int .i64 (m.ms)) := K0_10.out.cell 1
      have z0_2_10 : w10.cell? ⟨w.heap.size, 2, none⟩ = some (.int .i64 (m.lo)) := K0_10.out.cell 2
      have z0_3_10 : w10.cell? ⟨w.heap.size, 3, none⟩ = some (.int .i64 (m.hi)) := K0_10.out.cell 3
      have z0_4_10 : w10.cell? ⟨w.heap.size, 4, none⟩ = some (.int .i64 (m.sp)) := K0_10.out.cell 4
      have z0_5_10 : w10.cell? ⟨w.heap.size, 5, none⟩ = some (.slice m.A1 m.n1 m.c1) := K0_10.out.cell 5
      have z0_6_10 : w10.cell? ⟨w.heap.size, 6, none⟩ = some (.slice m.A2 m.n2 m.c2) := K0_10.out.cell 6
      have l1_10 : w.heap.size + 1 < w10.heap.size := K1_10.out.lt
      have z1_0_10 : w10.cell? ⟨w.heap.size + 1, 0, none⟩ = some (.string t.name) := K1_10.out.cell 0
      have z1_1_10 : w10.cell? ⟨w.heap.size + 1, 1, none⟩ = some (.int .i64 (t.az)) := K1_10.out.cell 1
      have z1_2_10 : w10.cell? ⟨w.heap.size + 1, 2, none⟩ = some (.int .i64 (t.ht)) := K1_10.out.cell 2
      have z1_3_10 : w10.cell? ⟨w.heap.size + 1, 3, none⟩ = some (.int .i64 (t.fr)) := K1_10.out.cell 3
      have z1_4_10 : w10.cell? ⟨w.heap.size + 1, 4, none⟩ = some (.int .i64 (t.to)) := K1_10.out.cell 4
      have z1_5_10 : w10.cell? ⟨w.heap.size + 1, 5, none⟩ = some (.int .i64 (t.dw)) := K1_10.out.cell 5
      have l2_10 : bx < w10.heap.size := K2_10.out.lt
      have z2_0_10 : w10.cell? ⟨bx, 0, none⟩ = some (.int .i64 (X)) := K2_10.out.cell 0
      have z2_1_10 : w10.cell? ⟨bx, 1, none⟩ = some (.int .i64 (Y)) := K2_10.out.cell 1
      have l3_10 : w7.heap.size < w10.heap.size := K3_10.out.lt
      have z3_0_10 : w10.cell? ⟨w7.heap.size, 0, none⟩ = some (.int .i64 (Wl)) := K3_10.out.cell 0
      have z3_1_10 : w10.cell? ⟨w7.heap.size, 1, none⟩ = some (.int .i64 (Wm)) := K3_10.out.cell 1
      have z3_2_10 : w10.cell? ⟨w7.heap.size, 2, none⟩ = some (.int .i64 (m.lo)) := K3_10.out.cell 2
      have z3_3_10 : w10.cell? ⟨w7.heap.size, 3, none⟩ = some (.int .i64 (m.hi)) := K3_10.out.cell 3
      have z3_4_10 : w10.cell? ⟨w7.heap.size, 4, none⟩ = some (.int .i64 (m.sp)) := K3_10.out.cell 4
      have z3_5_10 : w10.cell? ⟨w7.heap.size, 5, none⟩ = some (.slice A7 m.n1 c7) := K3_10.out.cell 5
      have z3_6_10 : w10.cell? ⟨w7.heap.size, 6, none⟩ = some (.slice B7 m.n2 d7) := K3_10.out.cell 6
      go_wp2_with fail
      refine (mountagg_any m _ R0_10.out (by omega) (by omega)).mono ?_
      rintro e w11 ⟨A11, c11, B11, d11, rfl, hb, -, ho1, ho2, hsep⟩
      have HB11 := Lib.hid (show Below w.heap.size w w11 from step_below hb (by repeat' (first | exact Below.refl _ _ | exact HB10.out | refine below_drewN ?_ _ | refine Below.drew ?_ | refine Below.alloc ?_ (by first | omega | (simp; done) | (simp; omega) | (simp [World.setCell]; omega)) _ | refine Below.setCell ?_ (by first | omega | (simp; done) | (simp; omega)) _ | assumption)))
      have K0_11 := Lib.hid (step_blk hb (show Blk _ (w.heap.size) 42 #[.int .i64 (m.ls), .int .i64 (m.ms), .int .i64 (m.lo), .int .i64 (m.hi), .int .i64 (m.sp), .slice m.A1 m.n1 m.c1, .slice m.A2 m.n2 m.c2] by repeat' (first | exact K0_10.out | exact K1_10.out | exact K2_10.out | exact K3_10.out | exact Blk.at_ _ (by first | rfl | (simp; done) | (simp; omega)) _ _ | refine Blk.drewN ?_ _ | refine Blk.drew ?_ | refine Blk.alloc ?_ _ | refine Blk.far ?_ (by first | omega | (simp; done) | (simp; omega)) _ | assumption)))
      have K1_11 := Lib.hid (step_blk hb (show Blk _ (w.heap.size + 1) 44 #[.string t.name, .int .i64 (t.az), .int .i64 (t.ht), .int .i64 (t.fr), .int .i64 (t.to), .int .i64 (t.dw)] by repeat' (first | exact K0_10.out | exact K1_10.out | exact K2_10.out | exact K3_10.out | exact Blk.at_ _ (by first | rfl | (simp; done) | (simp; omega)) _ _ | refine Blk.drewN ?_ _ | refine Blk.drew ?_ | refine Blk.alloc ?_ _ | refine Blk.far ?_ (by first | omega | (simp; done) | (simp; omega)) _ | assumption)))
      have K2_11 := Lib.hid (step_blk hb (show Blk _ (bx) 46 #[.int .i64 (X), .int .i64 (Y)] by repeat' (first | exact K0_10.out | exact K1_10.out | exact K2_10.out | exact K3_10.out | exact Blk.at_ _ (by first | rfl | (simp; done) | (simp; omega)) _ _ | refine Blk.drewN ?_ _ | refine Blk.drew ?_ | refine Blk.alloc ?_ _ | refine Blk.far ?_ (by first | omega | (simp; done) | (simp; omega)) _ | assumption)))
      have K3_11 := Lib.hid (step_blk hb (show Blk _ (w7.heap.size) 42 #[.int .i64 (Wl), .int .i64 (Wm), .int .i64 (m.lo), .int .i64 (m.hi), .int .i64 (m.sp), .slice A7 m.n1 c7, .slice B7 m.n2 d7] by repeat' (first | exact K0_10.out | exact K1_10.out | exact K2_10.out | exact K3_10.out | exact Blk.at_ _ (by first | rfl | (simp; done) | (simp; omega)) _ _ | refine Blk.drewN ?_ _ | refine Blk.drew ?_ | refine Blk.alloc ?_ _ | refine Blk.far ?_ (by first | omega | (simp; done) | (simp; omega)) _ | assumption)))
      have hL11 := Lib.hid (show Below w10.heap.size w10 _ from reads_mid hb (by repeat' (first | exact Below.refl _ _ | refine below_drewN ?_ _ | refine Below.drew ?_ | refine Below.alloc ?_ (by first | omega | (simp; done) | (simp; omega) | (simp [World.setCell]; omega)) _ | refine Below.setCell ?_ (by first | omega | (simp; done) | (simp; omega)) _)))
      have R0_11 := Lib.hid (mnt_lay hb hL11.out R0_10.out)
      have R1_11 := Lib.hid (mnt_lay hb hL11.out R1_10.out)
      clear hL11 R0_10 R1_10
      have hz11 := hb.size
      try simp only [World.size_alloc, World.drewN, World.drew] at hz11
      clear hb K0_10 K1_10 K2_10 K3_10 z0_0_10 z0_1_10 z0_2_10 z0_3_10 z0_4_10 z0_5_10 z0_6_10 l0_10 z1_0_10 z1_1_10 z1_2_10 z1_3_10 z1_4_10 z1_5_10 l1_10 z2_0_10 z2_1_10 l2_10 z3_0_10 z3_1_10 z3_2_10 z3_3_10 z3_4_10 z3_5_10 z3_6_10 l3_10
      have l0_11 : w.heap.size < w11.heap.size := K0_11.out.lt
      have z0_0_11 : w11.cell? ⟨w.heap.size, 0, none⟩ = some (.int .i64 (m.ls)) := K0_11.out.cell 0
      have z0_1_11 : w11.cell? ⟨w.heap.size, 1, none⟩ = some (.int .i64 (m.ms)) := K0_11.out.cell 1
      have z0_2_11 : w11.cell? ⟨w.heap.size, 2, none⟩ = some (.int .i64 (m.lo)) := K0_11.out.cell 2
      have z0_3_11 : w11.cell? ⟨w.heap.size, 3, none⟩ = some (.int .i64 (m.hi)) := K0_11.out.cell 3
      have z0_4_11 : w11.cell? ⟨w.heap.size, 4, none⟩ = some (.int .i64 (m.sp)) := K0_11.out.cell 4
      have z0_5_11 : w11.cell? ⟨w.heap.size, 5, none⟩ = some (.slice m.A1 m.n1 m.c1) := K0_11.out.cell 5
      have z0_6_11 : w11.cell? ⟨w.heap.size, 6, none⟩ = some (.slice m.A2 m.n2 m.c2) := K0_11.out.cell 6
      have l1_11 : w.heap.size + 1 < w11.heap.size := K1_11.out.lt
      have z1_0_11 : w11.cell? ⟨w.heap.size + 1, 0, none⟩ = some (.string t.name) := K1_11.out.cell 0
      have z1_1_11 : w11.cell? ⟨w.heap.size + 1, 1, none⟩ = some (.int .i64 (t.az)) := K1_11.out.cell 1
      have z1_2_11 : w11.cell? ⟨w.heap.size + 1, 2, none⟩ = some (.int .i64 (t.ht)) := K1_11.out.cell 2
      have z1_3_11 : w11.cell? ⟨w.heap.size + 1, 3, none⟩ = some (.int .i64 (t.fr)) := K1_11.out.cell 3
      have z1_4_11 : w11.cell? ⟨w.heap.size + 1, 4, none⟩ = some (.int .i64 (t.to)) := K1_11.out.cell 4
      have z1_5_11 : w11.cell? ⟨w.heap.size + 1, 5, none⟩ = some (.int .i64 (t.dw)) := K1_11.out.cell 5
      have l2_11 : bx < w11.heap.size := K2_11.out.lt
      have z2_0_11 : w11.cell? ⟨bx, 0, none⟩ = some (.int .i64 (X)) := K2_11.out.cell 0
      have z2_1_11 : w11.cell? ⟨bx, 1, none⟩ = some (.int .i64 (Y)) := K2_11.out.cell 1
      have l3_11 : w7.heap.size < w11.heap.size := K3_11.out.lt
      have z3_0_11 : w11.cell? ⟨w7.heap.size, 0, none⟩ = some (.int .i64 (Wl)) := K3_11.out.cell 0
      have z3_1_11 : w11.cell? ⟨w7.heap.size, 1, none⟩ = some (.int .i64 (Wm)) := K3_11.out.cell 1
      have z3_2_11 : w11.cell? ⟨w7.heap.size, 2, none⟩ = some (.int .i64 (m.lo)) := K3_11.out.cell 2
      have z3_3_11 : w11.cell? ⟨w7.heap.size, 3, none⟩ = some (.int .i64 (m.hi)) := K3_11.out.cell 3
      have z3_4_11 : w11.cell? ⟨w7.heap.size, 4, none⟩ = some (.int .i64 (m.sp)) := K3_11.out.cell 4
      have z3_5_11 : w11.cell? ⟨w7.heap.size, 5, none⟩ = some (.slice A7 m.n1 c7) := K3_11.out.cell 5
      have z3_6_11 : w11.cell? ⟨w7.heap.size, 6, none⟩ = some (.slice B7 m.n2 d7) := K3_11.out.cell 6
      have hl2n : m.l2.length = m.n2 := HMA.out.len2
      have hn20 : 0 < m.n2 := by
        have := tab_ne (mnt_right H1.out).2.2.2.2.2
        rcases Nat.eq_zero_or_pos m.n2 with h | h
        · exact absurd (List.eq_nil_of_length_eq_zero (by omega)) this
        · exact h
      obtain ⟨gd, dd, hvd, hg1, hg2, -, -⟩ := own_store ho2 hn20 0 (.int .i64 0)
      obtain ⟨rfl, rfl⟩ : B11 = some ⟨gd, 0, none⟩ ∧ d11 = dd := by simpa using hvd
      have hs1 := hsep gd rfl
      have HO11 := Lib.hid ho1
      have HO12 := Lib.hid ho2
      clear ho1 ho2 hsep hvd f1
      go_wp2
      generalize hwn : (w11.alloc (.cells #[.int .i64 (m.ls), .int .i64 (m.ms), .int .i64 (m.lo), .int .i64 (m.hi), .int .i64 (m.sp), .slice A11 m.n1 c11, .slice (some ⟨gd, 0, none⟩) m.n2 d11] 42)) = w12
      have hbn : Below w11.heap.size w11 w12 := by rw [← hwn]; repeat' (first | exact Below.refl _ _ | refine below_drewN ?_ _ | refine Below.drew ?_ | refine Below.alloc ?_ (by first | omega | (simp; done) | (simp; omega) | (simp [World.setCell]; omega)) _ | refine Below.setCell ?_ (by first | omega | (simp; done) | (simp; omega)) _)
      have HB12 := Lib.hid (show Below w.heap.size w w12 from HB11.out.trans (hbn.mono HB11.out.size))
      have K0_12 := Lib.hid (step_blk hbn K0_11.out)
      have K1_12 := Lib.hid (step_blk hbn K1_11.out)
      have K2_12 := Lib.hid (step_blk hbn K2_11.out)
      have K3_12 := Lib.hid (step_blk hbn K3_11.out)
      have K4_12 := Lib.hid (show Blk w12 (w11.heap.size) 42 #[.int .i64 (m.ls), .int .i64 (m.ms), .int .i64 (m.lo), .int .i64 (m.hi), .int .i64 (m.sp), .slice A11 m.n1 c11, .slice (some ⟨gd, 0, none⟩) m.n2 d11] by rw [← hwn]; repeat' (first | exact Blk.at_ _ (by first | rfl | (simp; done) | (simp; omega)) _ _ | refine Blk.drewN ?_ _ | refine Blk.drew ?_ | refine Blk.alloc ?_ _ | refine Blk.far ?_ (by first | omega | (simp; done) | (simp; omega)) _ | assumption))
      have R0_12 := Lib.hid (R0_11.out.lay hbn)
      have R1_12 := Lib.hid (R1_11.out.lay hbn)
      have HN12 := Lib.hid hbn
      have hz12 := hbn.size
      clear hwn hbn K0_11 l0_11 z0_0_11 z0_1_11 z0_2_11 z0_3_11 z0_4_11 z0_5_11 z0_6_11 K1_11 l1_11 z1_0_11 z1_1_11 z1_2_11 z1_3_11 z1_4_11 z1_5_11 K2_11 l2_11 z2_0_11 z2_1_11 K3_11 l3_11 z3_0_11 z3_1_11 z3_2_11 z3_3_11 z3_4_11 z3_5_11 z3_6_11 R0_11 R1_11
      have l0_12 : w.heap.size < w12.heap.size := K0_12.out.lt
      have z0_0_12 : w12.cell? ⟨w.heap.size, 0, none⟩ = some (.int .i64 (m.ls)) := K0_12.out.cell 0
      have z0_1_12 : w12.cell? ⟨w.heap.size, 1, none⟩ = some (.int .i64 (m.ms)) := K0_12.out.cell 1
      have z0_2_12 : w12.cell? ⟨w.heap.size, 2, none⟩ = some (.int .i64 (m.lo)) := K0_12.out.cell 2
      have z0_3_12 : w12.cell? ⟨w.heap.size, 3, none⟩ = some (.int .i64 (m.hi)) := K0_12.out.cell 3
      have z0_4_12 : w12.cell? ⟨w.heap.size, 4, none⟩ = some (.int .i64 (m.sp)) := K0_12.out.cell 4
      have z0_5_12 : w12.cell? ⟨w.heap.size, 5, none⟩ = some (.slice m.A1 m.n1 m.c1) := K0_12.out.cell 5
      have z0_6_12 : w12.cell? ⟨w.heap.size, 6, none⟩ = some (.slice m.A2 m.n2 m.c2) := K0_12.out.cell 6
      have l1_12 : w.heap.size + 1 < w12.heap.size := K1_12.out.lt
      have z1_0_12 : w12.cell? ⟨w.heap.size + 1, 0, none⟩ = some (.string t.name) := K1_12.out.cell 0
      have z1_1_12 : w12.cell? ⟨w.heap.size + 1, 1, none⟩ = some (.int .i64 (t.az)) := K1_12.out.cell 1
      have z1_2_12 : w12.cell? ⟨w.heap.size + 1, 2, none⟩ = some (.int .i64 (t.ht)) := K1_12.out.cell 2
      have z1_3_12 : w12.cell? ⟨w.heap.size + 1, 3, none⟩ = some (.int .i64 (t.fr)) := K1_12.out.cell 3
      have z1_4_12 : w12.cell? ⟨w.heap.size + 1, 4, none⟩ = some (.int .i64 (t.to)) := K1_12.out.cell 4
      have z1_5_12 : w12.cell? ⟨w.heap.size + 1, 5, none⟩ = some (.int .i64 (t.dw)) := K1_12.out.cell 5
      have l2_12 : bx < w12.heap.size := K2_12.out.lt
      have z2_0_12 : w12.cell? ⟨bx, 0, none⟩ = some (.int .i64 (X)) := K2_12.out.cell 0
      have z2_1_12 : w12.cell? ⟨bx, 1, none⟩ = some (.int .i64 (Y)) := K2_12.out.cell 1
      have l3_12 : w7.heap.size < w12.heap.size := K3_12.out.lt
      have z3_0_12 : w12.cell? ⟨w7.heap.size, 0, none⟩ = some (.int .i64 (Wl)) := K3_12.out.cell 0
      have z3_1_12 : w12.cell? ⟨w7.heap.size, 1, none⟩ = some (.int .i64 (Wm)) := K3_12.out.cell 1
      have z3_2_12 : w12.cell? ⟨w7.heap.size, 2, none⟩ = some (.int .i64 (m.lo)) := K3_12.out.cell 2
      have z3_3_12 : w12.cell? ⟨w7.heap.size, 3, none⟩ = some (.int .i64 (m.hi)) := K3_12.out.cell 3
      have z3_4_12 : w12.cell? ⟨w7.heap.size, 4, none⟩ = some (.int .i64 (m.sp)) := K3_12.out.cell 4
      have z3_5_12 : w12.cell? ⟨w7.heap.size, 5, none⟩ = some (.slice A7 m.n1 c7) := K3_12.out.cell 5
      have z3_6_12 : w12.cell? ⟨w7.heap.size, 6, none⟩ = some (.slice B7 m.n2 d7) := K3_12.out.cell 6
      have l4_12 : w11.heap.size < w12.heap.size := K4_12.out.lt
      have z4_0_12 : w12.cell? ⟨w11.heap.size, 0, none⟩ = some (.int .i64 (m.ls)) := K4_12.out.cell 0
      have z4_1_12 : w12.cell? ⟨w11.heap.size, 1, none⟩ = some (.int .i64 (m.ms)) := K4_12.out.cell 1
      have z4_2_12 : w12.cell? ⟨w11.heap.size, 2, none⟩ = some (.int .i64 (m.lo)) := K4_12.out.cell 2
      have z4_3_12 : w12.cell? ⟨w11.heap.size, 3, none⟩ = some (.int .i64 (m.hi)) := K4_12.out.cell 3
      have z4_4_12 : w12.cell? ⟨w11.heap.size, 4, none⟩ = some (.int .i64 (m.sp)) := K4_12.out.cell 4
      have z4_5_12 : w12.cell? ⟨w11.heap.size, 5, none⟩ = some (.slice A11 m.n1 c11) := K4_12.out.cell 5
      have z4_6_12 : w12.cell? ⟨w11.heap.size, 6, none⟩ = some (.slice (some ⟨gd, 0, none⟩) m.n2 d11) := K4_12.out.cell 6
      have HP1 := Lib.hid (own_below HO11.out HN12.out (Nat.le_refl _))
      have HP2 := Lib.hid (own_below HO12.out HN12.out (Nat.le_refl _))
      go_loopw [16] (fun i wr => ∃ k : Nat, k ≤ m.n2 ∧ i = .int .i64 k ∧ Tch (fun g => g = gd) w12 wr ∧ wr.ownsRow w10.heap.size 38 2 (.slice A11 m.n1 c11) m.n1 (cells2 m.l1) ∧ wr.ownsRow w10.heap.size 38 2 (.slice (some ⟨gd, 0, none⟩) m.n2 d11) m.n2 (cells2 (mixV k m.l2))) (fun i _ => m.n2 - (intOf i).toNat)
      case atStart => exact ⟨0, by omega, rfl, Tch.refl _ _, HP1.out, by rw [mixV_zero]; exact HP2.out⟩
      case round =>
        obtain ⟨k, hk, rfl, ht13, ho1, ho2⟩ := hrel
        obtain ⟨w13, hnm⟩ : ∃ z : World, z = wr := ⟨_, rfl⟩
        subst hnm
        have HT13 := Lib.hid ht13
        have HO1 := Lib.hid ho1
        have HO2 := Lib.hid ho2
        have hsz13 := ht13.size
        have hb13 : Below w.heap.size w w13 := HB12.out.trans (ht13.below (B := w.heap.size) (fun q hq => by have hq : q = gd := hq; omega) HB12.out.size)
        have kk1 := ht13.blk K1_12.out (by show ¬ w.heap.size + 1 = gd; omega)
        have kk2 := ht13.blk K2_12.out (by show ¬ bx = gd; omega)
        have kk4 := ht13.blk K4_12.out (by show ¬ w11.heap.size = gd; omega)
        clear ht13 ho1 ho2
        have HB13 := Lib.hid hb13
        have K0_13 := Lib.hid (show Blk w13 (w.heap.size + 1) 44 #[.string t.name, .int .i64 (t.az), .int .i64 (t.ht), .int .i64 (t.fr), .int .i64 (t.to), .int .i64 (t.dw)] from kk1)
        have K1_13 := Lib.hid (show Blk w13 (bx) 46 #[.int .i64 (X), .int .i64 (Y)] from kk2)
        have K2_13 := Lib.hid (show Blk w13 (w11.heap.size) 42 #[.int .i64 (m.ls), .int .i64 (m.ms), .int .i64 (m.lo), .int .i64 (m.hi), .int .i64 (m.sp), .slice A11 m.n1 c11, .slice (some ⟨gd, 0, none⟩) m.n2 d11] from kk4)
        clear hb13 kk1 kk2 kk4
        have l0_13 : w.heap.size + 1 < w13.heap.size := K0_13.out.lt
        have z0_0_13 : w13.cell? ⟨w.heap.size + 1, 0, none⟩ = some (.string t.name) := K0_13.out.cell 0
        have z0_1_13 : w13.cell? ⟨w.heap.size + 1, 1, none⟩ = some (.int .i64 (t.az)) := K0_13.out.cell 1
        have z0_2_13 : w13.cell? ⟨w.heap.size + 1, 2, none⟩ = some (.int .i64 (t.ht)) := K0_13.out.cell 2
        have z0_3_13 : w13.cell? ⟨w.heap.size + 1, 3, none⟩ = some (.int .i64 (t.fr)) := K0_13.out.cell 3
        have z0_4_13 : w13.cell? ⟨w.heap.size + 1, 4, none⟩ = some (.int .i64 (t.to)) := K0_13.out.cell 4
        have z0_5_13 : w13.cell? ⟨w.heap.size + 1, 5, none⟩ = some (.int .i64 (t.dw)) := K0_13.out.cell 5
        have l1_13 : bx < w13.heap.size := K1_13.out.lt
        have z1_0_13 : w13.cell? ⟨bx, 0, none⟩ = some (.int .i64 (X)) := K1_13.out.cell 0
        have z1_1_13 : w13.cell? ⟨bx, 1, none⟩ = some (.int .i64 (Y)) := K1_13.out.cell 1
        have l2_13 : w11.heap.size < w13.heap.size := K2_13.out.lt
        have z2_0_13 : w13.cell? ⟨w11.heap.size, 0, none⟩ = some (.int .i64 (m.ls)) := K2_13.out.cell 0
        have z2_1_13 : w13.cell? ⟨w11.heap.size, 1, none⟩ = some (.int .i64 (m.ms)) := K2_13.out.cell 1
        have z2_2_13 : w13.cell? ⟨w11.heap.size, 2, none⟩ = some (.int .i64 (m.lo)) := K2_13.out.cell 2
        have z2_3_13 : w13.cell? ⟨w11.heap.size, 3, none⟩ = some (.int .i64 (m.hi)) := K2_13.out.cell 3
        have z2_4_13 : w13.cell? ⟨w11.heap.size, 4, none⟩ = some (.int .i64 (m.sp)) := K2_13.out.cell 4
        have z2_5_13 : w13.cell? ⟨w11.heap.size, 5, none⟩ = some (.slice A11 m.n1 c11) := K2_13.out.cell 5
        have z2_6_13 : w13.cell? ⟨w11.heap.size, 6, none⟩ = some (.slice (some ⟨gd, 0, none⟩) m.n2 d11) := K2_13.out.cell 6
        by_cases hlt : k < m.n2
        · obtain ⟨_, _, pq, hA, -, hp, -, c1⟩ := (own_reads2 HO2.out).pair hlt
          cases hA
          simp only [Nat.zero_add] at c1
          have hp2 : m.l2[k]? = some pq := by
            have h1 := List.getElem?_eq_getElem (show k < m.l2.length by omega)
            have h2 := mixV_get h1
            rw [hp] at h2
            rw [h1, ← Option.some.inj h2]
          have hv := tab_vals (mnt_right H1.out).2.2.2.2.2 pq (List.mem_of_getElem? hp2)
          have hkk : (k : Int) < (m.n2 : Int) := by omega
          have HPP := Lib.hid hp
          have HP2' := Lib.hid hp2
          clear hp hp2
          by_cases h0 : 0 < pq.2
          · clear hv
            go_wp2
            go_ret
            exact ⟨rfl, by repeat' (first | exact Below.refl _ _ | exact HB13.out | refine below_drewN ?_ _ | refine Below.drew ?_ | refine Below.alloc ?_ (by first | omega | (simp; done) | (simp; omega) | (simp [World.setCell]; omega)) _ | refine Below.setCell ?_ (by first | omega | (simp; done) | (simp; omega)) _ | assumption)⟩
          · obtain ⟨_, _, hvd, -, -, hfz, hst⟩ := own_store (own_drewN HO2.out 1) hn20 (k * 2 + 1) (.int .i64 (pq.2 + 1296000 - 300000))
            cases hvd
            rw [cells2_set1' HPP.out, show pq.2 + 1296000 - 300000 = pq.2 + 996000 by omega, mixV_set HP2'.out] at hst
            have hfz' : w13.frozen? ⟨gd, k * 2 + 1, none⟩ = false := hfz
            have HST := Lib.hid hst
            have v1 := IntWalk.i64_in (pq.2 + 1296000) ⟨by omega, by omega⟩
            have v2 := IntWalk.i64_in (pq.2 + 1296000 - 300000) ⟨by omega, by omega⟩
            clear hst hv hfz
            go_wp2_with fail
            obtain ⟨W0, hW0⟩ : ∃ W0, W0 = w13.drewN 1 := ⟨_, rfl⟩
            have m0 : W0.cell? ⟨w11.heap.size, 6, none⟩ = some (.slice (some ⟨gd, 0, none⟩) m.n2 d11) := by rw [hW0]; exact z2_6_13
            have mo : W0.cell? ⟨gd, k * 2 + 1, none⟩ = some (.int .i64 pq.2) := by rw [hW0]; exact c1
            have mf : W0.frozen? ⟨gd, k * 2 + 1, none⟩ = false := by rw [hW0]; exact hfz'
            refine Fx.region (fun f w' => (f 13 = false → w' = W0) ∧ (f 13 = true → w' = W0.setCell ⟨gd, k * 2 + 1, none⟩ (.int .i64 (pq.2 + 1296000 - 300000)))) (by kernel_rfl) (by kernel_rfl) ?_ ?_
            · intro f hf0
              exact ⟨fun _ => hW0.symm, fun h => by rw [hf0 13] at h; cases h⟩
            have HW0 := Lib.hid hW0
            clear hW0
            iterate 11 (first
              | (refine Fx.skip_ (by rfl) (fun f w h => h) ?_; simp only [Act.put, List.setIfInBounds_toArray, List.set_cons_zero, List.set_cons_succ])
              | (refine Fx.val_ ?_ (by rfl) ?_ (fun f w h => h) ?_
                 rotate_left
                 · intro f w' hD hk
                   obtain ⟨jw, jr⟩ := id hD
                   have jw := jw (hk.2.1 13 (by kernel_rfl))
                   have q0 : w'.cell? ⟨w11.heap.size, 6, none⟩ = some (.slice (some ⟨gd, 0, none⟩) m.n2 d11) := by rw [jw]; exact m0
                   have qo : w'.cell? ⟨gd, k * 2 + 1, none⟩ = some (.int .i64 pq.2) := by rw [jw]; exact mo
                   clear hk hD jw jr
                   go_simp
                   try rfl
                 simp only [Act.put, List.setIfInBounds_toArray, List.set_cons_zero, List.set_cons_succ]))
            refine Fx.val_ ?_ (by rfl) ?_ (fun f w h => h) ?_
            rotate_left
            · intro f w' hD hk
              obtain ⟨jw, jr⟩ := id hD
              clear hk hD jw jr
              go_simp
              try rfl
            simp only [Act.put, List.setIfInBounds_toArray, List.set_cons_zero, List.set_cons_succ]
            repeat (first
              | (refine Fx.skip_ (by rfl) (fun f w h => h) ?_; simp only [Act.put, List.setIfInBounds_toArray, List.set_cons_zero, List.set_cons_succ])
              | (refine Fx.val_ ?_ (by rfl) ?_ (fun f w h => h) ?_
                 rotate_left
                 · intro f w' hD hk
                   obtain ⟨jw, jr⟩ := id hD
                   have jw := jw (hk.2.1 13 (by kernel_rfl))
                   have q0 : w'.cell? ⟨w11.heap.size, 6, none⟩ = some (.slice (some ⟨gd, 0, none⟩) m.n2 d11) := by rw [jw]; exact m0
                   have qo : w'.cell? ⟨gd, k * 2 + 1, none⟩ = some (.int .i64 pq.2) := by rw [jw]; exact mo
                   clear hk hD jw jr
                   go_simp
                   try rfl
                 simp only [Act.put, List.setIfInBounds_toArray, List.set_cons_zero, List.set_cons_succ]))
            refine Fx.store_ (fun w' => w'.setCell ⟨gd, k * 2 + 1, none⟩ (.int .i64 (pq.2 + 1296000 - 300000))) (by rfl) ?_ ?_ ?_
            · intro f w' hD hk
              obtain ⟨jw, jr⟩ := id hD
              have jw := jw hk.1
              have q0 : w'.cell? ⟨gd, k * 2 + 1, none⟩ = some (.int .i64 pq.2) := by rw [jw]; exact mo
              have q1 : w'.frozen? ⟨gd, k * 2 + 1, none⟩ = false := by rw [jw]; exact mf
              clear hk hD jw jr
              go_simp
            · intro f w' hD hk
              obtain ⟨jw, jr⟩ := id hD
              have jw := jw hk.1
              exact ⟨fun h => by simp [Fx.add] at h, fun _ => by rw [jw]⟩
            simp only [Act.put, List.setIfInBounds_toArray, List.set_cons_zero, List.set_cons_succ]
            refine Fx.nil_ ?_
            intro f w14 hall hD
            have hwn := hD.2 (hall 13 (by simp))
            rw [HW0.out] at hwn
            clear hall hD HW0 mo mf m0
            have ht14 : Tch (fun g => g = gd) w12 w14 := by rw [hwn]; exact (HT13.out.drewN 1).setCell (.inl rfl) _
            have ho14 : w14.ownsRow w10.heap.size 38 2 (.slice A11 m.n1 c11) m.n1 (cells2 m.l1) := by rw [hwn]; exact own_set (own_drewN HO1.out 1) hs1 _
            have ho15 : w14.ownsRow w10.heap.size 38 2 (.slice (some ⟨gd, 0, none⟩) m.n2 d11) m.n2 (cells2 (mixV (k + 1) m.l2)) := by rw [hwn, show pq.2 + 1296000 - 300000 = pq.2 + 996000 by omega]; exact HST.out
            have HT14 := Lib.hid ht14
            have HO14 := Lib.hid ho14
            have HO15 := Lib.hid ho15
            clear ht14 ho14 ho15 hwn v1 v2 c1
            go_wp2
            go_roundw
            case rel => exact ⟨k + 1, by omega, by go_num, HT14.out, HO14.out, HO15.out⟩
            case measure => simp [intOf]; omega
        · obtain rfl : m.n2 = k := by omega
          have hml := mixV_all hl2n
          have hp2 := HO2.out
          rw [hml] at hp2
          have HO2' := Lib.hid hp2
          clear hml hp2
          obtain ⟨-, tz, -, -, -, -⟩ := tgt_right H2.out
          have v1 := IntWalk.i64_in (t.az + 300000) ⟨by omega, by omega⟩
          have hmz := Int.emod_nonneg (t.az + 300000) (show (1296000 : Int) ≠ 0 by decide)
          have hmy := Int.emod_lt_of_pos (t.az + 300000) (show (0 : Int) < 1296000 by decide)
          have hT2' : tgtErr ({ t with az := (t.az + 300000) % 1296000 } : Tgt) = 0 := tgt_az H2.out _ hmz (by omega)
          have hA' : appF ({ m with A1 := A11, c1 := c11, A2 := some ⟨gd, 0, none⟩, c2 := d11, l2 := addV 996000 m.l2 } : Mnt) ({ t with az := (t.az + 300000) % 1296000 } : Tgt) day = (X, Y) := by
            rw [← HA.out]
            unfold appF
            simp only
            rw [tabAt_shift 996000 day (tab_ne (mnt_right H1.out).2.2.2.2.2)]
            congr 1
            omega
          have HTE := Lib.hid hT2'
          have HAE := Lib.hid hA'
          clear hT2' hA'
          have zf0_0 := K0_13.out.frozen 0
          have zf0_1 := K0_13.out.frozen 1
          have zf0_2 := K0_13.out.frozen 2
          have zf0_3 := K0_13.out.frozen 3
          have zf0_4 := K0_13.out.frozen 4
          have zf0_5 := K0_13.out.frozen 5
          go_wp2_with (go_at_call 48; refine (mod9_any _ _ _ (by omega) (by omega) (by omega) (by omega)).mono ?_; rintro e w' ⟨rfl, rfl⟩)
          generalize hw14 : World.setCell _ _ _ = w14
          have hbw : Below w.heap.size w w14 := by rw [← hw14]; exact HB13.out.setCell (show w.heap.size ≤ w.heap.size + 1 by omega) _
          have kk1 : Blk w14 (w.heap.size + 1) 44 #[.string t.name, .int .i64 ((t.az + 300000) % 1296000), .int .i64 t.ht, .int .i64 t.fr, .int .i64 t.to, .int .i64 t.dw] := by
            rw [← hw14]
            have := K0_13.out.set_ 1 (.int .i64 ((t.az + 300000) % 1296000))
            simpa only [List.setIfInBounds_toArray, List.set_cons_zero, List.set_cons_succ] using this
          have kk2 : Blk w14 bx 46 #[.int .i64 X, .int .i64 Y] := by rw [← hw14]; exact K1_13.out.far (by show bx ≠ w.heap.size + 1; omega) _
          have kk4 := K2_13.out.far (p := ⟨w.heap.size + 1, 1, none⟩) (by show w11.heap.size ≠ w.heap.size + 1; omega) (.int .i64 ((t.az + 300000) % 1296000))
          rw [hw14] at kk4
          have ho1 := own_set HO1.out (p := ⟨w.heap.size + 1, 1, none⟩) (fun e => by have h1 := (own_lt HO1.out e).1; have h2 : w10.heap.size ≤ w.heap.size + 1 := h1; omega) (.int .i64 ((t.az + 300000) % 1296000))
          have ho2 := own_set HO2'.out (p := ⟨w.heap.size + 1, 1, none⟩) (fun e => by have h1 := (own_lt HO2'.out e).1; have h2 : w10.heap.size ≤ w.heap.size + 1 := h1; omega) (.int .i64 ((t.az + 300000) % 1296000))
          rw [hw14] at ho1 ho2
          have hmo : MntAt ({ m with A1 := A11, c1 := c11, A2 := some ⟨gd, 0, none⟩, c2 := d11, l2 := addV 996000 m.l2 } : Mnt) w14 := ⟨own_reads2 ho1, own_reads2 ho2, HMA.out.b1, HMA.out.b2⟩
          clear hw14 ho1 ho2
          obtain ⟨E3, hE3⟩ : ∃ z, mntErr ({ m with A1 := A11, c1 := c11, A2 := some ⟨gd, 0, none⟩, c2 := d11, l2 := addV 996000 m.l2 } : Mnt) = z := ⟨_, rfl⟩
          have HE3 := Lib.hid hE3
          clear hE3
          have HB14 := Lib.hid hbw
          have K0_14 := Lib.hid (show Blk w14 (w.heap.size + 1) 44 #[.string t.name, .int .i64 ((t.az + 300000) % 1296000), .int .i64 (t.ht), .int .i64 (t.fr), .int .i64 (t.to), .int .i64 (t.dw)] from kk1)
          have K1_14 := Lib.hid (show Blk w14 (bx) 46 #[.int .i64 (X), .int .i64 (Y)] from kk2)
          have K2_14 := Lib.hid (show Blk w14 (w11.heap.size) 42 #[.int .i64 (m.ls), .int .i64 (m.ms), .int .i64 (m.lo), .int .i64 (m.hi), .int .i64 (m.sp), .slice A11 m.n1 c11, .slice (some ⟨gd, 0, none⟩) m.n2 d11] from kk4)
          clear hbw kk1 kk2 kk4
          have l0_14 : w.heap.size + 1 < w14.heap.size := K0_14.out.lt
          have z0_0_14 : w14.cell? ⟨w.heap.size + 1, 0, none⟩ = some (.string t.name) := K0_14.out.cell 0
          have z0_1_14 : w14.cell? ⟨w.heap.size + 1, 1, none⟩ = some (.int .i64 ((t.az + 300000) % 1296000)) := K0_14.out.cell 1
          have z0_2_14 : w14.cell? ⟨w.heap.size + 1, 2, none⟩ = some (.int .i64 (t.ht)) := K0_14.out.cell 2
          have z0_3_14 : w14.cell? ⟨w.heap.size + 1, 3, none⟩ = some (.int .i64 (t.fr)) := K0_14.out.cell 3
          have z0_4_14 : w14.cell? ⟨w.heap.size + 1, 4, none⟩ = some (.int .i64 (t.to)) := K0_14.out.cell 4
          have z0_5_14 : w14.cell? ⟨w.heap.size + 1, 5, none⟩ = some (.int .i64 (t.dw)) := K0_14.out.cell 5
          have l1_14 : bx < w14.heap.size := K1_14.out.lt
          have z1_0_14 : w14.cell? ⟨bx, 0, none⟩ = some (.int .i64 (X)) := K1_14.out.cell 0
          have z1_1_14 : w14.cell? ⟨bx, 1, none⟩ = some (.int .i64 (Y)) := K1_14.out.cell 1
          have l2_14 : w11.heap.size < w14.heap.size := K2_14.out.lt
          have z2_0_14 : w14.cell? ⟨w11.heap.size, 0, none⟩ = some (.int .i64 (m.ls)) := K2_14.out.cell 0
          have z2_1_14 : w14.cell? ⟨w11.heap.size, 1, none⟩ = some (.int .i64 (m.ms)) := K2_14.out.cell 1
          have z2_2_14 : w14.cell? ⟨w11.heap.size, 2, none⟩ = some (.int .i64 (m.lo)) := K2_14.out.cell 2
          have z2_3_14 : w14.cell? ⟨w11.heap.size, 3, none⟩ = some (.int .i64 (m.hi)) := K2_14.out.cell 3
          have z2_4_14 : w14.cell? ⟨w11.heap.size, 4, none⟩ = some (.int .i64 (m.sp)) := K2_14.out.cell 4
          have z2_5_14 : w14.cell? ⟨w11.heap.size, 5, none⟩ = some (.slice A11 m.n1 c11) := K2_14.out.cell 5
          have z2_6_14 : w14.cell? ⟨w11.heap.size, 6, none⟩ = some (.slice (some ⟨gd, 0, none⟩) m.n2 d11) := K2_14.out.cell 6
          have R0_14 := Lib.hid hmo
          clear hmo
          refine (mountagg_any ({ m with A1 := A11, c1 := c11, A2 := some ⟨gd, 0, none⟩, c2 := d11, l2 := addV 996000 m.l2 } : Mnt) _ R0_14.out (by show m.n1 ≤ 1000; omega) (by show m.n2 ≤ 1000; omega)).mono ?_
          rintro e w15 ⟨A15, c15, B15, d15, rfl, hb, hm15, -, -, -⟩
          have HB15 := Lib.hid (show Below w.heap.size w w15 from step_below hb (by repeat' (first | exact Below.refl _ _ | exact HB14.out | refine below_drewN ?_ _ | refine Below.drew ?_ | refine Below.alloc ?_ (by first | omega | (simp; done) | (simp; omega) | (simp [World.setCell]; omega)) _ | refine Below.setCell ?_ (by first | omega | (simp; done) | (simp; omega)) _ | assumption)))
          have K0_15 := Lib.hid (step_blk hb (show Blk _ (w.heap.size + 1) 44 #[.string t.name, .int .i64 ((t.az + 300000) % 1296000), .int .i64 (t.ht), .int .i64 (t.fr), .int .i64 (t.to), .int .i64 (t.dw)] by repeat' (first | exact K0_14.out | exact K1_14.out | exact K2_14.out | exact Blk.at_ _ (by first | rfl | (simp; done) | (simp; omega)) _ _ | refine Blk.drewN ?_ _ | refine Blk.drew ?_ | refine Blk.alloc ?_ _ | refine Blk.far ?_ (by first | omega | (simp; done) | (simp; omega)) _ | assumption)))
          have K1_15 := Lib.hid (step_blk hb (show Blk _ (bx) 46 #[.int .i64 (X), .int .i64 (Y)] by repeat' (first | exact K0_14.out | exact K1_14.out | exact K2_14.out | exact Blk.at_ _ (by first | rfl | (simp; done) | (simp; omega)) _ _ | refine Blk.drewN ?_ _ | refine Blk.drew ?_ | refine Blk.alloc ?_ _ | refine Blk.far ?_ (by first | omega | (simp; done) | (simp; omega)) _ | assumption)))
          have K2_15 := Lib.hid (step_blk hb (show Blk _ (w11.heap.size) 42 #[.int .i64 (m.ls), .int .i64 (m.ms), .int .i64 (m.lo), .int .i64 (m.hi), .int .i64 (m.sp), .slice A11 m.n1 c11, .slice (some ⟨gd, 0, none⟩) m.n2 d11] by repeat' (first | exact K0_14.out | exact K1_14.out | exact K2_14.out | exact Blk.at_ _ (by first | rfl | (simp; done) | (simp; omega)) _ _ | refine Blk.drewN ?_ _ | refine Blk.drew ?_ | refine Blk.alloc ?_ _ | refine Blk.far ?_ (by first | omega | (simp; done) | (simp; omega)) _ | assumption)))
          have hL15 := Lib.hid (show Below w14.heap.size w14 _ from reads_mid hb (by repeat' (first | exact Below.refl _ _ | refine below_drewN ?_ _ | refine Below.drew ?_ | refine Below.alloc ?_ (by first | omega | (simp; done) | (simp; omega) | (simp [World.setCell]; omega)) _ | refine Below.setCell ?_ (by first | omega | (simp; done) | (simp; omega)) _)))
          have R0_15 := Lib.hid (mnt_lay hb hL15.out R0_14.out)
          clear hL15 R0_14
          have hz15 := hb.size
          try simp only [World.size_alloc, World.drewN, World.drew] at hz15
          clear hb K0_14 K1_14 K2_14 z0_0_14 z0_1_14 z0_2_14 z0_3_14 z0_4_14 z0_5_14 l0_14 z1_0_14 z1_1_14 l1_14 z2_0_14 z2_1_14 z2_2_14 z2_3_14 z2_4_14 z2_5_14 z2_6_14 l2_14
          have l0_15 : w.heap.size + 1 < w15.heap.size := K0_15.out.lt
          have z0_0_15 : w15.cell? ⟨w.heap.size + 1, 0, none⟩ = some (.string t.name) := K0_15.out.cell 0
          have z0_1_15 : w15.cell? ⟨w.heap.size + 1, 1, none⟩ = some (.int .i64 ((t.az + 300000) % 1296000)) := K0_15.out.cell 1
          have z0_2_15 : w15.cell? ⟨w.heap.size + 1, 2, none⟩ = some (.int .i64 (t.ht)) := K0_15.out.cell 2
          have z0_3_15 : w15.cell? ⟨w.heap.size + 1, 3, none⟩ = some (.int .i64 (t.fr)) := K0_15.out.cell 3
          have z0_4_15 : w15.cell? ⟨w.heap.size + 1, 4, none⟩ = some (.int .i64 (t.to)) := K0_15.out.cell 4
          have z0_5_15 : w15.cell? ⟨w.heap.size + 1, 5, none⟩ = some (.int .i64 (t.dw)) := K0_15.out.cell 5
          have l1_15 : bx < w15.heap.size := K1_15.out.lt
          have z1_0_15 : w15.cell? ⟨bx, 0, none⟩ = some (.int .i64 (X)) := K1_15.out.cell 0
          have z1_1_15 : w15.cell? ⟨bx, 1, none⟩ = some (.int .i64 (Y)) := K1_15.out.cell 1
          have l2_15 : w11.heap.size < w15.heap.size := K2_15.out.lt
          have z2_0_15 : w15.cell? ⟨w11.heap.size, 0, none⟩ = some (.int .i64 (m.ls)) := K2_15.out.cell 0
          have z2_1_15 : w15.cell? ⟨w11.heap.size, 1, none⟩ = some (.int .i64 (m.ms)) := K2_15.out.cell 1
          have z2_2_15 : w15.cell? ⟨w11.heap.size, 2, none⟩ = some (.int .i64 (m.lo)) := K2_15.out.cell 2
          have z2_3_15 : w15.cell? ⟨w11.heap.size, 3, none⟩ = some (.int .i64 (m.hi)) := K2_15.out.cell 3
          have z2_4_15 : w15.cell? ⟨w11.heap.size, 4, none⟩ = some (.int .i64 (m.sp)) := K2_15.out.cell 4
          have z2_5_15 : w15.cell? ⟨w11.heap.size, 5, none⟩ = some (.slice A11 m.n1 c11) := K2_15.out.cell 5
          have z2_6_15 : w15.cell? ⟨w11.heap.size, 6, none⟩ = some (.slice (some ⟨gd, 0, none⟩) m.n2 d11) := K2_15.out.cell 6
          have R1_15 := Lib.hid hm15
          clear hm15
          go_wp2_with fail
          refine (pmount_is (({ m with A1 := A11, c1 := c11, A2 := some ⟨gd, 0, none⟩, c2 := d11, l2 := addV 996000 m.l2 } : Mnt).to A15 c15 B15 d15) E3 HE3.out _ R1_15.out).mono ?_
          rintro e w16 ⟨rfl, hb⟩
          have HB16 := Lib.hid (show Below w.heap.size w w16 from step_below hb (by repeat' (first | exact Below.refl _ _ | exact HB15.out | refine below_drewN ?_ _ | refine Below.drew ?_ | refine Below.alloc ?_ (by first | omega | (simp; done) | (simp; omega) | (simp [World.setCell]; omega)) _ | refine Below.setCell ?_ (by first | omega | (simp; done) | (simp; omega)) _ | assumption)))
          have K0_16 := Lib.hid (step_blk hb (show Blk _ (w.heap.size + 1) 44 #[.string t.name, .int .i64 ((t.az + 300000) % 1296000), .int .i64 (t.ht), .int .i64 (t.fr), .int .i64 (t.to), .int .i64 (t.dw)] by repeat' (first | exact K0_15.out | exact K1_15.out | exact K2_15.out | exact Blk.at_ _ (by first | rfl | (simp; done) | (simp; omega)) _ _ | refine Blk.drewN ?_ _ | refine Blk.drew ?_ | refine Blk.alloc ?_ _ | refine Blk.far ?_ (by first | omega | (simp; done) | (simp; omega)) _ | assumption)))
          have K1_16 := Lib.hid (step_blk hb (show Blk _ (bx) 46 #[.int .i64 (X), .int .i64 (Y)] by repeat' (first | exact K0_15.out | exact K1_15.out | exact K2_15.out | exact Blk.at_ _ (by first | rfl | (simp; done) | (simp; omega)) _ _ | refine Blk.drewN ?_ _ | refine Blk.drew ?_ | refine Blk.alloc ?_ _ | refine Blk.far ?_ (by first | omega | (simp; done) | (simp; omega)) _ | assumption)))
          have K2_16 := Lib.hid (step_blk hb (show Blk _ (w11.heap.size) 42 #[.int .i64 (m.ls), .int .i64 (m.ms), .int .i64 (m.lo), .int .i64 (m.hi), .int .i64 (m.sp), .slice A11 m.n1 c11, .slice (some ⟨gd, 0, none⟩) m.n2 d11] by repeat' (first | exact K0_15.out | exact K1_15.out | exact K2_15.out | exact Blk.at_ _ (by first | rfl | (simp; done) | (simp; omega)) _ _ | refine Blk.drewN ?_ _ | refine Blk.drew ?_ | refine Blk.alloc ?_ _ | refine Blk.far ?_ (by first | omega | (simp; done) | (simp; omega)) _ | assumption)))
          have hL16 := Lib.hid (show Below w15.heap.size w15 _ from reads_mid hb (by repeat' (first | exact Below.refl _ _ | refine below_drewN ?_ _ | refine Below.drew ?_ | refine Below.alloc ?_ (by first | omega | (simp; done) | (simp; omega) | (simp [World.setCell]; omega)) _ | refine Below.setCell ?_ (by first | omega | (simp; done) | (simp; omega)) _)))
          have R0_16 := Lib.hid (mnt_lay hb hL16.out R0_15.out)
          have R1_16 := Lib.hid (mnt_lay hb hL16.out R1_15.out)
          clear hL16 R0_15 R1_15
          have hz16 := hb.size
          try simp only [World.size_alloc, World.drewN, World.drew] at hz16
          clear hb K0_15 K1_15 K2_15 z0_0_15 z0_1_15 z0_2_15 z0_3_15 z0_4_15 z0_5_15 l0_15 z1_0_15 z1_1_15 l1_15 z2_0_15 z2_1_15 z2_2_15 z2_3_15 z2_4_15 z2_5_15 z2_6_15 l2_15
          have l0_16 : w.heap.size + 1 < w16.heap.size := K0_16.out.lt
          have z0_0_16 : w16.cell? ⟨w.heap.size + 1, 0, none⟩ = some (.string t.name) := K0_16.out.cell 0
          have z0_1_16 : w16.cell? ⟨w.heap.size + 1, 1, none⟩ = some (.int .i64 ((t.az + 300000) % 1296000)) := K0_16.out.cell 1
          have z0_2_16 : w16.cell? ⟨w.heap.size + 1, 2, none⟩ = some (.int .i64 (t.ht)) := K0_16.out.cell 2
          have z0_3_16 : w16.cell? ⟨w.heap.size + 1, 3, none⟩ = some (.int .i64 (t.fr)) := K0_16.out.cell 3
          have z0_4_16 : w16.cell? ⟨w.heap.size + 1, 4, none⟩ = some (.int .i64 (t.to)) := K0_16.out.cell 4
          have z0_5_16 : w16.cell? ⟨w.heap.size + 1, 5, none⟩ = some (.int .i64 (t.dw)) := K0_16.out.cell 5
          have l1_16 : bx < w16.heap.size := K1_16.out.lt
          have z1_0_16 : w16.cell? ⟨bx, 0, none⟩ = some (.int .i64 (X)) := K1_16.out.cell 0
          have z1_1_16 : w16.cell? ⟨bx, 1, none⟩ = some (.int .i64 (Y)) := K1_16.out.cell 1
          have l2_16 : w11.heap.size < w16.heap.size := K2_16.out.lt
          have z2_0_16 : w16.cell? ⟨w11.heap.size, 0, none⟩ = some (.int .i64 (m.ls)) := K2_16.out.cell 0
          have z2_1_16 : w16.cell? ⟨w11.heap.size, 1, none⟩ = some (.int .i64 (m.ms)) := K2_16.out.cell 1
          have z2_2_16 : w16.cell? ⟨w11.heap.size, 2, none⟩ = some (.int .i64 (m.lo)) := K2_16.out.cell 2
          have z2_3_16 : w16.cell? ⟨w11.heap.size, 3, none⟩ = some (.int .i64 (m.hi)) := K2_16.out.cell 3
          have z2_4_16 : w16.cell? ⟨w11.heap.size, 4, none⟩ = some (.int .i64 (m.sp)) := K2_16.out.cell 4
          have z2_5_16 : w16.cell? ⟨w11.heap.size, 5, none⟩ = some (.slice A11 m.n1 c11) := K2_16.out.cell 5
          have z2_6_16 : w16.cell? ⟨w11.heap.size, 6, none⟩ = some (.slice (some ⟨gd, 0, none⟩) m.n2 d11) := K2_16.out.cell 6
          by_cases h3 : E3 = 0
          rotate_left
          · have q3 : (E3 != 0) = true := by simpa using h3
            go_wp2
            go_ret
            exact ⟨rfl, by repeat' (first | exact Below.refl _ _ | exact HB16.out | refine below_drewN ?_ _ | refine Below.drew ?_ | refine Below.alloc ?_ (by first | omega | (simp; done) | (simp; omega) | (simp [World.setCell]; omega)) _ | refine Below.setCell ?_ (by first | omega | (simp; done) | (simp; omega)) _ | assumption)⟩
          subst h3
          have hE5 : mtdErr ({ m with A1 := A11, c1 := c11, A2 := some ⟨gd, 0, none⟩, c2 := d11, l2 := addV 996000 m.l2 } : Mnt) ({ t with az := (t.az + 300000) % 1296000 } : Tgt) day = 0 := by
            unfold mtdErr
            rw [HE3.out, HTE.out, H3.out]
            rfl
          have HE5 := Lib.hid hE5
          have q2 : decide ((X, Y) = (X, Y)) = true := by simp
          clear hE5
          go_wp2_with fail
          refine (pApparent_ok ({ m with A1 := A11, c1 := c11, A2 := some ⟨gd, 0, none⟩, c2 := d11, l2 := addV 996000 m.l2 } : Mnt) ({ t with az := (t.az + 300000) % 1296000 } : Tgt) day X Y HAE.out HE5.out _ R0_16.out hts).mono ?_
          rintro e w17 ⟨rfl, hb⟩
          have HB17 := Lib.hid (show Below w.heap.size w w17 from step_below hb (by repeat' (first | exact Below.refl _ _ | exact HB16.out | refine below_drewN ?_ _ | refine Below.drew ?_ | refine Below.alloc ?_ (by first | omega | (simp; done) | (simp; omega) | (simp [World.setCell]; omega)) _ | refine Below.setCell ?_ (by first | omega | (simp; done) | (simp; omega)) _ | assumption)))
          have K0_17 := Lib.hid (step_blk hb (show Blk _ (w.heap.size + 1) 44 #[.string t.name, .int .i64 ((t.az + 300000) % 1296000), .int .i64 (t.ht), .int .i64 (t.fr), .int .i64 (t.to), .int .i64 (t.dw)] by repeat' (first | exact K0_16.out | exact K1_16.out | exact K2_16.out | exact Blk.at_ _ (by first | rfl | (simp; done) | (simp; omega)) _ _ | refine Blk.drewN ?_ _ | refine Blk.drew ?_ | refine Blk.alloc ?_ _ | refine Blk.far ?_ (by first | omega | (simp; done) | (simp; omega)) _ | assumption)))
          have K1_17 := Lib.hid (step_blk hb (show Blk _ (bx) 46 #[.int .i64 (X), .int .i64 (Y)] by repeat' (first | exact K0_16.out | exact K1_16.out | exact K2_16.out | exact Blk.at_ _ (by first | rfl | (simp; done) | (simp; omega)) _ _ | refine Blk.drewN ?_ _ | refine Blk.drew ?_ | refine Blk.alloc ?_ _ | refine Blk.far ?_ (by first | omega | (simp; done) | (simp; omega)) _ | assumption)))
          have K2_17 := Lib.hid (step_blk hb (show Blk _ (w11.heap.size) 42 #[.int .i64 (m.ls), .int .i64 (m.ms), .int .i64 (m.lo), .int .i64 (m.hi), .int .i64 (m.sp), .slice A11 m.n1 c11, .slice (some ⟨gd, 0, none⟩) m.n2 d11] by repeat' (first | exact K0_16.out | exact K1_16.out | exact K2_16.out | exact Blk.at_ _ (by first | rfl | (simp; done) | (simp; omega)) _ _ | refine Blk.drewN ?_ _ | refine Blk.drew ?_ | refine Blk.alloc ?_ _ | refine Blk.far ?_ (by first | omega | (simp; done) | (simp; omega)) _ | assumption)))
          have hL17 := Lib.hid (show Below w16.heap.size w16 _ from reads_mid hb (by repeat' (first | exact Below.refl _ _ | refine below_drewN ?_ _ | refine Below.drew ?_ | refine Below.alloc ?_ (by first | omega | (simp; done) | (simp; omega) | (simp [World.setCell]; omega)) _ | refine Below.setCell ?_ (by first | omega | (simp; done) | (simp; omega)) _)))
          have R0_17 := Lib.hid (mnt_lay hb hL17.out R0_16.out)
          have R1_17 := Lib.hid (mnt_lay hb hL17.out R1_16.out)
          clear hL17 R0_16 R1_16
          have hz17 := hb.size
          try simp only [World.size_alloc, World.drewN, World.drew] at hz17
          clear hb K0_16 K1_16 K2_16 z0_0_16 z0_1_16 z0_2_16 z0_3_16 z0_4_16 z0_5_16 l0_16 z1_0_16 z1_1_16 l1_16 z2_0_16 z2_1_16 z2_2_16 z2_3_16 z2_4_16 z2_5_16 z2_6_16 l2_16
          have l0_17 : w.heap.size + 1 < w17.heap.size := K0_17.out.lt
          have z0_0_17 : w17.cell? ⟨w.heap.size + 1, 0, none⟩ = some (.string t.name) := K0_17.out.cell 0
          have z0_1_17 : w17.cell? ⟨w.heap.size + 1, 1, none⟩ = some (.int .i64 ((t.az + 300000) % 1296000)) := K0_17.out.cell 1
          have z0_2_17 : w17.cell? ⟨w.heap.size + 1, 2, none⟩ = some (.int .i64 (t.ht)) := K0_17.out.cell 2
          have z0_3_17 : w17.cell? ⟨w.heap.size + 1, 3, none⟩ = some (.int .i64 (t.fr)) := K0_17.out.cell 3
          have z0_4_17 : w17.cell? ⟨w.heap.size + 1, 4, none⟩ = some (.int .i64 (t.to)) := K0_17.out.cell 4
          have z0_5_17 : w17.cell? ⟨w.heap.size + 1, 5, none⟩ = some (.int .i64 (t.dw)) := K0_17.out.cell 5
          have l1_17 : bx < w17.heap.size := K1_17.out.lt
          have z1_0_17 : w17.cell? ⟨bx, 0, none⟩ = some (.int .i64 (X)) := K1_17.out.cell 0
          have z1_1_17 : w17.cell? ⟨bx, 1, none⟩ = some (.int .i64 (Y)) := K1_17.out.cell 1
          have l2_17 : w11.heap.size < w17.heap.size := K2_17.out.lt
          have z2_0_17 : w17.cell? ⟨w11.heap.size, 0, none⟩ = some (.int .i64 (m.ls)) := K2_17.out.cell 0
          have z2_1_17 : w17.cell? ⟨w11.heap.size, 1, none⟩ = some (.int .i64 (m.ms)) := K2_17.out.cell 1
          have z2_2_17 : w17.cell? ⟨w11.heap.size, 2, none⟩ = some (.int .i64 (m.lo)) := K2_17.out.cell 2
          have z2_3_17 : w17.cell? ⟨w11.heap.size, 3, none⟩ = some (.int .i64 (m.hi)) := K2_17.out.cell 3
          have z2_4_17 : w17.cell? ⟨w11.heap.size, 4, none⟩ = some (.int .i64 (m.sp)) := K2_17.out.cell 4
          have z2_5_17 : w17.cell? ⟨w11.heap.size, 5, none⟩ = some (.slice A11 m.n1 c11) := K2_17.out.cell 5
          have z2_6_17 : w17.cell? ⟨w11.heap.size, 6, none⟩ = some (.slice (some ⟨gd, 0, none⟩) m.n2 d11) := K2_17.out.cell 6
          go_wp2
          go_ret
          exact ⟨rfl, by repeat' (first | exact Below.refl _ _ | exact HB17.out | refine below_drewN ?_ _ | refine Below.drew ?_ | refine Below.alloc ?_ (by first | omega | (simp; done) | (simp; omega) | (simp [World.setCell]; omega)) _ | refine Below.setCell ?_ (by first | omega | (simp; done) | (simp; omega)) _ | assumption)⟩

theorem lawPC_any (m : Mnt) (t : Tgt) (day : Int) (w : World) (hm : MntIn m w) (ht : TgtIn t) (_ : -9223372036854775808 ≤ day) (_ : day ≤ 9223372036854775807) :
    Calls Try.prog 8 #[m.val, t.val, .int .i64 day] w fun e w' => e = .returned (.bool true) ∧ Below w.heap.size w w' := by
  by_cases h : lightB m = false ∨ 30 < t.name.size ∨ mtdErr m t day ≠ 0
  · exact lawPC_no m t day w hm.at_ ht.s h
  · rw [not_or, not_or] at h
    exact lawPC_yes m t day w hm.at_ ht.s (by simpa using h.1) h.2.1 (Decidable.not_not.1 h.2.2)
end Go.Proofs.Ytgamepmipoociaa

end
