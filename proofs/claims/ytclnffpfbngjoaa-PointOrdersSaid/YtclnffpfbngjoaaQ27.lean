import Derived.Test.YtclnffpfbngjoaaQ26
import Derived.Test.YtclnffpfbngjoaaQ20
import Derived.Test.YtclnffpfbngjoaaQ23
import Derived.Test.YtclnffpfbngjoaaQ2
import Derived.Test.YtclnffpfbngjoaaQ24

section
/- The contracts of Choose; the class of worlds of a region in which calls choose and one result is stored into a new block. -/
namespace Go.Proofs.Ytclnffpfbngjoaa
open Go Go.RowKit

theorem turns_pos {m : Mnt} {day : Int} {t : Tgt} (h : (turnsF m t day).2 = 0) : 0 < (turnsV m day t).length := by
  unfold turnsV
  unfold turnsF turnsAt at h ⊢
  split at h
  · cases h
  · rename_i h1
    rw [if_neg h1]
    split at h
    · cases h
    · rename_i h2
      rw [if_neg h2]
      exact List.length_pos_iff.2 h2
theorem tour_pos {m : Mnt} {l : List Tgt} {day pos : Int} (h : (tourF m l day pos).2 = 0) : ∀ t ∈ l, 0 < (turnsV m day t).length := by
  obtain ⟨-, -, -, -, h5⟩ := tour_right h
  intro t ht
  obtain ⟨i, hi⟩ := List.getElem?_of_mem ht
  have h6 := h5 i t hi
  unfold stepErr at h6
  split at h6
  · rename_i h7; exact absurd h6 h7
  · exact turns_pos h6

/-- What is known of a choice in memory. -/
def ChQ (m : Mnt) (day pos : Int) (l : List Tgt) (z : Pick2) (w : World) : Prop :=
  ∃ B tsP ks, w.ownsRow B 3 1 (.slice z.1.1 l.length z.1.2) l.length (ks.map (.int .i64)) ∧ RowsOwn B tsP (.slice z.2.1 l.length z.2.2) l.length w ∧ tsP.map TRow.xs = potL m day pos l ∧ pathErr m day l ks = 0 ∧ costL pos (pathL m day l ks) = leastC m day pos l

/-- Stable under what comes later, and under stores into blocks of type T. -/
structure StbQ (T : TypeId) (Pq : Pick2 → World → Prop) : Prop where
  bel : ∀ z (w w' : World), Below w.heap.size w w' → Pq z w → Pq z w'
  set_ : ∀ z (w : World) b cs k v, Blk w b T cs → Pq z w → Pq z (w.setCell ⟨b, k, none⟩ v)
theorem ChQ.stb {m : Mnt} {day pos : Int} {l : List Tgt} : StbQ 43 (ChQ m day pos l) :=
  ⟨fun z w w' hb ⟨B, ts, ks, h1, h2, h3⟩ => ⟨B, ts, ks, own_below h1 hb (Nat.le_refl _), h2.below hb, h3⟩,
   fun z w b cs k v hk ⟨B, ts, ks, h1, h2, h3⟩ => ⟨B, ts, ks, own_set h1 (own_blk_ne h1 hk (by decide)) v, ⟨own_set h2.row (own_blk_ne h2.row hk (by decide)) v, fun r hr => own_set (h2.each r hr) (own_blk_ne (h2.each r hr) hk (by decide)) v⟩, h3⟩⟩

def ChFit (m : Mnt) (day pos : Int) (l : List Tgt) (w : World) (e : Ending) (w' : World) : Prop :=
  ∃ z : Pick2, e = .returned (.tuple #[.agg #[.slice z.1.1 l.length z.1.2, .slice z.2.1 l.length z.2.2], .int .i64 (leastC m day pos l), .int .i64 0]) ∧ Below w.heap.size w w' ∧ ChQ m day pos l z w'
set_option maxRecDepth 100000 in
set_option maxHeartbeats 4000000 in
theorem pchoosef_ok (m : Mnt) (day pos : Int) (l : List Tgt) (A : Option Addr) (n c : Nat) (hT0 : (tourF m l day pos).2 = 0) (w : World) (hx : MntAt m w) (hl : Reads w w.heap.size 6 A n (tgtCells l)) (hn : n ≤ c ∧ c ≤ 9223372036854775807) (hfit : ∀ t ∈ l, t.name.size ≤ maxLen) :
    Calls Try.prog 11 #[m.val, .slice A n c, .agg #[.int .i64 day, .int .i64 pos]] w (ChFit m day pos l w) := by
  obtain ⟨r1, -, r3, r5, -⟩ := tour_right hT0
  have HM := Lib.hid r1
  have HP := Lib.hid r3
  have HNE := Lib.hid (tour_pos hT0)
  have H20 := Lib.hid r5
  have HX := Lib.hid hx
  have HL := Lib.hid hl
  have HT0 := Lib.hid hT0
  obtain ⟨v, hv⟩ : ∃ v, leastC m day pos l = v := ⟨_, rfl⟩
  obtain ⟨L, hL⟩ : ∃ L, l.length = L := ⟨_, rfl⟩
  have HV := Lib.hid hv
  have HLL := Lib.hid hL
  clear hx hl hT0 r1 r3 r5 hv hL
  unfold Mnt.val
  go_enter Try.func11, Try.ntmps11
  go_wp2_with fail
  generalize hwn : (((w.alloc (.cells #[.int .i64 (m.ls), .int .i64 (m.ms), .int .i64 (m.lo), .int .i64 (m.hi), .int .i64 (m.sp), .slice m.A1 m.n1 m.c1, .slice m.A2 m.n2 m.c2] 24)).alloc (.cells #[.int .i64 (day), .int .i64 (pos)] 26)).alloc (.cells #[.slice none 0 0, .slice none 0 0] 43)) = w1
  have hbn : Below w.heap.size w w1 := by rw [← hwn]; repeat' (first | exact Below.refl _ _ | refine below_drewN ?_ _ | refine Below.drew ?_ | refine Below.alloc ?_ (by first | omega | (simp; done) | (simp; omega) | (simp [World.setCell]; omega)) _ | refine Below.setCell ?_ (by first | omega | (simp; done) | (simp; omega)) _)
  have HB1 := Lib.hid (show Below w.heap.size w w1 from hbn)
  have K0_1 := Lib.hid (show Blk w1 (w.heap.size) 24 #[.int .i64 (m.ls), .int .i64 (m.ms), .int .i64 (m.lo), .int .i64 (m.hi), .int .i64 (m.sp), .slice m.A1 m.n1 m.c1, .slice m.A2 m.n2 m.c2] by rw [← hwn]; repeat' (first | exact Blk.at_ _ (by first | rfl | (simp; done) | (simp; omega)) _ _ | refine Blk.drewN ?_ _ | refine Blk.drew ?_ | refine Blk.alloc ?_ _ | refine Blk.far ?_ (by first | omega | (simp; done) | (simp; omega)) _ | assumption))
  have K1_1 := Lib.hid (show Blk w1 (w.heap.size + 1) 26 #[.int .i64 (day), .int .i64 (pos)] by rw [← hwn]; repeat' (first | exact Blk.at_ _ (by first | rfl | (simp; done) | (simp; omega)) _ _ | refine Blk.drewN ?_ _ | refine Blk.drew ?_ | refine Blk.alloc ?_ _ | refine Blk.far ?_ (by first | omega | (simp; done) | (simp; omega)) _ | assumption))
  have K2_1 := Lib.hid (show Blk w1 (w.heap.size + 2) 43 #[.slice none 0 0, .slice none 0 0] by rw [← hwn]; repeat' (first | exact Blk.at_ _ (by first | rfl | (simp; done) | (simp; omega)) _ _ | refine Blk.drewN ?_ _ | refine Blk.drew ?_ | refine Blk.alloc ?_ _ | refine Blk.far ?_ (by first | omega | (simp; done) | (simp; omega)) _ | assumption))
  have HN1 := Lib.hid hbn
  have hz1 := hbn.size
  clear hwn hbn
  have l0_1 : w.heap.size < w1.heap.size := K0_1.out.lt
  have z0_0_1 : w1.cell? ⟨w.heap.size, 0, none⟩ = some (.int .i64 (m.ls)) := K0_1.out.cell 0
  have z0_1_1 : w1.cell? ⟨w.heap.size, 1, none⟩ = some (.int .i64 (m.ms)) := K0_1.out.cell 1
  have z0_2_1 : w1.cell? ⟨w.heap.size, 2, none⟩ = some (.int .i64 (m.lo)) := K0_1.out.cell 2
  have z0_3_1 : w1.cell? ⟨w.heap.size, 3, none⟩ = some (.int .i64 (m.hi)) := K0_1.out.cell 3
  have z0_4_1 : w1.cell? ⟨w.heap.size, 4, none⟩ = some (.int .i64 (m.sp)) := K0_1.out.cell 4
  have z0_5_1 : w1.cell? ⟨w.heap.size, 5, none⟩ = some (.slice m.A1 m.n1 m.c1) := K0_1.out.cell 5
  have z0_6_1 : w1.cell? ⟨w.heap.size, 6, none⟩ = some (.slice m.A2 m.n2 m.c2) := K0_1.out.cell 6
  have l1_1 : w.heap.size + 1 < w1.heap.size := K1_1.out.lt
  have z1_0_1 : w1.cell? ⟨w.heap.size + 1, 0, none⟩ = some (.int .i64 (day)) := K1_1.out.cell 0
  have z1_1_1 : w1.cell? ⟨w.heap.size + 1, 1, none⟩ = some (.int .i64 (pos)) := K1_1.out.cell 1
  have l2_1 : w.heap.size + 2 < w1.heap.size := K2_1.out.lt
  have z2_0_1 : w1.cell? ⟨w.heap.size + 2, 0, none⟩ = some (.slice none 0 0) := K2_1.out.cell 0
  have z2_1_1 : w1.cell? ⟨w.heap.size + 2, 1, none⟩ = some (.slice none 0 0) := K2_1.out.cell 1
  refine (popen_any m day pos l A n c _ (HX.out.lay HB1.out) ((HL.out.below HB1.out).more HB1.out.size) hn hfit).mono ?_
  rintro e w2 ⟨-, hgood⟩
  obtain ⟨hb, tb, A9, c9, S, rfl, hta⟩ := hgood HT0.out
  have HTA := Lib.hid hta
  clear hgood hta
  have HB2 := Lib.hid (show Below w.heap.size w w2 from step_below hb (by repeat' (first | exact Below.refl _ _ | exact HB1.out | refine below_drewN ?_ _ | refine Below.drew ?_ | refine Below.alloc ?_ (by first | omega | (simp; done) | (simp; omega) | (simp [World.setCell]; omega)) _ | refine Below.setCell ?_ (by first | omega | (simp; done) | (simp; omega)) _ | assumption)))
  have K0_2 := Lib.hid (step_blk hb (show Blk _ (w.heap.size) 24 #[.int .i64 (m.ls), .int .i64 (m.ms), .int .i64 (m.lo), .int .i64 (m.hi), .int .i64 (m.sp), .slice m.A1 m.n1 m.c1, .slice m.A2 m.n2 m.c2] by repeat' (first | exact K0_1.out | exact K1_1.out | exact K2_1.out | exact Blk.at_ _ (by first | rfl | (simp; done) | (simp; omega)) _ _ | refine Blk.drewN ?_ _ | refine Blk.drew ?_ | refine Blk.alloc ?_ _ | refine Blk.far ?_ (by first | omega | (simp; done) | (simp; omega)) _ | assumption)))
  have K1_2 := Lib.hid (step_blk hb (show Blk _ (w.heap.size + 1) 26 #[.int .i64 (day), .int .i64 (pos)] by repeat' (first | exact K0_1.out | exact K1_1.out | exact K2_1.out | exact Blk.at_ _ (by first | rfl | (simp; done) | (simp; omega)) _ _ | refine Blk.drewN ?_ _ | refine Blk.drew ?_ | refine Blk.alloc ?_ _ | refine Blk.far ?_ (by first | omega | (simp; done) | (simp; omega)) _ | assumption)))
  have K2_2 := Lib.hid (step_blk hb (show Blk _ (w.heap.size + 2) 43 #[.slice none 0 0, .slice none 0 0] by repeat' (first | exact K0_1.out | exact K1_1.out | exact K2_1.out | exact Blk.at_ _ (by first | rfl | (simp; done) | (simp; omega)) _ _ | refine Blk.drewN ?_ _ | refine Blk.drew ?_ | refine Blk.alloc ?_ _ | refine Blk.far ?_ (by first | omega | (simp; done) | (simp; omega)) _ | assumption)))
  have hz2 := hb.size
  try simp only [World.size_alloc, World.drewN, World.drew] at hz2
  clear hb K0_1 K1_1 K2_1 z0_0_1 z0_1_1 z0_2_1 z0_3_1 z0_4_1 z0_5_1 z0_6_1 l0_1 z1_0_1 z1_1_1 l1_1 z2_0_1 z2_1_1 l2_1
  have l0_2 : w.heap.size < w2.heap.size := K0_2.out.lt
  have z0_0_2 : w2.cell? ⟨w.heap.size, 0, none⟩ = some (.int .i64 (m.ls)) := K0_2.out.cell 0
  have z0_1_2 : w2.cell? ⟨w.heap.size, 1, none⟩ = some (.int .i64 (m.ms)) := K0_2.out.cell 1
  have z0_2_2 : w2.cell? ⟨w.heap.size, 2, none⟩ = some (.int .i64 (m.lo)) := K0_2.out.cell 2
  have z0_3_2 : w2.cell? ⟨w.heap.size, 3, none⟩ = some (.int .i64 (m.hi)) := K0_2.out.cell 3
  have z0_4_2 : w2.cell? ⟨w.heap.size, 4, none⟩ = some (.int .i64 (m.sp)) := K0_2.out.cell 4
  have z0_5_2 : w2.cell? ⟨w.heap.size, 5, none⟩ = some (.slice m.A1 m.n1 m.c1) := K0_2.out.cell 5
  have z0_6_2 : w2.cell? ⟨w.heap.size, 6, none⟩ = some (.slice m.A2 m.n2 m.c2) := K0_2.out.cell 6
  have l1_2 : w.heap.size + 1 < w2.heap.size := K1_2.out.lt
  have z1_0_2 : w2.cell? ⟨w.heap.size + 1, 0, none⟩ = some (.int .i64 (day)) := K1_2.out.cell 0
  have z1_1_2 : w2.cell? ⟨w.heap.size + 1, 1, none⟩ = some (.int .i64 (pos)) := K1_2.out.cell 1
  have l2_2 : w.heap.size + 2 < w2.heap.size := K2_2.out.lt
  have z2_0_2 : w2.cell? ⟨w.heap.size + 2, 0, none⟩ = some (.slice none 0 0) := K2_2.out.cell 0
  have z2_1_2 : w2.cell? ⟨w.heap.size + 2, 1, none⟩ = some (.slice none 0 0) := K2_2.out.cell 1
  go_wp2_with fail
  refine (pchoose_any m day pos l tb A9 c9 S _ HTA.out HM.out HP.out HNE.out H20.out).mono ?_
  rintro e w3 ⟨At, ct, Xp, cp, tsP, ks, rfl, hb, ho, hr, hp, he, hc⟩
  rw [HV.out] at hc ⊢
  rw [HLL.out] at ho hr ⊢
  have HO := Lib.hid ho
  have HR := Lib.hid hr
  have HPP := Lib.hid hp
  have HE := Lib.hid he
  have HC := Lib.hid hc
  clear ho hr hp he hc
  have HB3 := Lib.hid (show Below w.heap.size w w3 from step_below hb (by repeat' (first | exact Below.refl _ _ | exact HB2.out | refine below_drewN ?_ _ | refine Below.drew ?_ | refine Below.alloc ?_ (by first | omega | (simp; done) | (simp; omega) | (simp [World.setCell]; omega)) _ | refine Below.setCell ?_ (by first | omega | (simp; done) | (simp; omega)) _ | assumption)))
  have K0_3 := Lib.hid (step_blk hb (show Blk _ (w.heap.size) 24 #[.int .i64 (m.ls), .int .i64 (m.ms), .int .i64 (m.lo), .int .i64 (m.hi), .int .i64 (m.sp), .slice m.A1 m.n1 m.c1, .slice m.A2 m.n2 m.c2] by repeat' (first | exact K0_2.out | exact K1_2.out | exact K2_2.out | exact Blk.at_ _ (by first | rfl | (simp; done) | (simp; omega)) _ _ | refine Blk.drewN ?_ _ | refine Blk.drew ?_ | refine Blk.alloc ?_ _ | refine Blk.far ?_ (by first | omega | (simp; done) | (simp; omega)) _ | assumption)))
  have K1_3 := Lib.hid (step_blk hb (show Blk _ (w.heap.size + 1) 26 #[.int .i64 (day), .int .i64 (pos)] by repeat' (first | exact K0_2.out | exact K1_2.out | exact K2_2.out | exact Blk.at_ _ (by first | rfl | (simp; done) | (simp; omega)) _ _ | refine Blk.drewN ?_ _ | refine Blk.drew ?_ | refine Blk.alloc ?_ _ | refine Blk.far ?_ (by first | omega | (simp; done) | (simp; omega)) _ | assumption)))
  have K2_3 := Lib.hid (step_blk hb (show Blk _ (w.heap.size + 2) 43 #[.slice none 0 0, .slice none 0 0] by repeat' (first | exact K0_2.out | exact K1_2.out | exact K2_2.out | exact Blk.at_ _ (by first | rfl | (simp; done) | (simp; omega)) _ _ | refine Blk.drewN ?_ _ | refine Blk.drew ?_ | refine Blk.alloc ?_ _ | refine Blk.far ?_ (by first | omega | (simp; done) | (simp; omega)) _ | assumption)))
  have hz3 := hb.size
  try simp only [World.size_alloc, World.drewN, World.drew] at hz3
  clear hb K0_2 K1_2 K2_2 z0_0_2 z0_1_2 z0_2_2 z0_3_2 z0_4_2 z0_5_2 z0_6_2 l0_2 z1_0_2 z1_1_2 l1_2 z2_0_2 z2_1_2 l2_2
  have l0_3 : w.heap.size < w3.heap.size := K0_3.out.lt
  have z0_0_3 : w3.cell? ⟨w.heap.size, 0, none⟩ = some (.int .i64 (m.ls)) := K0_3.out.cell 0
  have z0_1_3 : w3.cell? ⟨w.heap.size, 1, none⟩ = some (.int .i64 (m.ms)) := K0_3.out.cell 1
  have z0_2_3 : w3.cell? ⟨w.heap.size, 2, none⟩ = some (.int .i64 (m.lo)) := K0_3.out.cell 2
  have z0_3_3 : w3.cell? ⟨w.heap.size, 3, none⟩ = some (.int .i64 (m.hi)) := K0_3.out.cell 3
  have z0_4_3 : w3.cell? ⟨w.heap.size, 4, none⟩ = some (.int .i64 (m.sp)) := K0_3.out.cell 4
  have z0_5_3 : w3.cell? ⟨w.heap.size, 5, none⟩ = some (.slice m.A1 m.n1 m.c1) := K0_3.out.cell 5
  have z0_6_3 : w3.cell? ⟨w.heap.size, 6, none⟩ = some (.slice m.A2 m.n2 m.c2) := K0_3.out.cell 6
  have l1_3 : w.heap.size + 1 < w3.heap.size := K1_3.out.lt
  have z1_0_3 : w3.cell? ⟨w.heap.size + 1, 0, none⟩ = some (.int .i64 (day)) := K1_3.out.cell 0
  have z1_1_3 : w3.cell? ⟨w.heap.size + 1, 1, none⟩ = some (.int .i64 (pos)) := K1_3.out.cell 1
  have l2_3 : w.heap.size + 2 < w3.heap.size := K2_3.out.lt
  have z2_0_3 : w3.cell? ⟨w.heap.size + 2, 0, none⟩ = some (.slice none 0 0) := K2_3.out.cell 0
  have z2_1_3 : w3.cell? ⟨w.heap.size + 2, 1, none⟩ = some (.slice none 0 0) := K2_3.out.cell 1
  have zf2_0 := K2_3.out.frozen 0
  have zf2_1 := K2_3.out.frozen 1
  go_wp2
  generalize hw4 : ((w3.setCell ⟨w.heap.size + 1 + 1, 0, none⟩ (.slice At L ct)).setCell ⟨w.heap.size + 1 + 1, 1, none⟩ (.slice Xp L cp)).alloc (.cells #[.slice At L ct, .slice Xp L cp] 43) = w4
  have hk3 : Blk w3 (w.heap.size + 1 + 1) 43 #[.slice none 0 0, .slice none 0 0] := K2_3.out
  have hq3 : ChQ m day pos l ((At, ct), (Xp, cp)) w3 := ⟨w2.heap.size, tsP, ks, by rw [HLL.out]; exact HO.out, by rw [HLL.out]; exact HR.out, HPP.out, HE.out, by rw [HC.out, HV.out]⟩
  have hk4 : Blk w4 (w.heap.size + 1 + 1) 43 #[.slice At L ct, .slice Xp L cp] := by
    rw [← hw4]
    refine Blk.alloc ?_ _
    have h := (hk3.set_ 0 (.slice At L ct)).set_ 1 (.slice Xp L cp)
    simpa only [List.setIfInBounds_toArray, List.set_cons_zero, List.set_cons_succ] using h
  have hq4 : ChQ m day pos l ((At, ct), (Xp, cp)) w4 := by
    rw [← hw4]
    exact ChQ.stb.bel _ _ _ ((Below.refl _ _).alloc (Nat.le_refl _) _) (ChQ.stb.set_ _ _ _ _ _ _ (hk3.set_ 0 _) (ChQ.stb.set_ _ _ _ _ _ _ hk3 hq3))
  have hb4 : Below w.heap.size w w4 := by
    rw [← hw4]
    exact ((HB3.out.setCell (p := ⟨w.heap.size + 1 + 1, 0, none⟩) (by show w.heap.size ≤ w.heap.size + 1 + 1; omega) _).setCell (p := ⟨w.heap.size + 1 + 1, 1, none⟩) (by show w.heap.size ≤ w.heap.size + 1 + 1; omega) _).alloc (by simp [World.setCell]; have := HB3.out.size; omega) _
  have a0 := hk4.cell 0
  have a1 := hk4.cell 1
  have al := hk4.lt
  clear hw4 hk3 hk4 hq3
  exact bodyPost_ret (v := .tuple #[.agg #[.slice At L ct, .slice Xp L cp], .int .i64 v, .int .i64 0]) (by simp [results, Try.results11, go_sem, a0, a1, al]) rfl ⟨((At, ct), (Xp, cp)), by rw [HLL.out, HV.out], hb4, hq4⟩

structure KpG (Pf : Nat → Pick2 → World → Prop) (Pq : Pick2 → World → Prop) (T : TypeId) (V0 V1 : Pick2 → Value) (c s q : Nat) (W : World) (g : Nat → Option Pick2) (f : Nat → Bool) (w' : World) : Prop where
  bel : Below W.heap.size W w'
  has : f s = false → ∀ i x, g i = some x → i ≠ c → Pf i x w'
  made : ∀ x, g c = some x → ∃ b, x.1.1 = some ⟨b, 0, none⟩ ∧ W.heap.size ≤ b ∧ ∃ e0 e1, Blk w' b T #[e0, e1] ∧ (f s = true → ∃ z, g q = some z ∧ e0 = V0 z ∧ e1 = V1 z)
  res : ∀ z, g q = some z → Pq z w'
section
variable {Pf : Nat → Pick2 → World → Prop} {Pq : Pick2 → World → Prop} {T : TypeId} {V0 V1 : Pick2 → Value} {c s q k : Nat} {W w' w'' : World} {g : Nat → Option Pick2} {f : Nat → Bool}
theorem KpG.start : KpG Pf Pq T V0 V1 c s q W (fun _ => none) f (W.drewN 1) := ⟨below_drewN (Below.refl _ _) 1, fun _ _ _ h => (nomatch h), fun _ h => (nomatch h), fun _ h => (nomatch h)⟩
theorem KpG.same (h : KpG Pf Pq T V0 V1 c s q W g f w') (hk : k ≠ s) : KpG Pf Pq T V0 V1 c s q W g (Fx.add f k) w' := ⟨h.bel, fun hf => h.has (by rwa [add_ne' hk] at hf), fun x hx => by
  obtain ⟨b, h0, h1, e0, e1, h2, h3⟩ := h.made x hx
  exact ⟨b, h0, h1, e0, e1, h2, fun hf => h3 (by rwa [add_ne' hk] at hf)⟩, h.res⟩
theorem KpG.call (h : KpG Pf Pq T V0 V1 c s q W g f w') (hs : Stb Pf) (hq : StbQ T Pq) (hk : k ≠ s) (hb : Below w'.heap.size w' w'') : KpG Pf Pq T V0 V1 c s q W g (Fx.add f k) w'' := ⟨step_below hb h.bel, fun hf i x hx hi => hs i x _ _ hb (h.has (by rwa [add_ne' hk] at hf) i x hx hi), fun x hx => by
  obtain ⟨b, h0, h1, e0, e1, h2, h3⟩ := h.made x hx
  exact ⟨b, h0, h1, e0, e1, h2.below hb h2.lt, fun hf => h3 (by rwa [add_ne' hk] at hf)⟩, fun z hz => hq.bel z _ _ hb (h.res z hz)⟩
theorem KpG.choose (h : KpG Pf Pq T V0 V1 c s q W g f w') (hs : Stb Pf) (hq : StbQ T Pq) (hb : Below w'.heap.size w' w'') (i : Nat) (x : Pick2) (hi : i ≠ s) (hc : i ≠ c) (hf : f s = false) (hx : Pf i x w'') (hxq : i = q → Pq x w'') : KpG Pf Pq T V0 V1 c s q W (Fx.upd g i x) (Fx.add f i) w'' := by
  refine ⟨step_below hb h.bel, fun _ j y hy hj => ?_, fun y hy => ?_, fun z hz => ?_⟩
  · by_cases e : j = i
    · subst e
      rw [Fx.upd_same] at hy
      cases hy
      exact hx
    · rw [upd_ne e] at hy
      exact hs j y _ _ hb (h.has hf j y hy hj)
  · rw [upd_ne hc.symm] at hy
    obtain ⟨b, h0, h1, e0, e1, h2, -⟩ := h.made y hy
    exact ⟨b, h0, h1, e0, e1, h2.below hb h2.lt, fun e => by rw [add_ne' hi, hf] at e; cases e⟩
  · by_cases e : q = i
    · subst e
      rw [Fx.upd_same] at hz
      cases hz
      exact hxq rfl
    · rw [upd_ne e] at hz
      exact hq.bel z _ _ hb (h.res z hz)
theorem KpG.make {a b : Value} (h : KpG Pf Pq T V0 V1 c s q W g f w') (hs : Stb Pf) (hq : StbQ T Pq) (hf : f s = false) (hc : c ≠ s) (hcq : q ≠ c) : KpG Pf Pq T V0 V1 c s q W (Fx.upd g c ((some ⟨w'.heap.size, 0, none⟩, 0), (none, 0))) (Fx.add f c) (w'.alloc (.cells #[a, b] T)) := by
  refine ⟨h.bel.alloc h.bel.size _, fun _ j y hy hj => ?_, fun y hy => ?_, fun z hz => ?_⟩
  · rw [upd_ne hj] at hy
    exact hs j y _ _ ((Below.refl _ _).alloc (Nat.le_refl _) _) (h.has hf j y hy hj)
  · rw [Fx.upd_same] at hy
    cases hy
    refine ⟨w'.heap.size, rfl, h.bel.size, a, b, Blk.new _ _ _, fun e => ?_⟩
    rw [add_ne' hc, hf] at e
    cases e
  · rw [upd_ne hcq] at hz
    exact hq.bel z _ _ ((Below.refl _ _).alloc (Nat.le_refl _) _) (h.res z hz)
theorem KpG.cells {x : Pick2} (h : KpG Pf Pq T V0 V1 c s q W g f w') (hx : g c = some x) : ∃ b e0 e1, x.1.1 = some ⟨b, 0, none⟩ ∧ W.heap.size ≤ b ∧ w'.cell? ⟨b, 0, none⟩ = some e0 ∧ w'.cell? ⟨b, 1, none⟩ = some e1 ∧ w'.frozen? ⟨b, 0, none⟩ = false ∧ w'.frozen? ⟨b, 1, none⟩ = false := by
  obtain ⟨b, h0, h1, e0, e1, h2, -⟩ := h.made x hx
  exact ⟨b, e0, e1, h0, h1, h2.cell 0, h2.cell 1, h2.frozen 0, h2.frozen 1⟩
theorem KpG.store {x z : Pick2} {b : Nat} (h : KpG Pf Pq T V0 V1 c s q W g f w') (hq : StbQ T Pq) (hx : g c = some x) (hb : x.1.1 = some ⟨b, 0, none⟩) (hz : g q = some z) : KpG Pf Pq T V0 V1 c s q W g (Fx.add f s) ((w'.setCell ⟨b, 0, none⟩ (V0 z)).setCell ⟨b, 1, none⟩ (V1 z)) := by
  obtain ⟨b', h0, h1, e0, e1, h2, -⟩ := h.made x hx
  rw [hb] at h0
  cases h0
  have h3 := h2.set_ 0 (V0 z)
  refine ⟨below_store h.bel h1, fun hf => (by rw [add_same] at hf; cases hf), fun y hy => ?_, fun z' hz' => hq.set_ _ _ _ _ _ _ h3 (hq.set_ _ _ _ _ _ _ h2 (h.res z' hz'))⟩
  rw [hx] at hy
  cases hy
  refine ⟨b, hb, h1, V0 z, V1 z, ?_, fun _ => ⟨z, hz, rfl, rfl⟩⟩
  have := h3.set_ 1 (V1 z)
  simpa using this
theorem KpG.end_ {x z : Pick2} (h : KpG Pf Pq T V0 V1 c s q W g f w') (hx : g c = some x) (hf : f s = true) (hz : g q = some z) : ∃ b, x.1.1 = some ⟨b, 0, none⟩ ∧ W.heap.size ≤ b ∧ Blk w' b T #[V0 z, V1 z] ∧ Pq z w' := by
  obtain ⟨b, h0, h1, e0, e1, h2, h3⟩ := h.made x hx
  obtain ⟨z', hz', rfl, rfl⟩ := h3 hf
  obtain rfl := Option.some.inj (hz'.symm.trans hz)
  exact ⟨b, h0, h1, h2, h.res _ hz⟩
end
end Go.Proofs.Ytclnffpfbngjoaa

end

section
/- The walk of the statement on the choice with the least cost. -/
namespace Go.Proofs.Ytclnffpfbngjoaa
open Go Go.RowKit

theorem dpB_to {m : Mnt} {A1 A2 : Option Addr} {c1 c2 : Nat} {day pos : Int} {l : List Tgt} : ∀ i, dpB (m.to A1 c1 A2 c2) day pos l i = dpB m day pos l i
  | 0 => rfl
  | i + 1 => by
    show rowC (dpB (m.to A1 c1 A2 c2) day pos l i) (froL m day pos l i) (froL m day pos l (i + 1)) = rowC (dpB m day pos l i) (froL m day pos l i) (froL m day pos l (i + 1))
    rw [dpB_to i]
theorem leastC_to {m : Mnt} {A1 A2 : Option Addr} {c1 c2 : Nat} {day pos : Int} {l : List Tgt} : leastC (m.to A1 c1 A2 c2) day pos l = leastC m day pos l := by unfold leastC; rw [dpB_to]
theorem ChQ.of_to {m : Mnt} {A1 A2 : Option Addr} {c1 c2 : Nat} {day pos : Int} {l : List Tgt} {z : Pick2} {w : World} (h : ChQ (m.to A1 c1 A2 c2) day pos l z w) : ChQ m day pos l z w := by
  obtain ⟨B, ts, ks, h1, h2, h3, h4, h5⟩ := h
  have e1 : potL (m.to A1 c1 A2 c2) day pos l = potL m day pos l := by unfold potL; exact List.map_congr_left fun i _ => dpB_to (i + 1)
  have e2 : leastC (m.to A1 c1 A2 c2) day pos l = leastC m day pos l := leastC_to
  exact ⟨B, ts, ks, h1, h2, h3.trans e1, h4, h5.trans e2⟩
/-- As pchoosef_ok, of copies; the numbers as they are called. -/
theorem pchoosef_like {m : Mnt} {day pos : Int} {l : List Tgt} {n : Nat} {V : Int} (hn : l.length = n) (hv : leastC m day pos l = V) (A1 A2 : Option Addr) (c1 c2 : Nat) (A : Option Addr) (c : Nat) (hT0 : (tourF m l day pos).2 = 0) (w : World) (hx : MntAt (m.to A1 c1 A2 c2) w) (hl : Reads w w.heap.size 6 A n (tgtCells l)) (hnc : n ≤ c ∧ c ≤ 9223372036854775807) (hfit : ∀ t ∈ l, t.name.size ≤ maxLen) :
    Calls Try.prog 11 #[(m.to A1 c1 A2 c2).val, .slice A n c, .agg #[.int .i64 day, .int .i64 pos]] w fun e w' => ∃ z : Pick2, e = .returned (.tuple #[.agg #[.slice z.1.1 n z.1.2, .slice z.2.1 n z.2.2], .int .i64 V, .int .i64 0]) ∧ Below w.heap.size w w' ∧ ChQ m day pos l z w' := by
  subst hn
  refine (pchoosef_ok (m.to A1 c1 A2 c2) day pos l A l.length c hT0 w hx hl hnc hfit).mono ?_
  rintro e w' ⟨z, he, hb, hq⟩
  have e2 : leastC (m.to A1 c1 A2 c2) day pos l = leastC m day pos l := leastC_to
  rw [e2, hv] at he
  exact ⟨z, he, hb, hq.of_to⟩

end Go.Proofs.Ytclnffpfbngjoaa

end

section
/- Plain law: all orders of so many numbers, and the best one. -/
namespace Go.Proofs.Ytclnffpfbngjoaa

/-- The orders that go on from one, with f numbers more; those whose next number is below i. -/
def leavesT (n : Nat) : Nat → List Nat → List (List Nat)
  | 0, o => [o]
  | f + 1, o => (List.range n).flatMap fun j => if j ∈ o then [] else leavesT n f (o ++ [j])
def partsT (n f : Nat) (o : List Nat) (i : Nat) : List (List Nat) := (List.range i).flatMap fun j => if j ∈ o then [] else leavesT n f (o ++ [j])
theorem parts_zero (n f : Nat) (o : List Nat) : partsT n f o 0 = [] := rfl
theorem parts_has {n f i : Nat} {o : List Nat} (h : i ∈ o) : partsT n f o (i + 1) = partsT n f o i := by
  unfold partsT
  rw [List.range_succ, List.flatMap_append]
  simp [h]
theorem parts_new {n f i : Nat} {o : List Nat} (h : i ∉ o) : partsT n f o (i + 1) = partsT n f o i ++ leavesT n f (o ++ [i]) := by
  unfold partsT
  rw [List.range_succ, List.flatMap_append]
  simp [h]
/-- An order under way. -/
def OrdAt (n f : Nat) (o : List Nat) : Prop := o.length + f = n ∧ ∀ i ∈ o, i < n
theorem OrdAt.snoc {n f i : Nat} {o : List Nat} (h : OrdAt n (f + 1) o) (hi : i < n) : OrdAt n f (o ++ [i]) := by
  refine ⟨by rw [List.length_append]; have := h.1; simp; omega, fun j hj => ?_⟩
  rcases List.mem_append.1 hj with h1 | h1
  · exact h.2 j h1
  · rw [List.mem_singleton.1 h1]; exact hi
theorem leaves_ord {n : Nat} : ∀ {f : Nat} {o : List Nat}, OrdAt n f o → ∀ x ∈ leavesT n f o, OrdAt n 0 x
  | 0, o, h, x, hx => by obtain rfl : x = o := List.mem_singleton.1 hx; exact h
  | f + 1, o, h, x, hx => by
    obtain ⟨j, hj, hx⟩ := List.mem_flatMap.1 hx
    split at hx
    · cases hx
    · exact leaves_ord (h.snoc (List.mem_range.1 hj)) x hx
theorem range_leaf {n : Nat} : ∀ {f k : Nat}, k + f = n → List.range n ∈ leavesT n f (List.range k)
  | 0, k, h => by obtain rfl : k = n := (by omega); exact List.mem_singleton.2 rfl
  | f + 1, k, h => by
    refine List.mem_flatMap.2 ⟨k, List.mem_range.2 (by omega), ?_⟩
    rw [if_neg (by simp)]
    have := range_leaf (n := n) (f := f) (k := k + 1) (by omega)
    rwa [List.range_succ (n := k)] at this
abbrev BestO := Option (List Nat × Int)
def stepO (cost : List Nat → Int) (st : BestO) (o : List Nat) : BestO :=
  match st with
  | none => some (o, cost o)
  | some b => if cost o < b.2 then some (o, cost o) else some b
def foldO (cost : List Nat → Int) (st : BestO) (xs : List (List Nat)) : BestO := xs.foldl (stepO cost) st
theorem fold_snoc (cost : List Nat → Int) (st : BestO) (xs : List (List Nat)) (x : List Nat) : foldO cost st (xs ++ [x]) = stepO cost (foldO cost st xs) x := by unfold foldO; rw [List.foldl_append]; rfl
theorem fold_app (cost : List Nat → Int) (st : BestO) (xs ys : List (List Nat)) : foldO cost st (xs ++ ys) = foldO cost (foldO cost st xs) ys := by unfold foldO; rw [List.foldl_append]
/-- What is kept is one of them, and none is less. -/
theorem fold_is (cost : List Nat → Int) : ∀ (xs : List (List Nat)) (b : List Nat × Int), b.2 = cost b.1 → ∃ y, foldO cost (some b) xs = some y ∧ y.2 = cost y.1 ∧ (y = b ∨ y.1 ∈ xs) ∧ y.2 ≤ b.2 ∧ ∀ x ∈ xs, y.2 ≤ cost x
  | [], b, hb => ⟨b, rfl, hb, .inl rfl, Int.le_refl _, fun x hx => by cases hx⟩
  | x :: xs, b, hb => by
    show ∃ y, foldO cost (if cost x < b.2 then some (x, cost x) else some b) xs = some y ∧ _
    by_cases h : cost x < b.2
    · rw [if_pos h]
      obtain ⟨y, h1, h2, h3, h4, h5⟩ := fold_is cost xs (x, cost x) rfl
      refine ⟨y, h1, h2, .inr ?_, by simp only at h4; omega, fun z hz => ?_⟩
      · rcases h3 with rfl | h3
        · exact List.mem_cons_self ..
        · exact List.mem_cons_of_mem _ h3
      · rcases List.mem_cons.1 hz with rfl | hz
        · exact h4
        · exact h5 z hz
    · rw [if_neg h]
      obtain ⟨y, h1, h2, h3, h4, h5⟩ := fold_is cost xs b hb
      refine ⟨y, h1, h2, ?_, h4, fun z hz => ?_⟩
      · rcases h3 with h3 | h3
        · exact .inl h3
        · exact .inr (List.mem_cons_of_mem _ h3)
      · rcases List.mem_cons.1 hz with rfl | hz
        · omega
        · exact h5 z hz
theorem best_is (cost : List Nat → Int) {n : Nat} : ∃ y, foldO cost none (leavesT n n []) = some y ∧ y.2 = cost y.1 ∧ y.1 ∈ leavesT n n [] ∧ y.2 ≤ cost (List.range n) := by
  have hr : List.range n ∈ leavesT n n [] := range_leaf (f := n) (k := 0) (by omega)
  obtain ⟨x, xs, hx⟩ : ∃ x xs, leavesT n n [] = x :: xs := by
    cases h : leavesT n n [] with
    | nil => rw [h] at hr; cases hr
    | cons x xs => exact ⟨x, xs, rfl⟩
  rw [hx] at hr ⊢
  obtain ⟨y, h1, h2, h3, h4, h5⟩ := fold_is cost xs (x, cost x) rfl
  refine ⟨y, h1, h2, ?_, ?_⟩
  · rcases h3 with rfl | h3
    · exact List.mem_cons_self ..
    · exact List.mem_cons_of_mem _ h3
  · rcases List.mem_cons.1 hr with h | h
    · rw [h]; exact h4
    · exact h5 _ h
end Go.Proofs.Ytclnffpfbngjoaa

end

section
/- Plain law: the reference's least costs up to each turn are those of the choice. -/
namespace Go.Proofs.Ytclnffpfbngjoaa
open Go Go.RowKit

/-- The least cost over the first places before. -/
def runC (B F : List Int) (to : Int) : Nat → Int
  | 0 => 0
  | j + 1 => if j = 0 ∨ valC B F to j < runC B F to j then valC B F to j else runC B F to j
theorem runC_is (B F : List Int) (to : Int) : ∀ {h : Nat}, 0 < h → runC B F to h = valC B F to (bestC B F to h)
  | 0, h => absurd h (by omega)
  | h + 1, _ => by
    rcases Nat.eq_zero_or_pos h with rfl | h0
    · show (if (0 : Nat) = 0 ∨ _ then valC B F to 0 else _) = valC B F to (if valC B F to 0 < valC B F to 0 then 0 else 0)
      rw [if_pos (.inl rfl), if_neg (Int.lt_irrefl _)]
    · have ih := runC_is B F to h0
      show (if h = 0 ∨ valC B F to h < runC B F to h then valC B F to h else runC B F to h) = valC B F to (if valC B F to h < valC B F to (bestC B F to h) then h else bestC B F to h)
      rw [ih]
      by_cases hl : valC B F to h < valC B F to (bestC B F to h)
      · rw [if_pos (.inr hl), if_pos hl]
      · rw [if_neg (by intro e; rcases e with e | e; omega; exact hl e), if_neg hl]
variable {m : Mnt} {day pos : Int} {l : List Tgt}
theorem dp_at {i n : Nat} {to : Int} (hne : 0 < (froL m day pos l i).length) (h : (froL m day pos l (i + 1))[n]? = some to) : (dpB m day pos l (i + 1))[n]? = some (runC (dpB m day pos l i) (froL m day pos l i) to (froL m day pos l i).length) := by
  rw [runC_is _ _ _ hne]
  show (rowC _ _ _)[n]? = _
  unfold rowC
  rw [List.getElem?_map, h]
  rfl
theorem run_zero {to : Int} : runC (dpB m day pos l 0) (froL m day pos l 0) to (froL m day pos l 0).length = costF pos to := by
  show (if (0 : Nat) = 0 ∨ _ then valC [0] [pos] to 0 else _) = _
  rw [if_pos (.inl rfl)]
  show (0 : Int) + costF pos to = _
  omega
/-- A tour whose numbers are right (names may come twice). -/
structure RightL (m : Mnt) (day pos : Int) (l : List Tgt) : Prop where
  mnt0 : mntErr m = 0
  day0 : dayErr day = 0
  pos0 : m.ls ≤ pos ∧ pos ≤ m.ms
  len : l.length ≤ 20
  each : ∀ t ∈ l, tgtErr t = 0 ∧ (turnsF m t day).2 = 0
theorem RightL.take (h : RightL m day pos l) {n : Nat} {o : List Nat} (hl : l.length = n) (ho : o.length ≤ 20) {x : List Tgt} (hx : ∀ t ∈ x, t ∈ l) (hxl : x.length = o.length) : RightL m day pos x :=
  ⟨h.mnt0, h.day0, h.pos0, by omega, fun t ht => h.each t (hx t ht)⟩
/-- The targets in an order. -/
def permT (l : List Tgt) (o : List Nat) : List Tgt := o.filterMap fun i => l[i]?
theorem perm_snoc {o : List Nat} {i : Nat} {t : Tgt} (h : l[i]? = some t) : permT l (o ++ [i]) = permT l o ++ [t] := by
  unfold permT
  rw [List.filterMap_append]
  simp [h]
theorem perm_len {o : List Nat} (h : ∀ i ∈ o, i < l.length) : (permT l o).length = o.length := by
  induction o with
  | nil => rfl
  | cons i o ih =>
    obtain ⟨t, hi⟩ : ∃ t, l[i]? = some t := ⟨_, List.getElem?_eq_getElem (h i (List.mem_cons_self ..))⟩
    unfold permT at ih ⊢
    rw [List.filterMap_cons, hi]
    simp only [List.length_cons]
    rw [ih fun j hj => h j (List.mem_cons_of_mem _ hj)]
theorem perm_mem {o : List Nat} {t : Tgt} (h : t ∈ permT l o) : t ∈ l := by
  unfold permT at h
  obtain ⟨i, -, hi⟩ := List.mem_filterMap.1 h
  exact List.mem_of_getElem? hi
theorem perm_range : permT l (List.range l.length) = l := by
  have h : ∀ k, k ≤ l.length → permT l (List.range k) = l.take k := by
    intro k
    induction k with
    | zero => intro _; rfl
    | succ k ih =>
      intro hk
      have hi : l[k]? = some l[k] := List.getElem?_eq_getElem (by omega)
      rw [List.range_succ, perm_snoc hi, ih (by omega), List.take_add_one, hi]
      rfl
  rw [h _ (Nat.le_refl _), List.take_length]
theorem RightL.perm (h : RightL m day pos l) {o : List Nat} (ho : OrdAt l.length 0 o) : RightL m day pos (permT l o) :=
  ⟨h.mnt0, h.day0, h.pos0, by rw [perm_len ho.2]; have := ho.1; have := h.len; omega, fun t ht => h.each t (perm_mem ht)⟩
theorem RightL.of {m : Mnt} {day pos : Int} {l : List Tgt} (h : (tourF m l day pos).2 = 0) : RightL m day pos l := by
  obtain ⟨r1, r2, r3, r4, -⟩ := tour_right h
  refine ⟨r1, r2, r3, r4, fun t ht => ?_⟩
  obtain ⟨i, hi⟩ := List.getElem?_of_mem ht
  exact tour_each h hi
end Go.Proofs.Ytclnffpfbngjoaa

end
