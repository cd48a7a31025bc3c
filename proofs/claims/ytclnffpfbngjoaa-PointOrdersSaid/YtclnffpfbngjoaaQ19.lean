import Derived.Test.YtclnffpfbngjoaaQ16
import Derived.Test.YtclnffpfbngjoaaQ18
import Derived.Test.YtclnffpfbngjoaaQ7

section
/- The comparison of lists of numbers. -/
namespace Go.Proofs.Ytclnffpfbngjoaa
open Go Go.RowKit

theorem ints_eqd (A B : Option Addr) (ca cb n m : Nat) (xs ys : List Int) (t : Bool) (ht : decide (xs = ys) = t) (w : World) (N M : Nat) (hx : Reads w N 1 A n (xs.map (.int .i64))) (hy : Reads w M 1 B m (ys.map (.int .i64))) (h1 : n ≤ 9223372036854775807) (h2 : m ≤ 9223372036854775807) :
    Calls Try.prog 12 #[.slice A n ca, .slice B m cb] w fun e w' => e = .returned (.bool t) ∧ ∃ q, w' = w.drewN q := by
  have hl := hx.ilen
  have hl' := hy.ilen
  by_cases hnm : n = m
  rotate_left
  · have hb : ((n : Int) != (m : Int)) = true := by simpa using (show (n : Int) ≠ m by omega)
    have ht' : t = false := by rw [← ht]; exact decide_eq_false (by rintro rfl; omega)
    subst ht'
    clear hx hy ht hl hl'
    go_enter Try.func12, Try.ntmps12
    go_wp2
    go_ret
    exact ⟨rfl, 0, rfl⟩
  subst hnm
  have hb : ((n : Int) != (n : Int)) = false := by simp
  have HX := Lib.hid hx
  have HY := Lib.hid hy
  have HL := Lib.hid (And.intro hl hl')
  have HT := Lib.hid ht
  clear hx hy hl hl' ht
  go_enter Try.func12, Try.ntmps12
  go_wp2
  go_loopw [5] (fun i wr => ∃ k : Nat, k ≤ n ∧ i = .int .i64 k ∧ (∃ q, wr = w.drewN q) ∧ xs.take k = ys.take k) (fun i _ => n - (intOf i).toNat)
  case atStart => exact ⟨0, by omega, rfl, ⟨0, rfl⟩, rfl⟩
  case round =>
    obtain ⟨k, hk, rfl, ⟨q, rfl⟩, hpre⟩ := hrel
    have HP := Lib.hid hpre
    clear hpre
    by_cases hlt : k < n
    · obtain ⟨xb, xo, p, rfl, _, hp, c0⟩ := HX.out.int_ hlt
      obtain ⟨yb, yo, r, rfl, _, hr, d0⟩ := HY.out.int_ hlt
      have HPX := Lib.hid hp
      have HPY := Lib.hid hr
      clear hp hr
      by_cases hpr : p = r
      · subst hpr
        have hq : (p != p) = false := by simp
        go_wp2
        go_quiet (fail)
        go_wp2
        go_roundw
        case rel => exact ⟨k + 1, by omega, by go_num, ⟨_, rfl⟩, by rw [List.take_add_one, List.take_add_one, HP.out, HPX.out, HPY.out]⟩
        case measure => simp [intOf]; omega
      · have hq : (p != r) = true := by simpa using hpr
        have ht' : t = false := by
          rw [← HT.out]
          refine decide_eq_false fun e => hpr ?_
          have h1 := HPX.out
          rw [e, HPY.out] at h1
          exact (Option.some.inj h1).symm
        subst ht'
        go_wp2
        go_quiet (fail)
        go_wp2
        go_ret
        exact ⟨rfl, _, World.drewN_drewN _ _ _⟩
    · have ht' : t = true := by
        rw [← HT.out]
        refine decide_eq_true ?_
        have := HP.out
        rwa [List.take_of_length_le (by have := HL.out; omega), List.take_of_length_le (by have := HL.out; omega)] at this
      subst ht'
      go_wp2
      go_ret
      exact ⟨rfl, _, rfl⟩
end Go.Proofs.Ytclnffpfbngjoaa

end

section
/- The contract of the check of a choice. -/
namespace Go.Proofs.Ytclnffpfbngjoaa
open Go Go.RowKit

def costL (a : Int) : List Int → Int
  | [] => 0
  | z :: r => costF a z + costL z r
def lastI (a : Int) : List Int → Int
  | [] => a
  | z :: r => lastI z r
theorem lastI_snoc (z : Int) : ∀ (xs : List Int) (a : Int), lastI a (xs ++ [z]) = z
  | [], _ => rfl
  | x :: r, _ => lastI_snoc z r x
theorem costL_snoc (z : Int) : ∀ (xs : List Int) (a : Int), costL a (xs ++ [z]) = costL a xs + costF (lastI a xs) z
  | [], a => by simp [costL, lastI]
  | x :: r, a => by simp only [List.cons_append, costL, lastI, costL_snoc z r x]; omega
theorem cost_bound {a b : Int} (ha : PosR a) (hb : PosR b) : 0 ≤ costF a b ∧ costF a b ≤ 210000000000 := by
  unfold costF wayF PosR at *
  split <;> omega
theorem lastI_in {a : Int} (ha : PosR a) : ∀ (xs : List Int), (∀ z ∈ xs, PosR z) → PosR (lastI a xs)
  | [], _ => ha
  | x :: r, h => lastI_in (h x (by simp)) r fun z hz => h z (List.mem_cons_of_mem _ hz)
theorem costL_bound : ∀ (xs : List Int) (a : Int), PosR a → (∀ z ∈ xs, PosR z) → 0 ≤ costL a xs ∧ costL a xs ≤ 210000000000 * xs.length
  | [], _, _, _ => by simp [costL]
  | x :: r, a, ha, h => by
    have h1 := cost_bound ha (h x (by simp))
    have h2 := costL_bound r x (h x (by simp)) fun z hz => h z (List.mem_cons_of_mem _ hz)
    simp only [costL, List.length_cons]
    omega
theorem turn_range {m : Mnt} {day : Int} {t : Tgt} {k : Int} (h : k ∈ turnsV m day t) : m.ls ≤ posK m day t k ∧ posK m day t k ≤ m.ms ∧ -21 ≤ k ∧ k ≤ 21 := by
  unfold turnsV turnsF turnsAt at h
  split at h
  · cases h
  · split at h
    · cases h
    · simp only at h
      unfold turnsL turnsTo at h
      rw [List.mem_filter, List.mem_map] at h
      obtain ⟨⟨i, hi, rfl⟩, hb⟩ := h
      have := List.mem_range.1 hi
      unfold turnB at hb
      rw [Bool.and_eq_true, decide_eq_true_eq, decide_eq_true_eq] at hb
      unfold posK
      exact ⟨hb.1, hb.2, by omega, by omega⟩
theorem path_range {m : Mnt} {day : Int} {l : List Tgt} {ks : List Int} (hp : pathOk m day l ks = true) : ∀ z ∈ pathL m day l ks, m.ls ≤ z ∧ z ≤ m.ms := by
  intro z hz
  obtain ⟨i, hi⟩ := List.getElem?_of_mem hz
  unfold pathL at hi
  rw [List.getElem?_zipWith] at hi
  cases ht : l[i]? with
  | none => rw [ht] at hi; cases hi
  | some t =>
    cases hk : ks[i]? with
    | none => rw [ht, hk] at hi; cases hi
    | some k =>
      rw [ht, hk] at hi
      have := path_at hp ht hk
      unfold turnOk at this
      have := turn_range (of_decide_eq_true this)
      cases hi
      exact ⟨this.1, this.2.1⟩
/-- The cost of a choice, and the error. -/
def choiceF (m : Mnt) (l : List Tgt) (day pos : Int) (ks : List Int) : Int × Int :=
  if pathErr m day l ks ≠ 0 then (0, pathErr m day l ks) else (costL pos (pathL m day l ks), 0)
theorem tour_right {m : Mnt} {l : List Tgt} {day pos : Int} (h : (tourF m l day pos).2 = 0) : mntErr m = 0 ∧ dayErr day = 0 ∧ (m.ls ≤ pos ∧ pos ≤ m.ms) ∧ l.length ≤ 20 ∧ ∀ i t, l[i]? = some t → stepErr m day l i t = 0 := by
  unfold tourF at h
  by_cases h1 : mntErr m ≠ 0
  · rw [if_pos h1] at h; exact absurd h h1
  rw [if_neg h1] at h
  by_cases h2 : dayErr day ≠ 0
  · rw [if_pos h2] at h; exact absurd h h2
  rw [if_neg h2] at h
  by_cases h3 : withinB pos m.ls m.ms = false
  · rw [if_pos h3] at h; cases h
  rw [if_neg h3] at h
  by_cases h4 : 20 < l.length
  · rw [if_pos h4] at h; cases h
  rw [if_neg h4] at h
  have h3 : withinB pos m.ls m.ms = true := by cases hx : withinB pos m.ls m.ms <;> simp_all
  refine ⟨by simpa using h1, by simpa using h2, (withinB_iff _ _ _).1 h3, by omega, fun i t ht => ?_⟩
  have := firstStep_zero _ _ _ h i t ht
  simpa using this
theorem pathErr_ok {m : Mnt} {day : Int} {l : List Tgt} {ks : List Int} (h : pathErr m day l ks = 0) : ks.length = l.length ∧ pathOk m day l ks = true := by
  unfold pathErr at h
  by_cases h1 : ks.length ≠ l.length
  · rw [if_pos h1] at h; cases h
  rw [if_neg h1] at h
  refine ⟨by simpa using h1, ?_⟩
  cases hp : pathOk m day l ks with
  | true => rfl
  | false => rw [hp, if_pos rfl] at h; cases h

set_option maxRecDepth 100000 in
set_option maxHeartbeats 4000000 in
theorem pchoice_is (m : Mnt) (day pos : Int) (l : List Tgt) (A : Option Addr) (n c : Nat) (At : Option Addr) (nt ct : Nat) (ks : List Int) (C E : Int) (hE : choiceF m l day pos ks = (C, E)) (w : World) (hx : MntAt m w) (hl : Reads w w.heap.size 6 A n (tgtCells l)) (hn : n ≤ c ∧ c ≤ 9223372036854775807) (hfit : ∀ t ∈ l, t.name.size ≤ maxLen)
    (hk : Reads w w.heap.size 1 At nt (ks.map (.int .i64))) (hnt : nt ≤ ct ∧ ct ≤ 9223372036854775807) (hT0 : (tourF m l day pos).2 = 0) :
    Calls Try.prog 14 #[m.val, .slice A n c, .agg #[.int .i64 day, .int .i64 pos], .slice At nt ct] w fun e w' => e = .returned (.tuple #[.int .i64 C, .int .i64 E]) ∧ Below w.heap.size w w' := by
  obtain ⟨r1, r2, ⟨r3, r4⟩, r5, -⟩ := tour_right hT0
  obtain ⟨⟨q1, q2, q3, q4⟩, -⟩ := mnt_right r1
  have hll := hl.tlen
  have HX := Lib.hid hx
  have HL := Lib.hid hl
  have HK := Lib.hid hk
  have HE := Lib.hid hE
  have HT0 := Lib.hid hT0
  have HLL := Lib.hid hll
  have hl20 : l.length ≤ 20 := r5
  have hn20 : n ≤ 20 := by rw [← hll]; exact r5
  have hposR : PosR pos := by unfold PosR; omega
  obtain ⟨p, hp⟩ : ∃ p, pathErr m day l ks = p := ⟨_, rfl⟩
  have HP := Lib.hid hp
  clear hx hl hk hE hT0 hll hp r1 r2
  unfold Mnt.val
  go_enter Try.func14, Try.ntmps14
  go_wp2_with fail
  generalize hwn : ((w.alloc (.cells #[.int .i64 (m.ls), .int .i64 (m.ms), .int .i64 (m.lo), .int .i64 (m.hi), .int .i64 (m.sp), .slice m.A1 m.n1 m.c1, .slice m.A2 m.n2 m.c2] 24)).alloc (.cells #[.int .i64 (day), .int .i64 (pos)] 26)) = w1
  have hbn : Below w.heap.size w w1 := by rw [← hwn]; repeat' (first | exact Below.refl _ _ | refine below_drewN ?_ _ | refine Below.drew ?_ | refine Below.alloc ?_ (by first | omega | (simp; done) | (simp; omega) | (simp [World.setCell]; omega)) _ | refine Below.setCell ?_ (by first | omega | (simp; done) | (simp; omega)) _)
  have HB1 := Lib.hid (show Below w.heap.size w w1 from hbn)
  have K0_1 := Lib.hid (show Blk w1 (w.heap.size) 24 #[.int .i64 (m.ls), .int .i64 (m.ms), .int .i64 (m.lo), .int .i64 (m.hi), .int .i64 (m.sp), .slice m.A1 m.n1 m.c1, .slice m.A2 m.n2 m.c2] by rw [← hwn]; repeat' (first | exact Blk.at_ _ (by first | rfl | (simp; done) | (simp; omega)) _ _ | refine Blk.drewN ?_ _ | refine Blk.drew ?_ | refine Blk.alloc ?_ _ | refine Blk.far ?_ (by first | omega | (simp; done) | (simp; omega)) _ | assumption))
  have K1_1 := Lib.hid (show Blk w1 (w.heap.size + 1) 26 #[.int .i64 (day), .int .i64 (pos)] by rw [← hwn]; repeat' (first | exact Blk.at_ _ (by first | rfl | (simp; done) | (simp; omega)) _ _ | refine Blk.drewN ?_ _ | refine Blk.drew ?_ | refine Blk.alloc ?_ _ | refine Blk.far ?_ (by first | omega | (simp; done) | (simp; omega)) _ | assumption))
  have HN1 := Lib.hid hbn
  have hz1 := hbn.size
  clear hwn hbn
  have l0_1 : w.heap.size < w1.heap.size := K0_1.out.lt
  have z0_0_1 : w1.cell? ⟨w.heap.size, 0, none⟩ = some (.int .i64 (m.ls)) := K0_1.out.cell 0
  have z0_1_1 : w1.cell? ⟨w.heap.size, 1, none⟩ = some (.int .i64 (m.ms)) := K0_1.out.cell 1
  have z0_2_1 : w1.cell? ⟨w.heap.size, 2, none⟩ = some (.int .i64 (m.lo)) := K0_1.out.cell 2
  have z0_3_1 : w1.cell? ⟨w.heap.size, 3, none⟩ = some (.int .i64 (m.hi)) := K0_1.out.cell 3
  have z0_4_1 : w1.cell? ⟨w.heap.size, 4, none⟩ = some (.int .i64 (m.sp)) := K0_1.out.cell 4
  have z0_5_1 : w1.cell? ⟨w.heap.size, 5, none⟩ = some (.slice m.A1 m.n1 m.c1) := K0_1.out.cell 5
  have z0_6_1 : w1.cell? ⟨w.heap.size, 6, none⟩ = some (.slice m.A2 m.n2 m.c2) := K0_1.out.cell 6
  have l1_1 : w.heap.size + 1 < w1.heap.size := K1_1.out.lt
  have z1_0_1 : w1.cell? ⟨w.heap.size + 1, 0, none⟩ = some (.int .i64 (day)) := K1_1.out.cell 0
  have z1_1_1 : w1.cell? ⟨w.heap.size + 1, 1, none⟩ = some (.int .i64 (pos)) := K1_1.out.cell 1
  refine (popen_any m day pos l A n c _ (HX.out.lay HB1.out) ((HL.out.below HB1.out).more HB1.out.size) hn hfit).mono ?_
  rintro e w2 ⟨-, hgood⟩
  obtain ⟨hb, tb, A9, c9, S, rfl, hta⟩ := hgood HT0.out
  have HTA := Lib.hid hta
  clear hgood hta
  have HB2 := Lib.hid (show Below w.heap.size w w2 from step_below hb (by repeat' (first | exact Below.refl _ _ | exact HB1.out | refine below_drewN ?_ _ | refine Below.drew ?_ | refine Below.alloc ?_ (by first | omega | (simp; done) | (simp; omega) | (simp [World.setCell]; omega)) _ | refine Below.setCell ?_ (by first | omega | (simp; done) | (simp; omega)) _ | assumption)))
  have K0_2 := Lib.hid (step_blk hb (show Blk _ (w.heap.size) 24 #[.int .i64 (m.ls), .int .i64 (m.ms), .int .i64 (m.lo), .int .i64 (m.hi), .int .i64 (m.sp), .slice m.A1 m.n1 m.c1, .slice m.A2 m.n2 m.c2] by repeat' (first | exact K0_1.out | exact K1_1.out | exact Blk.at_ _ (by first | rfl | (simp; done) | (simp; omega)) _ _ | refine Blk.drewN ?_ _ | refine Blk.drew ?_ | refine Blk.alloc ?_ _ | refine Blk.far ?_ (by first | omega | (simp; done) | (simp; omega)) _ | assumption)))
  have K1_2 := Lib.hid (step_blk hb (show Blk _ (w.heap.size + 1) 26 #[.int .i64 (day), .int .i64 (pos)] by repeat' (first | exact K0_1.out | exact K1_1.out | exact Blk.at_ _ (by first | rfl | (simp; done) | (simp; omega)) _ _ | refine Blk.drewN ?_ _ | refine Blk.drew ?_ | refine Blk.alloc ?_ _ | refine Blk.far ?_ (by first | omega | (simp; done) | (simp; omega)) _ | assumption)))
  have hz2 := hb.size
  try simp only [World.size_alloc, World.drewN, World.drew] at hz2
  clear hb K0_1 K1_1 z0_0_1 z0_1_1 z0_2_1 z0_3_1 z0_4_1 z0_5_1 z0_6_1 l0_1 z1_0_1 z1_1_1 l1_1
  have l0_2 : w.heap.size < w2.heap.size := K0_2.out.lt
  have z0_0_2 : w2.cell? ⟨w.heap.size, 0, none⟩ = some (.int .i64 (m.ls)) := K0_2.out.cell 0
  have z0_1_2 : w2.cell? ⟨w.heap.size, 1, none⟩ = some (.int .i64 (m.ms)) := K0_2.out.cell 1
  have z0_2_2 : w2.cell? ⟨w.heap.size, 2, none⟩ = some (.int .i64 (m.lo)) := K0_2.out.cell 2
  have z0_3_2 : w2.cell? ⟨w.heap.size, 3, none⟩ = some (.int .i64 (m.hi)) := K0_2.out.cell 3
  have z0_4_2 : w2.cell? ⟨w.heap.size, 4, none⟩ = some (.int .i64 (m.sp)) := K0_2.out.cell 4
  have z0_5_2 : w2.cell? ⟨w.heap.size, 5, none⟩ = some (.slice m.A1 m.n1 m.c1) := K0_2.out.cell 5
  have z0_6_2 : w2.cell? ⟨w.heap.size, 6, none⟩ = some (.slice m.A2 m.n2 m.c2) := K0_2.out.cell 6
  have l1_2 : w.heap.size + 1 < w2.heap.size := K1_2.out.lt
  have z1_0_2 : w2.cell? ⟨w.heap.size + 1, 0, none⟩ = some (.int .i64 (day)) := K1_2.out.cell 0
  have z1_1_2 : w2.cell? ⟨w.heap.size + 1, 1, none⟩ = some (.int .i64 (pos)) := K1_2.out.cell 1
  go_wp2_with fail
  refine (ppath_any m day pos l tb A9 c9 S At nt ct ks _ HTA.out ((HK.out.below HB2.out).more HB2.out.size) hnt hl20 p HP.out n HLL.out).mono ?_
  rintro e w3 ⟨hbad, hgood⟩
  by_cases hp0 : p = 0
  rotate_left
  · obtain ⟨rfl, hb⟩ := hbad hp0
    have hce : (C, E) = (0, p) := by rw [← HE.out]; unfold choiceF; rw [HP.out, if_pos hp0]
    cases hce
    have e1 : (E != 0) = true := by simpa using hp0
    clear hbad hgood
    have HB3 := Lib.hid (show Below w.heap.size w w3 from step_below hb (by repeat' (first | exact Below.refl _ _ | exact HB2.out | refine below_drewN ?_ _ | refine Below.drew ?_ | refine Below.alloc ?_ (by first | omega | (simp; done) | (simp; omega) | (simp [World.setCell]; omega)) _ | refine Below.setCell ?_ (by first | omega | (simp; done) | (simp; omega)) _ | assumption)))
    have K0_3 := Lib.hid (step_blk hb (show Blk _ (w.heap.size) 24 #[.int .i64 (m.ls), .int .i64 (m.ms), .int .i64 (m.lo), .int .i64 (m.hi), .int .i64 (m.sp), .slice m.A1 m.n1 m.c1, .slice m.A2 m.n2 m.c2] by repeat' (first | exact K0_2.out | exact K1_2.out | exact Blk.at_ _ (by first | rfl | (simp; done) | (simp; omega)) _ _ | refine Blk.drewN ?_ _ | refine Blk.drew ?_ | refine Blk.alloc ?_ _ | refine Blk.far ?_ (by first | omega | (simp; done) | (simp; omega)) _ | assumption)))
    have K1_3 := Lib.hid (step_blk hb (show Blk _ (w.heap.size + 1) 26 #[.int .i64 (day), .int .i64 (pos)] by repeat' (first | exact K0_2.out | exact K1_2.out | exact Blk.at_ _ (by first | rfl | (simp; done) | (simp; omega)) _ _ | refine Blk.drewN ?_ _ | refine Blk.drew ?_ | refine Blk.alloc ?_ _ | refine Blk.far ?_ (by first | omega | (simp; done) | (simp; omega)) _ | assumption)))
    have hz3 := hb.size
    try simp only [World.size_alloc, World.drewN, World.drew] at hz3
    clear hb K0_2 K1_2 z0_0_2 z0_1_2 z0_2_2 z0_3_2 z0_4_2 z0_5_2 z0_6_2 l0_2 z1_0_2 z1_1_2 l1_2
    have l0_3 : w.heap.size < w3.heap.size := K0_3.out.lt
    have z0_0_3 : w3.cell? ⟨w.heap.size, 0, none⟩ = some (.int .i64 (m.ls)) := K0_3.out.cell 0
    have z0_1_3 : w3.cell? ⟨w.heap.size, 1, none⟩ = some (.int .i64 (m.ms)) := K0_3.out.cell 1
    have z0_2_3 : w3.cell? ⟨w.heap.size, 2, none⟩ = some (.int .i64 (m.lo)) := K0_3.out.cell 2
    have z0_3_3 : w3.cell? ⟨w.heap.size, 3, none⟩ = some (.int .i64 (m.hi)) := K0_3.out.cell 3
    have z0_4_3 : w3.cell? ⟨w.heap.size, 4, none⟩ = some (.int .i64 (m.sp)) := K0_3.out.cell 4
    have z0_5_3 : w3.cell? ⟨w.heap.size, 5, none⟩ = some (.slice m.A1 m.n1 m.c1) := K0_3.out.cell 5
    have z0_6_3 : w3.cell? ⟨w.heap.size, 6, none⟩ = some (.slice m.A2 m.n2 m.c2) := K0_3.out.cell 6
    have l1_3 : w.heap.size + 1 < w3.heap.size := K1_3.out.lt
    have z1_0_3 : w3.cell? ⟨w.heap.size + 1, 0, none⟩ = some (.int .i64 (day)) := K1_3.out.cell 0
    have z1_1_3 : w3.cell? ⟨w.heap.size + 1, 1, none⟩ = some (.int .i64 (pos)) := K1_3.out.cell 1
    go_wp2
    go_ret2
    exact ⟨rfl, HB3.out⟩
  subst hp0
  obtain ⟨A8, c8, rfl, hb, hr⟩ := hgood rfl
  obtain ⟨hkl, hpo⟩ := pathErr_ok HP.out
  have hrng := path_range hpo
  have hce : (C, E) = (costL pos (pathL m day l ks), 0) := by rw [← HE.out]; unfold choiceF; rw [HP.out, if_neg (by simp)]
  obtain ⟨hC, rfl⟩ := Prod.mk.inj hce
  obtain ⟨P, hPl⟩ : ∃ P, pathL m day l ks = P := ⟨_, rfl⟩
  rw [hPl] at hr hrng hC
  have hPR : ∀ z ∈ P, PosR z := fun z hz => by have := hrng z hz; unfold PosR; omega
  have hplen : P.length = n := hr.ilen
  have HR := Lib.hid hr
  have HC := Lib.hid hC
  have HPR := Lib.hid hPR
  have HPL := Lib.hid hplen
  have HTB := Lib.hid (HTA.out.lay hb).blk
  clear hbad hgood hkl hpo hrng hce hC hPl hPR hr hplen HTA
  have HB3 := Lib.hid (show Below w.heap.size w w3 from step_below hb (by repeat' (first | exact Below.refl _ _ | exact HB2.out | refine below_drewN ?_ _ | refine Below.drew ?_ | refine Below.alloc ?_ (by first | omega | (simp; done) | (simp; omega) | (simp [World.setCell]; omega)) _ | refine Below.setCell ?_ (by first | omega | (simp; done) | (simp; omega)) _ | assumption)))
  have K0_3 := Lib.hid (step_blk hb (show Blk _ (w.heap.size) 24 #[.int .i64 (m.ls), .int .i64 (m.ms), .int .i64 (m.lo), .int .i64 (m.hi), .int .i64 (m.sp), .slice m.A1 m.n1 m.c1, .slice m.A2 m.n2 m.c2] by repeat' (first | exact K0_2.out | exact K1_2.out | exact Blk.at_ _ (by first | rfl | (simp; done) | (simp; omega)) _ _ | refine Blk.drewN ?_ _ | refine Blk.drew ?_ | refine Blk.alloc ?_ _ | refine Blk.far ?_ (by first | omega | (simp; done) | (simp; omega)) _ | assumption)))
  have K1_3 := Lib.hid (step_blk hb (show Blk _ (w.heap.size + 1) 26 #[.int .i64 (day), .int .i64 (pos)] by repeat' (first | exact K0_2.out | exact K1_2.out | exact Blk.at_ _ (by first | rfl | (simp; done) | (simp; omega)) _ _ | refine Blk.drewN ?_ _ | refine Blk.drew ?_ | refine Blk.alloc ?_ _ | refine Blk.far ?_ (by first | omega | (simp; done) | (simp; omega)) _ | assumption)))
  have hz3 := hb.size
  try simp only [World.size_alloc, World.drewN, World.drew] at hz3
  clear hb K0_2 K1_2 z0_0_2 z0_1_2 z0_2_2 z0_3_2 z0_4_2 z0_5_2 z0_6_2 l0_2 z1_0_2 z1_1_2 l1_2
  have l0_3 : w.heap.size < w3.heap.size := K0_3.out.lt
  have z0_0_3 : w3.cell? ⟨w.heap.size, 0, none⟩ = some (.int .i64 (m.ls)) := K0_3.out.cell 0
  have z0_1_3 : w3.cell? ⟨w.heap.size, 1, none⟩ = some (.int .i64 (m.ms)) := K0_3.out.cell 1
  have z0_2_3 : w3.cell? ⟨w.heap.size, 2, none⟩ = some (.int .i64 (m.lo)) := K0_3.out.cell 2
  have z0_3_3 : w3.cell? ⟨w.heap.size, 3, none⟩ = some (.int .i64 (m.hi)) := K0_3.out.cell 3
  have z0_4_3 : w3.cell? ⟨w.heap.size, 4, none⟩ = some (.int .i64 (m.sp)) := K0_3.out.cell 4
  have z0_5_3 : w3.cell? ⟨w.heap.size, 5, none⟩ = some (.slice m.A1 m.n1 m.c1) := K0_3.out.cell 5
  have z0_6_3 : w3.cell? ⟨w.heap.size, 6, none⟩ = some (.slice m.A2 m.n2 m.c2) := K0_3.out.cell 6
  have l1_3 : w.heap.size + 1 < w3.heap.size := K1_3.out.lt
  have z1_0_3 : w3.cell? ⟨w.heap.size + 1, 0, none⟩ = some (.int .i64 (day)) := K1_3.out.cell 0
  have z1_1_3 : w3.cell? ⟨w.heap.size + 1, 1, none⟩ = some (.int .i64 (pos)) := K1_3.out.cell 1
  go_wp2
  refine Fx.regionW (fun W f w' => Below W.heap.size W w') (by kernel_rfl) (by kernel_rfl) ?_ ?_
  · intro f hf0
    exact below_drewN (Below.refl _ _) 1
  repeat (first
    | (refine Fx.skip_ (by rfl) (fun f w h => h) ?_; simp only [Act.put, List.setIfInBounds_toArray, List.set_cons_zero, List.set_cons_succ])
    | (refine Fx.val_ ?_ (by rfl) ?_ (fun f w h => h) ?_
       rotate_left
       · intro f w' hD hk
         have hb := hD
         have kb0 := step_blk hb (show Blk _ (w.heap.size) 24 #[.int .i64 (m.ls), .int .i64 (m.ms), .int .i64 (m.lo), .int .i64 (m.hi), .int .i64 (m.sp), .slice m.A1 m.n1 m.c1, .slice m.A2 m.n2 m.c2] by repeat' (first | exact K0_3.out | exact K1_3.out | exact Blk.at_ _ (by first | rfl | (simp; done) | (simp; omega)) _ _ | refine Blk.drewN ?_ _ | refine Blk.drew ?_ | refine Blk.alloc ?_ _ | refine Blk.far ?_ (by first | omega | (simp; done) | (simp; omega)) _ | assumption))
         have y0_0 : w'.cell? ⟨w.heap.size, 0, none⟩ = some (.int .i64 (m.ls)) := kb0.cell 0
         have y0_1 : w'.cell? ⟨w.heap.size, 1, none⟩ = some (.int .i64 (m.ms)) := kb0.cell 1
         have y0_2 : w'.cell? ⟨w.heap.size, 2, none⟩ = some (.int .i64 (m.lo)) := kb0.cell 2
         have y0_3 : w'.cell? ⟨w.heap.size, 3, none⟩ = some (.int .i64 (m.hi)) := kb0.cell 3
         have y0_4 : w'.cell? ⟨w.heap.size, 4, none⟩ = some (.int .i64 (m.sp)) := kb0.cell 4
         have y0_5 : w'.cell? ⟨w.heap.size, 5, none⟩ = some (.slice m.A1 m.n1 m.c1) := kb0.cell 5
         have y0_6 : w'.cell? ⟨w.heap.size, 6, none⟩ = some (.slice m.A2 m.n2 m.c2) := kb0.cell 6
         have kb1 := step_blk hb (show Blk _ (w.heap.size + 1) 26 #[.int .i64 (day), .int .i64 (pos)] by repeat' (first | exact K0_3.out | exact K1_3.out | exact Blk.at_ _ (by first | rfl | (simp; done) | (simp; omega)) _ _ | refine Blk.drewN ?_ _ | refine Blk.drew ?_ | refine Blk.alloc ?_ _ | refine Blk.far ?_ (by first | omega | (simp; done) | (simp; omega)) _ | assumption))
         have y1_0 : w'.cell? ⟨w.heap.size + 1, 0, none⟩ = some (.int .i64 (day)) := kb1.cell 0
         have y1_1 : w'.cell? ⟨w.heap.size + 1, 1, none⟩ = some (.int .i64 (pos)) := kb1.cell 1
         have y0 : w'.cell? ⟨tb, 0, none⟩ = some (.int .i64 (pos)) := (step_blk hb HTB.out).cell 0
         clear kb0 kb1
         clear hk hD hb
         go_simp
         try rfl
       simp only [Act.put, List.setIfInBounds_toArray, List.set_cons_zero, List.set_cons_succ]))
  refine Fx.nil_ ?_
  intro f w4 hall hb
  try clear hall
  have HB34 := Lib.hid hb
  have HB4 := Lib.hid (show Below w.heap.size w w4 from step_below hb (by repeat' (first | exact Below.refl _ _ | exact HB3.out | refine below_drewN ?_ _ | refine Below.drew ?_ | refine Below.alloc ?_ (by first | omega | (simp; done) | (simp; omega) | (simp [World.setCell]; omega)) _ | refine Below.setCell ?_ (by first | omega | (simp; done) | (simp; omega)) _ | assumption)))
  have K0_4 := Lib.hid (step_blk hb (show Blk _ (w.heap.size) 24 #[.int .i64 (m.ls), .int .i64 (m.ms), .int .i64 (m.lo), .int .i64 (m.hi), .int .i64 (m.sp), .slice m.A1 m.n1 m.c1, .slice m.A2 m.n2 m.c2] by repeat' (first | exact K0_3.out | exact K1_3.out | exact Blk.at_ _ (by first | rfl | (simp; done) | (simp; omega)) _ _ | refine Blk.drewN ?_ _ | refine Blk.drew ?_ | refine Blk.alloc ?_ _ | refine Blk.far ?_ (by first | omega | (simp; done) | (simp; omega)) _ | assumption)))
  have K1_4 := Lib.hid (step_blk hb (show Blk _ (w.heap.size + 1) 26 #[.int .i64 (day), .int .i64 (pos)] by repeat' (first | exact K0_3.out | exact K1_3.out | exact Blk.at_ _ (by first | rfl | (simp; done) | (simp; omega)) _ _ | refine Blk.drewN ?_ _ | refine Blk.drew ?_ | refine Blk.alloc ?_ _ | refine Blk.far ?_ (by first | omega | (simp; done) | (simp; omega)) _ | assumption)))
  have hz4 := hb.size
  try simp only [World.size_alloc, World.drewN, World.drew] at hz4
  clear hb K0_3 K1_3 z0_0_3 z0_1_3 z0_2_3 z0_3_3 z0_4_3 z0_5_3 z0_6_3 l0_3 z1_0_3 z1_1_3 l1_3
  have l0_4 : w.heap.size < w4.heap.size := K0_4.out.lt
  have z0_0_4 : w4.cell? ⟨w.heap.size, 0, none⟩ = some (.int .i64 (m.ls)) := K0_4.out.cell 0
  have z0_1_4 : w4.cell? ⟨w.heap.size, 1, none⟩ = some (.int .i64 (m.ms)) := K0_4.out.cell 1
  have z0_2_4 : w4.cell? ⟨w.heap.size, 2, none⟩ = some (.int .i64 (m.lo)) := K0_4.out.cell 2
  have z0_3_4 : w4.cell? ⟨w.heap.size, 3, none⟩ = some (.int .i64 (m.hi)) := K0_4.out.cell 3
  have z0_4_4 : w4.cell? ⟨w.heap.size, 4, none⟩ = some (.int .i64 (m.sp)) := K0_4.out.cell 4
  have z0_5_4 : w4.cell? ⟨w.heap.size, 5, none⟩ = some (.slice m.A1 m.n1 m.c1) := K0_4.out.cell 5
  have z0_6_4 : w4.cell? ⟨w.heap.size, 6, none⟩ = some (.slice m.A2 m.n2 m.c2) := K0_4.out.cell 6
  have l1_4 : w.heap.size + 1 < w4.heap.size := K1_4.out.lt
  have z1_0_4 : w4.cell? ⟨w.heap.size + 1, 0, none⟩ = some (.int .i64 (day)) := K1_4.out.cell 0
  have z1_1_4 : w4.cell? ⟨w.heap.size + 1, 1, none⟩ = some (.int .i64 (pos)) := K1_4.out.cell 1
  go_wp2
  go_loop [14, 15, 44] (fun s f i => ∃ k : Nat, k ≤ n ∧ s = .int .i64 (costL pos (P.take k)) ∧ f = .int .i64 (lastI pos (P.take k)) ∧ i = .int .i64 k) (fun _ _ i => n - (intOf i).toNat)
  case atStart => exact ⟨0, by omega, by simp [costL], by simp [lastI], rfl⟩
  case round =>
    obtain ⟨k, hkn, rfl, rfl, rfl⟩ := hrel
    have hsub : ∀ z ∈ P.take k, PosR z := fun z hz => HPR.out z (List.mem_of_mem_take hz)
    have hcb := costL_bound (P.take k) pos hposR hsub
    have hlast := lastI_in hposR (P.take k) hsub
    have htl : (P.take k).length ≤ k := List.length_take_le _ _
    obtain ⟨s, hs⟩ : ∃ s, costL pos (P.take k) = s := ⟨_, rfl⟩
    obtain ⟨f, hf⟩ : ∃ f, lastI pos (P.take k) = f := ⟨_, rfl⟩
    rw [hs] at hcb ⊢
    rw [hf] at hlast ⊢
    obtain ⟨s1, s2⟩ := hcb
    have s3 : s ≤ 4200000000000 := by omega
    have HS := Lib.hid hs
    have HF := Lib.hid hf
    clear hs hf hsub s2
    by_cases hlt : k < n
    · obtain ⟨xb, xo, z, rfl, hxb, hz, d0⟩ := ((HR.out.below (show Below w3.heap.size w3 w4 from HB34.out)).more HB34.out.size).int_ hlt
      have hzR := HPR.out z (List.mem_of_getElem? hz)
      have hcz := cost_bound hlast hzR
      obtain ⟨q, hq⟩ : ∃ q, costF f z = q := ⟨_, rfl⟩
      rw [hq] at hcz
      obtain ⟨z1, z2⟩ := hcz
      have htk : P.take (k + 1) = P.take k ++ [z] := by rw [List.take_add_one, hz]; rfl
      have n1 : costL pos (P.take (k + 1)) = s + q := by rw [htk, costL_snoc, HS.out, HF.out, hq]
      have n2 : lastI pos (P.take (k + 1)) = z := by rw [htk, lastI_snoc]
      have N1 := Lib.hid n1
      have N2 := Lib.hid n2
      have HQ := Lib.hid hq
      clear hz hq htk n1 n2
      go_wp2_with fail
      refine (costpt_is f z q HQ.out _ hlast hzR).mono ?_
      rintro e w' ⟨rfl, rfl⟩
      go_wp2
      go_round
      case rel => exact ⟨k + 1, by omega, by rw [N1.out], by rw [N2.out], by go_num⟩
      case measure => simp [intOf]; omega
    · have hkn : k = n := by omega
      have hfin : s = C := by rw [HC.out, ← HS.out, List.take_of_length_le (by rw [HPL.out]; omega)]
      clear hkn
      subst hfin
      go_wp2
      go_ret2
      exact ⟨rfl, HB4.out⟩

end Go.Proofs.Ytclnffpfbngjoaa

end

section
/- The examples with which each statement begins are so. -/
namespace Go.Proofs.Ytclnffpfbngjoaa
open Go Go.RowKit

def NewAt (size n : Nat) (xs : List Value) (w : World) (e : Ending) (w' : World) : Prop := ∃ g, e = .returned (.slice (some ⟨g, 0, none⟩) n n) ∧ Below w.heap.size w w' ∧ w.heap.size ≤ g ∧ Reads w' w'.heap.size size (some ⟨g, 0, none⟩) n xs
theorem flat_any (v : Int) (w : World) : Calls Try.prog 37 #[.int .i64 v] w (NewAt 2 1 (cells2 [(0, v)]) w) := by
  go_enter Try.func37, Try.ntmps37
  go_wp2
  go_ret
  exact ⟨w.heap.size, rfl, by repeat' (first | exact Below.refl _ _ | refine below_drewN ?_ _ | refine Below.drew ?_ | refine Below.alloc ?_ (by first | omega | (simp; done) | (simp; omega) | (simp [World.setCell]; omega)) _ | refine Below.setCell ?_ (by first | omega | (simp; done) | (simp; omega)) _), Nat.le_refl _, Blk.reads (Blk.at_ _ rfl _ _) (by rfl)⟩

def forkM (a b : Nat) : Mnt := ⟨-700000, 1300000, 0, 324000, 100000, some ⟨a, 0, none⟩, 1, 1, [(0, 0)], some ⟨b, 0, none⟩, 1, 1, [(0, 0)]⟩
def ForkPost (w : World) (e : Ending) (w' : World) : Prop := ∃ a b, e = .returned (forkM a b).val ∧ Below w.heap.size w w' ∧ Reads w' w'.heap.size 2 (some ⟨a, 0, none⟩) 1 (cells2 [(0, 0)]) ∧ Reads w' w'.heap.size 2 (some ⟨b, 0, none⟩) 1 (cells2 [(0, 0)])
theorem Reads.other {w wq : World} {size n g x : Nat} {o : Nat} {xs : List Value} (h : Reads w w.heap.size size (some ⟨x, o, none⟩) n xs) (ho : ∀ q, q ≠ g → wq.heap[q]? = w.heap[q]?) (hs : wq.heap.size = w.heap.size) (hx : x ≠ g) : Reads wq wq.heap.size size (some ⟨x, o, none⟩) n xs := by
  refine ⟨h.1, fun hn => ?_⟩
  obtain ⟨b, o', e, hb, hc⟩ := h.2 hn
  cases e
  exact ⟨x, o, rfl, by omega, fun j v hv => (World.cell?_of_block (a := ⟨x, o + j, none⟩) (ho x hx)).trans (hc j v hv)⟩
set_option maxRecDepth 100000 in
set_option maxHeartbeats 2000000 in
theorem fork_any (w : World) : Calls Try.prog 15 #[] w (ForkPost w) := by
  go_enter Try.func15, Try.ntmps15
  go_wp2_with fail
  refine (flat_any 0 _).mono ?_
  rintro e w1 ⟨a, rfl, hb, hga, hr⟩
  have HB1 := Lib.hid (show Below w.heap.size w w1 from step_below hb (by repeat' (first | exact Below.refl _ _ | exact HB0.out | refine below_drewN ?_ _ | refine Below.drew ?_ | refine Below.alloc ?_ (by first | omega | (simp; done) | (simp; omega) | (simp [World.setCell]; omega)) _ | refine Below.setCell ?_ (by first | omega | (simp; done) | (simp; omega)) _ | assumption)))
  have K0_1 := Lib.hid (step_blk hb (show Blk _ (w.heap.size) 24 #[.int .i64 (0), .int .i64 (0), .int .i64 (0), .int .i64 (0), .int .i64 (0), .slice none 0 0, .slice none 0 0] by repeat' (first | exact Blk.at_ _ (by first | rfl | (simp; done) | (simp; omega)) _ _ | refine Blk.drewN ?_ _ | refine Blk.drew ?_ | refine Blk.alloc ?_ _ | refine Blk.far ?_ (by first | omega | (simp; done) | (simp; omega)) _ | assumption)))
  have hz1 := hb.size
  try simp only [World.size_alloc, World.drewN, World.drew] at hz1
  clear hb
  have l0_1 : w.heap.size < w1.heap.size := K0_1.out.lt
  have z0_0_1 : w1.cell? ⟨w.heap.size, 0, none⟩ = some (.int .i64 (0)) := K0_1.out.cell 0
  have z0_1_1 : w1.cell? ⟨w.heap.size, 1, none⟩ = some (.int .i64 (0)) := K0_1.out.cell 1
  have z0_2_1 : w1.cell? ⟨w.heap.size, 2, none⟩ = some (.int .i64 (0)) := K0_1.out.cell 2
  have z0_3_1 : w1.cell? ⟨w.heap.size, 3, none⟩ = some (.int .i64 (0)) := K0_1.out.cell 3
  have z0_4_1 : w1.cell? ⟨w.heap.size, 4, none⟩ = some (.int .i64 (0)) := K0_1.out.cell 4
  have z0_5_1 : w1.cell? ⟨w.heap.size, 5, none⟩ = some (.slice none 0 0) := K0_1.out.cell 5
  have z0_6_1 : w1.cell? ⟨w.heap.size, 6, none⟩ = some (.slice none 0 0) := K0_1.out.cell 6
  simp only [World.size_alloc] at hga
  have R0_1 := Lib.hid hr
  clear hr
  go_wp2_with fail
  refine (flat_any 0 _).mono ?_
  rintro e w2 ⟨b, rfl, hb, hgb, hr⟩
  have HB2 := Lib.hid (show Below w.heap.size w w2 from step_below hb (by repeat' (first | exact Below.refl _ _ | exact HB1.out | refine below_drewN ?_ _ | refine Below.drew ?_ | refine Below.alloc ?_ (by first | omega | (simp; done) | (simp; omega) | (simp [World.setCell]; omega)) _ | refine Below.setCell ?_ (by first | omega | (simp; done) | (simp; omega)) _ | assumption)))
  have K0_2 := Lib.hid (step_blk hb (show Blk _ (w.heap.size) 24 #[.int .i64 (0), .int .i64 (0), .int .i64 (0), .int .i64 (0), .int .i64 (0), .slice none 0 0, .slice none 0 0] by repeat' (first | exact K0_1.out | exact Blk.at_ _ (by first | rfl | (simp; done) | (simp; omega)) _ _ | refine Blk.drewN ?_ _ | refine Blk.drew ?_ | refine Blk.alloc ?_ _ | refine Blk.far ?_ (by first | omega | (simp; done) | (simp; omega)) _ | assumption)))
  have hL2 := Lib.hid (show Below w1.heap.size w1 _ from reads_mid hb (by repeat' (first | exact Below.refl _ _ | refine below_drewN ?_ _ | refine Below.drew ?_ | refine Below.alloc ?_ (by first | omega | (simp; done) | (simp; omega) | (simp [World.setCell]; omega)) _ | refine Below.setCell ?_ (by first | omega | (simp; done) | (simp; omega)) _)))
  have R0_2 := Lib.hid (reads_lay hb hL2.out R0_1.out)
  clear hL2 R0_1
  have hz2 := hb.size
  try simp only [World.size_alloc, World.drewN, World.drew] at hz2
  clear hb K0_1 z0_0_1 z0_1_1 z0_2_1 z0_3_1 z0_4_1 z0_5_1 z0_6_1 l0_1
  have l0_2 : w.heap.size < w2.heap.size := K0_2.out.lt
  have z0_0_2 : w2.cell? ⟨w.heap.size, 0, none⟩ = some (.int .i64 (0)) := K0_2.out.cell 0
  have z0_1_2 : w2.cell? ⟨w.heap.size, 1, none⟩ = some (.int .i64 (0)) := K0_2.out.cell 1
  have z0_2_2 : w2.cell? ⟨w.heap.size, 2, none⟩ = some (.int .i64 (0)) := K0_2.out.cell 2
  have z0_3_2 : w2.cell? ⟨w.heap.size, 3, none⟩ = some (.int .i64 (0)) := K0_2.out.cell 3
  have z0_4_2 : w2.cell? ⟨w.heap.size, 4, none⟩ = some (.int .i64 (0)) := K0_2.out.cell 4
  have z0_5_2 : w2.cell? ⟨w.heap.size, 5, none⟩ = some (.slice none 0 0) := K0_2.out.cell 5
  have z0_6_2 : w2.cell? ⟨w.heap.size, 6, none⟩ = some (.slice none 0 0) := K0_2.out.cell 6
  have R1_2 := Lib.hid hr
  clear hr
  have zf0_0 := K0_2.out.frozen 0
  have zf0_1 := K0_2.out.frozen 1
  have zf0_2 := K0_2.out.frozen 2
  have zf0_3 := K0_2.out.frozen 3
  have zf0_4 := K0_2.out.frozen 4
  have zf0_5 := K0_2.out.frozen 5
  have zf0_6 := K0_2.out.frozen 6
  go_wp2
  generalize hwq : World.setCell _ _ _ = wq
  have hq : Blk wq w.heap.size 24 #[.int .i64 (-700000), .int .i64 1300000, .int .i64 0, .int .i64 324000, .int .i64 100000, .slice (some ⟨a, 0, none⟩) 1 1, .slice (some ⟨b, 0, none⟩) 1 1] := by
    rw [← hwq]
    have := (((((((K0_2.out.set_ 0 (.int .i64 (-700000))).set_ 1 (.int .i64 1300000)).set_ 2 (.int .i64 0)).set_ 3 (.int .i64 324000)).set_ 4 (.int .i64 100000)).set_ 5 (.slice (some ⟨a, 0, none⟩) 1 1)).set_ 6 (.slice (some ⟨b, 0, none⟩) 1 1))
    simpa only [List.setIfInBounds_toArray, List.set_cons_zero, List.set_cons_succ] using this
  have hbq : Below w.heap.size w wq := by rw [← hwq]; exact (Below.setCell (Below.setCell (Below.setCell (Below.setCell (Below.setCell (Below.setCell (Below.setCell HB2.out (p := ⟨w.heap.size, 0, none⟩) (Nat.le_refl _) _) (p := ⟨w.heap.size, 1, none⟩) (Nat.le_refl _) _) (p := ⟨w.heap.size, 2, none⟩) (Nat.le_refl _) _) (p := ⟨w.heap.size, 3, none⟩) (Nat.le_refl _) _) (p := ⟨w.heap.size, 4, none⟩) (Nat.le_refl _) _) (p := ⟨w.heap.size, 5, none⟩) (Nat.le_refl _) _) (p := ⟨w.heap.size, 6, none⟩) (Nat.le_refl _) _)
  have ho : ∀ q, q ≠ w.heap.size → wq.heap[q]? = w2.heap[q]? := fun q hne => by
    rw [← hwq]
    iterate 7 (refine (Below.heap_setCell _ _ _ _ (by simpa using hne)).trans ?_)
    rfl
  have hsz : wq.heap.size = w2.heap.size := by rw [← hwq]; simp [World.setCell]
  clear hwq
  have hr1 := Reads.other R0_2.out ho hsz (by omega)
  have hr2 := Reads.other R1_2.out ho hsz (by omega)
  have q0 := hq.cell 0
  have q1 := hq.cell 1
  have q2 := hq.cell 2
  have q3 := hq.cell 3
  have q4 := hq.cell 4
  have q5 := hq.cell 5
  have q6 := hq.cell 6
  have ql := hq.lt
  refine bodyPost_ret (v := .agg #[.int .i64 (-700000), .int .i64 1300000, .int .i64 0, .int .i64 324000, .int .i64 100000, .slice (some ⟨a, 0, none⟩) 1 1, .slice (some ⟨b, 0, none⟩) 1 1]) ?_ rfl ?_
  · simp [results, Try.results15, go_sem, q0, q1, q2, q3, q4, q5, q6, ql]
  · exact ⟨a, b, rfl, hbq, hr1, hr2⟩

def nightL : List Tgt := [⟨⟨#[97]⟩, 600000, 0, 0, 1000, 5⟩, ⟨⟨#[98]⟩, 1200000, 0, 0, 1000, 5⟩, ⟨⟨#[99]⟩, 500000, 0, 0, 1000, 5⟩]
theorem night_any (w : World) : Calls Try.prog 16 #[] w (NewAt 6 3 (tgtCells nightL) w) := by
  go_enter Try.func16, Try.ntmps16
  go_wp2
  go_ret
  exact ⟨w.heap.size, rfl, by repeat' (first | exact Below.refl _ _ | refine below_drewN ?_ _ | refine Below.drew ?_ | refine Below.alloc ?_ (by first | omega | (simp; done) | (simp; omega) | (simp [World.setCell]; omega)) _ | refine Below.setCell ?_ (by first | omega | (simp; done) | (simp; omega)) _), Nat.le_refl _, Blk.reads (Blk.at_ _ rfl _ _) (by rfl)⟩
theorem night_fits : ∀ t ∈ nightL, t.name.size ≤ maxLen := by
  intro t ht
  simp only [nightL, List.mem_cons, List.not_mem_nil, or_false] at ht
  rcases ht with rfl | rfl | rfl <;> decide

def star3 (x y z : Nat) : List Star := [⟨some ⟨x, 0, none⟩, 2, 2, [1, 0], 1⟩, ⟨some ⟨y, 0, none⟩, 2, 2, [1, 1], 2⟩, ⟨some ⟨z, 0, none⟩, 2, 2, [1, 2], 4⟩]
theorem star3_fit (x y z : Nat) : fitF (star3 x y z) = (([5, 9], 6), 0) := by kernel_rfl
theorem star3_ok (x y z : Nat) : (starsF (star3 x y z)).2 = 0 := by kernel_rfl
theorem awake_tour (a b : Nat) : (tourF (forkM a b) nightL 0 0).2 = 0 := by kernel_rfl
theorem awake_choice (a b : Nat) : choiceF (forkM a b) nightL 0 0 [0, -1, 0] = (10001892000, 0) := of_decide_eq_true (by kernel_rfl)
theorem awake_tab : tabAt [(0, 10), (100, 0)] 35 = 6 := by kernel_rfl
theorem awake_taberr : tabErr [(0, 10), (100, 0)] = 0 := by kernel_rfl

def AwFit (w : World) (e : Ending) (w' : World) : Prop := ∃ A c, e = .returned (.tuple #[.agg #[.slice A 2 c, .int .i64 6], .int .i64 0]) ∧ Below w.heap.size w w' ∧ Reads w' w'.heap.size 1 A 2 (([5, 9] : List Int).map (.int .i64))
theorem awake_fit (x y z : Nat) (A : Option Addr) (c : Nat) (w : World) (hx : StarsAt (star3 x y z) A 3 w) : Calls Try.prog 13 #[.slice A 3 c] w (AwFit w) :=
  (pfit_any (star3 x y z) A 3 c (star3_ok x y z) w hx).mono fun e w' ⟨A', c', he, hb, hr, _⟩ => by
    rw [star3_fit] at he hr
    exact ⟨A', c', he, hb, hr⟩
theorem stars3_at {w : World} {g0 g1 g2 g3 : Nat} {t u : TypeId} (h0 : Blk w g0 t #[.int .i64 1, .int .i64 0]) (h1 : Blk w g1 t #[.int .i64 1, .int .i64 1]) (h2 : Blk w g2 t #[.int .i64 1, .int .i64 2])
    (h3 : Blk w g3 u #[.slice (some ⟨g0, 0, none⟩) 2 2, .int .i64 1, .slice (some ⟨g1, 0, none⟩) 2 2, .int .i64 2, .slice (some ⟨g2, 0, none⟩) 2 2, .int .i64 4]) : StarsAt (star3 g0 g1 g2) (some ⟨g3, 0, none⟩) 3 w := by
  refine ⟨Blk.reads h3 (by kernel_rfl), fun s hs => ?_⟩
  simp only [star3, List.mem_cons, List.not_mem_nil, or_false] at hs
  rcases hs with rfl | rfl | rfl
  · exact ⟨⟨Nat.le_refl 2, by show 2 ≤ _; omega⟩, Blk.reads h0 (by rfl)⟩
  · exact ⟨⟨Nat.le_refl 2, by show 2 ≤ _; omega⟩, Blk.reads h1 (by rfl)⟩
  · exact ⟨⟨Nat.le_refl 2, by show 2 ≤ _; omega⟩, Blk.reads h2 (by rfl)⟩

end Go.Proofs.Ytclnffpfbngjoaa

end
