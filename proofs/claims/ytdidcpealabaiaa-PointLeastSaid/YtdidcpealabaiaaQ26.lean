import Derived.Test.YtdidcpealabaiaaQ24
import Derived.Test.YtdidcpealabaiaaQ20

section
/- Contracts of the reference's functions on choices: whether a list has a number, positions, costs, the check of a choice. -/
namespace Go.Proofs.Ytdidcpealabaiaa
open Go Go.RowKit

theorem has_is (A : Option Addr) (n c N : Nat) (l : List Int) (z : Int) (t : Bool) (ht : decide (z ∈ l) = t) (w : World) (hx : Reads w N 1 A n (l.map (.int .i64))) (hn : n ≤ 9223372036854775807) :
    Calls Try.prog 60 #[.slice A n c, .int .i64 z] w fun e w' => e = .returned (.bool t) ∧ w = w' := by
  have hl := hx.ilen
  have HX := Lib.hid hx
  have HL := Lib.hid hl
  have HT := Lib.hid ht
  clear hx hl ht
  go_enter Try.func60, Try.ntmps60
  go_wp2
  go_loopw [5] (fun i wr => ∃ k : Nat, k ≤ n ∧ i = .int .i64 k ∧ wr = w ∧ z ∉ l.take k) (fun i _ => n - (intOf i).toNat)
  case atStart => exact ⟨0, by omega, rfl, rfl, by simp⟩
  case round =>
    obtain ⟨k, hk, rfl, rfl, hpre⟩ := hrel
    have HP := Lib.hid hpre
    clear hpre
    by_cases hlt : k < n
    · obtain ⟨xb, xo, u, rfl, -, hu, c0⟩ := HX.out.int_ hlt
      have HU := Lib.hid hu
      have hkk : (k : Int) < (n : Int) := by omega
      clear hu
      by_cases he : u = z
      · subst he
        have ht' : t = true := by rw [← HT.out]; exact decide_eq_true (List.mem_of_getElem? HU.out)
        subst ht'
        have hq : (u == u) = true := by simp
        go_wp2
        go_ret
        exact ⟨rfl, rfl⟩
      · have hq : (u == z) = false := by simpa using he
        go_wp2
        go_roundw
        case rel =>
          refine ⟨k + 1, by omega, by go_num, trivial, ?_⟩
          rw [List.take_add_one, HU.out]
          intro hm
          rcases List.mem_append.1 hm with h | h
          · exact HP.out h
          · exact he (by simp at h; exact h.symm)
        case measure => simp [intOf]; omega
    · have ht' : t = false := by
        rw [← HT.out]
        refine decide_eq_false ?_
        have := HP.out
        rwa [List.take_of_length_le (by have := HL.out; omega)] at this
      subst ht'
      go_wp2
      go_ret
      exact ⟨rfl, rfl⟩

set_option maxRecDepth 100000 in
theorem rposition_is (m : Mnt) (t : Tgt) (day k X Y v : Int) (hA : appF m t day = (X, Y)) (hv : X + k * 1296000 = v) (hk : -1000 ≤ k ∧ k ≤ 1000) (w : World) (hx : MntAt m w) (hm : mntErr m = 0) (ht : tgtErr t = 0) (hd : dayErr day = 0) :
    Calls Try.prog 101 #[m.val, t.val, .int .i64 day, .int .i64 k] w fun e w' => e = .returned (.int .i64 v) ∧ Below w.heap.size w w' := by
  have hin := app_in (day := day) hm ht
  rw [hA] at hin
  obtain ⟨i1, i2, -, -⟩ := hin
  simp only at i1 i2
  obtain ⟨k1, k2⟩ := hk
  have HX := Lib.hid hx
  have HA := Lib.hid hA
  have HM := Lib.hid hm
  have HT := Lib.hid ht
  have HD := Lib.hid hd
  have e1 := IntWalk.i64_in (k * 1296000) ⟨by omega, by omega⟩
  have e2 := IntWalk.i64_in v ⟨by omega, by omega⟩
  clear hx hA hm ht hd
  unfold Mnt.val Tgt.val
  go_enter Try.func101, Try.ntmps101
  go_wp2_with fail
  refine (rapparent_is m t day X Y HA.out _ (HX.out.lay (by repeat' (first | exact Below.refl _ _ | refine below_drewN ?_ _ | refine Below.drew ?_ | refine Below.alloc ?_ (by first | omega | (simp; done) | (simp; omega) | (simp [World.setCell]; omega)) _ | refine Below.setCell ?_ (by first | omega | (simp; done) | (simp; omega)) _))) HM.out HT.out HD.out).mono ?_
  rintro e w1 ⟨rfl, hb⟩
  have HB1 := Lib.hid (show Below w.heap.size w w1 from step_below hb (by repeat' (first | exact Below.refl _ _ | exact HB0.out | refine below_drewN ?_ _ | refine Below.drew ?_ | refine Below.alloc ?_ (by first | omega | (simp; done) | (simp; omega) | (simp [World.setCell]; omega)) _ | refine Below.setCell ?_ (by first | omega | (simp; done) | (simp; omega)) _ | assumption)))
  have K0_1 := Lib.hid (step_blk hb (show Blk _ (w.heap.size) 58 #[.int .i64 (m.ls), .int .i64 (m.ms), .int .i64 (m.lo), .int .i64 (m.hi), .int .i64 (m.sp), .slice m.A1 m.n1 m.c1, .slice m.A2 m.n2 m.c2] by repeat' (first | exact Blk.at_ _ (by first | rfl | (simp; done) | (simp; omega)) _ _ | refine Blk.drewN ?_ _ | refine Blk.drew ?_ | refine Blk.alloc ?_ _ | refine Blk.far ?_ (by first | omega | (simp; done) | (simp; omega)) _ | assumption)))
  have K1_1 := Lib.hid (step_blk hb (show Blk _ (w.heap.size + 1) 75 #[.string t.name, .int .i64 (t.az), .int .i64 (t.ht), .int .i64 (t.fr), .int .i64 (t.to), .int .i64 (t.dw)] by repeat' (first | exact Blk.at_ _ (by first | rfl | (simp; done) | (simp; omega)) _ _ | refine Blk.drewN ?_ _ | refine Blk.drew ?_ | refine Blk.alloc ?_ _ | refine Blk.far ?_ (by first | omega | (simp; done) | (simp; omega)) _ | assumption)))
  have hz1 := hb.size
  try simp only [World.size_alloc, World.drewN, World.drew] at hz1
  clear hb
  have l0_1 : w.heap.size < w1.heap.size := K0_1.out.lt
  have z0_0_1 : w1.cell? ⟨w.heap.size, 0, none⟩ = some (.int .i64 (m.ls)) := K0_1.out.cell 0
  have z0_1_1 : w1.cell? ⟨w.heap.size, 1, none⟩ = some (.int .i64 (m.ms)) := K0_1.out.cell 1
  have z0_2_1 : w1.cell? ⟨w.heap.size, 2, none⟩ = some (.int .i64 (m.lo)) := K0_1.out.cell 2
  have z0_3_1 : w1.cell? ⟨w.heap.size, 3, none⟩ = some (.int .i64 (m.hi)) := K0_1.out.cell 3
  have z0_4_1 : w1.cell? ⟨w.heap.size, 4, none⟩ = some (.int .i64 (m.sp)) := K0_1.out.cell 4
  have z0_5_1 : w1.cell? ⟨w.heap.size, 5, none⟩ = some (.slice m.A1 m.n1 m.c1) := K0_1.out.cell 5
  have z0_6_1 : w1.cell? ⟨w.heap.size, 6, none⟩ = some (.slice m.A2 m.n2 m.c2) := K0_1.out.cell 6
  have l1_1 : w.heap.size + 1 < w1.heap.size := K1_1.out.lt
  have z1_0_1 : w1.cell? ⟨w.heap.size + 1, 0, none⟩ = some (.string t.name) := K1_1.out.cell 0
  have z1_1_1 : w1.cell? ⟨w.heap.size + 1, 1, none⟩ = some (.int .i64 (t.az)) := K1_1.out.cell 1
  have z1_2_1 : w1.cell? ⟨w.heap.size + 1, 2, none⟩ = some (.int .i64 (t.ht)) := K1_1.out.cell 2
  have z1_3_1 : w1.cell? ⟨w.heap.size + 1, 3, none⟩ = some (.int .i64 (t.fr)) := K1_1.out.cell 3
  have z1_4_1 : w1.cell? ⟨w.heap.size + 1, 4, none⟩ = some (.int .i64 (t.to)) := K1_1.out.cell 4
  have z1_5_1 : w1.cell? ⟨w.heap.size + 1, 5, none⟩ = some (.int .i64 (t.dw)) := K1_1.out.cell 5
  rw [← hv] at e2
  have i0 : ∀ w, (Instr.index 60 (.agg #[.int .i64 X, .int .i64 Y]) (.int .i64 0)).run Try.prog w = .ok (.int .i64 X) w := fun _ => by kernel_rfl
  go_wp2
  go_ret
  exact ⟨rfl, HB1.out⟩

theorem rway9_is (a b : Int) (n : Int) (t : Bool) (hn : wayF a b = n) (ht : decide (648000 < n) = t) (w : World) (h1 : PosR a) (h2 : PosR b) :
    Calls Try.prog 154 #[.int .i64 a, .int .i64 b] w fun e w' => e = .returned (.tuple #[.int .i64 n, .bool t]) ∧ w = w' := by
  unfold PosR at h1 h2
  have hs := IntWalk.i64_in (b - a) ⟨by omega, by omega⟩
  have hn' : ((b - a).natAbs : Int) = n := by rw [← hn]; unfold wayF; omega
  have HN := Lib.hid hn'
  have HT := Lib.hid ht
  have HB := Lib.hid (And.intro h1 h2)
  clear hn hn' ht
  go_enter Try.func154, Try.ntmps154
  go_wp2_with fail
  refine (abs_in _ _ (by have := HB.out; omega) (by have := HB.out; omega)).mono ?_
  rintro e w' ⟨rfl, rfl⟩
  rw [HN.out]
  go_wp2
  go_ret2
  exact ⟨by rw [← HT.out]; first | done | rfl, rfl⟩
theorem rcost9_is (a b : Int) (n : Int) (hn : costF a b = n) (w : World) (h1 : PosR a) (h2 : PosR b) :
    Calls Try.prog 102 #[.int .i64 a, .int .i64 b] w fun e w' => e = .returned (.int .i64 n) ∧ w = w' := by
  obtain ⟨p, hp⟩ : ∃ p, wayF a b = p := ⟨_, rfl⟩
  have hpb : 0 ≤ p ∧ p ≤ 200000000000 := by rw [← hp]; unfold wayF PosR at *; omega
  obtain ⟨p1, p2⟩ := hpb
  have HP := Lib.hid hp
  by_cases hc : 648000 < p
  · have hd := Lib.hid (decide_eq_true hc)
    have hn' : n = p + 10000000000 := by rw [← hn]; unfold costF; rw [hp, if_pos hc]
    subst hn'
    have e2 := IntWalk.i64_in (p + 10000000000) ⟨by omega, by omega⟩
    clear hn hp hc
    go_enter Try.func102, Try.ntmps102
    go_wp2_with fail
    refine (rway9_is a b p true HP.out hd.out _ h1 h2).mono ?_
    rintro e w' ⟨rfl, rfl⟩
    go_wp2
    go_ret
    exact ⟨rfl, rfl⟩
  · have hd := Lib.hid (decide_eq_false hc)
    have hn' : n = p := by rw [← hn]; unfold costF; rw [hp, if_neg hc]
    subst hn'
    clear hn hp hc
    go_enter Try.func102, Try.ntmps102
    go_wp2_with fail
    refine (rway9_is a b n false HP.out hd.out _ h1 h2).mono ?_
    rintro e w' ⟨rfl, rfl⟩
    go_wp2
    go_ret
    exact ⟨rfl, rfl⟩
theorem tour_each {m : Mnt} {l : List Tgt} {day pos : Int} (h : (tourF m l day pos).2 = 0) {i : Nat} {t : Tgt} (ht : l[i]? = some t) : tgtErr t = 0 ∧ (turnsF m t day).2 = 0 := by
  have hs := (tour_right h).2.2.2.2 i t ht
  unfold stepErr at hs
  by_cases h0 : nextErr (l.take i) t ≠ 0
  · rw [if_pos h0] at hs; exact absurd hs h0
  · rw [if_neg h0] at hs
    exact ⟨(next_zero (Decidable.not_not.1 h0)).1, hs⟩
/-- What is known of a right tour, target by target. -/
theorem turn_ok_iff {m : Mnt} {day : Int} {t : Tgt} {k X Y : Int} {L : List Int} {F : Int} (hA : appF m t day = (X, Y)) (hT : turnsAt m X Y = (L, F)) : turnOk m day t k = decide (k ∈ L) ∧ posK m day t k = X + k * 1296000 := by
  unfold turnOk turnsV turnsF posK
  rw [hA]
  simp [hT]
theorem turnsAt_len43 {m : Mnt} {X Y : Int} {L : List Int} {F : Int} (h : turnsAt m X Y = (L, F)) : L.length ≤ 43 := by
  rw [← show (turnsAt m X Y).1 = L by rw [h]]
  unfold turnsAt
  split
  · simp
  · split
    · simp
    · exact turnsTo_len _ _ _ _
theorem path_pre {m : Mnt} {day : Int} {l : List Tgt} {ks : List Int} {k : Nat} (h : ∀ (j : Nat) t z, j < k → l[j]? = some t → ks[j]? = some z → turnOk m day t z = true) : ∀ y ∈ (pathL m day l ks).take k, m.ls ≤ y ∧ y ≤ m.ms := by
  intro y hy
  obtain ⟨j, hj⟩ := List.getElem?_of_mem hy
  rw [List.getElem?_take] at hj
  split at hj
  · rename_i hjk
    unfold pathL at hj
    rw [List.getElem?_zipWith] at hj
    cases ht : l[j]? with
    | none => rw [ht] at hj; cases hj
    | some t =>
      cases hz : ks[j]? with
      | none => rw [ht, hz] at hj; cases hj
      | some z =>
        rw [ht, hz] at hj
        have := h j t z hjk ht hz
        obtain ⟨h1, h2, -⟩ := turn_range (of_decide_eq_true this)
        cases hj
        exact ⟨h1, h2⟩
  · cases hj
set_option maxRecDepth 100000 in
set_option maxHeartbeats 4000000 in
theorem rchoice_is (m : Mnt) (day pos : Int) (l : List Tgt) (A : Option Addr) (n c : Nat) (At : Option Addr) (nt ct : Nat) (ks : List Int) (C E : Int) (hE : choiceF m l day pos ks = (C, E)) (w : World) (hx : MntAt m w) (hl : Reads w w.heap.size 6 A n (tgtCells l)) (hn : n ≤ 9223372036854775807)
    (hk : Reads w w.heap.size 1 At nt (ks.map (.int .i64))) (hnt : nt ≤ 9223372036854775807) (hT0 : (tourF m l day pos).2 = 0) :
    Calls Try.prog 38 #[m.val, .slice A n c, .agg #[.int .i64 day, .int .i64 pos], .slice At nt ct] w fun e w' => e = .returned (.tuple #[.int .i64 C, .int .i64 E]) ∧ Below w.heap.size w w' := by
  obtain ⟨r1, r2, ⟨r3, r4⟩, r5, -⟩ := tour_right hT0
  obtain ⟨⟨q1, q2, q3, q4⟩, -⟩ := mnt_right r1
  have hposR : PosR pos := by unfold PosR; omega
  have hll := hl.tlen
  have hkl := hk.ilen
  have hn20 : n ≤ 20 := by omega
  have HX := Lib.hid hx
  have HL := Lib.hid hl
  have HK := Lib.hid hk
  have HE := Lib.hid hE
  have HT0 := Lib.hid hT0
  have HLL := Lib.hid hll
  have HKL := Lib.hid hkl
  have HM := Lib.hid r1
  have HD := Lib.hid r2
  clear hx hl hk hE hT0 hll hkl r1 r2 r5
  unfold Mnt.val
  by_cases hne : nt = n
  rotate_left
  · have hb : ((nt : Int) != (n : Int)) = true := by simpa using (show (nt : Int) ≠ n by omega)
    have hce : (C, E) = (0, 10) := by rw [← HE.out]; unfold choiceF pathErr; rw [if_pos (show ks.length ≠ l.length by rw [HKL.out, HLL.out]; exact hne)]; simp
    obtain ⟨rfl, rfl⟩ : C = 0 ∧ E = 10 := by simpa using hce
    clear hce hne
    go_enter Try.func38, Try.ntmps38
    go_wp2
    go_ret2
    exact ⟨rfl, by repeat' (first | exact Below.refl _ _ | refine below_drewN ?_ _ | refine Below.drew ?_ | refine Below.alloc ?_ (by first | omega | (simp; done) | (simp; omega) | (simp [World.setCell]; omega)) _ | refine Below.setCell ?_ (by first | omega | (simp; done) | (simp; omega)) _)⟩
  subst hne
  have hb : ((nt : Int) != (nt : Int)) = false := by simp
  go_enter Try.func38, Try.ntmps38
  go_wp2_with fail
  generalize hwn : ((w.alloc (.cells #[.int .i64 (m.ls), .int .i64 (m.ms), .int .i64 (m.lo), .int .i64 (m.hi), .int .i64 (m.sp), .slice m.A1 m.n1 m.c1, .slice m.A2 m.n2 m.c2] 58)).alloc (.cells #[.int .i64 (day), .int .i64 (pos)] 60)) = w1
  have hbn : Below w.heap.size w w1 := by rw [← hwn]; repeat' (first | exact Below.refl _ _ | refine below_drewN ?_ _ | refine Below.drew ?_ | refine Below.alloc ?_ (by first | omega | (simp; done) | (simp; omega) | (simp [World.setCell]; omega)) _ | refine Below.setCell ?_ (by first | omega | (simp; done) | (simp; omega)) _)
  have HB1 := Lib.hid (show Below w.heap.size w w1 from hbn)
  have K0_1 := Lib.hid (show Blk w1 (w.heap.size) 58 #[.int .i64 (m.ls), .int .i64 (m.ms), .int .i64 (m.lo), .int .i64 (m.hi), .int .i64 (m.sp), .slice m.A1 m.n1 m.c1, .slice m.A2 m.n2 m.c2] by rw [← hwn]; repeat' (first | exact Blk.at_ _ (by first | rfl | (simp; done) | (simp; omega)) _ _ | refine Blk.drewN ?_ _ | refine Blk.drew ?_ | refine Blk.alloc ?_ _ | refine Blk.far ?_ (by first | omega | (simp; done) | (simp; omega)) _ | assumption))
  have K1_1 := Lib.hid (show Blk w1 (w.heap.size + 1) 60 #[.int .i64 (day), .int .i64 (pos)] by rw [← hwn]; repeat' (first | exact Blk.at_ _ (by first | rfl | (simp; done) | (simp; omega)) _ _ | refine Blk.drewN ?_ _ | refine Blk.drew ?_ | refine Blk.alloc ?_ _ | refine Blk.far ?_ (by first | omega | (simp; done) | (simp; omega)) _ | assumption))
  have HN1 := Lib.hid hbn
  have hz1 := hbn.size
  clear hwn hbn
  have l0_1 : w.heap.size < w1.heap.size := K0_1.out.lt
  have z0_0_1 : w1.cell? ⟨w.heap.size, 0, none⟩ = some (.int .i64 (m.ls)) := K0_1.out.cell 0
  have z0_1_1 : w1.cell? ⟨w.heap.size, 1, none⟩ = some (.int .i64 (m.ms)) := K0_1.out.cell 1
  have z0_2_1 : w1.cell? ⟨w.heap.size, 2, none⟩ = some (.int .i64 (m.lo)) := K0_1.out.cell 2
  have z0_3_1 : w1.cell? ⟨w.heap.size, 3, none⟩ = some (.int .i64 (m.hi)) := K0_1.out.cell 3
  have z0_4_1 : w1.cell? ⟨w.heap.size, 4, none⟩ = some (.int .i64 (m.sp)) := K0_1.out.cell 4
  have z0_5_1 : w1.cell? ⟨w.heap.size, 5, none⟩ = some (.slice m.A1 m.n1 m.c1) := K0_1.out.cell 5
  have z0_6_1 : w1.cell? ⟨w.heap.size, 6, none⟩ = some (.slice m.A2 m.n2 m.c2) := K0_1.out.cell 6
  have l1_1 : w.heap.size + 1 < w1.heap.size := K1_1.out.lt
  have z1_0_1 : w1.cell? ⟨w.heap.size + 1, 0, none⟩ = some (.int .i64 (day)) := K1_1.out.cell 0
  have z1_1_1 : w1.cell? ⟨w.heap.size + 1, 1, none⟩ = some (.int .i64 (pos)) := K1_1.out.cell 1
  go_quiet (fail)
  go_wp2
  obtain ⟨P, hP⟩ : ∃ P, pathL m day l ks = P := ⟨_, rfl⟩
  have HP := Lib.hid hP
  clear hP
  go_loopw [10, 11, 12] (fun s f i wr => ∃ k : Nat, k ≤ nt ∧ s = .int .i64 (costL pos (P.take k)) ∧ f = .int .i64 (lastI pos (P.take k)) ∧ i = .int .i64 k ∧ Below w1.heap.size w1 wr ∧ (∀ (j : Nat) t z, j < k → l[j]? = some t → ks[j]? = some z → turnOk m day t z = true)) (fun _ _ i _ => nt - (intOf i).toNat)
  case atStart => exact ⟨0, by omega, by simp [costL], by simp [lastI], rfl, by repeat' (first | exact Below.refl _ _ | refine below_drewN ?_ _ | refine Below.drew ?_ | refine Below.alloc ?_ (by first | omega | (simp; done) | (simp; omega) | (simp [World.setCell]; omega)) _ | refine Below.setCell ?_ (by first | omega | (simp; done) | (simp; omega)) _), fun j t z h => absurd h (by omega)⟩
  case round =>
    obtain ⟨k, hk, rfl, rfl, rfl, hb, hpre⟩ := hrel
    obtain ⟨w2, hnm⟩ : ∃ z : World, z = wr := ⟨_, rfl⟩
    subst hnm
    have hk0 := Blk.below K0_1.out hb l0_1
    have hk1 := Blk.below K1_1.out hb l1_1
    have hb' := HB1.out.trans (hb.mono HB1.out.size)
    have hrd := (HL.out.below hb').more hb'.size
    have hrk := (HK.out.below hb').more hb'.size
    have hxm := HX.out.lay hb'
    have HBR := Lib.hid hb
    have HPRE := Lib.hid hpre
    clear hb hpre
    have HB2 := Lib.hid hb'
    have K0_2 := Lib.hid (show Blk w2 (w.heap.size) 58 #[.int .i64 (m.ls), .int .i64 (m.ms), .int .i64 (m.lo), .int .i64 (m.hi), .int .i64 (m.sp), .slice m.A1 m.n1 m.c1, .slice m.A2 m.n2 m.c2] from hk0)
    have K1_2 := Lib.hid (show Blk w2 (w.heap.size + 1) 60 #[.int .i64 (day), .int .i64 (pos)] from hk1)
    clear hb' hk0 hk1
    have l0_2 : w.heap.size < w2.heap.size := K0_2.out.lt
    have z0_0_2 : w2.cell? ⟨w.heap.size, 0, none⟩ = some (.int .i64 (m.ls)) := K0_2.out.cell 0
    have z0_1_2 : w2.cell? ⟨w.heap.size, 1, none⟩ = some (.int .i64 (m.ms)) := K0_2.out.cell 1
    have z0_2_2 : w2.cell? ⟨w.heap.size, 2, none⟩ = some (.int .i64 (m.lo)) := K0_2.out.cell 2
    have z0_3_2 : w2.cell? ⟨w.heap.size, 3, none⟩ = some (.int .i64 (m.hi)) := K0_2.out.cell 3
    have z0_4_2 : w2.cell? ⟨w.heap.size, 4, none⟩ = some (.int .i64 (m.sp)) := K0_2.out.cell 4
    have z0_5_2 : w2.cell? ⟨w.heap.size, 5, none⟩ = some (.slice m.A1 m.n1 m.c1) := K0_2.out.cell 5
    have z0_6_2 : w2.cell? ⟨w.heap.size, 6, none⟩ = some (.slice m.A2 m.n2 m.c2) := K0_2.out.cell 6
    have l1_2 : w.heap.size + 1 < w2.heap.size := K1_2.out.lt
    have z1_0_2 : w2.cell? ⟨w.heap.size + 1, 0, none⟩ = some (.int .i64 (day)) := K1_2.out.cell 0
    have z1_1_2 : w2.cell? ⟨w.heap.size + 1, 1, none⟩ = some (.int .i64 (pos)) := K1_2.out.cell 1
    by_cases hlt : k < nt
    rotate_left
    · obtain rfl : nt = k := by omega
      have hpo : pathOk m day l ks = true := path_good fun j t z ht hz => HPRE.out j t z (by rw [← HLL.out]; exact (List.getElem?_eq_some_iff.1 ht).1) ht hz
      have hce : (C, E) = (costL pos P, 0) := by
        rw [← HE.out]; unfold choiceF pathErr
        rw [if_neg (show ¬ ks.length ≠ l.length by rw [HKL.out, HLL.out]; simp), if_neg (show ¬ pathOk m day l ks = false by rw [hpo]; simp), HP.out]
        simp
      obtain ⟨hC, rfl⟩ := Prod.mk.inj hce
      have hPl : P.length = nt := by rw [← HP.out, pathL_len (by rw [HKL.out, HLL.out]), HLL.out]
      rw [List.take_of_length_le (by omega), ← hC]
      clear hce hC hPl hpo hrd hrk hxm
      go_wp2
      go_ret2
      exact ⟨rfl, HB2.out⟩
    obtain ⟨xb, xo, t, rfl, hxb, ht, c0, c1, c2, c3, c4, c5⟩ := hrd.tgt hlt
    obtain ⟨yb, yo, z, rfl, hyb, hz, c6⟩ := hrk.int_ hlt
    have HTT := Lib.hid ht
    have HZZ := Lib.hid hz
    have hkk : (k : Int) < (nt : Int) := by omega
    obtain ⟨te1, te2⟩ := tour_each HT0.out ht
    obtain ⟨X, Y, hA⟩ : ∃ X Y, appF m t day = (X, Y) := ⟨_, _, rfl⟩
    obtain ⟨L, F, hTA⟩ : ∃ L F, turnsAt m X Y = (L, F) := ⟨_, _, rfl⟩
    obtain ⟨q, hq⟩ : ∃ q, L.length = q := ⟨_, rfl⟩
    have hto := turn_ok_iff (k := z) hA hTA
    have HA := Lib.hid hA
    have HTA := Lib.hid hTA
    have HQ := Lib.hid hq
    have HE1 := Lib.hid te1
    have HTO := Lib.hid hto
    clear ht hz te1 te2 hA hTA hq hto
    have C0_2 := Lib.hid c0
    have C1_2 := Lib.hid c1
    have C2_2 := Lib.hid c2
    have C3_2 := Lib.hid c3
    have C4_2 := Lib.hid c4
    have C5_2 := Lib.hid c5
    have C6_2 := Lib.hid c6
    clear c0 c1 c2 c3 c4 c5 c6
    have R0_2 := Lib.hid hxm
    clear hxm
    go_wp2
    refine Fx.regionM (fun W g f w' => Kp (PfQ m q L 97 7) W g w') (fun i (x : Pick2) => .tuple #[.slice x.1.1 q x.1.2, .int .i64 F]) (by kernel_rfl) ?_ ?_
    · intro f hf0
      exact Kp.start
    first
    | (refine Fx.WM.skip 0 (by rfl) (by kernel_rfl) (by kernel_rfl) (by kernel_rfl) (by rfl) (fun g f w h => h) ?_; simp only [Act.put, List.setIfInBounds_toArray, List.set_cons_zero, List.set_cons_succ])
    | (refine Fx.WM.val_ 0 ?_ (by rfl) (by kernel_rfl) (by kernel_rfl) (by kernel_rfl) (by rfl) ?_ (fun g f w h => h) ?_
       rotate_left
       · intro g f w' hx hD hk
         obtain hkp := id hD
         have y0_0 := (K0_2.out.below hkp.bel l0_2).cell 0
         have y0_1 := (K0_2.out.below hkp.bel l0_2).cell 1
         have y0_2 := (K0_2.out.below hkp.bel l0_2).cell 2
         have y0_3 := (K0_2.out.below hkp.bel l0_2).cell 3
         have y0_4 := (K0_2.out.below hkp.bel l0_2).cell 4
         have y0_5 := (K0_2.out.below hkp.bel l0_2).cell 5
         have y0_6 := (K0_2.out.below hkp.bel l0_2).cell 6
         clear hx hk hD hkp
         go_simp
         try rfl
       simp only [Act.put, List.setIfInBounds_toArray, List.set_cons_zero, List.set_cons_succ])
    first
    | (refine Fx.WM.skip 1 (by rfl) (by kernel_rfl) (by kernel_rfl) (by kernel_rfl) (by rfl) (fun g f w h => h) ?_; simp only [Act.put, List.setIfInBounds_toArray, List.set_cons_zero, List.set_cons_succ])
    | (refine Fx.WM.val_ 1 ?_ (by rfl) (by kernel_rfl) (by kernel_rfl) (by kernel_rfl) (by rfl) ?_ (fun g f w h => h) ?_
       rotate_left
       · intro g f w' hx hD hk
         obtain hkp := id hD
         clear hx hk hD hkp
         go_simp
         try rfl
       simp only [Act.put, List.setIfInBounds_toArray, List.set_cons_zero, List.set_cons_succ])
    first
    | (refine Fx.WM.skip 2 (by rfl) (by kernel_rfl) (by kernel_rfl) (by kernel_rfl) (by rfl) (fun g f w h => h) ?_; simp only [Act.put, List.setIfInBounds_toArray, List.set_cons_zero, List.set_cons_succ])
    | (refine Fx.WM.val_ 2 ?_ (by rfl) (by kernel_rfl) (by kernel_rfl) (by kernel_rfl) (by rfl) ?_ (fun g f w h => h) ?_
       rotate_left
       · intro g f w' hx hD hk
         obtain hkp := id hD
         clear hx hk hD hkp
         go_simp
         try rfl
       simp only [Act.put, List.setIfInBounds_toArray, List.set_cons_zero, List.set_cons_succ])
    first
    | (refine Fx.WM.skip 3 (by rfl) (by kernel_rfl) (by kernel_rfl) (by kernel_rfl) (by rfl) (fun g f w h => h) ?_; simp only [Act.put, List.setIfInBounds_toArray, List.set_cons_zero, List.set_cons_succ])
    | (refine Fx.WM.val_ 3 ?_ (by rfl) (by kernel_rfl) (by kernel_rfl) (by kernel_rfl) (by rfl) ?_ (fun g f w h => h) ?_
       rotate_left
       · intro g f w' hx hD hk
         obtain hkp := id hD
         clear hx hk hD hkp
         go_simp
         try rfl
       simp only [Act.put, List.setIfInBounds_toArray, List.set_cons_zero, List.set_cons_succ])
    first
    | (refine Fx.WM.skip 4 (by rfl) (by kernel_rfl) (by kernel_rfl) (by kernel_rfl) (by rfl) (fun g f w h => h) ?_; simp only [Act.put, List.setIfInBounds_toArray, List.set_cons_zero, List.set_cons_succ])
    | (refine Fx.WM.val_ 4 ?_ (by rfl) (by kernel_rfl) (by kernel_rfl) (by kernel_rfl) (by rfl) ?_ (fun g f w h => h) ?_
       rotate_left
       · intro g f w' hx hD hk
         obtain hkp := id hD
         have yc0 := (hkp.bel.cell (p := ⟨xb, xo + k * 6, none⟩) (by have := hxb; show xb < _; omega)).trans C0_2.out
         have yc1 := (hkp.bel.cell (p := ⟨xb, xo + k * 6 + 1, none⟩) (by have := hxb; show xb < _; omega)).trans C1_2.out
         have yc2 := (hkp.bel.cell (p := ⟨xb, xo + k * 6 + 2, none⟩) (by have := hxb; show xb < _; omega)).trans C2_2.out
         have yc3 := (hkp.bel.cell (p := ⟨xb, xo + k * 6 + 3, none⟩) (by have := hxb; show xb < _; omega)).trans C3_2.out
         have yc4 := (hkp.bel.cell (p := ⟨xb, xo + k * 6 + 4, none⟩) (by have := hxb; show xb < _; omega)).trans C4_2.out
         have yc5 := (hkp.bel.cell (p := ⟨xb, xo + k * 6 + 5, none⟩) (by have := hxb; show xb < _; omega)).trans C5_2.out
         have yc6 := (hkp.bel.cell (p := ⟨yb, yo + k, none⟩) (by have := hyb; show yb < _; omega)).trans C6_2.out
         clear hx hk hD hkp
         go_simp
         try rfl
       simp only [Act.put, List.setIfInBounds_toArray, List.set_cons_zero, List.set_cons_succ])
    first
    | (refine Fx.WM.skip 5 (by rfl) (by kernel_rfl) (by kernel_rfl) (by kernel_rfl) (by rfl) (fun g f w h => h) ?_; simp only [Act.put, List.setIfInBounds_toArray, List.set_cons_zero, List.set_cons_succ])
    | (refine Fx.WM.val_ 5 ?_ (by rfl) (by kernel_rfl) (by kernel_rfl) (by kernel_rfl) (by rfl) ?_ (fun g f w h => h) ?_
       rotate_left
       · intro g f w' hx hD hk
         obtain hkp := id hD
         have y1_0 := (K1_2.out.below hkp.bel l1_2).cell 0
         have y1_1 := (K1_2.out.below hkp.bel l1_2).cell 1
         clear hx hk hD hkp
         go_simp
         try rfl
       simp only [Act.put, List.setIfInBounds_toArray, List.set_cons_zero, List.set_cons_succ])
    first
    | (refine Fx.WM.skip 6 (by rfl) (by kernel_rfl) (by kernel_rfl) (by kernel_rfl) (by rfl) (fun g f w h => h) ?_; simp only [Act.put, List.setIfInBounds_toArray, List.set_cons_zero, List.set_cons_succ])
    | (refine Fx.WM.val_ 6 ?_ (by rfl) (by kernel_rfl) (by kernel_rfl) (by kernel_rfl) (by rfl) ?_ (fun g f w h => h) ?_
       rotate_left
       · intro g f w' hx hD hk
         obtain hkp := id hD
         have y1_0 := (K1_2.out.below hkp.bel l1_2).cell 0
         have y1_1 := (K1_2.out.below hkp.bel l1_2).cell 1
         clear hx hk hD hkp
         go_simp
         try rfl
       simp only [Act.put, List.setIfInBounds_toArray, List.set_cons_zero, List.set_cons_succ])
    refine Fx.WM.choose 7 (by rfl) (by kernel_rfl) (by rfl) ?_ ?_
    · skip
      refine Fx.Chooses.call ?_ ?_ (by rfl) ?_ ?_
      rotate_left 2
      · intro w'
        go_simp
        refine ⟨?_, ?_⟩ <;> rfl
      · intro f w' hD hk
        exact (rturns_is m t day X Y L F q HA.out HTA.out HQ.out w' (R0_2.out.lay hD.bel) HM.out HE1.out HD.out).mono fun e w'' ⟨A', c', he, hb, hr⟩ => ⟨((A', c'), (none, 0)), he, hD.choose PfQ.stb hb 7 _ ⟨fun e => absurd e (by decide), fun _ => hr⟩⟩
    intro x
    simp only [Act.put, List.setIfInBounds_toArray, List.set_cons_zero, List.set_cons_succ]
    first
    | (refine Fx.WM.skip 8 (by rfl) (by kernel_rfl) (by kernel_rfl) (by kernel_rfl) (by rfl) (fun g f w h => h) ?_; simp only [Act.put, List.setIfInBounds_toArray, List.set_cons_zero, List.set_cons_succ])
    | (refine Fx.WM.val_ 8 ?_ (by rfl) (by kernel_rfl) (by kernel_rfl) (by kernel_rfl) (by rfl) ?_ (fun g f w h => h) ?_
       rotate_left
       · intro g f w' hx hD hk
         obtain hkp := id hD
         clear hx hk hD hkp
         go_simp
         try rfl
       simp only [Act.put, List.setIfInBounds_toArray, List.set_cons_zero, List.set_cons_succ])
    first
    | (refine Fx.WM.skip 9 (by rfl) (by kernel_rfl) (by kernel_rfl) (by kernel_rfl) (by rfl) (fun g f w h => h) ?_; simp only [Act.put, List.setIfInBounds_toArray, List.set_cons_zero, List.set_cons_succ])
    | (refine Fx.WM.val_ 9 ?_ (by rfl) (by kernel_rfl) (by kernel_rfl) (by kernel_rfl) (by rfl) ?_ (fun g f w h => h) ?_
       rotate_left
       · intro g f w' hx hD hk
         obtain hkp := id hD
         clear hx hk hD hkp
         go_simp
         try rfl
       simp only [Act.put, List.setIfInBounds_toArray, List.set_cons_zero, List.set_cons_succ])
    first
    | (refine Fx.WM.skip 10 (by rfl) (by kernel_rfl) (by kernel_rfl) (by kernel_rfl) (by rfl) (fun g f w h => h) ?_; simp only [Act.put, List.setIfInBounds_toArray, List.set_cons_zero, List.set_cons_succ])
    | (refine Fx.WM.val_ 10 ?_ (by rfl) (by kernel_rfl) (by kernel_rfl) (by kernel_rfl) (by rfl) ?_ (fun g f w h => h) ?_
       rotate_left
       · intro g f w' hx hD hk
         obtain hkp := id hD
         clear hx hk hD hkp
         go_simp
         try rfl
       simp only [Act.put, List.setIfInBounds_toArray, List.set_cons_zero, List.set_cons_succ])
    first
    | (refine Fx.WM.skip 11 (by rfl) (by kernel_rfl) (by kernel_rfl) (by kernel_rfl) (by rfl) (fun g f w h => h) ?_; simp only [Act.put, List.setIfInBounds_toArray, List.set_cons_zero, List.set_cons_succ])
    | (refine Fx.WM.val_ 11 ?_ (by rfl) (by kernel_rfl) (by kernel_rfl) (by kernel_rfl) (by rfl) ?_ (fun g f w h => h) ?_
       rotate_left
       · intro g f w' hx hD hk
         obtain hkp := id hD
         clear hx hk hD hkp
         go_simp
         try rfl
       simp only [Act.put, List.setIfInBounds_toArray, List.set_cons_zero, List.set_cons_succ])
    first
    | (refine Fx.WM.skip 12 (by rfl) (by kernel_rfl) (by kernel_rfl) (by kernel_rfl) (by rfl) (fun g f w h => h) ?_; simp only [Act.put, List.setIfInBounds_toArray, List.set_cons_zero, List.set_cons_succ])
    | (refine Fx.WM.val_ 12 ?_ (by rfl) (by kernel_rfl) (by kernel_rfl) (by kernel_rfl) (by rfl) ?_ (fun g f w h => h) ?_
       rotate_left
       · intro g f w' hx hD hk
         obtain hkp := id hD
         clear hx hk hD hkp
         go_simp
         try rfl
       simp only [Act.put, List.setIfInBounds_toArray, List.set_cons_zero, List.set_cons_succ])
    refine Fx.WM.nil (by kernel_rfl) ?_
    intro wz hkp
    obtain ⟨⟨xA, xc⟩, x2⟩ := x
    have hb := hkp.bel
    have hr := (hkp.has 7 _ (by rfl)).2 rfl
    clear hkp
    simp only at hr
    obtain ⟨w3, hnm⟩ : ∃ z : World, z = wz := ⟨_, rfl⟩
    subst hnm
    have HA2 := Lib.hid (show Below w2.heap.size w2 w2 from Below.refl _ _)
    have HB3 := Lib.hid (show Below w.heap.size w w3 from step_below hb (by repeat' (first | exact Below.refl _ _ | exact HB2.out | refine below_drewN ?_ _ | refine Below.drew ?_ | refine Below.alloc ?_ (by first | omega | (simp; done) | (simp; omega) | (simp [World.setCell]; omega)) _ | refine Below.setCell ?_ (by first | omega | (simp; done) | (simp; omega)) _ | assumption)))
    have K0_3 := Lib.hid (step_blk hb (show Blk _ (w.heap.size) 58 #[.int .i64 (m.ls), .int .i64 (m.ms), .int .i64 (m.lo), .int .i64 (m.hi), .int .i64 (m.sp), .slice m.A1 m.n1 m.c1, .slice m.A2 m.n2 m.c2] by repeat' (first | exact K0_2.out | exact K1_2.out | exact Blk.at_ _ (by first | rfl | (simp; done) | (simp; omega)) _ _ | refine Blk.drewN ?_ _ | refine Blk.drew ?_ | refine Blk.alloc ?_ _ | refine Blk.far ?_ (by first | omega | (simp; done) | (simp; omega)) _ | assumption)))
    have K1_3 := Lib.hid (step_blk hb (show Blk _ (w.heap.size + 1) 60 #[.int .i64 (day), .int .i64 (pos)] by repeat' (first | exact K0_2.out | exact K1_2.out | exact Blk.at_ _ (by first | rfl | (simp; done) | (simp; omega)) _ _ | refine Blk.drewN ?_ _ | refine Blk.drew ?_ | refine Blk.alloc ?_ _ | refine Blk.far ?_ (by first | omega | (simp; done) | (simp; omega)) _ | assumption)))
    have C0_3 := Lib.hid (step_cell hb (show World.cell? _ ⟨xb, xo + k * 6, none⟩ = some (.string t.name) by first | exact C0_2.out | go_simp) (by have := hxb; first | omega | (simp; omega)))
    have C1_3 := Lib.hid (step_cell hb (show World.cell? _ ⟨xb, xo + k * 6 + 1, none⟩ = some (.int .i64 (t.az)) by first | exact C1_2.out | go_simp) (by have := hxb; first | omega | (simp; omega)))
    have C2_3 := Lib.hid (step_cell hb (show World.cell? _ ⟨xb, xo + k * 6 + 2, none⟩ = some (.int .i64 (t.ht)) by first | exact C2_2.out | go_simp) (by have := hxb; first | omega | (simp; omega)))
    have C3_3 := Lib.hid (step_cell hb (show World.cell? _ ⟨xb, xo + k * 6 + 3, none⟩ = some (.int .i64 (t.fr)) by first | exact C3_2.out | go_simp) (by have := hxb; first | omega | (simp; omega)))
    have C4_3 := Lib.hid (step_cell hb (show World.cell? _ ⟨xb, xo + k * 6 + 4, none⟩ = some (.int .i64 (t.to)) by first | exact C4_2.out | go_simp) (by have := hxb; first | omega | (simp; omega)))
    have C5_3 := Lib.hid (step_cell hb (show World.cell? _ ⟨xb, xo + k * 6 + 5, none⟩ = some (.int .i64 (t.dw)) by first | exact C5_2.out | go_simp) (by have := hxb; first | omega | (simp; omega)))
    have C6_3 := Lib.hid (step_cell hb (show World.cell? _ ⟨yb, yo + k, none⟩ = some (.int .i64 (z)) by first | exact C6_2.out | go_simp) (by have := hyb; first | omega | (simp; omega)))
    have hL3 := Lib.hid (show Below w2.heap.size w2 _ from reads_mid hb (by repeat' (first | exact Below.refl _ _ | refine below_drewN ?_ _ | refine Below.drew ?_ | refine Below.alloc ?_ (by first | omega | (simp; done) | (simp; omega) | (simp [World.setCell]; omega)) _ | refine Below.setCell ?_ (by first | omega | (simp; done) | (simp; omega)) _)))
    have R0_3 := Lib.hid (mnt_lay hb hL3.out R0_2.out)
    clear hL3 R0_2
    have HA3 := Lib.hid (step_below hb HA2.out)
    clear HA2
    have hz3 := hb.size
    try simp only [World.size_alloc, World.drewN, World.drew] at hz3
    clear hb K0_2 K1_2 z0_0_2 z0_1_2 z0_2_2 z0_3_2 z0_4_2 z0_5_2 z0_6_2 l0_2 z1_0_2 z1_1_2 l1_2
    have l0_3 : w.heap.size < w3.heap.size := K0_3.out.lt
    have z0_0_3 : w3.cell? ⟨w.heap.size, 0, none⟩ = some (.int .i64 (m.ls)) := K0_3.out.cell 0
    have z0_1_3 : w3.cell? ⟨w.heap.size, 1, none⟩ = some (.int .i64 (m.ms)) := K0_3.out.cell 1
    have z0_2_3 : w3.cell? ⟨w.heap.size, 2, none⟩ = some (.int .i64 (m.lo)) := K0_3.out.cell 2
    have z0_3_3 : w3.cell? ⟨w.heap.size, 3, none⟩ = some (.int .i64 (m.hi)) := K0_3.out.cell 3
    have z0_4_3 : w3.cell? ⟨w.heap.size, 4, none⟩ = some (.int .i64 (m.sp)) := K0_3.out.cell 4
    have z0_5_3 : w3.cell? ⟨w.heap.size, 5, none⟩ = some (.slice m.A1 m.n1 m.c1) := K0_3.out.cell 5
    have z0_6_3 : w3.cell? ⟨w.heap.size, 6, none⟩ = some (.slice m.A2 m.n2 m.c2) := K0_3.out.cell 6
    have l1_3 : w.heap.size + 1 < w3.heap.size := K1_3.out.lt
    have z1_0_3 : w3.cell? ⟨w.heap.size + 1, 0, none⟩ = some (.int .i64 (day)) := K1_3.out.cell 0
    have z1_1_3 : w3.cell? ⟨w.heap.size + 1, 1, none⟩ = some (.int .i64 (pos)) := K1_3.out.cell 1
    have R1_3 := Lib.hid hr
    clear hr
    obtain ⟨b, hbm⟩ : ∃ b, decide (z ∈ L) = b := ⟨_, rfl⟩
    have HBM := Lib.hid hbm
    clear hbm
    have y6 := C6_3.out
    go_wp2_with fail
    refine (has_is xA q xc _ L z b HBM.out _ R1_3.out (by have := (turnsAt_len43 HTA.out); have := HQ.out; omega)).mono ?_
    rintro e w' ⟨rfl, rfl⟩
    cases b
    · have hpo : pathOk m day l ks = false := path_bad HTT.out HZZ.out (HTO.out.1.trans HBM.out)
      have hce : (C, E) = (0, 6) := by
        rw [← HE.out]; unfold choiceF pathErr
        rw [if_neg (show ¬ ks.length ≠ l.length by rw [HKL.out, HLL.out]; simp), if_pos hpo]
        simp
      obtain ⟨rfl, rfl⟩ : C = 0 ∧ E = 6 := by simpa using hce
      clear hce hpo
      go_wp2
      go_ret2
      exact ⟨rfl, HB3.out⟩
    have hok : turnOk m day t z = true := HTO.out.1.trans HBM.out
    obtain ⟨g1, g2, g3, g4⟩ := turn_range (of_decide_eq_true hok)
    rw [HTO.out.2] at g1 g2
    obtain ⟨v, hv⟩ : ∃ v, X + z * 1296000 = v := ⟨_, rfl⟩
    rw [hv] at g1 g2
    have HV := Lib.hid hv
    have HOK := Lib.hid hok
    have hvR : PosR v := by unfold PosR; omega
    clear hv hok y6
    go_wp2
    refine Fx.regionM (fun W g f w' => Kp (PfT m 0 [] 0 [] 97 99 98) W g w') (fun i (x : Pick2) => undef) (by kernel_rfl) ?_ ?_
    · intro f hf0
      exact Kp.start
    first
    | (refine Fx.WM.skip 0 (by rfl) (by kernel_rfl) (by kernel_rfl) (by kernel_rfl) (by rfl) (fun g f w h => h) ?_; simp only [Act.put, List.setIfInBounds_toArray, List.set_cons_zero, List.set_cons_succ])
    | (refine Fx.WM.val_ 0 ?_ (by rfl) (by kernel_rfl) (by kernel_rfl) (by kernel_rfl) (by rfl) ?_ (fun g f w h => h) ?_
       rotate_left
       · intro g f w' hx hD hk
         obtain hkp := id hD
         have y0_0 := (K0_3.out.below hkp.bel l0_3).cell 0
         have y0_1 := (K0_3.out.below hkp.bel l0_3).cell 1
         have y0_2 := (K0_3.out.below hkp.bel l0_3).cell 2
         have y0_3 := (K0_3.out.below hkp.bel l0_3).cell 3
         have y0_4 := (K0_3.out.below hkp.bel l0_3).cell 4
         have y0_5 := (K0_3.out.below hkp.bel l0_3).cell 5
         have y0_6 := (K0_3.out.below hkp.bel l0_3).cell 6
         clear hx hk hD hkp
         go_simp
         try rfl
       simp only [Act.put, List.setIfInBounds_toArray, List.set_cons_zero, List.set_cons_succ])
    first
    | (refine Fx.WM.skip 1 (by rfl) (by kernel_rfl) (by kernel_rfl) (by kernel_rfl) (by rfl) (fun g f w h => h) ?_; simp only [Act.put, List.setIfInBounds_toArray, List.set_cons_zero, List.set_cons_succ])
    | (refine Fx.WM.val_ 1 ?_ (by rfl) (by kernel_rfl) (by kernel_rfl) (by kernel_rfl) (by rfl) ?_ (fun g f w h => h) ?_
       rotate_left
       · intro g f w' hx hD hk
         obtain hkp := id hD
         clear hx hk hD hkp
         go_simp
         try rfl
       simp only [Act.put, List.setIfInBounds_toArray, List.set_cons_zero, List.set_cons_succ])
    first
    | (refine Fx.WM.skip 2 (by rfl) (by kernel_rfl) (by kernel_rfl) (by kernel_rfl) (by rfl) (fun g f w h => h) ?_; simp only [Act.put, List.setIfInBounds_toArray, List.set_cons_zero, List.set_cons_succ])
    | (refine Fx.WM.val_ 2 ?_ (by rfl) (by kernel_rfl) (by kernel_rfl) (by kernel_rfl) (by rfl) ?_ (fun g f w h => h) ?_
       rotate_left
       · intro g f w' hx hD hk
         obtain hkp := id hD
         clear hx hk hD hkp
         go_simp
         try rfl
       simp only [Act.put, List.setIfInBounds_toArray, List.set_cons_zero, List.set_cons_succ])
    first
    | (refine Fx.WM.skip 3 (by rfl) (by kernel_rfl) (by kernel_rfl) (by kernel_rfl) (by rfl) (fun g f w h => h) ?_; simp only [Act.put, List.setIfInBounds_toArray, List.set_cons_zero, List.set_cons_succ])
    | (refine Fx.WM.val_ 3 ?_ (by rfl) (by kernel_rfl) (by kernel_rfl) (by kernel_rfl) (by rfl) ?_ (fun g f w h => h) ?_
       rotate_left
       · intro g f w' hx hD hk
         obtain hkp := id hD
         clear hx hk hD hkp
         go_simp
         try rfl
       simp only [Act.put, List.setIfInBounds_toArray, List.set_cons_zero, List.set_cons_succ])
    first
    | (refine Fx.WM.skip 4 (by rfl) (by kernel_rfl) (by kernel_rfl) (by kernel_rfl) (by rfl) (fun g f w h => h) ?_; simp only [Act.put, List.setIfInBounds_toArray, List.set_cons_zero, List.set_cons_succ])
    | (refine Fx.WM.val_ 4 ?_ (by rfl) (by kernel_rfl) (by kernel_rfl) (by kernel_rfl) (by rfl) ?_ (fun g f w h => h) ?_
       rotate_left
       · intro g f w' hx hD hk
         obtain hkp := id hD
         have yc0 := (hkp.bel.cell (p := ⟨xb, xo + k * 6, none⟩) (by have := hxb; show xb < _; omega)).trans C0_3.out
         have yc1 := (hkp.bel.cell (p := ⟨xb, xo + k * 6 + 1, none⟩) (by have := hxb; show xb < _; omega)).trans C1_3.out
         have yc2 := (hkp.bel.cell (p := ⟨xb, xo + k * 6 + 2, none⟩) (by have := hxb; show xb < _; omega)).trans C2_3.out
         have yc3 := (hkp.bel.cell (p := ⟨xb, xo + k * 6 + 3, none⟩) (by have := hxb; show xb < _; omega)).trans C3_3.out
         have yc4 := (hkp.bel.cell (p := ⟨xb, xo + k * 6 + 4, none⟩) (by have := hxb; show xb < _; omega)).trans C4_3.out
         have yc5 := (hkp.bel.cell (p := ⟨xb, xo + k * 6 + 5, none⟩) (by have := hxb; show xb < _; omega)).trans C5_3.out
         have yc6 := (hkp.bel.cell (p := ⟨yb, yo + k, none⟩) (by have := hyb; show yb < _; omega)).trans C6_3.out
         clear hx hk hD hkp
         go_simp
         try rfl
       simp only [Act.put, List.setIfInBounds_toArray, List.set_cons_zero, List.set_cons_succ])
    first
    | (refine Fx.WM.skip 5 (by rfl) (by kernel_rfl) (by kernel_rfl) (by kernel_rfl) (by rfl) (fun g f w h => h) ?_; simp only [Act.put, List.setIfInBounds_toArray, List.set_cons_zero, List.set_cons_succ])
    | (refine Fx.WM.val_ 5 ?_ (by rfl) (by kernel_rfl) (by kernel_rfl) (by kernel_rfl) (by rfl) ?_ (fun g f w h => h) ?_
       rotate_left
       · intro g f w' hx hD hk
         obtain hkp := id hD
         have y1_0 := (K1_3.out.below hkp.bel l1_3).cell 0
         have y1_1 := (K1_3.out.below hkp.bel l1_3).cell 1
         clear hx hk hD hkp
         go_simp
         try rfl
       simp only [Act.put, List.setIfInBounds_toArray, List.set_cons_zero, List.set_cons_succ])
    first
    | (refine Fx.WM.skip 6 (by rfl) (by kernel_rfl) (by kernel_rfl) (by kernel_rfl) (by rfl) (fun g f w h => h) ?_; simp only [Act.put, List.setIfInBounds_toArray, List.set_cons_zero, List.set_cons_succ])
    | (refine Fx.WM.val_ 6 ?_ (by rfl) (by kernel_rfl) (by kernel_rfl) (by kernel_rfl) (by rfl) ?_ (fun g f w h => h) ?_
       rotate_left
       · intro g f w' hx hD hk
         obtain hkp := id hD
         have y1_0 := (K1_3.out.below hkp.bel l1_3).cell 0
         have y1_1 := (K1_3.out.below hkp.bel l1_3).cell 1
         clear hx hk hD hkp
         go_simp
         try rfl
       simp only [Act.put, List.setIfInBounds_toArray, List.set_cons_zero, List.set_cons_succ])
    first
    | (refine Fx.WM.skip 7 (by rfl) (by kernel_rfl) (by kernel_rfl) (by kernel_rfl) (by rfl) (fun g f w h => h) ?_; simp only [Act.put, List.setIfInBounds_toArray, List.set_cons_zero, List.set_cons_succ])
    | (refine Fx.WM.val_ 7 ?_ (by rfl) (by kernel_rfl) (by kernel_rfl) (by kernel_rfl) (by rfl) ?_ (fun g f w h => h) ?_
       rotate_left
       · intro g f w' hx hD hk
         obtain hkp := id hD
         clear hx hk hD hkp
         go_simp
         try rfl
       simp only [Act.put, List.setIfInBounds_toArray, List.set_cons_zero, List.set_cons_succ])
    first
    | (refine Fx.WM.skip 8 (by rfl) (by kernel_rfl) (by kernel_rfl) (by kernel_rfl) (by rfl) (fun g f w h => h) ?_; simp only [Act.put, List.setIfInBounds_toArray, List.set_cons_zero, List.set_cons_succ])
    | (refine Fx.WM.val_ 8 ?_ (by rfl) (by kernel_rfl) (by kernel_rfl) (by kernel_rfl) (by rfl) ?_ (fun g f w h => h) ?_
       rotate_left
       · intro g f w' hx hD hk
         obtain hkp := id hD
         clear hx hk hD hkp
         go_simp
         try rfl
       simp only [Act.put, List.setIfInBounds_toArray, List.set_cons_zero, List.set_cons_succ])
    first
    | (refine Fx.WM.skip 9 (by rfl) (by kernel_rfl) (by kernel_rfl) (by kernel_rfl) (by rfl) (fun g f w h => h) ?_; simp only [Act.put, List.setIfInBounds_toArray, List.set_cons_zero, List.set_cons_succ])
    | (refine Fx.WM.val_ 9 ?_ (by rfl) (by kernel_rfl) (by kernel_rfl) (by kernel_rfl) (by rfl) ?_ (fun g f w h => h) ?_
       rotate_left
       · intro g f w' hx hD hk
         obtain hkp := id hD
         clear hx hk hD hkp
         go_simp
         try rfl
       simp only [Act.put, List.setIfInBounds_toArray, List.set_cons_zero, List.set_cons_succ])
    first
    | (refine Fx.WM.skip 10 (by rfl) (by kernel_rfl) (by kernel_rfl) (by kernel_rfl) (by rfl) (fun g f w h => h) ?_; simp only [Act.put, List.setIfInBounds_toArray, List.set_cons_zero, List.set_cons_succ])
    | (refine Fx.WM.val_ 10 ?_ (by rfl) (by kernel_rfl) (by kernel_rfl) (by kernel_rfl) (by rfl) ?_ (fun g f w h => h) ?_
       rotate_left
       · intro g f w' hx hD hk
         obtain hkp := id hD
         have yc0 := (hkp.bel.cell (p := ⟨xb, xo + k * 6, none⟩) (by have := hxb; show xb < _; omega)).trans C0_3.out
         have yc1 := (hkp.bel.cell (p := ⟨xb, xo + k * 6 + 1, none⟩) (by have := hxb; show xb < _; omega)).trans C1_3.out
         have yc2 := (hkp.bel.cell (p := ⟨xb, xo + k * 6 + 2, none⟩) (by have := hxb; show xb < _; omega)).trans C2_3.out
         have yc3 := (hkp.bel.cell (p := ⟨xb, xo + k * 6 + 3, none⟩) (by have := hxb; show xb < _; omega)).trans C3_3.out
         have yc4 := (hkp.bel.cell (p := ⟨xb, xo + k * 6 + 4, none⟩) (by have := hxb; show xb < _; omega)).trans C4_3.out
         have yc5 := (hkp.bel.cell (p := ⟨xb, xo + k * 6 + 5, none⟩) (by have := hxb; show xb < _; omega)).trans C5_3.out
         have yc6 := (hkp.bel.cell (p := ⟨yb, yo + k, none⟩) (by have := hyb; show yb < _; omega)).trans C6_3.out
         clear hx hk hD hkp
         go_simp
         try rfl
       simp only [Act.put, List.setIfInBounds_toArray, List.set_cons_zero, List.set_cons_succ])
    refine Fx.WM.call 11 (.int .i64 (v)) ?_ ?_ (by rfl) (by kernel_rfl) (by kernel_rfl) (by kernel_rfl) (by rfl) ?_ ?_ ?_
    rotate_left 2
    · intro w'
      go_simp
      refine ⟨?_, ?_⟩ <;> rfl
    · intro g f w' hx hD hk
      exact (rposition_is m t day z X Y v HA.out HV.out ⟨by omega, by omega⟩ w' (R0_3.out.lay hD.bel) HM.out HE1.out HD.out).mono fun e w'' ⟨he, hw⟩ => ⟨he, hD.call PfT.stb hw⟩
    simp only [Act.put, List.setIfInBounds_toArray, List.set_cons_zero, List.set_cons_succ]
    first
    | (refine Fx.WM.skip 12 (by rfl) (by kernel_rfl) (by kernel_rfl) (by kernel_rfl) (by rfl) (fun g f w h => h) ?_; simp only [Act.put, List.setIfInBounds_toArray, List.set_cons_zero, List.set_cons_succ])
    | (refine Fx.WM.val_ 12 ?_ (by rfl) (by kernel_rfl) (by kernel_rfl) (by kernel_rfl) (by rfl) ?_ (fun g f w h => h) ?_
       rotate_left
       · intro g f w' hx hD hk
         obtain hkp := id hD
         clear hx hk hD hkp
         go_simp
         try rfl
       simp only [Act.put, List.setIfInBounds_toArray, List.set_cons_zero, List.set_cons_succ])
    refine Fx.WM.nil (by kernel_rfl) ?_
    intro wz hkp
    have hb := hkp.bel
    clear hkp
    obtain ⟨w4, hnm⟩ : ∃ z : World, z = wz := ⟨_, rfl⟩
    subst hnm
    have HB4 := Lib.hid (show Below w.heap.size w w4 from step_below hb (by repeat' (first | exact Below.refl _ _ | exact HB3.out | refine below_drewN ?_ _ | refine Below.drew ?_ | refine Below.alloc ?_ (by first | omega | (simp; done) | (simp; omega) | (simp [World.setCell]; omega)) _ | refine Below.setCell ?_ (by first | omega | (simp; done) | (simp; omega)) _ | assumption)))
    have K0_4 := Lib.hid (step_blk hb (show Blk _ (w.heap.size) 58 #[.int .i64 (m.ls), .int .i64 (m.ms), .int .i64 (m.lo), .int .i64 (m.hi), .int .i64 (m.sp), .slice m.A1 m.n1 m.c1, .slice m.A2 m.n2 m.c2] by repeat' (first | exact K0_3.out | exact K1_3.out | exact Blk.at_ _ (by first | rfl | (simp; done) | (simp; omega)) _ _ | refine Blk.drewN ?_ _ | refine Blk.drew ?_ | refine Blk.alloc ?_ _ | refine Blk.far ?_ (by first | omega | (simp; done) | (simp; omega)) _ | assumption)))
    have K1_4 := Lib.hid (step_blk hb (show Blk _ (w.heap.size + 1) 60 #[.int .i64 (day), .int .i64 (pos)] by repeat' (first | exact K0_3.out | exact K1_3.out | exact Blk.at_ _ (by first | rfl | (simp; done) | (simp; omega)) _ _ | refine Blk.drewN ?_ _ | refine Blk.drew ?_ | refine Blk.alloc ?_ _ | refine Blk.far ?_ (by first | omega | (simp; done) | (simp; omega)) _ | assumption)))
    have C0_4 := Lib.hid (step_cell hb (show World.cell? _ ⟨xb, xo + k * 6, none⟩ = some (.string t.name) by first | exact C0_3.out | go_simp) (by have := hxb; first | omega | (simp; omega)))
    have C1_4 := Lib.hid (step_cell hb (show World.cell? _ ⟨xb, xo + k * 6 + 1, none⟩ = some (.int .i64 (t.az)) by first | exact C1_3.out | go_simp) (by have := hxb; first | omega | (simp; omega)))
    have C2_4 := Lib.hid (step_cell hb (show World.cell? _ ⟨xb, xo + k * 6 + 2, none⟩ = some (.int .i64 (t.ht)) by first | exact C2_3.out | go_simp) (by have := hxb; first | omega | (simp; omega)))
    have C3_4 := Lib.hid (step_cell hb (show World.cell? _ ⟨xb, xo + k * 6 + 3, none⟩ = some (.int .i64 (t.fr)) by first | exact C3_3.out | go_simp) (by have := hxb; first | omega | (simp; omega)))
    have C4_4 := Lib.hid (step_cell hb (show World.cell? _ ⟨xb, xo + k * 6 + 4, none⟩ = some (.int .i64 (t.to)) by first | exact C4_3.out | go_simp) (by have := hxb; first | omega | (simp; omega)))
    have C5_4 := Lib.hid (step_cell hb (show World.cell? _ ⟨xb, xo + k * 6 + 5, none⟩ = some (.int .i64 (t.dw)) by first | exact C5_3.out | go_simp) (by have := hxb; first | omega | (simp; omega)))
    have C6_4 := Lib.hid (step_cell hb (show World.cell? _ ⟨yb, yo + k, none⟩ = some (.int .i64 (z)) by first | exact C6_3.out | go_simp) (by have := hyb; first | omega | (simp; omega)))
    have hL4 := Lib.hid (show Below w3.heap.size w3 _ from reads_mid hb (by repeat' (first | exact Below.refl _ _ | refine below_drewN ?_ _ | refine Below.drew ?_ | refine Below.alloc ?_ (by first | omega | (simp; done) | (simp; omega) | (simp [World.setCell]; omega)) _ | refine Below.setCell ?_ (by first | omega | (simp; done) | (simp; omega)) _)))
    have R0_4 := Lib.hid (mnt_lay hb hL4.out R0_3.out)
    have R1_4 := Lib.hid (reads_lay hb hL4.out R1_3.out)
    clear hL4 R0_3 R1_3
    have HA4 := Lib.hid (step_below hb HA3.out)
    clear HA3
    have hz4 := hb.size
    try simp only [World.size_alloc, World.drewN, World.drew] at hz4
    clear hb K0_3 K1_3 z0_0_3 z0_1_3 z0_2_3 z0_3_3 z0_4_3 z0_5_3 z0_6_3 l0_3 z1_0_3 z1_1_3 l1_3
    have l0_4 : w.heap.size < w4.heap.size := K0_4.out.lt
    have z0_0_4 : w4.cell? ⟨w.heap.size, 0, none⟩ = some (.int .i64 (m.ls)) := K0_4.out.cell 0
    have z0_1_4 : w4.cell? ⟨w.heap.size, 1, none⟩ = some (.int .i64 (m.ms)) := K0_4.out.cell 1
    have z0_2_4 : w4.cell? ⟨w.heap.size, 2, none⟩ = some (.int .i64 (m.lo)) := K0_4.out.cell 2
    have z0_3_4 : w4.cell? ⟨w.heap.size, 3, none⟩ = some (.int .i64 (m.hi)) := K0_4.out.cell 3
    have z0_4_4 : w4.cell? ⟨w.heap.size, 4, none⟩ = some (.int .i64 (m.sp)) := K0_4.out.cell 4
    have z0_5_4 : w4.cell? ⟨w.heap.size, 5, none⟩ = some (.slice m.A1 m.n1 m.c1) := K0_4.out.cell 5
    have z0_6_4 : w4.cell? ⟨w.heap.size, 6, none⟩ = some (.slice m.A2 m.n2 m.c2) := K0_4.out.cell 6
    have l1_4 : w.heap.size + 1 < w4.heap.size := K1_4.out.lt
    have z1_0_4 : w4.cell? ⟨w.heap.size + 1, 0, none⟩ = some (.int .i64 (day)) := K1_4.out.cell 0
    have z1_1_4 : w4.cell? ⟨w.heap.size + 1, 1, none⟩ = some (.int .i64 (pos)) := K1_4.out.cell 1
    have hpr : ∀ y ∈ P.take k, m.ls ≤ y ∧ y ≤ m.ms := HP.out ▸ path_pre HPRE.out
    have hprR : ∀ y ∈ P.take k, PosR y := fun y hy => by have := hpr y hy; unfold PosR; omega
    have hcb := costL_bound (P.take k) pos hposR hprR
    have hlast := lastI_in hposR (P.take k) hprR
    have htl : (P.take k).length ≤ k := List.length_take_le _ _
    have hsn : P.take (k + 1) = P.take k ++ [v] := by rw [← HP.out, pathL_snoc HTT.out HZZ.out, HTO.out.2, HV.out]
    obtain ⟨s, hs⟩ : ∃ s, costL pos (P.take k) = s := ⟨_, rfl⟩
    obtain ⟨f, hf⟩ : ∃ f, lastI pos (P.take k) = f := ⟨_, rfl⟩
    obtain ⟨u, hu⟩ : ∃ u, costF f v = u := ⟨_, rfl⟩
    have hss : costL pos (P.take (k + 1)) = s + u := by rw [hsn, costL_snoc, hs, hf, hu]
    have hff : lastI pos (P.take (k + 1)) = v := by rw [hsn, lastI_snoc]
    rw [hs] at hcb ⊢
    rw [hf] at hlast ⊢
    have hub := cost_bound hlast hvR
    rw [hu] at hub
    have s3 : s ≤ 4200000000000 := by omega
    have s4 := hcb.1
    have u1 := hub.1
    have u2 := hub.2
    have e2 := IntWalk.i64_in (s + u) ⟨by omega, by omega⟩
    have HSS := Lib.hid hss
    have HFF := Lib.hid hff
    have HU := Lib.hid hu
    have HBX := Lib.hid (HBR.out.trans (HA4.out.mono HBR.out.size))
    clear hss hff hu hs hf hsn hub hcb hpr hprR
    go_wp2_with fail
    refine (rcost9_is f v u HU.out _ hlast hvR).mono ?_
    rintro e w' ⟨rfl, rfl⟩
    go_wp2
    go_roundw
    case rel => exact ⟨k + 1, by omega, by rw [HSS.out], by rw [HFF.out], by go_num, HBX.out, fun j t' z' hj ht' hz' => by
      rcases Nat.lt_or_ge j k with h | h
      · exact HPRE.out j t' z' h ht' hz'
      · obtain rfl : j = k := by omega
        rw [HTT.out] at ht'
        rw [HZZ.out] at hz'
        cases ht'
        cases hz'
        exact HOK.out⟩
    case measure => simp [intOf]; omega
end Go.Proofs.Ytdidcpealabaiaa

end
