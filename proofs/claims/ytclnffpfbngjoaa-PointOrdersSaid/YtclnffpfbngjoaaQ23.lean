import Derived.Test.YtclnffpfbngjoaaQ22
import Derived.Test.YtclnffpfbngjoaaQ19
import Derived.Test.YtclnffpfbngjoaaQ20
import Derived.Test.YtclnffpfbngjoaaQ21

section
/- Contracts of what the statements on tours begin with: the guard, and the check of a tour. -/
namespace Go.Proofs.Ytclnffpfbngjoaa
open Go Go.RowKit

theorem tour_zero {m : Mnt} {l : List Tgt} {day pos : Int} (h : (tourF m l day pos).2 = 0) : tourF m l day pos = (0, 0) := by
  obtain ⟨h1, h2, h3, h4, h5⟩ := tour_right h
  unfold tourF
  rw [if_neg (by simp [h1]), if_neg (by simp [h2]), if_neg (by rw [(withinB_iff _ _ _).2 h3]; simp), if_neg (by omega)]
  exact firstStep_all fun j t _ ht => h5 j t ht


def nameB30 (l : List Tgt) : Bool := l.all fun t => decide (t.name.size ≤ 30)
def fewT (n : Nat) : Bool := decide (n ≤ 5) || (decide (20 < n) && decide (n ≤ 23))
def shortB (m : Mnt) (l : List Tgt) : Bool := nameB30 l && (lightB m && fewT l.length)
theorem short_parts {m : Mnt} {l : List Tgt} (h : shortB m l = true) : (∀ t ∈ l, t.name.size ≤ 30) ∧ m.n1 ≤ 43 ∧ m.n2 ≤ 43 ∧ l.length ≤ 23 := by
  unfold shortB nameB30 lightB fewT at h
  simp only [Bool.and_eq_true, List.all_eq_true, decide_eq_true_eq, Bool.or_eq_true] at h
  obtain ⟨h1, ⟨h2, h3⟩, h4⟩ := h
  exact ⟨h1, rowsB_le h2, rowsB_le h3, by omega⟩
/-- A tour, as an argument: mounting, targets, day and position. -/
def tourV (m : Mnt) (A : Option Addr) (n c : Nat) (day pos : Int) : Value := .agg #[.int .i64 m.ls, .int .i64 m.ms, .int .i64 m.lo, .int .i64 m.hi, .int .i64 m.sp, .slice m.A1 m.n1 m.c1, .slice m.A2 m.n2 m.c2, .slice A n c, .int .i64 day, .int .i64 pos]
theorem shortB_no {m : Mnt} {l : List Tgt} {k : Nat} {u : Tgt} (hu : l[k]? = some u) (h : 30 < u.name.size) : shortB m l = false := by
  have : nameB30 l = false := by
    cases hb : nameB30 l
    · rfl
    · have := List.all_eq_true.1 hb u (List.mem_of_getElem? hu)
      simp at this
      omega
  unfold shortB; rw [this]; rfl
set_option maxRecDepth 100000 in
set_option maxHeartbeats 1000000 in
theorem shortp_is (m : Mnt) (A : Option Addr) (n c N : Nat) (l : List Tgt) (day pos : Int) (t : Bool) (h : shortB m l = t) (w : World) (hx : Reads w N 6 A n (tgtCells l)) (hN : N ≤ w.heap.size) (hn : n ≤ 9223372036854775807) :
    Calls Try.prog 5 #[tourV m A n c day pos] w fun e w' => e = .returned (.bool t) ∧ Below w.heap.size w w' := by
  have hl := hx.tlen
  have HX := Lib.hid hx
  have HL := Lib.hid hl
  have HS := Lib.hid h
  clear hx hl h
  unfold tourV
  go_enter Try.func5, Try.ntmps5
  go_wp2_with fail
  generalize hwn : (w.alloc (.cells #[.int .i64 (m.ls), .int .i64 (m.ms), .int .i64 (m.lo), .int .i64 (m.hi), .int .i64 (m.sp), .slice m.A1 m.n1 m.c1, .slice m.A2 m.n2 m.c2, .slice A n c, .int .i64 (day), .int .i64 (pos)] 28)) = w1
  have hbn : Below w.heap.size w w1 := by rw [← hwn]; repeat' (first | exact Below.refl _ _ | refine below_drewN ?_ _ | refine Below.drew ?_ | refine Below.alloc ?_ (by first | omega | (simp; done) | (simp; omega) | (simp [World.setCell]; omega)) _ | refine Below.setCell ?_ (by first | omega | (simp; done) | (simp; omega)) _)
  have HB1 := Lib.hid (show Below w.heap.size w w1 from hbn)
  have K0_1 := Lib.hid (show Blk w1 (w.heap.size) 28 #[.int .i64 (m.ls), .int .i64 (m.ms), .int .i64 (m.lo), .int .i64 (m.hi), .int .i64 (m.sp), .slice m.A1 m.n1 m.c1, .slice m.A2 m.n2 m.c2, .slice A n c, .int .i64 (day), .int .i64 (pos)] by rw [← hwn]; repeat' (first | exact Blk.at_ _ (by first | rfl | (simp; done) | (simp; omega)) _ _ | refine Blk.drewN ?_ _ | refine Blk.drew ?_ | refine Blk.alloc ?_ _ | refine Blk.far ?_ (by first | omega | (simp; done) | (simp; omega)) _ | assumption))
  have HN1 := Lib.hid hbn
  have hz1 := hbn.size
  clear hwn hbn
  have l0_1 : w.heap.size < w1.heap.size := K0_1.out.lt
  have z0_0_1 : w1.cell? ⟨w.heap.size, 0, none⟩ = some (.int .i64 (m.ls)) := K0_1.out.cell 0
  have z0_1_1 : w1.cell? ⟨w.heap.size, 1, none⟩ = some (.int .i64 (m.ms)) := K0_1.out.cell 1
  have z0_2_1 : w1.cell? ⟨w.heap.size, 2, none⟩ = some (.int .i64 (m.lo)) := K0_1.out.cell 2
  have z0_3_1 : w1.cell? ⟨w.heap.size, 3, none⟩ = some (.int .i64 (m.hi)) := K0_1.out.cell 3
  have z0_4_1 : w1.cell? ⟨w.heap.size, 4, none⟩ = some (.int .i64 (m.sp)) := K0_1.out.cell 4
  have z0_5_1 : w1.cell? ⟨w.heap.size, 5, none⟩ = some (.slice m.A1 m.n1 m.c1) := K0_1.out.cell 5
  have z0_6_1 : w1.cell? ⟨w.heap.size, 6, none⟩ = some (.slice m.A2 m.n2 m.c2) := K0_1.out.cell 6
  have z0_7_1 : w1.cell? ⟨w.heap.size, 7, none⟩ = some (.slice A n c) := K0_1.out.cell 7
  have z0_8_1 : w1.cell? ⟨w.heap.size, 8, none⟩ = some (.int .i64 (day)) := K0_1.out.cell 8
  have z0_9_1 : w1.cell? ⟨w.heap.size, 9, none⟩ = some (.int .i64 (pos)) := K0_1.out.cell 9
  go_loopw [3] (fun i wr => ∃ k : Nat, k ≤ n ∧ i = .int .i64 k ∧ wr = w1 ∧ nameB30 (l.take k) = true) (fun i _ => n - (intOf i).toNat)
  case atStart => exact ⟨0, by omega, rfl, rfl, rfl⟩
  case round =>
    obtain ⟨k, hk, rfl, rfl, hpre⟩ := hrel
    have HP := Lib.hid hpre
    clear hpre
    by_cases hlt : k < n
    · obtain ⟨xb, xo, u, rfl, hxb, hu, c0, -⟩ := (HX.out.belowLe HB1.out hN).tgt hlt
      have hkk : (k : Int) < (n : Int) := by omega
      by_cases h30 : 30 < u.name.size
      · have ht : t = false := by rw [← HS.out]; exact shortB_no hu h30
        subst ht
        have h31 : (30 : Int) < (u.name.size : Int) := by omega
        clear hu
        go_wp2
        go_ret
        exact ⟨rfl, HB1.out⟩
      · have h31 : ¬ (30 : Int) < (u.name.size : Int) := by omega
        have HU := Lib.hid hu
        clear hu
        go_wp2
        go_roundw
        case rel =>
          refine ⟨k + 1, by omega, by go_num, trivial, ?_⟩
          have := HP.out
          unfold nameB30 at this ⊢
          rw [List.take_add_one, HU.out, List.all_append, this]
          simp
          omega
        case measure => simp [intOf]; omega
    · obtain rfl : n = k := by omega
      have hnm : nameB30 l = true := by have := HP.out; rwa [List.take_of_length_le (by rw [HL.out]; exact Nat.le_refl _)] at this
      have ht : (lightB m && fewT n) = t := by rw [← HS.out]; unfold shortB; rw [hnm, HL.out]; rfl
      cases hl : lightB m
      · have ht' : t = false := by rw [← ht, hl]; rfl
        subst ht'
        have H := Lib.hid hl
        clear hl ht hnm
        go_wp2_with fail
        refine (light_is m false H.out _).mono ?_
        rintro e w2 ⟨rfl, hb⟩
        have HB2 := Lib.hid (show Below w.heap.size w w2 from step_below hb (by repeat' (first | exact Below.refl _ _ | exact HB1.out | refine below_drewN ?_ _ | refine Below.drew ?_ | refine Below.alloc ?_ (by first | omega | (simp; done) | (simp; omega) | (simp [World.setCell]; omega)) _ | refine Below.setCell ?_ (by first | omega | (simp; done) | (simp; omega)) _ | assumption)))
        have K0_2 := Lib.hid (step_blk hb (show Blk _ (w.heap.size) 28 #[.int .i64 (m.ls), .int .i64 (m.ms), .int .i64 (m.lo), .int .i64 (m.hi), .int .i64 (m.sp), .slice m.A1 m.n1 m.c1, .slice m.A2 m.n2 m.c2, .slice A n c, .int .i64 (day), .int .i64 (pos)] by repeat' (first | exact K0_1.out | exact Blk.at_ _ (by first | rfl | (simp; done) | (simp; omega)) _ _ | refine Blk.drewN ?_ _ | refine Blk.drew ?_ | refine Blk.alloc ?_ _ | refine Blk.far ?_ (by first | omega | (simp; done) | (simp; omega)) _ | assumption)))
        have hz2 := hb.size
        try simp only [World.size_alloc, World.drewN, World.drew] at hz2
        clear hb K0_1 z0_0_1 z0_1_1 z0_2_1 z0_3_1 z0_4_1 z0_5_1 z0_6_1 z0_7_1 z0_8_1 z0_9_1 l0_1
        have l0_2 : w.heap.size < w2.heap.size := K0_2.out.lt
        have z0_0_2 : w2.cell? ⟨w.heap.size, 0, none⟩ = some (.int .i64 (m.ls)) := K0_2.out.cell 0
        have z0_1_2 : w2.cell? ⟨w.heap.size, 1, none⟩ = some (.int .i64 (m.ms)) := K0_2.out.cell 1
        have z0_2_2 : w2.cell? ⟨w.heap.size, 2, none⟩ = some (.int .i64 (m.lo)) := K0_2.out.cell 2
        have z0_3_2 : w2.cell? ⟨w.heap.size, 3, none⟩ = some (.int .i64 (m.hi)) := K0_2.out.cell 3
        have z0_4_2 : w2.cell? ⟨w.heap.size, 4, none⟩ = some (.int .i64 (m.sp)) := K0_2.out.cell 4
        have z0_5_2 : w2.cell? ⟨w.heap.size, 5, none⟩ = some (.slice m.A1 m.n1 m.c1) := K0_2.out.cell 5
        have z0_6_2 : w2.cell? ⟨w.heap.size, 6, none⟩ = some (.slice m.A2 m.n2 m.c2) := K0_2.out.cell 6
        have z0_7_2 : w2.cell? ⟨w.heap.size, 7, none⟩ = some (.slice A n c) := K0_2.out.cell 7
        have z0_8_2 : w2.cell? ⟨w.heap.size, 8, none⟩ = some (.int .i64 (day)) := K0_2.out.cell 8
        have z0_9_2 : w2.cell? ⟨w.heap.size, 9, none⟩ = some (.int .i64 (pos)) := K0_2.out.cell 9
        go_wp2
        go_ret
        exact ⟨rfl, by repeat' (first | exact Below.refl _ _ | exact HB2.out | refine below_drewN ?_ _ | refine Below.drew ?_ | refine Below.alloc ?_ (by first | omega | (simp; done) | (simp; omega) | (simp [World.setCell]; omega)) _ | refine Below.setCell ?_ (by first | omega | (simp; done) | (simp; omega)) _ | assumption)⟩
      · have H := Lib.hid hl
        have ht2 : fewT n = t := by rw [← ht, hl]; rfl
        clear ht hnm hl
        go_wp2_with fail
        refine (light_is m true H.out _).mono ?_
        rintro e w2 ⟨rfl, hb⟩
        have HB2 := Lib.hid (show Below w.heap.size w w2 from step_below hb (by repeat' (first | exact Below.refl _ _ | exact HB1.out | refine below_drewN ?_ _ | refine Below.drew ?_ | refine Below.alloc ?_ (by first | omega | (simp; done) | (simp; omega) | (simp [World.setCell]; omega)) _ | refine Below.setCell ?_ (by first | omega | (simp; done) | (simp; omega)) _ | assumption)))
        have K0_2 := Lib.hid (step_blk hb (show Blk _ (w.heap.size) 28 #[.int .i64 (m.ls), .int .i64 (m.ms), .int .i64 (m.lo), .int .i64 (m.hi), .int .i64 (m.sp), .slice m.A1 m.n1 m.c1, .slice m.A2 m.n2 m.c2, .slice A n c, .int .i64 (day), .int .i64 (pos)] by repeat' (first | exact K0_1.out | exact Blk.at_ _ (by first | rfl | (simp; done) | (simp; omega)) _ _ | refine Blk.drewN ?_ _ | refine Blk.drew ?_ | refine Blk.alloc ?_ _ | refine Blk.far ?_ (by first | omega | (simp; done) | (simp; omega)) _ | assumption)))
        have hz2 := hb.size
        try simp only [World.size_alloc, World.drewN, World.drew] at hz2
        clear hb K0_1 z0_0_1 z0_1_1 z0_2_1 z0_3_1 z0_4_1 z0_5_1 z0_6_1 z0_7_1 z0_8_1 z0_9_1 l0_1
        have l0_2 : w.heap.size < w2.heap.size := K0_2.out.lt
        have z0_0_2 : w2.cell? ⟨w.heap.size, 0, none⟩ = some (.int .i64 (m.ls)) := K0_2.out.cell 0
        have z0_1_2 : w2.cell? ⟨w.heap.size, 1, none⟩ = some (.int .i64 (m.ms)) := K0_2.out.cell 1
        have z0_2_2 : w2.cell? ⟨w.heap.size, 2, none⟩ = some (.int .i64 (m.lo)) := K0_2.out.cell 2
        have z0_3_2 : w2.cell? ⟨w.heap.size, 3, none⟩ = some (.int .i64 (m.hi)) := K0_2.out.cell 3
        have z0_4_2 : w2.cell? ⟨w.heap.size, 4, none⟩ = some (.int .i64 (m.sp)) := K0_2.out.cell 4
        have z0_5_2 : w2.cell? ⟨w.heap.size, 5, none⟩ = some (.slice m.A1 m.n1 m.c1) := K0_2.out.cell 5
        have z0_6_2 : w2.cell? ⟨w.heap.size, 6, none⟩ = some (.slice m.A2 m.n2 m.c2) := K0_2.out.cell 6
        have z0_7_2 : w2.cell? ⟨w.heap.size, 7, none⟩ = some (.slice A n c) := K0_2.out.cell 7
        have z0_8_2 : w2.cell? ⟨w.heap.size, 8, none⟩ = some (.int .i64 (day)) := K0_2.out.cell 8
        have z0_9_2 : w2.cell? ⟨w.heap.size, 9, none⟩ = some (.int .i64 (pos)) := K0_2.out.cell 9
        unfold fewT at ht2
        by_cases h5 : n ≤ 5
        · have ht' : t = true := by simpa [h5] using ht2.symm
          subst ht'
          have k1 : (n : Int) ≤ 5 := by omega
          clear ht2 h5
          go_wp2
          go_ret
          exact ⟨rfl, by repeat' (first | exact Below.refl _ _ | exact HB2.out | refine below_drewN ?_ _ | refine Below.drew ?_ | refine Below.alloc ?_ (by first | omega | (simp; done) | (simp; omega) | (simp [World.setCell]; omega)) _ | refine Below.setCell ?_ (by first | omega | (simp; done) | (simp; omega)) _ | assumption)⟩
        have k1 : decide ((n : Int) ≤ 5) = false := decide_eq_false (by omega)
        by_cases h20 : 20 < n
        · have k2 : (20 : Int) < n := by omega
          by_cases h23 : n ≤ 23
          · have ht' : t = true := by simpa [h5, h20, h23] using ht2.symm
            subst ht'
            have k3 : (n : Int) ≤ 23 := by omega
            clear ht2 h5 h20 h23
            go_wp2
            go_ret
            exact ⟨rfl, by repeat' (first | exact Below.refl _ _ | exact HB2.out | refine below_drewN ?_ _ | refine Below.drew ?_ | refine Below.alloc ?_ (by first | omega | (simp; done) | (simp; omega) | (simp [World.setCell]; omega)) _ | refine Below.setCell ?_ (by first | omega | (simp; done) | (simp; omega)) _ | assumption)⟩
          · have ht' : t = false := by simpa [h5, h20, h23] using ht2.symm
            subst ht'
            have k3 : decide ((n : Int) ≤ 23) = false := decide_eq_false (by omega)
            clear ht2 h5 h20 h23
            go_wp2
            go_ret
            exact ⟨rfl, by repeat' (first | exact Below.refl _ _ | exact HB2.out | refine below_drewN ?_ _ | refine Below.drew ?_ | refine Below.alloc ?_ (by first | omega | (simp; done) | (simp; omega) | (simp [World.setCell]; omega)) _ | refine Below.setCell ?_ (by first | omega | (simp; done) | (simp; omega)) _ | assumption)⟩
        · have ht' : t = false := by simpa [h5, h20] using ht2.symm
          subst ht'
          have k2 : decide ((20 : Int) < (n : Int)) = false := decide_eq_false (by omega)
          clear ht2 h5 h20
          go_wp2
          go_ret
          exact ⟨rfl, by repeat' (first | exact Below.refl _ _ | exact HB2.out | refine below_drewN ?_ _ | refine Below.drew ?_ | refine Below.alloc ?_ (by first | omega | (simp; done) | (simp; omega) | (simp [World.setCell]; omega)) _ | refine Below.setCell ?_ (by first | omega | (simp; done) | (simp; omega)) _ | assumption)⟩
end Go.Proofs.Ytclnffpfbngjoaa

end

section
/- Arguments of the statements on pointing that are tours. -/
namespace Go.Proofs.Ytclnffpfbngjoaa
open Go Go.RowKit Go.ChangeShapes Go.WideShapes Go.ChangeAt Go.Joins Go.Deep

theorem tgts_of : ∀ (n : Nat) (us : List Value), us.length = n * 6 → (∀ q u, us[q]? = some u → KindIs ([true, false, false, false, false, false].getD (q % 6) false) u) → ∃ l : List Tgt, l.length = n ∧ tgtCells l = us ∧ ∀ t ∈ l, t.name.size ≤ maxLen
  | 0, us, h, _ => by
    obtain rfl : us = [] := List.length_eq_zero_iff.1 (by simpa using h)
    exact ⟨[], rfl, rfl, by simp⟩
  | n + 1, us, h, hk => by
    match us, h, hk with
    | x0 :: x1 :: x2 :: x3 :: x4 :: x5 :: t, h, hk =>
      obtain ⟨l, h1, h2, h3⟩ := tgts_of n t (by simp at h; omega) fun q u hu => by
        have := hk (q + 6) u (by simpa using hu)
        rwa [Nat.add_mod_right] at this
      obtain ⟨s0, rfl, f0⟩ : ∃ s : ByteArray, x0 = .string s ∧ s.size ≤ maxLen := hk 0 x0 rfl
      obtain ⟨z1, rfl, -⟩ : ∃ z, x1 = .int .i64 z ∧ I64 z := hk 1 x1 rfl
      obtain ⟨z2, rfl, -⟩ : ∃ z, x2 = .int .i64 z ∧ I64 z := hk 2 x2 rfl
      obtain ⟨z3, rfl, -⟩ : ∃ z, x3 = .int .i64 z ∧ I64 z := hk 3 x3 rfl
      obtain ⟨z4, rfl, -⟩ : ∃ z, x4 = .int .i64 z ∧ I64 z := hk 4 x4 rfl
      obtain ⟨z5, rfl, -⟩ : ∃ z, x5 = .int .i64 z ∧ I64 z := hk 5 x5 rfl
      refine ⟨⟨s0, z1, z2, z3, z4, z5⟩ :: l, by simp [h1], ?_, fun r hr => ?_⟩
      · show _ ++ tgtCells l = _
        rw [h2]
        rfl
      · rcases List.mem_cons.1 hr with rfl | hr
        · exact f0
        · exact h3 r hr
    | [], h, _ => simp at h
    | [_], h, _ => simp at h; omega
    | [_, _], h, _ => simp at h; omega
    | [_, _, _], h, _ => simp at h; omega
    | [_, _, _, _], h, _ => simp at h; omega
    | [_, _, _, _, _], h, _ => simp at h; omega

section
variable {H : Type} {enc : TypeId × Value → H} {P : Program} {w : World} {base b0 : Nat} {spare : Nat → Bool} {held : Bool} {r : Reach} {t e tI tS tR tL tA tM tN tX : TypeId} {v : Value} {d : DataW H} {p : List MemPlace} {fs gs ns fX : Array Field} {fuel : Nat} {cs : List Value} {x : DataW H × List MemPlace}
theorem open_tgts (hL : P.underlying tL = some (.slice tN)) (hN : P.underlying tN = some (.struct ns)) (hone : oneCellFields P ns = true) (hC : P.cellsOf tN = ns.size) (hf : ns.toList.map (·.type) = [tS, tI, tI, tI, tI, tI]) (hk : ns.size = 6) (hI : P.underlying tI = some (.int .i64)) (hS : P.underlying tS = some .string)
    (h : DataW.trod enc P w base spare held fuel tL cs = some x) : ∃ (A : Option Addr) (n c : Nat) (l : List Tgt), cs = [.slice A n c] ∧ (n ≤ c ∧ c ≤ 9223372036854775807) ∧ l.length = n ∧ (∀ t ∈ l, t.name.size ≤ maxLen) ∧ Reads w w.heap.size 6 A n (tgtCells l) := by
  obtain ⟨A, n, c, us, h1, h2, h3, h4, h5⟩ := open_slice_cells hL hN hone hC (by omega) h
  rw [hk] at h3 h4 h5
  obtain ⟨l, l1, l2, l3⟩ := tgts_of n us h3 fun q u hu => by
    obtain ⟨y, m, f, hfq, ht'⟩ := h5 q u hu
    have hq : q % 6 < 6 := Nat.mod_lt _ (by omega)
    have e1 : (ns.toList.map (·.type))[q % 6]? = some f.type := by rw [List.getElem?_map, Array.getElem?_toList, hfq]; rfl
    rw [hf] at e1
    obtain ⟨j, hj⟩ : ∃ j, q % 6 = j := ⟨_, rfl⟩
    rw [hj] at e1 hq ⊢
    rcases (show j = 0 ∨ j = 1 ∨ j = 2 ∨ j = 3 ∨ j = 4 ∨ j = 5 by omega) with rfl | rfl | rfl | rfl | rfl | rfl
    · have e2 : tS = f.type := by simpa using e1
      rw [← e2] at ht'
      exact cell_str hS ht'
    all_goals
      have e2 : tI = f.type := by simpa using e1
      rw [← e2] at ht'
      exact cell_int hI ht'
  exact ⟨A, n, c, l, h1, h2, l1, l3, l2 ▸ h4⟩

structure TourIn (m : Mnt) (A : Option Addr) (n c : Nat) (l : List Tgt) (day pos : Int) (w : World) : Prop where
  mnt : MntIn m w
  hn : n ≤ c ∧ c ≤ 9223372036854775807
  len : l.length = n
  fit : ∀ t ∈ l, t.name.size ≤ maxLen
  rd : Reads w w.heap.size 6 A n (tgtCells l)
  d : I64 day
  p : I64 pos
theorem arg_tour (hX : P.underlying tX = some (.struct fX)) (hfX : fX.toList.map (fun f => (f.type, f.offset)) = [(tM, 0), (tL, 7), (tA, 8)]) (hCX : P.cellsOf tX = 10)
    (he : P.underlying tM = some (.struct fs)) (hone : oneCellFields P fs = true) (hC : P.cellsOf tM = fs.size) (hf : fs.toList.map (·.type) = [tI, tI, tI, tI, tI, tR, tR]) (hI : P.underlying tI = some (.int .i64))
    (ht : P.underlying tR = some (.slice e)) (hg : P.underlying e = some (.struct gs)) (hone' : oneCellFields P gs = true) (hC' : P.cellsOf e = gs.size) (hf' : gs.toList.all (fun f => f.type == tI) = true) (hk : gs.size = 2)
    (hL : P.underlying tL = some (.slice tN)) (hN : P.underlying tN = some (.struct ns)) (hnone : oneCellFields P ns = true) (hnC : P.cellsOf tN = ns.size) (hnf : ns.toList.map (·.type) = [tS, tI, tI, tI, tI, tI]) (hnk : ns.size = 6) (hS : P.underlying tS = some .string)
    (hA : P.underlying tA = some (.array 2 tI)) (hcI : P.cellsOf tI = 1) (hcL : P.cellsOf tL = 1) (hcA : P.cellsOf tA = 2)
    (hv : Value.okWide P w r b0 tX v) (h : DataW.Trod enc P w base spare held tX v d p) : ∃ (m : Mnt) (A : Option Addr) (n c : Nat) (l : List Tgt) (day pos : Int), v = tourV m A n c day pos ∧ TourIn m A n c l day pos w := by
  obtain ⟨fuel, hh⟩ := h
  obtain ⟨⟨cs⟩, rfl, hsz⟩ := okWide_struct hX hv
  obtain ⟨xs, n', -, -, hlen, hxl, hat⟩ := DataW.trod_struct hX hh
  rw [hCX] at hlen
  have hcs : (Value.agg ⟨cs⟩).cells.toList = cs := by simp [Value.cells]
  rw [hcs] at hlen hat
  have hfsz : fX.size = 3 := by have := congrArg List.length hfX; simpa using this
  rw [hfsz] at hxl
  have hM7 : P.cellsOf tM = 7 := by have := congrArg List.length hf; rw [hC]; simpa using this
  have key : ∀ (j : Nat) (t : TypeId) (o : Nat), [(tM, 0), (tL, 7), (tA, 8)][j]? = some (t, o) → ∃ y, DataW.trod enc P w base spare held n' t ((cs.drop o).take (P.cellsOf t)) = some y := by
    intro j t o hj
    rw [← hfX, List.getElem?_map, Array.getElem?_toList] at hj
    cases hfj : fX[j]? with
    | none => rw [hfj] at hj; cases hj
    | some f =>
      rw [hfj] at hj
      have e2 : (f.type, f.offset) = (t, o) := Option.some.inj hj
      obtain ⟨rfl, rfl⟩ : f.type = t ∧ f.offset = o := by simpa using e2
      have hj3 : j < 3 := by rw [← hfsz]; exact (Array.getElem?_eq_some_iff.1 hfj).1
      exact ⟨_, (hat j f hfj).trans (List.getElem?_eq_getElem (by omega))⟩
  obtain ⟨y0, k0⟩ := key 0 tM 0 rfl
  obtain ⟨y1, k1⟩ := key 1 tL 7 rfl
  obtain ⟨y2, k2⟩ := key 2 tA 8 rfl
  rw [hM7] at k0
  rw [hcL] at k1
  rw [hcA] at k2
  obtain ⟨m, m1, m2⟩ := open_mnt he hone hC hf hI ht hg hone' hC' hf' hk k0
  obtain ⟨A, n, c, l, l1, l2, l3, l4, l5⟩ := open_tgts hL hN hnone hnC hnf hnk hI hS k1
  obtain ⟨zs, q, -, -, -, hzl, hel⟩ := DataW.trod_array hA k2
  have e0 := hel 0 (by omega)
  have e1 := hel 1 (by omega)
  rw [hcI, List.getElem?_eq_getElem (by omega)] at e0 e1
  match cs, hlen with
  | [d0, d1, d2, d3, d4, d5, d6, d7, d8, d9], _ =>
    obtain ⟨a, u0, -, wa⟩ := DataW.trod_int hI e0
    obtain ⟨b, u1, -, wb⟩ := DataW.trod_int hI e1
    simp at u0 u1 m1 l1
    obtain ⟨rfl, rfl, rfl, rfl, rfl, rfl, rfl⟩ := m1
    subst u0 u1 l1
    exact ⟨m, A, n, c, l, a, b, rfl, m2, l2, l3, l4, l5, I64.of_wf wa, I64.of_wf wb⟩
end
end Go.Proofs.Ytclnffpfbngjoaa

end

section
/- The least number of a list; the bound that potentials prove: plain law, and the contracts of the least number on both sides. -/
namespace Go.Proofs.Ytclnffpfbngjoaa
open Go Go.RowKit

def mn (a b : Int) : Int := if b < a then b else a
def minF : List Int → Int
  | [] => 0
  | x :: r => r.foldl mn x
theorem minF_snoc {l : List Int} (h : l ≠ []) (x : Int) : minF (l ++ [x]) = mn (minF l) x := by
  match l, h with
  | a :: r, _ => simp [minF, List.foldl_append]
set_option maxRecDepth 100000 in
theorem pmin_is (A : Option Addr) (n c N : Nat) (l : List Int) (v : Int) (hv : minF l = v) (hn0 : 0 < n) (w : World) (hx : Reads w N 1 A n (l.map (.int .i64))) (hn : n ≤ 9223372036854775807) :
    Calls Try.prog 49 #[.slice A n c] w fun e w' => e = .returned (.int .i64 v) ∧ w = w' := by
  have hl := hx.ilen
  obtain ⟨zb, zo, z0, rfl, hzb, hz0, c0⟩ := hx.int_ hn0
  simp only [Nat.add_zero] at c0
  have HX := Lib.hid hx
  have HV := Lib.hid hv
  have HL := Lib.hid hl
  have h1 : minF (l.take 1) = z0 := by
    match l, hz0 with
    | a :: r, hz0 => obtain rfl : a = z0 := by simpa using hz0
                     rfl
  have H1 := Lib.hid h1
  have hn1 : ¬ (n : Int) < 1 := by omega
  clear hx hv hl hz0 h1
  go_enter Try.func49, Try.ntmps49
  go_wp2
  go_loop [3, 4] (fun m i => ∃ q : Nat, 1 ≤ q ∧ q ≤ n ∧ m = .int .i64 (minF (l.take q)) ∧ i = .int .i64 q) (fun _ i => n - (intOf i).toNat)
  case atStart => exact ⟨1, by omega, by omega, by rw [H1.out], rfl⟩
  case round =>
    obtain ⟨q, hq1, hq, rfl, rfl⟩ := hrel
    by_cases hlt : q < n
    · obtain ⟨xb, xo, x, hA, -, hxq, c1⟩ := HX.out.int_ hlt
      cases hA
      have hs : minF (l.take (q + 1)) = mn (minF (l.take q)) x := by
        rw [List.take_add_one, hxq]
        exact minF_snoc (fun e => by have h1 := congrArg List.length e; have h2 := HL.out; rw [List.length_take, h2, List.length_nil] at h1; omega) x
      have HS := Lib.hid hs
      have hqq : (q : Int) < (n : Int) := by omega
      clear hs hxq
      go_wp2
      go_round
      case rel => exact ⟨q + 1, by omega, by omega, by rw [HS.out]; rfl, by go_num⟩
      case measure => simp [intOf]; omega
    · obtain rfl : n = q := by omega
      rw [List.take_of_length_le (by rw [HL.out]; exact Nat.le_refl _), HV.out]
      go_wp2
      go_ret
      exact ⟨rfl, rfl⟩
set_option maxRecDepth 100000 in
theorem rleast_is (A : Option Addr) (n c N : Nat) (l : List Int) (v : Int) (hv : minF l = v) (hn0 : 0 < n) (w : World) (hx : Reads w N 1 A n (l.map (.int .i64))) (hn : n ≤ 9223372036854775807) :
    Calls Try.prog 80 #[.slice A n c] w fun e w' => e = .returned (.int .i64 v) ∧ w = w' := by
  have hl := hx.ilen
  obtain ⟨zb, zo, z0, rfl, hzb, hz0, c0⟩ := hx.int_ hn0
  simp only [Nat.add_zero] at c0
  have HX := Lib.hid hx
  have HV := Lib.hid hv
  have HL := Lib.hid hl
  have h1 : minF (l.take 1) = z0 := by
    match l, hz0 with
    | a :: r, hz0 => obtain rfl : a = z0 := by simpa using hz0
                     rfl
  have H1 := Lib.hid h1
  clear hx hv hl hz0 h1
  go_enter Try.func80, Try.ntmps80
  go_wp2
  go_loop [3, 4] (fun m i => ∃ q : Nat, 1 ≤ q ∧ q ≤ n ∧ m = .int .i64 (minF (l.take q)) ∧ i = .int .i64 q) (fun _ i => n - (intOf i).toNat)
  case atStart => exact ⟨1, by omega, by omega, by rw [H1.out], rfl⟩
  case round =>
    obtain ⟨q, hq1, hq, rfl, rfl⟩ := hrel
    by_cases hlt : q < n
    · obtain ⟨xb, xo, x, hA, -, hxq, c1⟩ := HX.out.int_ hlt
      cases hA
      have hs : minF (l.take (q + 1)) = mn (minF (l.take q)) x := by
        rw [List.take_add_one, hxq]
        exact minF_snoc (fun e => by have h1 := congrArg List.length e; have h2 := HL.out; rw [List.length_take, h2, List.length_nil] at h1; omega) x
      have HS := Lib.hid hs
      have hqq : (q : Int) < (n : Int) := by omega
      clear hs hxq
      go_wp2
      go_round
      case rel => exact ⟨q + 1, by omega, by omega, by rw [HS.out]; rfl, by go_num⟩
      case measure => simp [intOf]; omega
    · obtain rfl : n = q := by omega
      rw [List.take_of_length_le (by rw [HL.out]; exact Nat.le_refl _), HV.out]
      go_wp2
      go_ret
      exact ⟨rfl, rfl⟩

/-- The potentials before, and the positions from which, target i is reached. -/
def befL (ps : List (List Int)) (i : Nat) : List Int := if i = 0 then [0] else (ps[i - 1]?).getD []
def froL (m : Mnt) (day pos : Int) (l : List Tgt) (i : Nat) : List Int := if i = 0 then [pos] else ((l[i - 1]?).map (posV m day)).getD []
theorem froL_succ {m : Mnt} {day pos : Int} {l : List Tgt} {i : Nat} {t : Tgt} (h : l[i]? = some t) : froL m day pos l (i + 1) = posV m day t := by unfold froL; rw [if_neg (by omega), Nat.add_sub_cancel, h]; rfl
def ShapeOk (m : Mnt) (day : Int) (l : List Tgt) (ps : List (List Int)) : Prop := ps.length = l.length ∧ ∀ (i : Nat) (p : List Int) (t : Tgt), ps[i]? = some p → l[i]? = some t → p.length = (turnsV m day t).length
def RangeOk (ps : List (List Int)) : Prop := ∀ p ∈ ps, smallL 1000000000000 p = true
def ProofAt (m : Mnt) (day pos : Int) (l : List Tgt) (ps : List (List Int)) (i : Nat) : Prop :=
  ∀ (p : List Int) (t : Tgt), ps[i]? = some p → l[i]? = some t → ∀ (k : Nat) (z to : Int), p[k]? = some z → (posV m day t)[k]? = some to → ∀ (n : Nat) (b a : Int), (befL ps i)[n]? = some b → (froL m day pos l i)[n]? = some a → z ≤ b + costF a to
def ProofOk (m : Mnt) (day pos : Int) (l : List Tgt) (ps : List (List Int)) : Prop := ∀ i, ProofAt m day pos l ps i
/-- What the check of potentials answers. -/
def LeastRes (m : Mnt) (day pos : Int) (l : List Tgt) (ps : List (List Int)) (C E : Int) : Prop :=
  (¬ ShapeOk m day l ps ∧ C = 0 ∧ E = 10) ∨ (ShapeOk m day l ps ∧ ¬ RangeOk ps ∧ C = 0 ∧ E = 2) ∨ (ShapeOk m day l ps ∧ RangeOk ps ∧ ¬ ProofOk m day pos l ps ∧ C = 0 ∧ E = 22) ∨ (ShapeOk m day l ps ∧ RangeOk ps ∧ ProofOk m day pos l ps ∧ C = minF (befL ps l.length) ∧ E = 0)
section
variable {m : Mnt} {day pos : Int} {l : List Tgt} {ps : List (List Int)} {C E : Int}
theorem LeastRes.range (h : LeastRes m day pos l ps C E) (h1 : ShapeOk m day l ps) (h2 : ¬ RangeOk ps) : C = 0 ∧ E = 2 := by
  rcases h with h | h | h | h
  · exact absurd h1 h.1
  · exact h.2.2
  · exact absurd h.2.1 h2
  · exact absurd h.2.1 h2
theorem LeastRes.ok (h : LeastRes m day pos l ps C E) (h1 : ShapeOk m day l ps) (h2 : RangeOk ps) (h3 : ProofOk m day pos l ps) : C = minF (befL ps l.length) ∧ E = 0 := by
  rcases h with h | h | h | h
  · exact absurd h1 h.1
  · exact absurd h2 h.2.1
  · exact absurd h3 h.2.2.1
  · exact h.2.2.2
theorem LeastRes.zero (h : LeastRes m day pos l ps C 0) : ShapeOk m day l ps ∧ ProofOk m day pos l ps ∧ C = minF (befL ps l.length) := by
  rcases h with h | h | h | h
  · exact absurd h.2.2 (by decide)
  · exact absurd h.2.2.2 (by decide)
  · exact absurd h.2.2.2.2 (by decide)
  · exact ⟨h.1, h.2.2.1, h.2.2.2.1⟩
end
end Go.Proofs.Ytclnffpfbngjoaa

end

section
/- Contract of the package's check of potentials. -/
namespace Go.Proofs.Ytclnffpfbngjoaa
open Go Go.RowKit

theorem posV_in {m : Mnt} {day : Int} {t : Tgt} {z : Int} (h : z ∈ posV m day t) : m.ls ≤ z ∧ z ≤ m.ms := by
  unfold posV posL at h
  obtain ⟨k, hk, rfl⟩ := List.mem_map.1 h
  obtain ⟨h1, h2, -⟩ := turn_range hk
  exact ⟨h1, h2⟩
/-- What is known of two lists that are made. -/
def PfI (a b : List Int) (ci ki : Nat) (i : Nat) (x : Pick2) (w : World) : Prop := (i = ci → Reads w w.heap.size 1 x.1.1 1 (a.map (.int .i64))) ∧ (i = ki → Reads w w.heap.size 1 x.1.1 1 (b.map (.int .i64)))
theorem PfI.stb {a b : List Int} {ci ki : Nat} : Stb (PfI a b ci ki) := fun _ _ _ _ hb h => ⟨fun e => ((h.1 e).below hb).more hb.size, fun e => ((h.2 e).below hb).more hb.size⟩
end Go.Proofs.Ytclnffpfbngjoaa

end

section
/- Contracts of the reference's functions on choices: whether a list has a number, positions, costs, the check of a choice. -/
namespace Go.Proofs.Ytclnffpfbngjoaa
open Go Go.RowKit

theorem has_is (A : Option Addr) (n c N : Nat) (l : List Int) (z : Int) (t : Bool) (ht : decide (z ∈ l) = t) (w : World) (hx : Reads w N 1 A n (l.map (.int .i64))) (hn : n ≤ 9223372036854775807) :
    Calls Try.prog 59 #[.slice A n c, .int .i64 z] w fun e w' => e = .returned (.bool t) ∧ w = w' := by
  have hl := hx.ilen
  have HX := Lib.hid hx
  have HL := Lib.hid hl
  have HT := Lib.hid ht
  clear hx hl ht
  go_enter Try.func59, Try.ntmps59
  go_wp2
  go_loopw [5] (fun i wr => ∃ k : Nat, k ≤ n ∧ i = .int .i64 k ∧ wr = w ∧ z ∉ l.take k) (fun i _ => n - (intOf i).toNat)
  case atStart => exact ⟨0, by omega, rfl, rfl, by simp⟩
  case round =>
    obtain ⟨k, hk, rfl, rfl, hpre⟩ := hrel
    have HP := Lib.hid hpre
    clear hpre
    by_cases hlt : k < n
    · obtain ⟨xb, xo, u, rfl, -, hu, c0⟩ := HX.out.int_ hlt
      have HU := Lib.hid hu
      have hkk : (k : Int) < (n : Int) := by omega
      clear hu
      by_cases he : u = z
      · subst he
        have ht' : t = true := by rw [← HT.out]; exact decide_eq_true (List.mem_of_getElem? HU.out)
        subst ht'
        have hq : (u == u) = true := by simp
        go_wp2
        go_ret
        exact ⟨rfl, rfl⟩
      · have hq : (u == z) = false := by simpa using he
        go_wp2
        go_roundw
        case rel =>
          refine ⟨k + 1, by omega, by go_num, trivial, ?_⟩
          rw [List.take_add_one, HU.out]
          intro hm
          rcases List.mem_append.1 hm with h | h
          · exact HP.out h
          · exact he (by simp at h; exact h.symm)
        case measure => simp [intOf]; omega
    · have ht' : t = false := by
        rw [← HT.out]
        refine decide_eq_false ?_
        have := HP.out
        rwa [List.take_of_length_le (by have := HL.out; omega)] at this
      subst ht'
      go_wp2
      go_ret
      exact ⟨rfl, rfl⟩

set_option maxRecDepth 100000 in
theorem rposition_is (m : Mnt) (t : Tgt) (day k X Y v : Int) (hA : appF m t day = (X, Y)) (hv : X + k * 1296000 = v) (hk : -1000 ≤ k ∧ k ≤ 1000) (w : World) (hx : MntAt m w) (hm : mntErr m = 0) (ht : tgtErr t = 0) (hd : dayErr day = 0) :
    Calls Try.prog 86 #[m.val, t.val, .int .i64 day, .int .i64 k] w fun e w' => e = .returned (.int .i64 v) ∧ Below w.heap.size w w' := by
  have hin := app_in (day := day) hm ht
  rw [hA] at hin
  obtain ⟨i1, i2, -, -⟩ := hin
  simp only at i1 i2
  obtain ⟨k1, k2⟩ := hk
  have HX := Lib.hid hx
  have HA := Lib.hid hA
  have HM := Lib.hid hm
  have HT := Lib.hid ht
  have HD := Lib.hid hd
  have e1 := IntWalk.i64_in (k * 1296000) ⟨by omega, by omega⟩
  have e2 := IntWalk.i64_in v ⟨by omega, by omega⟩
  clear hx hA hm ht hd
  unfold Mnt.val Tgt.val
  go_enter Try.func86, Try.ntmps86
  go_wp2_with fail
  refine (rapparent_is m t day X Y HA.out _ (HX.out.lay (by repeat' (first | exact Below.refl _ _ | refine below_drewN ?_ _ | refine Below.drew ?_ | refine Below.alloc ?_ (by first | omega | (simp; done) | (simp; omega) | (simp [World.setCell]; omega)) _ | refine Below.setCell ?_ (by first | omega | (simp; done) | (simp; omega)) _))) HM.out HT.out HD.out).mono ?_
  rintro e w1 ⟨rfl, hb⟩
  have HB1 := Lib.hid (show Below w.heap.size w w1 from step_below hb (by repeat' (first | exact Below.refl _ _ | exact HB0.out | refine below_drewN ?_ _ | refine Below.drew ?_ | refine Below.alloc ?_ (by first | omega | (simp; done) | (simp; omega) | (simp [World.setCell]; omega)) _ | refine Below.setCell ?_ (by first | omega | (simp; done) | (simp; omega)) _ | assumption)))
  have K0_1 := Lib.hid (step_blk hb (show Blk _ (w.heap.size) 24 #[.int .i64 (m.ls), .int .i64 (m.ms), .int .i64 (m.lo), .int .i64 (m.hi), .int .i64 (m.sp), .slice m.A1 m.n1 m.c1, .slice m.A2 m.n2 m.c2] by repeat' (first | exact Blk.at_ _ (by first | rfl | (simp; done) | (simp; omega)) _ _ | refine Blk.drewN ?_ _ | refine Blk.drew ?_ | refine Blk.alloc ?_ _ | refine Blk.far ?_ (by first | omega | (simp; done) | (simp; omega)) _ | assumption)))
  have K1_1 := Lib.hid (step_blk hb (show Blk _ (w.heap.size + 1) 62 #[.string t.name, .int .i64 (t.az), .int .i64 (t.ht), .int .i64 (t.fr), .int .i64 (t.to), .int .i64 (t.dw)] by repeat' (first | exact Blk.at_ _ (by first | rfl | (simp; done) | (simp; omega)) _ _ | refine Blk.drewN ?_ _ | refine Blk.drew ?_ | refine Blk.alloc ?_ _ | refine Blk.far ?_ (by first | omega | (simp; done) | (simp; omega)) _ | assumption)))
  have hz1 := hb.size
  try simp only [World.size_alloc, World.drewN, World.drew] at hz1
  clear hb
  have l0_1 : w.heap.size < w1.heap.size := K0_1.out.lt
  have z0_0_1 : w1.cell? ⟨w.heap.size, 0, none⟩ = some (.int .i64 (m.ls)) := K0_1.out.cell 0
  have z0_1_1 : w1.cell? ⟨w.heap.size, 1, none⟩ = some (.int .i64 (m.ms)) := K0_1.out.cell 1
  have z0_2_1 : w1.cell? ⟨w.heap.size, 2, none⟩ = some (.int .i64 (m.lo)) := K0_1.out.cell 2
  have z0_3_1 : w1.cell? ⟨w.heap.size, 3, none⟩ = some (.int .i64 (m.hi)) := K0_1.out.cell 3
  have z0_4_1 : w1.cell? ⟨w.heap.size, 4, none⟩ = some (.int .i64 (m.sp)) := K0_1.out.cell 4
  have z0_5_1 : w1.cell? ⟨w.heap.size, 5, none⟩ = some (.slice m.A1 m.n1 m.c1) := K0_1.out.cell 5
  have z0_6_1 : w1.cell? ⟨w.heap.size, 6, none⟩ = some (.slice m.A2 m.n2 m.c2) := K0_1.out.cell 6
  have l1_1 : w.heap.size + 1 < w1.heap.size := K1_1.out.lt
  have z1_0_1 : w1.cell? ⟨w.heap.size + 1, 0, none⟩ = some (.string t.name) := K1_1.out.cell 0
  have z1_1_1 : w1.cell? ⟨w.heap.size + 1, 1, none⟩ = some (.int .i64 (t.az)) := K1_1.out.cell 1
  have z1_2_1 : w1.cell? ⟨w.heap.size + 1, 2, none⟩ = some (.int .i64 (t.ht)) := K1_1.out.cell 2
  have z1_3_1 : w1.cell? ⟨w.heap.size + 1, 3, none⟩ = some (.int .i64 (t.fr)) := K1_1.out.cell 3
  have z1_4_1 : w1.cell? ⟨w.heap.size + 1, 4, none⟩ = some (.int .i64 (t.to)) := K1_1.out.cell 4
  have z1_5_1 : w1.cell? ⟨w.heap.size + 1, 5, none⟩ = some (.int .i64 (t.dw)) := K1_1.out.cell 5
  rw [← hv] at e2
  have i0 : ∀ w, (Instr.index 26 (.agg #[.int .i64 X, .int .i64 Y]) (.int .i64 0)).run Try.prog w = .ok (.int .i64 X) w := fun _ => by kernel_rfl
  go_wp2
  go_ret
  exact ⟨rfl, HB1.out⟩

theorem rway9_is (a b : Int) (n : Int) (t : Bool) (hn : wayF a b = n) (ht : decide (648000 < n) = t) (w : World) (h1 : PosR a) (h2 : PosR b) :
    Calls Try.prog 88 #[.int .i64 a, .int .i64 b] w fun e w' => e = .returned (.tuple #[.int .i64 n, .bool t]) ∧ w = w' := by
  unfold PosR at h1 h2
  have hs := IntWalk.i64_in (b - a) ⟨by omega, by omega⟩
  have hn' : ((b - a).natAbs : Int) = n := by rw [← hn]; unfold wayF; omega
  have HN := Lib.hid hn'
  have HT := Lib.hid ht
  have HB := Lib.hid (And.intro h1 h2)
  clear hn hn' ht
  go_enter Try.func88, Try.ntmps88
  go_wp2_with fail
  refine (abs_in _ _ (by have := HB.out; omega) (by have := HB.out; omega)).mono ?_
  rintro e w' ⟨rfl, rfl⟩
  rw [HN.out]
  go_wp2
  go_ret2
  exact ⟨by rw [← HT.out]; first | done | rfl, rfl⟩
theorem rcost9_is (a b : Int) (n : Int) (hn : costF a b = n) (w : World) (h1 : PosR a) (h2 : PosR b) :
    Calls Try.prog 87 #[.int .i64 a, .int .i64 b] w fun e w' => e = .returned (.int .i64 n) ∧ w = w' := by
  obtain ⟨p, hp⟩ : ∃ p, wayF a b = p := ⟨_, rfl⟩
  have hpb : 0 ≤ p ∧ p ≤ 200000000000 := by rw [← hp]; unfold wayF PosR at *; omega
  obtain ⟨p1, p2⟩ := hpb
  have HP := Lib.hid hp
  by_cases hc : 648000 < p
  · have hd := Lib.hid (decide_eq_true hc)
    have hn' : n = p + 10000000000 := by rw [← hn]; unfold costF; rw [hp, if_pos hc]
    subst hn'
    have e2 := IntWalk.i64_in (p + 10000000000) ⟨by omega, by omega⟩
    clear hn hp hc
    go_enter Try.func87, Try.ntmps87
    go_wp2_with fail
    refine (rway9_is a b p true HP.out hd.out _ h1 h2).mono ?_
    rintro e w' ⟨rfl, rfl⟩
    go_wp2
    go_ret
    exact ⟨rfl, rfl⟩
  · have hd := Lib.hid (decide_eq_false hc)
    have hn' : n = p := by rw [← hn]; unfold costF; rw [hp, if_neg hc]
    subst hn'
    clear hn hp hc
    go_enter Try.func87, Try.ntmps87
    go_wp2_with fail
    refine (rway9_is a b n false HP.out hd.out _ h1 h2).mono ?_
    rintro e w' ⟨rfl, rfl⟩
    go_wp2
    go_ret
    exact ⟨rfl, rfl⟩
theorem tour_each {m : Mnt} {l : List Tgt} {day pos : Int} (h : (tourF m l day pos).2 = 0) {i : Nat} {t : Tgt} (ht : l[i]? = some t) : tgtErr t = 0 ∧ (turnsF m t day).2 = 0 := by
  have hs := (tour_right h).2.2.2.2 i t ht
  unfold stepErr at hs
  by_cases h0 : nextErr (l.take i) t ≠ 0
  · rw [if_pos h0] at hs; exact absurd hs h0
  · rw [if_neg h0] at hs
    exact ⟨(next_zero (Decidable.not_not.1 h0)).1, hs⟩
theorem turnsAt_len43 {m : Mnt} {X Y : Int} {L : List Int} {F : Int} (h : turnsAt m X Y = (L, F)) : L.length ≤ 43 := by
  rw [← show (turnsAt m X Y).1 = L by rw [h]]
  unfold turnsAt
  split
  · simp
  · split
    · simp
    · exact turnsTo_len _ _ _ _
end Go.Proofs.Ytclnffpfbngjoaa

end

section
/- Contract of the reference's check of potentials. -/
namespace Go.Proofs.Ytclnffpfbngjoaa
open Go Go.RowKit

theorem turnsV_eq {m : Mnt} {day X Y F : Int} {t : Tgt} {L : List Int} (hA : appF m t day = (X, Y)) (hT : turnsAt m X Y = (L, F)) : turnsV m day t = L ∧ ∀ (j : Nat) (k : Int), L[j]? = some k → (posV m day t)[j]? = some (X + k * 1296000) := by
  have h : turnsV m day t = L := by unfold turnsV turnsF; rw [hA]; simp only; rw [hT]
  refine ⟨h, fun j k hk => ?_⟩
  unfold posV
  rw [h, hA]
  exact posL_get hk
def TgtCells (xb xo : Nat) (t : Tgt) (w : World) : Prop := w.cell? ⟨xb, xo, none⟩ = some (.string t.name) ∧ w.cell? ⟨xb, xo + 1, none⟩ = some (.int .i64 t.az) ∧ w.cell? ⟨xb, xo + 2, none⟩ = some (.int .i64 t.ht) ∧ w.cell? ⟨xb, xo + 3, none⟩ = some (.int .i64 t.fr) ∧ w.cell? ⟨xb, xo + 4, none⟩ = some (.int .i64 t.to) ∧ w.cell? ⟨xb, xo + 5, none⟩ = some (.int .i64 t.dw)

end Go.Proofs.Ytclnffpfbngjoaa

end
