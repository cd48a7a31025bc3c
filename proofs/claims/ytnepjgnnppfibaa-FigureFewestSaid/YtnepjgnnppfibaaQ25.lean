import Derived.Test.YtnepjgnnppfibaaQ23
import Derived.Test.YtnepjgnnppfibaaQ24
import Derived.Test.YtnepjgnnppfibaaQ7

section
/- The fewest sessions: the reference. -/
namespace Go.Proofs.Ytnepjgnnppfibaa
open Go Go.RowKit

@[go_sem ↓ high] theorem neq_nil_ints6 (A : Option Addr) (n c : Nat) (w : World) : (binOp .neq 22 (.slice A n c) (.slice none 0 0)).run Try.prog w = .ok (.bool (!A.isNone)) w := by
  simp only [binOp]
  simp [Op.equal, Op.maxDepth, eq_nil_ints6]
theorem few_kind {h v : List Int} {ws : List (List Int)} {M T K : Int} (h1 : twoErr h v = 0) (h2 : kindErr h.length ws M T = K) (h0 : K ≠ 0) : fewErr h v ws M T = K := by unfold fewErr; rw [h1, if_neg (by simp), h2, if_pos h0]
theorem BestAt.below {base B m : Nat} {bo : Option Nat} {bv fv : Value} {w w' : World} (h : BestAt base B m bo bv fv w) (hb : Below w.heap.size w w') : BestAt base B m bo bv fv w' := by
  cases bo with
  | none => exact h
  | some i =>
    obtain ⟨g, c, e1, e2, ho⟩ := h
    exact ⟨g, c, e1, e2, own_below ho hb (Nat.le_refl _)⟩
/-- What a copy of heights that are left holds. -/
def PfLf (n ci : Nat) (l : List Int) (i : Nat) (x : Pick2) (w : World) : Prop := i = ci → Reads w w.heap.size 1 x.1.1 n (l.map (.int .i64))
theorem PfLf.stb {l : List Int} {n ci : Nat} : Stb (PfLf n ci l) := fun _ _ _ _ hb h e => ((h e).below hb).more hb.size
theorem grownN_below {w w' : World} {g : Nat} (h : w.grownBy w' (some g)) (hg : g ≤ w.heap.size) : Below g w w' := ⟨h.os, h.tape, h.output, h.size, fun k hk => h.block k (by omega) (fun e => by have := Option.some.inj e; omega)⟩

set_option maxRecDepth 100000 in
set_option maxHeartbeats 16000000 in
theorem rfew_is (A V B : Option Addr) (n ch nv cv m d : Nat) (h v : List Int) (t : List TRow) (M T E : Int) (hE : fewErr h v (t.map (·.xs)) M T = E) (hn : n ≤ 1000) (hnv : nv ≤ 1000) (hm : m ≤ 1000) (w : World) (hx : Reads w w.heap.size 1 A n (h.map (.int .i64))) (hv : Reads w w.heap.size 1 V nv (v.map (.int .i64))) (hk : ReadsT w w.heap.size B m t) :
    Calls Try.prog 70 #[.slice A n ch, .slice V nv cv, .agg #[.slice B m d, .int .i64 M, .int .i64 T]] w (FewPost h v (t.map (·.xs)) M T m E w) := by
  have hl : h.length = n := by have := hx.1; simpa using this
  have hvl : v.length = nv := by have := hv.1; simpa using this
  have htl : (t.map (·.xs)).length = m := by rw [List.length_map]; exact hk.len
  have HX := Lib.hid hx
  have HV := Lib.hid hv
  have HK := Lib.hid hk
  have HL := Lib.hid hl
  have HVL := Lib.hid hvl
  have HTL := Lib.hid htl
  have HE := Lib.hid hE
  obtain ⟨E1, hE1⟩ : ∃ E, twoErr h v = E := ⟨_, rfl⟩
  have HE1 := Lib.hid hE1
  by_cases h0 : E1 = 0
  rotate_left
  · have HEE := Lib.hid (show E1 = E by rw [← hE]; unfold fewErr; rw [hE1, if_pos h0])
    have H0 := Lib.hid (show E ≠ 0 by rw [← HEE.out]; exact h0)
    have e1 : (E1 != 0) = true := by simpa using h0
    clear h0 hE1 hl hvl htl hE hk hx hv
    go_enter Try.func70, Try.ntmps70
    go_wp2_with fail
    generalize hwn : (w.alloc (.cells #[.slice B m d, .int .i64 (M), .int .i64 (T)] 107)) = w1
    have hbn : Below w.heap.size w w1 := by rw [← hwn]; repeat' (first | exact Below.refl _ _ | refine below_drewN ?_ _ | refine Below.drew ?_ | refine Below.alloc ?_ (by first | omega | (simp; done) | (simp; omega) | (simp [World.setCell]; omega)) _ | refine Below.setCell ?_ (by first | omega | (simp; done) | (simp; omega)) _)
    have HB1 := Lib.hid (show Below w.heap.size w w1 from hbn)
    have K0_1 := Lib.hid (show Blk w1 (w.heap.size) 107 #[.slice B m d, .int .i64 (M), .int .i64 (T)] by rw [← hwn]; repeat' (first | exact Blk.at_ _ (by first | rfl | (simp; done) | (simp; omega)) _ _ | refine Blk.drewN ?_ _ | refine Blk.drew ?_ | refine Blk.alloc ?_ _ | refine Blk.far ?_ (by first | omega | (simp; done) | (simp; omega)) _ | assumption))
    have HN1 := Lib.hid hbn
    have hz1 := hbn.size
    clear hwn hbn
    have l0_1 : w.heap.size < w1.heap.size := K0_1.out.lt
    have z0_0_1 : w1.cell? ⟨w.heap.size, 0, none⟩ = some (.slice B m d) := K0_1.out.cell 0
    have z0_1_1 : w1.cell? ⟨w.heap.size, 1, none⟩ = some (.int .i64 (M)) := K0_1.out.cell 1
    have z0_2_1 : w1.cell? ⟨w.heap.size, 2, none⟩ = some (.int .i64 (T)) := K0_1.out.cell 2
    refine (rtwo_is A n ch V nv cv h v E1 HE1.out _ ((HX.out.below HB1.out).more HB1.out.size) (by omega) ((HV.out.below HB1.out).more HB1.out.size) (by omega)).mono ?_
    rintro e w2 ⟨rfl, hb⟩
    have HB2 := Lib.hid (show Below w.heap.size w w2 from step_below hb (by repeat' (first | exact Below.refl _ _ | exact HB1.out | refine below_drewN ?_ _ | refine Below.drew ?_ | refine Below.alloc ?_ (by first | omega | (simp; done) | (simp; omega) | (simp [World.setCell]; omega)) _ | refine Below.setCell ?_ (by first | omega | (simp; done) | (simp; omega)) _ | assumption)))
    have K0_2 := Lib.hid (step_blk hb (show Blk _ (w.heap.size) 107 #[.slice B m d, .int .i64 (M), .int .i64 (T)] by repeat' (first | exact K0_1.out | exact Blk.at_ _ (by first | rfl | (simp; done) | (simp; omega)) _ _ | refine Blk.drewN ?_ _ | refine Blk.drew ?_ | refine Blk.alloc ?_ _ | refine Blk.far ?_ (by first | omega | (simp; done) | (simp; omega)) _ | assumption)))
    have hz2 := hb.size
    try simp only [World.size_alloc, World.drewN, World.drew] at hz2
    clear hb K0_1 z0_0_1 z0_1_1 z0_2_1 l0_1
    have l0_2 : w.heap.size < w2.heap.size := K0_2.out.lt
    have z0_0_2 : w2.cell? ⟨w.heap.size, 0, none⟩ = some (.slice B m d) := K0_2.out.cell 0
    have z0_1_2 : w2.cell? ⟨w.heap.size, 1, none⟩ = some (.int .i64 (M)) := K0_2.out.cell 1
    have z0_2_2 : w2.cell? ⟨w.heap.size, 2, none⟩ = some (.int .i64 (T)) := K0_2.out.cell 2
    go_wp2
    go_ret2
    exact FewPost.bad H0.out (by rw [← HEE.out]; rfl) HB2.out
  subst h0
  have hn0 : nv = n := by have h1 := (two_ok hE1).2.1; rw [hvl, hl] at h1; exact h1
  obtain rfl : n = nv := hn0.symm
  obtain ⟨tz, htz⟩ : ∃ b, withinB (m : Int) 1 6 = b := ⟨_, rfl⟩
  have HTZ := Lib.hid htz
  clear hE1 hl hvl htl hE hk hx hv htz hn0
  cases tz with
  | false =>
    have HEE := Lib.hid (show (10 : Int) = E by rw [← HE.out]; exact (few_kind HE1.out (by rw [HL.out]; exact kind_shape (by rw [HTL.out]; exact HTZ.out)) (by decide)).symm)
    go_enter Try.func70, Try.ntmps70
    go_wp2_with fail
    generalize hwn : (w.alloc (.cells #[.slice B m d, .int .i64 (M), .int .i64 (T)] 107)) = w1
    have hbn : Below w.heap.size w w1 := by rw [← hwn]; repeat' (first | exact Below.refl _ _ | refine below_drewN ?_ _ | refine Below.drew ?_ | refine Below.alloc ?_ (by first | omega | (simp; done) | (simp; omega) | (simp [World.setCell]; omega)) _ | refine Below.setCell ?_ (by first | omega | (simp; done) | (simp; omega)) _)
    have HB1 := Lib.hid (show Below w.heap.size w w1 from hbn)
    have K0_1 := Lib.hid (show Blk w1 (w.heap.size) 107 #[.slice B m d, .int .i64 (M), .int .i64 (T)] by rw [← hwn]; repeat' (first | exact Blk.at_ _ (by first | rfl | (simp; done) | (simp; omega)) _ _ | refine Blk.drewN ?_ _ | refine Blk.drew ?_ | refine Blk.alloc ?_ _ | refine Blk.far ?_ (by first | omega | (simp; done) | (simp; omega)) _ | assumption))
    have HN1 := Lib.hid hbn
    have hz1 := hbn.size
    clear hwn hbn
    have l0_1 : w.heap.size < w1.heap.size := K0_1.out.lt
    have z0_0_1 : w1.cell? ⟨w.heap.size, 0, none⟩ = some (.slice B m d) := K0_1.out.cell 0
    have z0_1_1 : w1.cell? ⟨w.heap.size, 1, none⟩ = some (.int .i64 (M)) := K0_1.out.cell 1
    have z0_2_1 : w1.cell? ⟨w.heap.size, 2, none⟩ = some (.int .i64 (T)) := K0_1.out.cell 2
    refine (rtwo_is A n ch V n cv h v 0 HE1.out _ ((HX.out.below HB1.out).more HB1.out.size) (by omega) ((HV.out.below HB1.out).more HB1.out.size) (by omega)).mono ?_
    rintro e w2 ⟨rfl, hb⟩
    have HB2 := Lib.hid (show Below w.heap.size w w2 from step_below hb (by repeat' (first | exact Below.refl _ _ | exact HB1.out | refine below_drewN ?_ _ | refine Below.drew ?_ | refine Below.alloc ?_ (by first | omega | (simp; done) | (simp; omega) | (simp [World.setCell]; omega)) _ | refine Below.setCell ?_ (by first | omega | (simp; done) | (simp; omega)) _ | assumption)))
    have K0_2 := Lib.hid (step_blk hb (show Blk _ (w.heap.size) 107 #[.slice B m d, .int .i64 (M), .int .i64 (T)] by repeat' (first | exact K0_1.out | exact Blk.at_ _ (by first | rfl | (simp; done) | (simp; omega)) _ _ | refine Blk.drewN ?_ _ | refine Blk.drew ?_ | refine Blk.alloc ?_ _ | refine Blk.far ?_ (by first | omega | (simp; done) | (simp; omega)) _ | assumption)))
    have hz2 := hb.size
    try simp only [World.size_alloc, World.drewN, World.drew] at hz2
    clear hb K0_1 z0_0_1 z0_1_1 z0_2_1 l0_1
    have l0_2 : w.heap.size < w2.heap.size := K0_2.out.lt
    have z0_0_2 : w2.cell? ⟨w.heap.size, 0, none⟩ = some (.slice B m d) := K0_2.out.cell 0
    have z0_1_2 : w2.cell? ⟨w.heap.size, 1, none⟩ = some (.int .i64 (M)) := K0_2.out.cell 1
    have z0_2_2 : w2.cell? ⟨w.heap.size, 2, none⟩ = some (.int .i64 (T)) := K0_2.out.cell 2
    go_wp2_with fail
    refine (withinref_is _ _ _ false HTZ.out _).mono ?_
    rintro e w' ⟨rfl, rfl⟩
    go_wp2
    go_ret2
    exact FewPost.bad (by rw [← HEE.out]; decide) (by rw [← HEE.out]; rfl) HB2.out
  | true =>
    have hmz := within_yes HTZ.out
    go_enter Try.func70, Try.ntmps70
    go_wp2_with fail
    generalize hwn : (w.alloc (.cells #[.slice B m d, .int .i64 (M), .int .i64 (T)] 107)) = w1
    have hbn : Below w.heap.size w w1 := by rw [← hwn]; repeat' (first | exact Below.refl _ _ | refine below_drewN ?_ _ | refine Below.drew ?_ | refine Below.alloc ?_ (by first | omega | (simp; done) | (simp; omega) | (simp [World.setCell]; omega)) _ | refine Below.setCell ?_ (by first | omega | (simp; done) | (simp; omega)) _)
    have HB1 := Lib.hid (show Below w.heap.size w w1 from hbn)
    have K0_1 := Lib.hid (show Blk w1 (w.heap.size) 107 #[.slice B m d, .int .i64 (M), .int .i64 (T)] by rw [← hwn]; repeat' (first | exact Blk.at_ _ (by first | rfl | (simp; done) | (simp; omega)) _ _ | refine Blk.drewN ?_ _ | refine Blk.drew ?_ | refine Blk.alloc ?_ _ | refine Blk.far ?_ (by first | omega | (simp; done) | (simp; omega)) _ | assumption))
    have HN1 := Lib.hid hbn
    have hz1 := hbn.size
    clear hwn hbn
    have l0_1 : w.heap.size < w1.heap.size := K0_1.out.lt
    have z0_0_1 : w1.cell? ⟨w.heap.size, 0, none⟩ = some (.slice B m d) := K0_1.out.cell 0
    have z0_1_1 : w1.cell? ⟨w.heap.size, 1, none⟩ = some (.int .i64 (M)) := K0_1.out.cell 1
    have z0_2_1 : w1.cell? ⟨w.heap.size, 2, none⟩ = some (.int .i64 (T)) := K0_1.out.cell 2
    refine (rtwo_is A n ch V n cv h v 0 HE1.out _ ((HX.out.below HB1.out).more HB1.out.size) (by omega) ((HV.out.below HB1.out).more HB1.out.size) (by omega)).mono ?_
    rintro e w2 ⟨rfl, hb⟩
    have HB2 := Lib.hid (show Below w.heap.size w w2 from step_below hb (by repeat' (first | exact Below.refl _ _ | exact HB1.out | refine below_drewN ?_ _ | refine Below.drew ?_ | refine Below.alloc ?_ (by first | omega | (simp; done) | (simp; omega) | (simp [World.setCell]; omega)) _ | refine Below.setCell ?_ (by first | omega | (simp; done) | (simp; omega)) _ | assumption)))
    have K0_2 := Lib.hid (step_blk hb (show Blk _ (w.heap.size) 107 #[.slice B m d, .int .i64 (M), .int .i64 (T)] by repeat' (first | exact K0_1.out | exact Blk.at_ _ (by first | rfl | (simp; done) | (simp; omega)) _ _ | refine Blk.drewN ?_ _ | refine Blk.drew ?_ | refine Blk.alloc ?_ _ | refine Blk.far ?_ (by first | omega | (simp; done) | (simp; omega)) _ | assumption)))
    have hz2 := hb.size
    try simp only [World.size_alloc, World.drewN, World.drew] at hz2
    clear hb K0_1 z0_0_1 z0_1_1 z0_2_1 l0_1
    have l0_2 : w.heap.size < w2.heap.size := K0_2.out.lt
    have z0_0_2 : w2.cell? ⟨w.heap.size, 0, none⟩ = some (.slice B m d) := K0_2.out.cell 0
    have z0_1_2 : w2.cell? ⟨w.heap.size, 1, none⟩ = some (.int .i64 (M)) := K0_2.out.cell 1
    have z0_2_2 : w2.cell? ⟨w.heap.size, 2, none⟩ = some (.int .i64 (T)) := K0_2.out.cell 2
    go_wp2_with fail
    refine (withinref_is _ _ _ true HTZ.out _).mono ?_
    rintro e w' ⟨rfl, rfl⟩
    go_wp2
    go_loopw [9] (fun x wr => ∃ k : Nat, k ≤ m ∧ x = .int .i64 k ∧ (∀ y ∈ (t.map (·.xs)).take k, wearErr n y = 0) ∧ w2 = wr) (fun x _ => m - (intOf x).toNat)
    case atStart => exact ⟨0, by omega, rfl, by simp, rfl⟩
    case round =>
      obtain ⟨k, hk, rfl, hwk, rfl⟩ := hrel
      have HWK := Lib.hid hwk
      clear hwk
      by_cases hlt : k < m
      · have hkk : (k : Int) < (m : Int) := by omega
        obtain ⟨zb, zo, r, rfl, hzb, gr, cr, hrc, hrl, hrr⟩ := (HK.out.below HB2.out).at_ hlt
        obtain ⟨rA, rn, rc, rx⟩ := r
        simp only at cr hrc hrl hrr
        have hgx : (t.map (·.xs))[k]? = some rx := by rw [List.getElem?_map, gr]; rfl
        obtain ⟨F, hF⟩ : ∃ F, wearErr n rx = F := ⟨_, rfl⟩
        have HF := Lib.hid hF
        have HGX := Lib.hid hgx
        have HRR := Lib.hid (hrr.more HB2.out.size)
        clear gr hgx hF hrr
        go_wp2_with fail
        refine (rwear_is n rA rn rc rx F HF.out _ HRR.out (by omega)).mono ?_
        rintro e w' ⟨rfl, rfl⟩
        by_cases h0 : F = 0
        rotate_left
        · have e1 : (F != 0) = true := by simpa using h0
          have HEE := Lib.hid (show F = E by
            rw [← HE.out]
            have h1 := firstErr_at (f := wearErr n) HGX.out HWK.out (by rw [HF.out]; exact h0)
            have h2 : firstErr (wearErr n) (t.map (·.xs)) = F := by rw [h1, HF.out]
            exact (few_kind HE1.out (by rw [HL.out, kind_wear (by rw [HTL.out]; exact HTZ.out) (by rw [h2]; exact h0), h2]) h0).symm)
          have H0 := Lib.hid (show E ≠ 0 by rw [← HEE.out]; exact h0)
          clear h0
          go_wp2
          go_ret2
          exact FewPost.bad H0.out (by rw [← HEE.out]; rfl) HB2.out
        subst h0
        have e1 : ((0 : Int) != 0) = false := by simp
        go_wp2
        go_roundw
        case rel => exact ⟨k + 1, by omega, by go_num, wear_take HGX.out HWK.out HF.out, trivial⟩
        case measure => simp [intOf]; omega
      obtain rfl : m = k := by omega
      have HFE := Lib.hid (show firstErr (wearErr n) (t.map (·.xs)) = 0 from firstErr_ok fun x hx => HWK.out x (by rw [List.take_of_length_le (by rw [HTL.out]; exact Nat.le_refl _)]; exact hx))
      obtain ⟨ta, hta⟩ : ∃ b, withinB M 0 100 = b := ⟨_, rfl⟩
      obtain ⟨tb, htb⟩ : ∃ b, withinB T 0 100000 = b := ⟨_, rfl⟩
      have HTA := Lib.hid hta
      have HTB := Lib.hid htb
      clear hta htb
      go_wp2_with fail
      refine (withinref_is _ _ _ ta HTA.out _).mono ?_
      rintro e w' ⟨rfl, rfl⟩
      cases ta with
      | false =>
        have HEE := Lib.hid (show (2 : Int) = E by rw [← HE.out]; exact (few_kind HE1.out (by rw [HL.out]; exact kind_range (by rw [HTL.out]; exact HTZ.out) HFE.out (by rw [HTA.out]; rfl)) (by decide)).symm)
        go_wp2
        go_ret2
        exact FewPost.bad (by rw [← HEE.out]; decide) (by rw [← HEE.out]; rfl) HB2.out
      | true =>
        go_wp2_with fail
        refine (withinref_is _ _ _ tb HTB.out _).mono ?_
        rintro e w' ⟨rfl, rfl⟩
        cases tb with
        | false =>
          have HEE := Lib.hid (show (2 : Int) = E by rw [← HE.out]; exact (few_kind HE1.out (by rw [HL.out]; exact kind_range (by rw [HTL.out]; exact HTZ.out) HFE.out (by rw [HTA.out, HTB.out]; rfl)) (by decide)).symm)
          go_wp2
          go_ret2
          exact FewPost.bad (by rw [← HEE.out]; decide) (by rw [← HEE.out]; rfl) HB2.out
        | true =>
          have hM := within_yes HTA.out
          have em := IntWalk.i64_in (M + 1) ⟨by omega, by omega⟩
          go_wp2
          go_loopw [11, 12] (fun x q wr => ∃ (k : Nat) (z : Int), k ≤ m ∧ q = .int .i64 k ∧ x = .int .i64 z ∧ z = (M + 1) ^ k ∧ z ≤ 100000 ∧ w2 = wr) (fun _ q _ => m - (intOf q).toNat)
          case atStart => exact ⟨0, 1, by omega, rfl, rfl, by rw [Int.pow_zero], by omega, rfl⟩
          case round =>
            obtain ⟨k, z, hk, rfl, rfl, hz, hzl, rfl⟩ := hrel
            have hz1 : 1 ≤ z := by have := (pow_more hM.1 k 0).2; rw [hz]; exact this
            have HZ := Lib.hid hz
            clear hz
            by_cases hlt : k < m
            · have hkk : (k : Int) < (m : Int) := by omega
              have a1 := Int.mul_le_mul hzl (show M + 1 ≤ 101 by omega) (by omega) (by omega)
              have a2 := Int.mul_nonneg (show 0 ≤ z by omega) (show 0 ≤ M + 1 by omega)
              obtain ⟨y, hy⟩ : ∃ y, z * (M + 1) = y := ⟨_, rfl⟩
              rw [hy] at a1 a2
              have e1 : IntKind.i64.wrap (z * (M + 1)) = y := by rw [hy]; exact IntWalk.i64_in y ⟨by omega, by omega⟩
              have HY := Lib.hid (show y = (M + 1) ^ (k + 1) by rw [Int.pow_succ, ← HZ.out, hy])
              clear hy a1 a2
              by_cases hl : 100000 < y
              · have hd : decide ((100000 : Int) < y) = true := by simpa using hl
                have hlg : 100000 < (M + 1) ^ (t.map (·.xs)).length := by
                  have h1 := (pow_more hM.1 (k + 1) (m - (k + 1))).1
                  rw [show k + 1 + (m - (k + 1)) = m by omega, ← HY.out] at h1
                  rw [HTL.out]
                  omega
                have HEE := Lib.hid (show (8 : Int) = E by
                  rw [← HE.out]
                  exact (few_kind HE1.out (by rw [HL.out]; exact kind_large (by rw [HTL.out]; exact HTZ.out) HFE.out (by rw [HTA.out, HTB.out]; rfl) hlg) (by decide)).symm)
                clear hlg
                go_wp2
                go_ret2
                exact FewPost.bad (by rw [← HEE.out]; decide) (by rw [← HEE.out]; rfl) HB2.out
              have hd : decide ((100000 : Int) < y) = false := by simpa using hl
              go_wp2
              go_roundw
              case rel => exact ⟨k + 1, y, by omega, by go_num, rfl, HY.out, by omega, trivial⟩
              case measure => simp [intOf]; omega
            obtain rfl : m = k := by omega
            have HKE := Lib.hid (show kindErr n (t.map (·.xs)) M T = 0 from kind_fine (by rw [HTL.out]; exact HTZ.out) HFE.out (by rw [HTA.out, HTB.out]; rfl) (by rw [HTL.out, ← HZ.out]; omega))
            obtain ⟨b, hbM⟩ : ∃ b : Nat, (M + 1).toNat = b := ⟨_, rfl⟩
            have hMb : M + 1 = (b : Int) := by omega
            have hb1 : 1 ≤ b ∧ b ≤ 101 := by omega
            have HZB := Lib.hid (show z = ((b ^ m : Nat) : Int) by rw [HZ.out, hMb, Int.natCast_pow])
            have HHH := Lib.hid (heights_ok (two_ok HE1.out).1).2.2
            have HHV := Lib.hid (heights_ok (two_ok HE1.out).2.2).2.2
            have hmz1 : 0 < m := by omega
            have hn1 : 1 ≤ n := by have h1 := (heights_ok (two_ok HE1.out).1).1; rw [HL.out] at h1; exact h1
            have HW := Lib.hid (show ∀ q, q < m → ∀ z ∈ (t.map (·.xs)).getD q [], 0 ≤ z ∧ z ≤ 100000 from fun q hq => by
              have h1 := (kind_ok HKE.out).2.1 ((t.map (·.xs)).getD q []) (by rw [List.getD_eq_getElem?_getD, List.getElem?_eq_getElem (by rw [HTL.out]; exact hq)]; exact List.getElem_mem (by rw [HTL.out]; exact hq))
              exact (wear_ok h1).2)
            have HWN := Lib.hid (show ∀ r ∈ t, r.n = n from fun r hr => by
              have h1 := wear_ok ((kind_ok HKE.out).2.1 r.xs (List.mem_map.2 ⟨r, hr, rfl⟩))
              rw [← HK.out.rlen hr]; exact h1.1)
            obtain ⟨bi, hbi⟩ : ∃ z : Int, M + 1 = z := ⟨_, rfl⟩
            have HBI := Lib.hid (hbi.symm.trans hMb)
            have HBM := Lib.hid hbM
            have em2 : IntKind.i64.wrap (M + 1) = bi := em.trans hbi
            have bi0 : ¬ bi = 0 := by omega
            have bib : 1 ≤ bi ∧ bi ≤ 101 := by omega
            have hmk : ∀ w : World, (Instr.makeSlice 22 (.int .i64 (m : Int)) (.int .i64 (m : Int))).run Try.prog w = .ok (.slice (some ⟨w.heap.size, 0, none⟩) m m) (w.alloc (.cells ((tabL m fun _ => 0).map (Value.int .i64)).toArray 3)) := fun w => by
              obtain ⟨i0, hi0, hz0, hz1, hz2⟩ := info_parts info_int
              have := run_make_rowN (P := Try.prog) 22 3 i0 _ Try.underlying22 hi0 hz0 .i64 .i64 m m (Nat.le_refl _) (by rw [hz2]; omega) (by omega) w
              rw [this, hz1, Nat.mul_one]
              rw [show (Value.int .i64 0).cells = #[.int .i64 0] from rfl, made_one]
              unfold tabL
              rw [List.map_map]
              rfl
            obtain ⟨g, hg⟩ : ∃ g, w2.heap.size = g := ⟨_, rfl⟩
            obtain ⟨w3, hw3⟩ : ∃ z : World, z = w2.alloc (.cells ((tabL m fun _ => 0).map (Value.int .i64)).toArray 3) := ⟨_, rfl⟩
            have hmk2 := hmk w2
            rw [hg, ← hw3] at hmk2
            have hbl3 : BlkL w3 g m (fun _ => 0) [] := by unfold BlkL; rw [hw3, ← hg, List.append_nil]; exact Blk.new _ _ _
            have hb23 : Below g w2 w3 := by rw [hw3]; exact (Below.refl _ _).alloc (by omega) _
            have hwg : w.heap.size < g := by have := HB2.out.size; omega
            have HB03 := Lib.hid (HB2.out.trans (hb23.mono (by omega)))
            have hk3 := Blk.below K0_2.out hb23 (by omega)
            have HK3 := Lib.hid hk3
            have hg3 : g < w3.heap.size := Blk.lt hbl3
            have HBL3 := Lib.hid hbl3
            have HW3 := Lib.hid hw3
            have HG2 := Lib.hid hg
            clear hmk hbM hMb hbi em hzl hz1 hlt hg hw3 hbl3 hb23 hk3 hM
            go_wp2
            go_loopw [13, 14, 16] (fun bv fv xv wr => ∃ (j : Nat) (bo : Option Nat) (f0 : Nat → Int), xv = .int .i64 j ∧ j ≤ b ^ m ∧ w3.grownBy wr (some g) ∧ BlkL wr g m f0 [] ∧ bestK h v (t.map (·.xs)) T b j = bo ∧ BestAt w3.heap.size b m bo bv fv wr) (fun _ _ xv _ => b ^ m - (intOf xv).toNat)
            case atStart => exact ⟨0, none, _, rfl, by omega, World.grownBy.refl _ _, HBL3.out, rfl, rfl, rfl⟩
            case round =>
              obtain ⟨j, bo, f0, rfl, hj, hgr, hbl, hbo, hba⟩ := hrel
              obtain ⟨w4, hnm⟩ : ∃ z : World, z = wr := ⟨_, rfl⟩
              subst hnm
              have hb34 : Below g w3 w4 := grownN_below hgr (by omega)
              have hb4 := HB03.out.trans (hb34.mono (by omega))
              have hk4 := HK3.out.grown hgr (fun e => (by have := Option.some.inj e; omega))
              have HGR := Lib.hid hgr
              have HBL := Lib.hid hbl
              have HBO := Lib.hid hbo
              have HBA := Lib.hid hba
              have hg4 : g < w4.heap.size := Blk.lt hbl
              have hs34 := hgr.size
              clear hgr hbl hb34
              have HB4 := Lib.hid hb4
              have K0_4 := Lib.hid (show Blk w4 (w.heap.size) 107 #[.slice B m d, .int .i64 (M), .int .i64 (T)] from hk4)
              clear hb4 hk4
              have l0_4 : w.heap.size < w4.heap.size := K0_4.out.lt
              have z0_0_4 : w4.cell? ⟨w.heap.size, 0, none⟩ = some (.slice B m d) := K0_4.out.cell 0
              have z0_1_4 : w4.cell? ⟨w.heap.size, 1, none⟩ = some (.int .i64 (M)) := K0_4.out.cell 1
              have z0_2_4 : w4.cell? ⟨w.heap.size, 2, none⟩ = some (.int .i64 (T)) := K0_4.out.cell 2
              by_cases hjt : j < b ^ m
              rotate_left
              · have hjj : j = b ^ m := by omega
                have hzj : decide ((j : Int) < z) = false := by rw [HZB.out, hjj]; simp
                cases bo with
                | none =>
                  obtain ⟨rfl, rfl⟩ := hba
                  have HEE := Lib.hid (show (12 : Int) = E by
                    rw [← HE.out]
                    unfold fewErr
                    rw [HE1.out, if_neg (by simp), HL.out, HKE.out, if_neg (by simp), HBM.out, HTL.out, ← hjj, hbo]
                    rfl)
                  clear hjj hbo hj hjt
                  go_wp2
                  go_ret2
                  exact FewPost.bad (by rw [← HEE.out]; decide) (by rw [← HEE.out]; rfl) HB4.out
                | some i =>
                  obtain ⟨ga, ca, rfl, rfl, ho⟩ := hba
                  have HEE := Lib.hid (show (0 : Int) = E by
                    rw [← HE.out]
                    unfold fewErr
                    rw [HE1.out, if_neg (by simp), HL.out, HKE.out, if_neg (by simp), HBM.out, HTL.out, ← hjj, hbo]
                    rfl)
                  have HBB := Lib.hid (show bestK h v (t.map (·.xs)) T (M + 1).toNat ((M + 1).toNat ^ (t.map (·.xs)).length) = some i by rw [HBM.out, HTL.out, ← hjj]; exact hbo)
                  have HRD := Lib.hid (show Reads w4 w4.heap.size 1 (some ⟨ga, 0, none⟩) m ((lst (M + 1).toNat m i).map (.int .i64)) by rw [HBM.out]; exact own_reads2 ho)
                  clear hjj hbo hj hjt ho
                  go_wp2
                  go_ret2
                  exact ⟨HB4.out, .inr ⟨HEE.out.symm, _, ca, i, HBB.out, rfl, HRD.out⟩⟩
              have hzj : decide ((j : Int) < z) = true := by rw [HZB.out]; simp; exact_mod_cast hjt
              have HJL := Lib.hid hjt
              have hjb : j < 100001 := by
                have h1 := (kind_ok HKE.out).2.2.2.2
                rw [HTL.out, show M + 1 = (b : Int) by have := HBI.out; have := HBM.out; omega, ← Int.natCast_pow] at h1
                omega
              obtain ⟨s, hs⟩ : ∃ s, lsum b m j = s := ⟨_, rfl⟩
              have HLS := Lib.hid hs
              have HS := Lib.hid (show sumN (fun q => (dg b (m - 1 - q) j : Int)) m = s by rw [← hs]; unfold lsum lst; exact sumN_congr fun q hq => (tabL_getD (fun q => (dg b (m - 1 - q) j : Int)) hq).symm)
              have emm := IntWalk.i64_in ((m : Int) - 1) ⟨by omega, by omega⟩
              obtain ⟨fb, hfb⟩ : ∃ fb, fitsK h v (t.map (·.xs)) T (lst b m j) = fb := ⟨_, rfl⟩
              have HFB := Lib.hid hfb
              have HFL := Lib.hid (show fitsK h v (t.map (·.xs)) T (lst b (t.map (·.xs)).length j) = fb by rw [HTL.out]; exact hfb)
              have KB4 := K0_4
              clear hs hfb hjt hj hbo hba
              go_wp2
              go_loopw [17, 18, 19] (fun rv sv iv wr => ∃ (r x : Nat) (xi q u : Int), r ≤ m ∧ rv = .int .i64 xi ∧ xi = (x : Int) ∧ x = j / b ^ r ∧ sv = .int .i64 q ∧ q + sumN (fun q => (dg b (m - 1 - q) j : Int)) (m - r) = s ∧ 0 ≤ q ∧ q ≤ 100 * (r : Int) ∧ iv = .int .i64 u ∧ u = (m : Int) - 1 - (r : Int) ∧ w4.grownBy wr (some g) ∧ BlkL wr g m (fun q => if m - 1 - q < r then (dg b (m - 1 - q) j : Int) else f0 q) []) (fun _ _ iv _ => (intOf iv + 1).toNat)
              case atStart => exact ⟨0, j, _, 0, _, by omega, rfl, rfl, by rw [Nat.pow_zero, Nat.div_one], rfl, by rw [Nat.sub_zero, HS.out]; omega, by omega, by omega, rfl, by omega, World.grownBy.refl _ _, HBL.out.congr fun q hq => by rw [if_neg (by omega)]⟩
              case round =>
                obtain ⟨r, x, xi, q, u, hr, rfl, hxi, hxx, rfl, hqs, hq0, hq1, rfl, hu, hg45, hbl5⟩ := hrel
                clear z0_0_4 z0_1_4 z0_2_4
                obtain ⟨w5, hnm⟩ : ∃ z : World, z = wr := ⟨_, rfl⟩
                subst hnm
                have hb45 : Below g w4 w5 := grownN_below hg45 (by omega)
                have hb5 := HB4.out.trans (hb45.mono (by omega))
                have hk5 := KB4.out.grown hg45 (fun e => (by have := Option.some.inj e; omega))
                have HG45 := Lib.hid hg45
                have HBL5 := Lib.hid hbl5
                have hg5 : g < w5.heap.size := Blk.lt hbl5
                have hs45 := hg45.size
                have HQS := Lib.hid hqs
                have HXI := Lib.hid hxi
                have HXX := Lib.hid hxx
                by_cases hrm : r < m
                · obtain ⟨i0, hi⟩ : ∃ i0 : Nat, m = i0 + r + 1 := ⟨m - 1 - r, by omega⟩
                  have hui : u = (i0 : Int) := by omega
                  have him : i0 < m := by omega
                  have hii : (i0 : Int) < (m : Int) := by omega
                  have hie : m - 1 - i0 = r := by omega
                  have cx := hbl5.cell him
                  simp only [hie, Nat.lt_irrefl, if_false] at cx
                  have cf := Blk.frozen hbl5 i0
                  obtain ⟨x0, hx0⟩ : ∃ x0, f0 i0 = x0 := ⟨_, rfl⟩
                  rw [hx0] at cx
                  have hdl : dg b r j < b := dg_lt (by omega)
                  obtain ⟨di, hdi⟩ : ∃ z : Int, (dg b r j : Int) = z := ⟨_, rfl⟩
                  obtain ⟨y, hy⟩ : ∃ y, x / b = y := ⟨_, rfl⟩
                  obtain ⟨yi, hyi⟩ : ∃ z : Int, (y : Int) = z := ⟨_, rfl⟩
                  have hx0i : 0 ≤ xi := by omega
                  have er : xi.tmod bi = di := by
                    rw [Int.tmod_eq_emod_of_nonneg hx0i, hxi, HBI.out, ← hdi]
                    unfold dg
                    rw [← hxx]
                    rfl
                  have eq : xi.tdiv bi = yi := by
                    rw [Int.tdiv_eq_ediv_of_nonneg hx0i, hxi, HBI.out, ← hyi, ← hy]
                    rfl
                  have hxj : x ≤ j := by rw [hxx]; exact Nat.div_le_self _ _
                  have hyx : y ≤ x := by rw [← hy]; exact Nat.div_le_self _ _
                  have hyb : 0 ≤ yi ∧ yi ≤ 100001 := by omega
                  have hdb : 0 ≤ di ∧ di ≤ 100 := by omega
                  have ew := IntWalk.i64_in di ⟨by omega, by omega⟩
                  have ev := IntWalk.i64_in yi ⟨by omega, by omega⟩
                  have es := IntWalk.i64_in (q + di) ⟨by omega, by omega⟩
                  have eu := IntWalk.i64_in ((i0 : Int) - 1) ⟨by omega, by omega⟩
                  have hz0 : decide ((0 : Int) ≤ (i0 : Int)) = true := by simp
                  have HIE := Lib.hid hie
                  have HDI := Lib.hid hdi
                  have HYI := Lib.hid hyi
                  have HNS := Lib.hid (show q + di + sumN (fun q => (dg b (m - 1 - q) j : Int)) (m - (r + 1)) = s by
                    have h1 := HQS.out
                    rw [show m - r = m - (r + 1) + 1 by omega, sumN_split, show m - 1 - (m - (r + 1)) = r by omega, hdi] at h1
                    omega)
                  have HNX := Lib.hid (show y = j / b ^ (r + 1) by rw [← hy, hxx, dg_more])
                  have HSET := Lib.hid fun (q : Nat) => ((show BlkL (w5.drewN q) g m _ [] from Blk.drewN hbl5 q).set him di).congr (f' := fun q => if m - 1 - q < r + 1 then (dg b (m - 1 - q) j : Int) else f0 q) fun q hq => by
                    by_cases e : q = i0
                    · subst e; rw [if_pos rfl, hie, if_pos (by omega), hdi]
                    · rw [if_neg e]
                      by_cases e2 : m - 1 - q < r
                      · rw [if_pos e2, if_pos (by omega)]
                      · rw [if_neg e2, if_neg (by omega)]
                  have HNU := Lib.hid (show (i0 : Int) - 1 = (m : Int) - 1 - ((r + 1 : Nat) : Int) by push_cast; omega)
                  have HQB := Lib.hid (show 0 ≤ q + di ∧ q + di ≤ 100 * ((r + 1 : Nat) : Int) by push_cast; omega)
                  subst hui
                  clear hg45 hbl5 hb45 hie hx0 hdi hyi hy hi hxi hxx hqs hxj hyx hyb hdb hx0i hu hq0 hq1 hdl
                  have HB5 := Lib.hid hb5
                  have K0_5 := Lib.hid (show Blk w5 (w.heap.size) 107 #[.slice B m d, .int .i64 (M), .int .i64 (T)] from hk5)
                  clear hb5 hk5
                  have l0_5 : w.heap.size < w5.heap.size := K0_5.out.lt
                  have z0_0_5 : w5.cell? ⟨w.heap.size, 0, none⟩ = some (.slice B m d) := K0_5.out.cell 0
                  have z0_1_5 : w5.cell? ⟨w.heap.size, 1, none⟩ = some (.int .i64 (M)) := K0_5.out.cell 1
                  have z0_2_5 : w5.cell? ⟨w.heap.size, 2, none⟩ = some (.int .i64 (T)) := K0_5.out.cell 2
                  go_wp2
                  obtain ⟨W0, hW0⟩ : ∃ W0, W0 = w5.drewN 1 := ⟨_, rfl⟩
                  have m0 : W0.cell? ⟨w.heap.size, 1, none⟩ = some (.int .i64 (M)) := by rw [hW0]; exact z0_1_5
                  have n0 : (W0.setCell ⟨g, i0, none⟩ (.int .i64 di)).cell? ⟨w.heap.size, 1, none⟩ = some (.int .i64 (M)) := (Below.cell ((Below.refl g W0).setCell (p := ⟨g, i0, none⟩) (Nat.le_refl _) (.int .i64 di)) (p := ⟨w.heap.size, 1, none⟩) (hwg)).trans m0
                  have mo : W0.cell? ⟨g, i0, none⟩ = some (.int .i64 x0) := by rw [hW0]; exact cx
                  have mf : W0.frozen? ⟨g, i0, none⟩ = false := by rw [hW0]; exact cf
                  refine Fx.region (fun f w' => (f 13 = false → w' = W0) ∧ (f 13 = true → w' = W0.setCell ⟨g, i0, none⟩ (.int .i64 di))) (by kernel_rfl) (by kernel_rfl) ?_ ?_
                  · intro f hf0
                    exact ⟨fun _ => hW0.symm, fun h => by rw [hf0 13] at h; cases h⟩
                  have HW0 := Lib.hid hW0
                  clear hW0
                  repeat (first
                    | (refine Fx.skip_ (by rfl) (fun f w h => h) ?_; simp only [Act.put, List.setIfInBounds_toArray, List.set_cons_zero, List.set_cons_succ])
                    | (refine Fx.val_ ?_ (by rfl) ?_ (fun f w h => h) ?_
                       rotate_left
                       · intro f w' hD hk
                         obtain ⟨jw, jr⟩ := id hD
                         have q0 : w'.cell? ⟨w.heap.size, 1, none⟩ = some (.int .i64 (M)) := (Bool.eq_false_or_eq_true (f 13)).elim (fun hb_ => by rw [jr hb_]; exact n0) (fun hb_ => by rw [jw hb_]; exact m0)
                         clear hk hD jw jr
                         go_simp
                         try rfl
                       simp only [Act.put, List.setIfInBounds_toArray, List.set_cons_zero, List.set_cons_succ]))
                  refine Fx.store_ (fun w' => w'.setCell ⟨g, i0, none⟩ (.int .i64 di)) (by rfl) ?_ ?_ ?_
                  · intro f w' hD hk
                    obtain ⟨jw, jr⟩ := id hD
                    have jw := jw hk.1
                    have q0 : w'.cell? ⟨g, i0, none⟩ = some (.int .i64 x0) := by rw [jw]; exact mo
                    have q1 : w'.frozen? ⟨g, i0, none⟩ = false := by rw [jw]; exact mf
                    clear hk hD jw jr
                    go_simp
                  · intro f w' hD hk
                    obtain ⟨jw, jr⟩ := id hD
                    have jw := jw hk.1
                    exact ⟨fun h => by simp [Fx.add] at h, fun _ => by rw [jw]⟩
                  simp only [Act.put, List.setIfInBounds_toArray, List.set_cons_zero, List.set_cons_succ]
                  repeat (first
                    | (refine Fx.skip_ (by rfl) (fun f w h => h) ?_; simp only [Act.put, List.setIfInBounds_toArray, List.set_cons_zero, List.set_cons_succ])
                    | (refine Fx.val_ ?_ (by rfl) ?_ (fun f w h => h) ?_
                       rotate_left
                       · intro f w' hD hk
                         obtain ⟨jw, jr⟩ := id hD
                         have q0 : w'.cell? ⟨w.heap.size, 1, none⟩ = some (.int .i64 (M)) := (Bool.eq_false_or_eq_true (f 13)).elim (fun hb_ => by rw [jr hb_]; exact n0) (fun hb_ => by rw [jw hb_]; exact m0)
                         clear hk hD jw jr
                         go_simp
                         try rfl
                       simp only [Act.put, List.setIfInBounds_toArray, List.set_cons_zero, List.set_cons_succ]))
                  refine Fx.nil_ ?_
                  intro f w6 hall hD
                  have hwn := hD.2 (hall 13 (by simp))
                  rw [HW0.out] at hwn
                  clear hall hD HW0 mo mf m0 n0
                  have hbl6 := HSET.out 1
                  rw [← hwn] at hbl6
                  have cy := hbl6.cell him
                  simp only [HIE.out] at cy
                  rw [if_pos (by omega), HDI.out] at cy
                  have hg6 : g < w6.heap.size := Blk.lt hbl6
                  have HGR6 := Lib.hid (show w4.grownBy w6 (some g) by rw [hwn]; exact only_setCell (only_drewN HG45.out _) (.inl rfl) _)
                  have HBL6 := Lib.hid hbl6
                  clear hwn hbl6
                  go_wp2
                  go_roundw
                  case rel => exact ⟨r + 1, y, yi, q + di, _, by omega, rfl, HYI.out.symm, HNX.out, rfl, HNS.out, HQB.out.1, HQB.out.2, rfl, HNU.out, HGR6.out, HBL6.out⟩
                  case measure => simp [intOf]
                have hr2 : r = m := by omega
                have hq2 : q = s := by have h1 := HQS.out; rw [hr2, Nat.sub_self] at h1; have h2 : q + 0 = s := h1; omega
                subst hq2
                have hz0 : decide (0 ≤ u) = false := by simp; omega
                have HBD := Lib.hid (show BlkL w5 g m (fun q => (dg b (m - 1 - q) j : Int)) [] from hbl5.congr fun q hq => by rw [if_pos (by omega)])
                have HGD := Lib.hid (HGR.out.trans hg45)
                have HBA5 := Lib.hid (HBA.out.grown hg45 hg3)
                have HK5 := Lib.hid hk5
                have HB05 := Lib.hid hb5
                clear hg45 hbl5 hb45 hqs hxi hxx hu hr2 hq0 hq1 hb5 hk5 hrm hr
                cases bo with
                | none =>
                  obtain ⟨rfl, rfl⟩ := HBA5.out
                  have hb5 := HB05.out
                  have hk5 := HK5.out
                  have HB5 := Lib.hid hb5
                  have K0_5 := Lib.hid (show Blk w5 (w.heap.size) 107 #[.slice B m d, .int .i64 (M), .int .i64 (T)] from hk5)
                  clear hb5 hk5
                  have l0_5 : w.heap.size < w5.heap.size := K0_5.out.lt
                  have z0_0_5 : w5.cell? ⟨w.heap.size, 0, none⟩ = some (.slice B m d) := K0_5.out.cell 0
                  have z0_1_5 : w5.cell? ⟨w.heap.size, 1, none⟩ = some (.int .i64 (M)) := K0_5.out.cell 1
                  have z0_2_5 : w5.cell? ⟨w.heap.size, 2, none⟩ = some (.int .i64 (T)) := K0_5.out.cell 2
                  go_wp2_with fail
                  refine (copyints_any A n ch w5.heap.size h _ ((HX.out.below HB5.out).more HB5.out.size) (Nat.le_refl _) (by omega)).mono ?_
                  rintro e w6 ⟨A6, c6, rfl, hb56, hr6, -⟩
                  have HB56 := Lib.hid hb56
                  have hb6 := HB5.out.trans (hb56.mono HB5.out.size)
                  have hk6 := Blk.below K0_5.out hb56 l0_5
                  have hs56 := hb56.size
                  have HR6 := Lib.hid (show Reads w6 w6.heap.size 1 A6 n ((tabL n (leftK h (t.map (·.xs)) (lst b m j) 0)).map (.int .i64)) by rw [left_start HL.out]; exact hr6)
                  clear hr6 hb56
                  have HB6 := Lib.hid hb6
                  have K0_6 := Lib.hid (show Blk w6 (w.heap.size) 107 #[.slice B m d, .int .i64 (M), .int .i64 (T)] from hk6)
                  clear hb6 hk6
                  have l0_6 : w.heap.size < w6.heap.size := K0_6.out.lt
                  have z0_0_6 : w6.cell? ⟨w.heap.size, 0, none⟩ = some (.slice B m d) := K0_6.out.cell 0
                  have z0_1_6 : w6.cell? ⟨w.heap.size, 1, none⟩ = some (.int .i64 (M)) := K0_6.out.cell 1
                  have z0_2_6 : w6.cell? ⟨w.heap.size, 2, none⟩ = some (.int .i64 (T)) := K0_6.out.cell 2
                  have KB6 := K0_6
                  go_wp2
                  go_loopw [20, 21] (fun av iv wr => ∃ (k : Nat) (A' : Option Addr) (c' : Nat), k ≤ m ∧ av = .slice A' n c' ∧ iv = .int .i64 k ∧ Below w6.heap.size w6 wr ∧ Reads wr wr.heap.size 1 A' n ((tabL n (leftK h (t.map (·.xs)) (lst b m j) k)).map (.int .i64))) (fun _ iv _ => m - (intOf iv).toNat)
                  case atStart => exact ⟨0, A6, c6, by omega, rfl, rfl, Below.refl _ _, HR6.out⟩
                  case round =>
                    obtain ⟨k, A7, c7, hk, rfl, rfl, hb67, hr7⟩ := hrel
                    clear z0_0_6 z0_1_6 z0_2_6
                    obtain ⟨w7, hnm⟩ : ∃ z : World, z = wr := ⟨_, rfl⟩
                    subst hnm
                    have HB67 := Lib.hid hb67
                    have HB57 := Lib.hid (HB56.out.trans (hb67.mono hs56))
                    have hb7 := HB6.out.trans (hb67.mono HB6.out.size)
                    have hk7 := Blk.below KB6.out hb67 (KB6.out.lt)
                    have hs67 := hb67.size
                    have hbl7 := Blk.below HBD.out HB57.out hg5
                    have HBD7 := Lib.hid hbl7
                    have HIN := Lib.hid (fun (i k : Nat) (hk : k ≤ m) => leftK_in (i := i) (n := m) (c := lst b m j) HHH.out (fun z hz => by
                        unfold lst tabL at hz
                        obtain ⟨q, hq, rfl⟩ := List.mem_map.1 hz
                        have := dg_lt (B := b) (e := m - 1 - q) (j := j) (by omega)
                        omega) HW.out k hk (by omega))
                    have HR7 := Lib.hid hr7
                    clear hb67
                    have HB7 := Lib.hid hb7
                    have K0_7 := Lib.hid (show Blk w7 (w.heap.size) 107 #[.slice B m d, .int .i64 (M), .int .i64 (T)] from hk7)
                    clear hb7 hk7
                    have l0_7 : w.heap.size < w7.heap.size := K0_7.out.lt
                    have z0_0_7 : w7.cell? ⟨w.heap.size, 0, none⟩ = some (.slice B m d) := K0_7.out.cell 0
                    have z0_1_7 : w7.cell? ⟨w.heap.size, 1, none⟩ = some (.int .i64 (M)) := K0_7.out.cell 1
                    have z0_2_7 : w7.cell? ⟨w.heap.size, 2, none⟩ = some (.int .i64 (T)) := K0_7.out.cell 2
                    by_cases hkt : k < m
                    · skip
                      have hkk : (k : Int) < (m : Int) := by omega
                      obtain ⟨zb, zo, r, rfl, hzb, gr, cr, hrc, hrl, hrr⟩ := (HK.out.below HB7.out).at_ hkt
                      have hrn := HWN.out r (List.mem_of_getElem? gr)
                      obtain ⟨rA, rn, rc, rx⟩ := r
                      simp only at hrn cr hrc hrl hrr
                      obtain rfl : n = rn := hrn.symm
                      have hrx : (t.map (·.xs)).getD k [] = rx := getD_of (by rw [List.getElem?_map, gr]; rfl)
                      have HRX := Lib.hid hrx
                      have HXS := Lib.hid (show ∀ z ∈ rx, 0 ≤ z ∧ z ≤ 100000 by rw [← hrx]; exact HW.out k hkt)
                      have cg := BlkL.cell hbl7 hkt
                      obtain ⟨p, hp⟩ : ∃ p : Int, (dg b (m - 1 - k) j : Int) = p := ⟨_, rfl⟩
                      rw [hp] at cg
                      have hp1 : 0 ≤ p ∧ p ≤ 100 := by have := dg_lt (B := b) (e := m - 1 - k) (j := j) (by omega); omega
                      have HP := Lib.hid (show (lst b m j).getD k 0 = p by unfold lst; rw [tabL_getD _ hkt, hp])
                      have hrr7 := hrr.more HB7.out.size
                      have hzb7 : zb < w7.heap.size := Nat.lt_of_lt_of_le hzb HB7.out.size
                      have hg7 : g < w7.heap.size := by omega
                      have CGW := Lib.hid (show ∀ w', Below w7.heap.size w7 w' → w'.cell? ⟨g, k, none⟩ = some (.int .i64 p) from fun w' hb => (hb.cell (p := ⟨g, k, none⟩) hg7).trans cg)
                      have CRW := Lib.hid (show ∀ w', Below w7.heap.size w7 w' → w'.cell? ⟨zb, zo + k, none⟩ = some (.slice rA n rc) from fun w' hb => (hb.cell (p := ⟨zb, zo + k, none⟩) hzb7).trans cr)
                      have hlf : tabL n (fun i => leftK h (t.map (·.xs)) (lst b m j) k i - p * rx.getD i 0) = tabL n (leftK h (t.map (·.xs)) (lst b m j) (k + 1)) := left_next HP.out hrx
                      have HLESS := Lib.hid (show ∀ w', Reads w' w'.heap.size 1 A7 n ((tabL n (leftK h (t.map (·.xs)) (lst b m j) k)).map (.int .i64)) → Reads w' w'.heap.size 1 rA n (rx.map (.int .i64)) → Calls Try.prog 103 #[.slice A7 n c7, .slice rA n rc, .int .i64 p] w' (fun e w'' => ∃ A' c', e = .returned (.slice A' n c') ∧ Below w'.heap.size w' w'' ∧ Reads w'' w''.heap.size 1 A' n ((tabL n (leftK h (t.map (·.xs)) (lst b m j) (k + 1))).map (.int .i64))) from fun w' h1 h2 => by
                        have h3 := rless_is A7 n c7 rA rc (leftK h (t.map (·.xs)) (lst b m j) k) rx p hp1 hn1 hn (fun i _ => by have h4 := HIN.out i k hk; exact ⟨by omega, by omega⟩) HXS.out w' h1 h2
                        rw [hlf] at h3
                        exact h3)
                      clear hlf
                      clear hrx gr hp hrr hbl7 hrn cg cr
                      have R0_7 := Lib.hid hr7
                      clear hr7
                      have R1_7 := Lib.hid hrr7
                      clear hrr7
                      go_wp2
                      refine Fx.regionM (fun W g f w' => Kp (PfLf n 10 (tabL n (leftK h (t.map (·.xs)) (lst b m j) (k + 1)))) W g w') (fun i (x : Pick2) => .slice x.1.1 n x.1.2) (by kernel_rfl) ?_ ?_
                      · intro f hf0
                        exact Kp.start
                      first
                      | (refine Fx.WM.skip 0 (by rfl) (by kernel_rfl) (by kernel_rfl) (by kernel_rfl) (by rfl) (fun g f w h => h) ?_; simp only [Act.put, List.setIfInBounds_toArray, List.set_cons_zero, List.set_cons_succ])
                      | (refine Fx.WM.val_ 0 ?_ (by rfl) (by kernel_rfl) (by kernel_rfl) (by kernel_rfl) (by rfl) ?_ (fun g f w h => h) ?_
                         rotate_left
                         · intro g f w' hx hD hk
                           obtain hkp := id hD
                           have y0_0 := (K0_7.out.below hkp.bel l0_7).cell 0
                           have y0_1 := (K0_7.out.below hkp.bel l0_7).cell 1
                           have y0_2 := (K0_7.out.below hkp.bel l0_7).cell 2
                           have yc := CRW.out w' hkp.bel
                           have yg := CGW.out w' hkp.bel
                           clear hx hk hD hkp
                           go_simp
                           try rfl
                         simp only [Act.put, List.setIfInBounds_toArray, List.set_cons_zero, List.set_cons_succ])
                      first
                      | (refine Fx.WM.skip 1 (by rfl) (by kernel_rfl) (by kernel_rfl) (by kernel_rfl) (by rfl) (fun g f w h => h) ?_; simp only [Act.put, List.setIfInBounds_toArray, List.set_cons_zero, List.set_cons_succ])
                      | (refine Fx.WM.val_ 1 ?_ (by rfl) (by kernel_rfl) (by kernel_rfl) (by kernel_rfl) (by rfl) ?_ (fun g f w h => h) ?_
                         rotate_left
                         · intro g f w' hx hD hk
                           obtain hkp := id hD
                           have y0_0 := (K0_7.out.below hkp.bel l0_7).cell 0
                           have y0_1 := (K0_7.out.below hkp.bel l0_7).cell 1
                           have y0_2 := (K0_7.out.below hkp.bel l0_7).cell 2
                           have yc := CRW.out w' hkp.bel
                           have yg := CGW.out w' hkp.bel
                           clear hx hk hD hkp
                           go_simp
                           try rfl
                         simp only [Act.put, List.setIfInBounds_toArray, List.set_cons_zero, List.set_cons_succ])
                      first
                      | (refine Fx.WM.skip 2 (by rfl) (by kernel_rfl) (by kernel_rfl) (by kernel_rfl) (by rfl) (fun g f w h => h) ?_; simp only [Act.put, List.setIfInBounds_toArray, List.set_cons_zero, List.set_cons_succ])
                      | (refine Fx.WM.val_ 2 ?_ (by rfl) (by kernel_rfl) (by kernel_rfl) (by kernel_rfl) (by rfl) ?_ (fun g f w h => h) ?_
                         rotate_left
                         · intro g f w' hx hD hk
                           obtain hkp := id hD
                           have y0_0 := (K0_7.out.below hkp.bel l0_7).cell 0
                           have y0_1 := (K0_7.out.below hkp.bel l0_7).cell 1
                           have y0_2 := (K0_7.out.below hkp.bel l0_7).cell 2
                           have yc := CRW.out w' hkp.bel
                           have yg := CGW.out w' hkp.bel
                           clear hx hk hD hkp
                           go_simp
                           try rfl
                         simp only [Act.put, List.setIfInBounds_toArray, List.set_cons_zero, List.set_cons_succ])
                      first
                      | (refine Fx.WM.skip 3 (by rfl) (by kernel_rfl) (by kernel_rfl) (by kernel_rfl) (by rfl) (fun g f w h => h) ?_; simp only [Act.put, List.setIfInBounds_toArray, List.set_cons_zero, List.set_cons_succ])
                      | (refine Fx.WM.val_ 3 ?_ (by rfl) (by kernel_rfl) (by kernel_rfl) (by kernel_rfl) (by rfl) ?_ (fun g f w h => h) ?_
                         rotate_left
                         · intro g f w' hx hD hk
                           obtain hkp := id hD
                           have y0_0 := (K0_7.out.below hkp.bel l0_7).cell 0
                           have y0_1 := (K0_7.out.below hkp.bel l0_7).cell 1
                           have y0_2 := (K0_7.out.below hkp.bel l0_7).cell 2
                           have yc := CRW.out w' hkp.bel
                           have yg := CGW.out w' hkp.bel
                           clear hx hk hD hkp
                           go_simp
                           try rfl
                         simp only [Act.put, List.setIfInBounds_toArray, List.set_cons_zero, List.set_cons_succ])
                      first
                      | (refine Fx.WM.skip 4 (by rfl) (by kernel_rfl) (by kernel_rfl) (by kernel_rfl) (by rfl) (fun g f w h => h) ?_; simp only [Act.put, List.setIfInBounds_toArray, List.set_cons_zero, List.set_cons_succ])
                      | (refine Fx.WM.val_ 4 ?_ (by rfl) (by kernel_rfl) (by kernel_rfl) (by kernel_rfl) (by rfl) ?_ (fun g f w h => h) ?_
                         rotate_left
                         · intro g f w' hx hD hk
                           obtain hkp := id hD
                           have y0_0 := (K0_7.out.below hkp.bel l0_7).cell 0
                           have y0_1 := (K0_7.out.below hkp.bel l0_7).cell 1
                           have y0_2 := (K0_7.out.below hkp.bel l0_7).cell 2
                           have yc := CRW.out w' hkp.bel
                           have yg := CGW.out w' hkp.bel
                           clear hx hk hD hkp
                           go_simp
                           try rfl
                         simp only [Act.put, List.setIfInBounds_toArray, List.set_cons_zero, List.set_cons_succ])
                      first
                      | (refine Fx.WM.skip 5 (by rfl) (by kernel_rfl) (by kernel_rfl) (by kernel_rfl) (by rfl) (fun g f w h => h) ?_; simp only [Act.put, List.setIfInBounds_toArray, List.set_cons_zero, List.set_cons_succ])
                      | (refine Fx.WM.val_ 5 ?_ (by rfl) (by kernel_rfl) (by kernel_rfl) (by kernel_rfl) (by rfl) ?_ (fun g f w h => h) ?_
                         rotate_left
                         · intro g f w' hx hD hk
                           obtain hkp := id hD
                           have y0_0 := (K0_7.out.below hkp.bel l0_7).cell 0
                           have y0_1 := (K0_7.out.below hkp.bel l0_7).cell 1
                           have y0_2 := (K0_7.out.below hkp.bel l0_7).cell 2
                           have yc := CRW.out w' hkp.bel
                           have yg := CGW.out w' hkp.bel
                           clear hx hk hD hkp
                           go_simp
                           try rfl
                         simp only [Act.put, List.setIfInBounds_toArray, List.set_cons_zero, List.set_cons_succ])
                      first
                      | (refine Fx.WM.skip 6 (by rfl) (by kernel_rfl) (by kernel_rfl) (by kernel_rfl) (by rfl) (fun g f w h => h) ?_; simp only [Act.put, List.setIfInBounds_toArray, List.set_cons_zero, List.set_cons_succ])
                      | (refine Fx.WM.val_ 6 ?_ (by rfl) (by kernel_rfl) (by kernel_rfl) (by kernel_rfl) (by rfl) ?_ (fun g f w h => h) ?_
                         rotate_left
                         · intro g f w' hx hD hk
                           obtain hkp := id hD
                           have y0_0 := (K0_7.out.below hkp.bel l0_7).cell 0
                           have y0_1 := (K0_7.out.below hkp.bel l0_7).cell 1
                           have y0_2 := (K0_7.out.below hkp.bel l0_7).cell 2
                           have yc := CRW.out w' hkp.bel
                           have yg := CGW.out w' hkp.bel
                           clear hx hk hD hkp
                           go_simp
                           try rfl
                         simp only [Act.put, List.setIfInBounds_toArray, List.set_cons_zero, List.set_cons_succ])
                      first
                      | (refine Fx.WM.skip 7 (by rfl) (by kernel_rfl) (by kernel_rfl) (by kernel_rfl) (by rfl) (fun g f w h => h) ?_; simp only [Act.put, List.setIfInBounds_toArray, List.set_cons_zero, List.set_cons_succ])
                      | (refine Fx.WM.val_ 7 ?_ (by rfl) (by kernel_rfl) (by kernel_rfl) (by kernel_rfl) (by rfl) ?_ (fun g f w h => h) ?_
                         rotate_left
                         · intro g f w' hx hD hk
                           obtain hkp := id hD
                           have y0_0 := (K0_7.out.below hkp.bel l0_7).cell 0
                           have y0_1 := (K0_7.out.below hkp.bel l0_7).cell 1
                           have y0_2 := (K0_7.out.below hkp.bel l0_7).cell 2
                           have yc := CRW.out w' hkp.bel
                           have yg := CGW.out w' hkp.bel
                           clear hx hk hD hkp
                           go_simp
                           try rfl
                         simp only [Act.put, List.setIfInBounds_toArray, List.set_cons_zero, List.set_cons_succ])
                      first
                      | (refine Fx.WM.skip 8 (by rfl) (by kernel_rfl) (by kernel_rfl) (by kernel_rfl) (by rfl) (fun g f w h => h) ?_; simp only [Act.put, List.setIfInBounds_toArray, List.set_cons_zero, List.set_cons_succ])
                      | (refine Fx.WM.val_ 8 ?_ (by rfl) (by kernel_rfl) (by kernel_rfl) (by kernel_rfl) (by rfl) ?_ (fun g f w h => h) ?_
                         rotate_left
                         · intro g f w' hx hD hk
                           obtain hkp := id hD
                           have y0_0 := (K0_7.out.below hkp.bel l0_7).cell 0
                           have y0_1 := (K0_7.out.below hkp.bel l0_7).cell 1
                           have y0_2 := (K0_7.out.below hkp.bel l0_7).cell 2
                           have yc := CRW.out w' hkp.bel
                           have yg := CGW.out w' hkp.bel
                           clear hx hk hD hkp
                           go_simp
                           try rfl
                         simp only [Act.put, List.setIfInBounds_toArray, List.set_cons_zero, List.set_cons_succ])
                      first
                      | (refine Fx.WM.skip 9 (by rfl) (by kernel_rfl) (by kernel_rfl) (by kernel_rfl) (by rfl) (fun g f w h => h) ?_; simp only [Act.put, List.setIfInBounds_toArray, List.set_cons_zero, List.set_cons_succ])
                      | (refine Fx.WM.val_ 9 ?_ (by rfl) (by kernel_rfl) (by kernel_rfl) (by kernel_rfl) (by rfl) ?_ (fun g f w h => h) ?_
                         rotate_left
                         · intro g f w' hx hD hk
                           obtain hkp := id hD
                           have y0_0 := (K0_7.out.below hkp.bel l0_7).cell 0
                           have y0_1 := (K0_7.out.below hkp.bel l0_7).cell 1
                           have y0_2 := (K0_7.out.below hkp.bel l0_7).cell 2
                           have yc := CRW.out w' hkp.bel
                           have yg := CGW.out w' hkp.bel
                           clear hx hk hD hkp
                           go_simp
                           try rfl
                         simp only [Act.put, List.setIfInBounds_toArray, List.set_cons_zero, List.set_cons_succ])
                      refine Fx.WM.choose 10 (by rfl) (by kernel_rfl) (by rfl) ?_ ?_
                      · skip
                        refine Fx.Chooses.call ?_ ?_ (by rfl) ?_ ?_
                        rotate_left 2
                        · intro w'
                          go_simp
                          refine ⟨?_, ?_⟩ <;> rfl
                        · intro f w' hD hk
                          exact (HLESS.out w' ((R0_7.out.below hD.bel).more hD.bel.size) ((R1_7.out.below hD.bel).more hD.bel.size)).mono fun e w'' ⟨A', c', he, hb, hr⟩ => ⟨((A', c'), (none, 0)), he, hD.choose PfLf.stb hb 10 _ (fun _ => hr)⟩
                      intro x
                      simp only [Act.put, List.setIfInBounds_toArray, List.set_cons_zero, List.set_cons_succ]
                      first
                      | (refine Fx.WM.skip 11 (by rfl) (by kernel_rfl) (by kernel_rfl) (by kernel_rfl) (by rfl) (fun g f w h => h) ?_; simp only [Act.put, List.setIfInBounds_toArray, List.set_cons_zero, List.set_cons_succ])
                      | (refine Fx.WM.val_ 11 ?_ (by rfl) (by kernel_rfl) (by kernel_rfl) (by kernel_rfl) (by rfl) ?_ (fun g f w h => h) ?_
                         rotate_left
                         · intro g f w' hx hD hk
                           obtain hkp := id hD
                           clear hx hk hD hkp
                           go_simp
                           try rfl
                         simp only [Act.put, List.setIfInBounds_toArray, List.set_cons_zero, List.set_cons_succ])
                      refine Fx.WM.nil (by kernel_rfl) ?_
                      intro wz hkp
                      have HR8 := Lib.hid (hkp.has 10 x (by rfl) rfl)
                      have HB68 := Lib.hid (HB67.out.trans (hkp.bel.mono hs67))
                      clear hkp
                      go_wp2
                      go_roundw
                      case rel => exact ⟨k + 1, _, _, by omega, rfl, by go_num, HB68.out, HR8.out⟩
                      case measure => simp [intOf]; omega
                    obtain rfl : m = k := by omega
                    obtain ⟨a, ha⟩ : ∃ a, tabL n (leftK h (t.map (·.xs)) (lst b m j) m) = a := ⟨_, rfl⟩
                    have HAA := Lib.hid ha
                    rw [ha] at hr7
                    obtain ⟨t2, ht2⟩ : ∃ t2, digB n a v = t2 := ⟨_, rfl⟩
                    have HT2 := Lib.hid ht2
                    have HA7 := Lib.hid hr7
                    clear ht2 hbl7 hr7 ha hkt
                    go_wp2_with fail
                    refine (rbelow_is A7 n c7 V cv a v t2 HT2.out w7.heap.size _ HA7.out ((HV.out.below HB7.out).more HB7.out.size) (by omega)).mono ?_
                    rintro e w8 ⟨rfl, hb78⟩
                    have HB58 := Lib.hid (HB57.out.trans (hb78.mono HB57.out.size))
                    have hb8 := HB7.out.trans (hb78.mono HB7.out.size)
                    have hk8 := Blk.below K0_7.out hb78 l0_7
                    have HA8 := Lib.hid ((HA7.out.below hb78).more hb78.size)
                    clear hb78
                    have HB8 := Lib.hid hb8
                    have K0_8 := Lib.hid (show Blk w8 (w.heap.size) 107 #[.slice B m d, .int .i64 (M), .int .i64 (T)] from hk8)
                    clear hb8 hk8
                    have l0_8 : w.heap.size < w8.heap.size := K0_8.out.lt
                    have z0_0_8 : w8.cell? ⟨w.heap.size, 0, none⟩ = some (.slice B m d) := K0_8.out.cell 0
                    have z0_1_8 : w8.cell? ⟨w.heap.size, 1, none⟩ = some (.int .i64 (M)) := K0_8.out.cell 1
                    have z0_2_8 : w8.cell? ⟨w.heap.size, 2, none⟩ = some (.int .i64 (T)) := K0_8.out.cell 2
                    have KB8 := K0_8
                    go_wp2
                    go_loopw [22, 23] (fun gv iv wr => ∃ (k : Nat) (gb : Bool), k ≤ n ∧ iv = .int .i64 k ∧ gv = .bool gb ∧ goodTo n a v T k = gb ∧ Below w8.heap.size w8 wr) (fun _ iv _ => n - (intOf iv).toNat)
                    case atStart => exact ⟨0, !t2, by omega, rfl, rfl, by rw [good_zero, HT2.out], Below.refl _ _⟩
                    case round =>
                      obtain ⟨k, gb, hk, rfl, rfl, hgb, hb89⟩ := hrel
                      clear z0_0_8 z0_1_8 z0_2_8
                      obtain ⟨w9, hnm⟩ : ∃ z : World, z = wr := ⟨_, rfl⟩
                      subst hnm
                      have HGB := Lib.hid hgb
                      have HB89 := Lib.hid hb89
                      have HB59 := Lib.hid (HB58.out.trans (hb89.mono HB58.out.size))
                      have hb9 := HB8.out.trans (hb89.mono HB8.out.size)
                      have hk9 := Blk.below KB8.out hb89 (KB8.out.lt)
                      have hba9 := (HA8.out.below hb89).more hb89.size
                      clear hgb hb89
                      have HB9 := Lib.hid hb9
                      have K0_9 := Lib.hid (show Blk w9 (w.heap.size) 107 #[.slice B m d, .int .i64 (M), .int .i64 (T)] from hk9)
                      clear hb9 hk9
                      have l0_9 : w.heap.size < w9.heap.size := K0_9.out.lt
                      have z0_0_9 : w9.cell? ⟨w.heap.size, 0, none⟩ = some (.slice B m d) := K0_9.out.cell 0
                      have z0_1_9 : w9.cell? ⟨w.heap.size, 1, none⟩ = some (.int .i64 (M)) := K0_9.out.cell 1
                      have z0_2_9 : w9.cell? ⟨w.heap.size, 2, none⟩ = some (.int .i64 (T)) := K0_9.out.cell 2
                      by_cases hkt : k < n
                      · have hkk : (k : Int) < (n : Int) := by omega
                        obtain ⟨xb, xo, x1, hAe, hxb, gx, c1⟩ := hba9.int_ hkt
                        obtain ⟨yb, yo, y1, hVe, hyb, gy, c2⟩ := (HV.out.below HB9.out).int_ hkt
                        have hx1 : -61000000 ≤ x1 ∧ x1 ≤ 100000 := by
                          have h1 := HIN.out k m (by omega)
                          rw [← tabL_getD (leftK h (t.map (·.xs)) (lst b m j) m) hkt, HAA.out, getD_of gx] at h1
                          exact h1
                        have hy1 := HHV.out y1 (List.mem_of_getElem? gy)
                        have e1 := IntWalk.i64_in (x1 - y1) ⟨by omega, by omega⟩
                        obtain ⟨gc, hgc⟩ : ∃ gc, decide (x1 - y1 ≤ T) = gc := ⟨_, rfl⟩
                        have HGN := Lib.hid (show goodTo n a v T (k + 1) = (gb && gc) by rw [good_succ, HGB.out, getD_of gx, getD_of gy, hgc])
                        clear gx gy hba9
                        subst hAe hVe
                        cases gb with
                        | false =>
                          go_wp2
                          go_quiet (fail)
                          go_wp2
                          go_roundw
                          case rel => exact ⟨k + 1, false, by omega, by go_num, rfl, by rw [HGN.out]; rfl, below_drewN HB89.out _⟩
                          case measure => simp [intOf]; omega
                        | true =>
                          go_wp2
                          go_quiet (fail)
                          go_wp2
                          go_roundw
                          case rel => exact ⟨k + 1, gc, by omega, by go_num, rfl, by rw [HGN.out]; rfl, below_drewN HB89.out _⟩
                          case measure => simp [intOf]; omega
                      obtain rfl : n = k := by omega
                      have hgf : gb = fb := by
                        rw [← HGB.out, ← HAA.out, ← HFB.out, ← good_fits HL.out, HTL.out]
                      have HFF := Lib.hid (show fitsK h v (t.map (·.xs)) T (lst b (t.map (·.xs)).length j) = gb by rw [HFL.out, hgf])
                      have hs59 := HB59.out.size
                      clear hgf hba9 hkt
                      cases gb with
                      | false =>
                        have HBA9 := Lib.hid (HBA5.out.below HB59.out)
                        go_wp2
                        go_roundw
                        case rel => exact ⟨j + 1, _, _, by go_num, HJL.out, HGD.out.trans (only_of_below HB59.out _), Blk.below HBD.out HB59.out hg5, best_nn HBO.out HFF.out, HBA9.out⟩
                        case measure => simp [intOf]; have := HJL.out; omega
                      | true =>
                        go_wp2_with fail
                        refine (copyints_any (some ⟨g, 0, none⟩) m m _ (lst b m j) _ (BlkL.reads (Blk.below HBD.out HB59.out hg5)) (Nat.le_refl _) (by omega)).mono ?_
                        rintro e w10 ⟨A10, c10, rfl, hb, -, ho10⟩
                        have HB50 := Lib.hid (HB59.out.trans (hb.mono hs59))
                        have hs35 := HGD.out.size
                        have hoo := own_mono ho10 (Nat.le_trans hs35 hs59)
                        obtain ⟨g10, ext10, rfl, -, -, -⟩ := own_block6 hoo hmz1
                        have HBA9 := Lib.hid (show BestAt w3.heap.size b m (some j) (.slice (some ⟨g10, 0, none⟩) m c10) (.int .i64 q) w10 from ⟨g10, c10, rfl, by rw [HLS.out], hoo⟩)
                        clear hb ho10 hoo
                        go_wp2
                        go_roundw
                        case rel => exact ⟨j + 1, some j, _, by go_num, HJL.out, HGD.out.trans (only_of_below HB50.out _), Blk.below HBD.out HB50.out hg5, best_ny HBO.out HFF.out, HBA9.out⟩
                        case measure => simp [intOf]; have := HJL.out; omega
                | some i =>
                  obtain ⟨ga, ca, rfl, rfl, ho⟩ := HBA5.out
                  obtain ⟨si, hsi⟩ : ∃ si, lsum b m i = si := ⟨_, rfl⟩
                  rw [hsi]
                  by_cases hlt : q < si
                  · have hd : decide (si ≤ q) = false := by simp; omega
                    have HLT := Lib.hid (show lsum b (t.map (·.xs)).length j < lsum b (t.map (·.xs)).length i by rw [HTL.out, HLS.out, hsi]; exact hlt)
                    have HSI := Lib.hid hsi
                    have HO5 := Lib.hid ho
                    clear hlt ho hsi
                    have HBA6 := Lib.hid (show BestAt w3.heap.size b m (some i) (.slice (some ⟨ga, 0, none⟩) m ca) (.int .i64 si) w5 from ⟨ga, ca, rfl, by rw [HSI.out], HO5.out⟩)
                    have hb5 := HB05.out
                    have hk5 := HK5.out
                    have HB5 := Lib.hid hb5
                    have K0_5 := Lib.hid (show Blk w5 (w.heap.size) 107 #[.slice B m d, .int .i64 (M), .int .i64 (T)] from hk5)
                    clear hb5 hk5
                    have l0_5 : w.heap.size < w5.heap.size := K0_5.out.lt
                    have z0_0_5 : w5.cell? ⟨w.heap.size, 0, none⟩ = some (.slice B m d) := K0_5.out.cell 0
                    have z0_1_5 : w5.cell? ⟨w.heap.size, 1, none⟩ = some (.int .i64 (M)) := K0_5.out.cell 1
                    have z0_2_5 : w5.cell? ⟨w.heap.size, 2, none⟩ = some (.int .i64 (T)) := K0_5.out.cell 2
                    go_wp2_with fail
                    refine (copyints_any A n ch w5.heap.size h _ ((HX.out.below HB5.out).more HB5.out.size) (Nat.le_refl _) (by omega)).mono ?_
                    rintro e w6 ⟨A6, c6, rfl, hb56, hr6, -⟩
                    have HB56 := Lib.hid hb56
                    have hb6 := HB5.out.trans (hb56.mono HB5.out.size)
                    have hk6 := Blk.below K0_5.out hb56 l0_5
                    have hs56 := hb56.size
                    have HR6 := Lib.hid (show Reads w6 w6.heap.size 1 A6 n ((tabL n (leftK h (t.map (·.xs)) (lst b m j) 0)).map (.int .i64)) by rw [left_start HL.out]; exact hr6)
                    clear hr6 hb56
                    have HB6 := Lib.hid hb6
                    have K0_6 := Lib.hid (show Blk w6 (w.heap.size) 107 #[.slice B m d, .int .i64 (M), .int .i64 (T)] from hk6)
                    clear hb6 hk6
                    have l0_6 : w.heap.size < w6.heap.size := K0_6.out.lt
                    have z0_0_6 : w6.cell? ⟨w.heap.size, 0, none⟩ = some (.slice B m d) := K0_6.out.cell 0
                    have z0_1_6 : w6.cell? ⟨w.heap.size, 1, none⟩ = some (.int .i64 (M)) := K0_6.out.cell 1
                    have z0_2_6 : w6.cell? ⟨w.heap.size, 2, none⟩ = some (.int .i64 (T)) := K0_6.out.cell 2
                    have KB6 := K0_6
                    go_wp2
                    go_loopw [20, 21] (fun av iv wr => ∃ (k : Nat) (A' : Option Addr) (c' : Nat), k ≤ m ∧ av = .slice A' n c' ∧ iv = .int .i64 k ∧ Below w6.heap.size w6 wr ∧ Reads wr wr.heap.size 1 A' n ((tabL n (leftK h (t.map (·.xs)) (lst b m j) k)).map (.int .i64))) (fun _ iv _ => m - (intOf iv).toNat)
                    case atStart => exact ⟨0, A6, c6, by omega, rfl, rfl, Below.refl _ _, HR6.out⟩
                    case round =>
                      obtain ⟨k, A7, c7, hk, rfl, rfl, hb67, hr7⟩ := hrel
                      clear z0_0_6 z0_1_6 z0_2_6
                      obtain ⟨w7, hnm⟩ : ∃ z : World, z = wr := ⟨_, rfl⟩
                      subst hnm
                      have HB67 := Lib.hid hb67
                      have HB57 := Lib.hid (HB56.out.trans (hb67.mono hs56))
                      have hb7 := HB6.out.trans (hb67.mono HB6.out.size)
                      have hk7 := Blk.below KB6.out hb67 (KB6.out.lt)
                      have hs67 := hb67.size
                      have hbl7 := Blk.below HBD.out HB57.out hg5
                      have HBD7 := Lib.hid hbl7
                      have HIN := Lib.hid (fun (i k : Nat) (hk : k ≤ m) => leftK_in (i := i) (n := m) (c := lst b m j) HHH.out (fun z hz => by
                          unfold lst tabL at hz
                          obtain ⟨q, hq, rfl⟩ := List.mem_map.1 hz
                          have := dg_lt (B := b) (e := m - 1 - q) (j := j) (by omega)
                          omega) HW.out k hk (by omega))
                      have HR7 := Lib.hid hr7
                      clear hb67
                      have HB7 := Lib.hid hb7
                      have K0_7 := Lib.hid (show Blk w7 (w.heap.size) 107 #[.slice B m d, .int .i64 (M), .int .i64 (T)] from hk7)
                      clear hb7 hk7
                      have l0_7 : w.heap.size < w7.heap.size := K0_7.out.lt
                      have z0_0_7 : w7.cell? ⟨w.heap.size, 0, none⟩ = some (.slice B m d) := K0_7.out.cell 0
                      have z0_1_7 : w7.cell? ⟨w.heap.size, 1, none⟩ = some (.int .i64 (M)) := K0_7.out.cell 1
                      have z0_2_7 : w7.cell? ⟨w.heap.size, 2, none⟩ = some (.int .i64 (T)) := K0_7.out.cell 2
                      by_cases hkt : k < m
                      · skip
                        have hkk : (k : Int) < (m : Int) := by omega
                        obtain ⟨zb, zo, r, rfl, hzb, gr, cr, hrc, hrl, hrr⟩ := (HK.out.below HB7.out).at_ hkt
                        have hrn := HWN.out r (List.mem_of_getElem? gr)
                        obtain ⟨rA, rn, rc, rx⟩ := r
                        simp only at hrn cr hrc hrl hrr
                        obtain rfl : n = rn := hrn.symm
                        have hrx : (t.map (·.xs)).getD k [] = rx := getD_of (by rw [List.getElem?_map, gr]; rfl)
                        have HRX := Lib.hid hrx
                        have HXS := Lib.hid (show ∀ z ∈ rx, 0 ≤ z ∧ z ≤ 100000 by rw [← hrx]; exact HW.out k hkt)
                        have cg := BlkL.cell hbl7 hkt
                        obtain ⟨p, hp⟩ : ∃ p : Int, (dg b (m - 1 - k) j : Int) = p := ⟨_, rfl⟩
                        rw [hp] at cg
                        have hp1 : 0 ≤ p ∧ p ≤ 100 := by have := dg_lt (B := b) (e := m - 1 - k) (j := j) (by omega); omega
                        have HP := Lib.hid (show (lst b m j).getD k 0 = p by unfold lst; rw [tabL_getD _ hkt, hp])
                        have hrr7 := hrr.more HB7.out.size
                        have hzb7 : zb < w7.heap.size := Nat.lt_of_lt_of_le hzb HB7.out.size
                        have hg7 : g < w7.heap.size := by omega
                        have CGW := Lib.hid (show ∀ w', Below w7.heap.size w7 w' → w'.cell? ⟨g, k, none⟩ = some (.int .i64 p) from fun w' hb => (hb.cell (p := ⟨g, k, none⟩) hg7).trans cg)
                        have CRW := Lib.hid (show ∀ w', Below w7.heap.size w7 w' → w'.cell? ⟨zb, zo + k, none⟩ = some (.slice rA n rc) from fun w' hb => (hb.cell (p := ⟨zb, zo + k, none⟩) hzb7).trans cr)
                        have hlf : tabL n (fun i => leftK h (t.map (·.xs)) (lst b m j) k i - p * rx.getD i 0) = tabL n (leftK h (t.map (·.xs)) (lst b m j) (k + 1)) := left_next HP.out hrx
                        have HLESS := Lib.hid (show ∀ w', Reads w' w'.heap.size 1 A7 n ((tabL n (leftK h (t.map (·.xs)) (lst b m j) k)).map (.int .i64)) → Reads w' w'.heap.size 1 rA n (rx.map (.int .i64)) → Calls Try.prog 103 #[.slice A7 n c7, .slice rA n rc, .int .i64 p] w' (fun e w'' => ∃ A' c', e = .returned (.slice A' n c') ∧ Below w'.heap.size w' w'' ∧ Reads w'' w''.heap.size 1 A' n ((tabL n (leftK h (t.map (·.xs)) (lst b m j) (k + 1))).map (.int .i64))) from fun w' h1 h2 => by
                          have h3 := rless_is A7 n c7 rA rc (leftK h (t.map (·.xs)) (lst b m j) k) rx p hp1 hn1 hn (fun i _ => by have h4 := HIN.out i k hk; exact ⟨by omega, by omega⟩) HXS.out w' h1 h2
                          rw [hlf] at h3
                          exact h3)
                        clear hlf
                        clear hrx gr hp hrr hbl7 hrn cg cr
                        have R0_7 := Lib.hid hr7
                        clear hr7
                        have R1_7 := Lib.hid hrr7
                        clear hrr7
                        go_wp2
                        refine Fx.regionM (fun W g f w' => Kp (PfLf n 10 (tabL n (leftK h (t.map (·.xs)) (lst b m j) (k + 1)))) W g w') (fun i (x : Pick2) => .slice x.1.1 n x.1.2) (by kernel_rfl) ?_ ?_
                        · intro f hf0
                          exact Kp.start
                        first
                        | (refine Fx.WM.skip 0 (by rfl) (by kernel_rfl) (by kernel_rfl) (by kernel_rfl) (by rfl) (fun g f w h => h) ?_; simp only [Act.put, List.setIfInBounds_toArray, List.set_cons_zero, List.set_cons_succ])
                        | (refine Fx.WM.val_ 0 ?_ (by rfl) (by kernel_rfl) (by kernel_rfl) (by kernel_rfl) (by rfl) ?_ (fun g f w h => h) ?_
                           rotate_left
                           · intro g f w' hx hD hk
                             obtain hkp := id hD
                             have y0_0 := (K0_7.out.below hkp.bel l0_7).cell 0
                             have y0_1 := (K0_7.out.below hkp.bel l0_7).cell 1
                             have y0_2 := (K0_7.out.below hkp.bel l0_7).cell 2
                             have yc := CRW.out w' hkp.bel
                             have yg := CGW.out w' hkp.bel
                             clear hx hk hD hkp
                             go_simp
                             try rfl
                           simp only [Act.put, List.setIfInBounds_toArray, List.set_cons_zero, List.set_cons_succ])
                        first
                        | (refine Fx.WM.skip 1 (by rfl) (by kernel_rfl) (by kernel_rfl) (by kernel_rfl) (by rfl) (fun g f w h => h) ?_; simp only [Act.put, List.setIfInBounds_toArray, List.set_cons_zero, List.set_cons_succ])
                        | (refine Fx.WM.val_ 1 ?_ (by rfl) (by kernel_rfl) (by kernel_rfl) (by kernel_rfl) (by rfl) ?_ (fun g f w h => h) ?_
                           rotate_left
                           · intro g f w' hx hD hk
                             obtain hkp := id hD
                             have y0_0 := (K0_7.out.below hkp.bel l0_7).cell 0
                             have y0_1 := (K0_7.out.below hkp.bel l0_7).cell 1
                             have y0_2 := (K0_7.out.below hkp.bel l0_7).cell 2
                             have yc := CRW.out w' hkp.bel
                             have yg := CGW.out w' hkp.bel
                             clear hx hk hD hkp
                             go_simp
                             try rfl
                           simp only [Act.put, List.setIfInBounds_toArray, List.set_cons_zero, List.set_cons_succ])
                        first
                        | (refine Fx.WM.skip 2 (by rfl) (by kernel_rfl) (by kernel_rfl) (by kernel_rfl) (by rfl) (fun g f w h => h) ?_; simp only [Act.put, List.setIfInBounds_toArray, List.set_cons_zero, List.set_cons_succ])
                        | (refine Fx.WM.val_ 2 ?_ (by rfl) (by kernel_rfl) (by kernel_rfl) (by kernel_rfl) (by rfl) ?_ (fun g f w h => h) ?_
                           rotate_left
                           · intro g f w' hx hD hk
                             obtain hkp := id hD
                             have y0_0 := (K0_7.out.below hkp.bel l0_7).cell 0
                             have y0_1 := (K0_7.out.below hkp.bel l0_7).cell 1
                             have y0_2 := (K0_7.out.below hkp.bel l0_7).cell 2
                             have yc := CRW.out w' hkp.bel
                             have yg := CGW.out w' hkp.bel
                             clear hx hk hD hkp
                             go_simp
                             try rfl
                           simp only [Act.put, List.setIfInBounds_toArray, List.set_cons_zero, List.set_cons_succ])
                        first
                        | (refine Fx.WM.skip 3 (by rfl) (by kernel_rfl) (by kernel_rfl) (by kernel_rfl) (by rfl) (fun g f w h => h) ?_; simp only [Act.put, List.setIfInBounds_toArray, List.set_cons_zero, List.set_cons_succ])
                        | (refine Fx.WM.val_ 3 ?_ (by rfl) (by kernel_rfl) (by kernel_rfl) (by kernel_rfl) (by rfl) ?_ (fun g f w h => h) ?_
                           rotate_left
                           · intro g f w' hx hD hk
                             obtain hkp := id hD
                             have y0_0 := (K0_7.out.below hkp.bel l0_7).cell 0
                             have y0_1 := (K0_7.out.below hkp.bel l0_7).cell 1
                             have y0_2 := (K0_7.out.below hkp.bel l0_7).cell 2
                             have yc := CRW.out w' hkp.bel
                             have yg := CGW.out w' hkp.bel
                             clear hx hk hD hkp
                             go_simp
                             try rfl
                           simp only [Act.put, List.setIfInBounds_toArray, List.set_cons_zero, List.set_cons_succ])
                        first
                        | (refine Fx.WM.skip 4 (by rfl) (by kernel_rfl) (by kernel_rfl) (by kernel_rfl) (by rfl) (fun g f w h => h) ?_; simp only [Act.put, List.setIfInBounds_toArray, List.set_cons_zero, List.set_cons_succ])
                        | (refine Fx.WM.val_ 4 ?_ (by rfl) (by kernel_rfl) (by kernel_rfl) (by kernel_rfl) (by rfl) ?_ (fun g f w h => h) ?_
                           rotate_left
                           · intro g f w' hx hD hk
                             obtain hkp := id hD
                             have y0_0 := (K0_7.out.below hkp.bel l0_7).cell 0
                             have y0_1 := (K0_7.out.below hkp.bel l0_7).cell 1
                             have y0_2 := (K0_7.out.below hkp.bel l0_7).cell 2
                             have yc := CRW.out w' hkp.bel
                             have yg := CGW.out w' hkp.bel
                             clear hx hk hD hkp
                             go_simp
                             try rfl
                           simp only [Act.put, List.setIfInBounds_toArray, List.set_cons_zero, List.set_cons_succ])
                        first
                        | (refine Fx.WM.skip 5 (by rfl) (by kernel_rfl) (by kernel_rfl) (by kernel_rfl) (by rfl) (fun g f w h => h) ?_; simp only [Act.put, List.setIfInBounds_toArray, List.set_cons_zero, List.set_cons_succ])
                        | (refine Fx.WM.val_ 5 ?_ (by rfl) (by kernel_rfl) (by kernel_rfl) (by kernel_rfl) (by rfl) ?_ (fun g f w h => h) ?_
                           rotate_left
                           · intro g f w' hx hD hk
                             obtain hkp := id hD
                             have y0_0 := (K0_7.out.below hkp.bel l0_7).cell 0
                             have y0_1 := (K0_7.out.below hkp.bel l0_7).cell 1
                             have y0_2 := (K0_7.out.below hkp.bel l0_7).cell 2
                             have yc := CRW.out w' hkp.bel
                             have yg := CGW.out w' hkp.bel
                             clear hx hk hD hkp
                             go_simp
                             try rfl
                           simp only [Act.put, List.setIfInBounds_toArray, List.set_cons_zero, List.set_cons_succ])
                        first
                        | (refine Fx.WM.skip 6 (by rfl) (by kernel_rfl) (by kernel_rfl) (by kernel_rfl) (by rfl) (fun g f w h => h) ?_; simp only [Act.put, List.setIfInBounds_toArray, List.set_cons_zero, List.set_cons_succ])
                        | (refine Fx.WM.val_ 6 ?_ (by rfl) (by kernel_rfl) (by kernel_rfl) (by kernel_rfl) (by rfl) ?_ (fun g f w h => h) ?_
                           rotate_left
                           · intro g f w' hx hD hk
                             obtain hkp := id hD
                             have y0_0 := (K0_7.out.below hkp.bel l0_7).cell 0
                             have y0_1 := (K0_7.out.below hkp.bel l0_7).cell 1
                             have y0_2 := (K0_7.out.below hkp.bel l0_7).cell 2
                             have yc := CRW.out w' hkp.bel
                             have yg := CGW.out w' hkp.bel
                             clear hx hk hD hkp
                             go_simp
                             try rfl
                           simp only [Act.put, List.setIfInBounds_toArray, List.set_cons_zero, List.set_cons_succ])
                        first
                        | (refine Fx.WM.skip 7 (by rfl) (by kernel_rfl) (by kernel_rfl) (by kernel_rfl) (by rfl) (fun g f w h => h) ?_; simp only [Act.put, List.setIfInBounds_toArray, List.set_cons_zero, List.set_cons_succ])
                        | (refine Fx.WM.val_ 7 ?_ (by rfl) (by kernel_rfl) (by kernel_rfl) (by kernel_rfl) (by rfl) ?_ (fun g f w h => h) ?_
                           rotate_left
                           · intro g f w' hx hD hk
                             obtain hkp := id hD
                             have y0_0 := (K0_7.out.below hkp.bel l0_7).cell 0
                             have y0_1 := (K0_7.out.below hkp.bel l0_7).cell 1
                             have y0_2 := (K0_7.out.below hkp.bel l0_7).cell 2
                             have yc := CRW.out w' hkp.bel
                             have yg := CGW.out w' hkp.bel
                             clear hx hk hD hkp
                             go_simp
                             try rfl
                           simp only [Act.put, List.setIfInBounds_toArray, List.set_cons_zero, List.set_cons_succ])
                        first
                        | (refine Fx.WM.skip 8 (by rfl) (by kernel_rfl) (by kernel_rfl) (by kernel_rfl) (by rfl) (fun g f w h => h) ?_; simp only [Act.put, List.setIfInBounds_toArray, List.set_cons_zero, List.set_cons_succ])
                        | (refine Fx.WM.val_ 8 ?_ (by rfl) (by kernel_rfl) (by kernel_rfl) (by kernel_rfl) (by rfl) ?_ (fun g f w h => h) ?_
                           rotate_left
                           · intro g f w' hx hD hk
                             obtain hkp := id hD
                             have y0_0 := (K0_7.out.below hkp.bel l0_7).cell 0
                             have y0_1 := (K0_7.out.below hkp.bel l0_7).cell 1
                             have y0_2 := (K0_7.out.below hkp.bel l0_7).cell 2
                             have yc := CRW.out w' hkp.bel
                             have yg := CGW.out w' hkp.bel
                             clear hx hk hD hkp
                             go_simp
                             try rfl
                           simp only [Act.put, List.setIfInBounds_toArray, List.set_cons_zero, List.set_cons_succ])
                        first
                        | (refine Fx.WM.skip 9 (by rfl) (by kernel_rfl) (by kernel_rfl) (by kernel_rfl) (by rfl) (fun g f w h => h) ?_; simp only [Act.put, List.setIfInBounds_toArray, List.set_cons_zero, List.set_cons_succ])
                        | (refine Fx.WM.val_ 9 ?_ (by rfl) (by kernel_rfl) (by kernel_rfl) (by kernel_rfl) (by rfl) ?_ (fun g f w h => h) ?_
                           rotate_left
                           · intro g f w' hx hD hk
                             obtain hkp := id hD
                             have y0_0 := (K0_7.out.below hkp.bel l0_7).cell 0
                             have y0_1 := (K0_7.out.below hkp.bel l0_7).cell 1
                             have y0_2 := (K0_7.out.below hkp.bel l0_7).cell 2
                             have yc := CRW.out w' hkp.bel
                             have yg := CGW.out w' hkp.bel
                             clear hx hk hD hkp
                             go_simp
                             try rfl
                           simp only [Act.put, List.setIfInBounds_toArray, List.set_cons_zero, List.set_cons_succ])
                        refine Fx.WM.choose 10 (by rfl) (by kernel_rfl) (by rfl) ?_ ?_
                        · skip
                          refine Fx.Chooses.call ?_ ?_ (by rfl) ?_ ?_
                          rotate_left 2
                          · intro w'
                            go_simp
                            refine ⟨?_, ?_⟩ <;> rfl
                          · intro f w' hD hk
                            exact (HLESS.out w' ((R0_7.out.below hD.bel).more hD.bel.size) ((R1_7.out.below hD.bel).more hD.bel.size)).mono fun e w'' ⟨A', c', he, hb, hr⟩ => ⟨((A', c'), (none, 0)), he, hD.choose PfLf.stb hb 10 _ (fun _ => hr)⟩
                        intro x
                        simp only [Act.put, List.setIfInBounds_toArray, List.set_cons_zero, List.set_cons_succ]
                        first
                        | (refine Fx.WM.skip 11 (by rfl) (by kernel_rfl) (by kernel_rfl) (by kernel_rfl) (by rfl) (fun g f w h => h) ?_; simp only [Act.put, List.setIfInBounds_toArray, List.set_cons_zero, List.set_cons_succ])
                        | (refine Fx.WM.val_ 11 ?_ (by rfl) (by kernel_rfl) (by kernel_rfl) (by kernel_rfl) (by rfl) ?_ (fun g f w h => h) ?_
                           rotate_left
                           · intro g f w' hx hD hk
                             obtain hkp := id hD
                             clear hx hk hD hkp
                             go_simp
                             try rfl
                           simp only [Act.put, List.setIfInBounds_toArray, List.set_cons_zero, List.set_cons_succ])
                        refine Fx.WM.nil (by kernel_rfl) ?_
                        intro wz hkp
                        have HR8 := Lib.hid (hkp.has 10 x (by rfl) rfl)
                        have HB68 := Lib.hid (HB67.out.trans (hkp.bel.mono hs67))
                        clear hkp
                        go_wp2
                        go_roundw
                        case rel => exact ⟨k + 1, _, _, by omega, rfl, by go_num, HB68.out, HR8.out⟩
                        case measure => simp [intOf]; omega
                      obtain rfl : m = k := by omega
                      obtain ⟨a, ha⟩ : ∃ a, tabL n (leftK h (t.map (·.xs)) (lst b m j) m) = a := ⟨_, rfl⟩
                      have HAA := Lib.hid ha
                      rw [ha] at hr7
                      obtain ⟨t2, ht2⟩ : ∃ t2, digB n a v = t2 := ⟨_, rfl⟩
                      have HT2 := Lib.hid ht2
                      have HA7 := Lib.hid hr7
                      clear ht2 hbl7 hr7 ha hkt
                      go_wp2_with fail
                      refine (rbelow_is A7 n c7 V cv a v t2 HT2.out w7.heap.size _ HA7.out ((HV.out.below HB7.out).more HB7.out.size) (by omega)).mono ?_
                      rintro e w8 ⟨rfl, hb78⟩
                      have HB58 := Lib.hid (HB57.out.trans (hb78.mono HB57.out.size))
                      have hb8 := HB7.out.trans (hb78.mono HB7.out.size)
                      have hk8 := Blk.below K0_7.out hb78 l0_7
                      have HA8 := Lib.hid ((HA7.out.below hb78).more hb78.size)
                      clear hb78
                      have HB8 := Lib.hid hb8
                      have K0_8 := Lib.hid (show Blk w8 (w.heap.size) 107 #[.slice B m d, .int .i64 (M), .int .i64 (T)] from hk8)
                      clear hb8 hk8
                      have l0_8 : w.heap.size < w8.heap.size := K0_8.out.lt
                      have z0_0_8 : w8.cell? ⟨w.heap.size, 0, none⟩ = some (.slice B m d) := K0_8.out.cell 0
                      have z0_1_8 : w8.cell? ⟨w.heap.size, 1, none⟩ = some (.int .i64 (M)) := K0_8.out.cell 1
                      have z0_2_8 : w8.cell? ⟨w.heap.size, 2, none⟩ = some (.int .i64 (T)) := K0_8.out.cell 2
                      have KB8 := K0_8
                      go_wp2
                      go_loopw [22, 23] (fun gv iv wr => ∃ (k : Nat) (gb : Bool), k ≤ n ∧ iv = .int .i64 k ∧ gv = .bool gb ∧ goodTo n a v T k = gb ∧ Below w8.heap.size w8 wr) (fun _ iv _ => n - (intOf iv).toNat)
                      case atStart => exact ⟨0, !t2, by omega, rfl, rfl, by rw [good_zero, HT2.out], Below.refl _ _⟩
                      case round =>
                        obtain ⟨k, gb, hk, rfl, rfl, hgb, hb89⟩ := hrel
                        clear z0_0_8 z0_1_8 z0_2_8
                        obtain ⟨w9, hnm⟩ : ∃ z : World, z = wr := ⟨_, rfl⟩
                        subst hnm
                        have HGB := Lib.hid hgb
                        have HB89 := Lib.hid hb89
                        have HB59 := Lib.hid (HB58.out.trans (hb89.mono HB58.out.size))
                        have hb9 := HB8.out.trans (hb89.mono HB8.out.size)
                        have hk9 := Blk.below KB8.out hb89 (KB8.out.lt)
                        have hba9 := (HA8.out.below hb89).more hb89.size
                        clear hgb hb89
                        have HB9 := Lib.hid hb9
                        have K0_9 := Lib.hid (show Blk w9 (w.heap.size) 107 #[.slice B m d, .int .i64 (M), .int .i64 (T)] from hk9)
                        clear hb9 hk9
                        have l0_9 : w.heap.size < w9.heap.size := K0_9.out.lt
                        have z0_0_9 : w9.cell? ⟨w.heap.size, 0, none⟩ = some (.slice B m d) := K0_9.out.cell 0
                        have z0_1_9 : w9.cell? ⟨w.heap.size, 1, none⟩ = some (.int .i64 (M)) := K0_9.out.cell 1
                        have z0_2_9 : w9.cell? ⟨w.heap.size, 2, none⟩ = some (.int .i64 (T)) := K0_9.out.cell 2
                        by_cases hkt : k < n
                        · have hkk : (k : Int) < (n : Int) := by omega
                          obtain ⟨xb, xo, x1, hAe, hxb, gx, c1⟩ := hba9.int_ hkt
                          obtain ⟨yb, yo, y1, hVe, hyb, gy, c2⟩ := (HV.out.below HB9.out).int_ hkt
                          have hx1 : -61000000 ≤ x1 ∧ x1 ≤ 100000 := by
                            have h1 := HIN.out k m (by omega)
                            rw [← tabL_getD (leftK h (t.map (·.xs)) (lst b m j) m) hkt, HAA.out, getD_of gx] at h1
                            exact h1
                          have hy1 := HHV.out y1 (List.mem_of_getElem? gy)
                          have e1 := IntWalk.i64_in (x1 - y1) ⟨by omega, by omega⟩
                          obtain ⟨gc, hgc⟩ : ∃ gc, decide (x1 - y1 ≤ T) = gc := ⟨_, rfl⟩
                          have HGN := Lib.hid (show goodTo n a v T (k + 1) = (gb && gc) by rw [good_succ, HGB.out, getD_of gx, getD_of gy, hgc])
                          clear gx gy hba9
                          subst hAe hVe
                          cases gb with
                          | false =>
                            go_wp2
                            go_quiet (fail)
                            go_wp2
                            go_roundw
                            case rel => exact ⟨k + 1, false, by omega, by go_num, rfl, by rw [HGN.out]; rfl, below_drewN HB89.out _⟩
                            case measure => simp [intOf]; omega
                          | true =>
                            go_wp2
                            go_quiet (fail)
                            go_wp2
                            go_roundw
                            case rel => exact ⟨k + 1, gc, by omega, by go_num, rfl, by rw [HGN.out]; rfl, below_drewN HB89.out _⟩
                            case measure => simp [intOf]; omega
                        obtain rfl : n = k := by omega
                        have hgf : gb = fb := by
                          rw [← HGB.out, ← HAA.out, ← HFB.out, ← good_fits HL.out, HTL.out]
                        have HFF := Lib.hid (show fitsK h v (t.map (·.xs)) T (lst b (t.map (·.xs)).length j) = gb by rw [HFL.out, hgf])
                        have hs59 := HB59.out.size
                        clear hgf hba9 hkt
                        cases gb with
                        | false =>
                          have HBA9 := Lib.hid (HBA6.out.below HB59.out)
                          go_wp2
                          go_roundw
                          case rel => exact ⟨j + 1, _, _, by go_num, HJL.out, HGD.out.trans (only_of_below HB59.out _), Blk.below HBD.out HB59.out hg5, best_sn HBO.out (fun h => by rw [HFF.out] at h; exact absurd h.2 (by decide)), HBA9.out⟩
                          case measure => simp [intOf]; have := HJL.out; omega
                        | true =>
                          go_wp2_with fail
                          refine (copyints_any (some ⟨g, 0, none⟩) m m _ (lst b m j) _ (BlkL.reads (Blk.below HBD.out HB59.out hg5)) (Nat.le_refl _) (by omega)).mono ?_
                          rintro e w10 ⟨A10, c10, rfl, hb, -, ho10⟩
                          have HB50 := Lib.hid (HB59.out.trans (hb.mono hs59))
                          have hs35 := HGD.out.size
                          have hoo := own_mono ho10 (Nat.le_trans hs35 hs59)
                          obtain ⟨g10, ext10, rfl, -, -, -⟩ := own_block6 hoo hmz1
                          have HBA9 := Lib.hid (show BestAt w3.heap.size b m (some j) (.slice (some ⟨g10, 0, none⟩) m c10) (.int .i64 q) w10 from ⟨g10, c10, rfl, by rw [HLS.out], hoo⟩)
                          clear hb ho10 hoo
                          go_wp2
                          go_roundw
                          case rel => exact ⟨j + 1, some j, _, by go_num, HJL.out, HGD.out.trans (only_of_below HB50.out _), Blk.below HBD.out HB50.out hg5, best_sy HBO.out HLT.out HFF.out, HBA9.out⟩
                          case measure => simp [intOf]; have := HJL.out; omega
                  · have hd : decide (si ≤ q) = true := by simp; omega
                    have HLT := Lib.hid (show ¬ lsum b (t.map (·.xs)).length j < lsum b (t.map (·.xs)).length i by rw [HTL.out, HLS.out, hsi]; exact hlt)
                    have HBA9 := Lib.hid (show BestAt w3.heap.size b m (some i) (.slice (some ⟨ga, 0, none⟩) m ca) (.int .i64 si) w5 from ⟨ga, ca, rfl, by rw [hsi], ho⟩)
                    clear hlt ho hsi
                    go_wp2
                    go_roundw
                    case rel => exact ⟨j + 1, some i, _, by go_num, HJL.out, HGD.out, HBD.out, best_sn HBO.out (fun h => HLT.out h.1), HBA9.out⟩
                    case measure => simp [intOf]; have := HJL.out; omega
end Go.Proofs.Ytnepjgnnppfibaa

end
