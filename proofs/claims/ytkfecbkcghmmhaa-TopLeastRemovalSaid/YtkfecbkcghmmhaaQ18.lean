import Derived.Test.YtkfecbkcghmmhaaQ17
import Derived.Test.YtkfecbkcghmmhaaQ7

section
/- The reference's check of a map. -/
namespace Go.Proofs.Ytkfecbkcghmmhaa
open Go Go.RowKit

theorem sum_all0 {f : Nat → Int} : ∀ n, (∀ i, i < n → 0 ≤ f i) → 0 ≤ sumN f n ∧ (sumN f n = 0 ↔ ∀ i, i < n → f i = 0)
  | 0, _ => ⟨Int.le_refl _, by simp [sumN]⟩
  | n + 1, h => by
    obtain ⟨h1, h2⟩ := sum_all0 (f := f) n (fun i hi => h i (by omega))
    have h3 := h n (by omega)
    have e : sumN f (n + 1) = sumN f n + f n := rfl
    rw [e]
    refine ⟨by omega, fun h4 i hi => ?_, fun h4 => ?_⟩
    · by_cases e : i = n
      · subst e; omega
      · exact h2.1 (by omega) i (by omega)
    · have := h2.2 (fun i hi => h4 i (by omega))
      have := h4 n (by omega)
      omega
theorem sum_zero {ws : List Int} {n : Nat} (hn : ws.length = n) (h : ∀ i, i < n → 0 ≤ ws.getD i 0) : ws.all (fun z => decide (z = 0)) = decide (sumN (fun i => ws.getD i 0) n = 0) := by
  have h1 := (sum_all0 (f := fun i => ws.getD i 0) n h).2
  by_cases h0 : sumN (fun i => ws.getD i 0) n = 0
  · rw [decide_eq_true h0, List.all_eq_true]
    intro z hz
    obtain ⟨i, hi, rfl⟩ := List.mem_iff_getElem.1 hz
    have := h1.1 h0 i (by omega)
    simp only [List.getD_eq_getElem?_getD, List.getElem?_eq_getElem hi, Option.getD_some] at this
    simpa using this
  · rw [decide_eq_false h0, Bool.eq_false_iff]
    intro ha
    refine h0 (h1.2 fun i hi => ?_)
    have hz := List.all_eq_true.1 ha (ws[i]'(by omega)) (List.getElem_mem _)
    simp only [List.getD_eq_getElem?_getD, List.getElem?_eq_getElem (show i < ws.length by omega), Option.getD_some]
    simpa using hz

set_option maxRecDepth 100000 in
set_option maxHeartbeats 4000000 in
theorem rcheckmap_is (A1 : Option Addr) (n1 c1 : Nat) (hs : List Int) (A2 : Option Addr) (n2 c2 : Nat) (qs : List Int) (A3 : Option Addr) (n3 c3 : Nat) (ws : List Int) (E : Int) (hE : mapErr hs qs ws = E) (w : World)
    (r1 : Reads w w.heap.size 1 A1 n1 (hs.map (.int .i64))) (r2 : Reads w w.heap.size 1 A2 n2 (qs.map (.int .i64))) (r3 : Reads w w.heap.size 1 A3 n3 (ws.map (.int .i64))) (hc1 : n1 ≤ 9223372036854775807) (hc2 : n2 ≤ 9223372036854775807) (hc3 : n3 ≤ 9223372036854775807) :
    Calls Try.prog 9 #[.agg #[.slice A1 n1 c1, .slice A2 n2 c2, .slice A3 n3 c3]] w fun e w' => e = .returned (.int .i64 E) ∧ Below w.heap.size w w' := by
  have l1 : hs.length = n1 := by have := r1.1; simpa using this
  have l2 : qs.length = n2 := by have := r2.1; simpa using this
  have l3 : ws.length = n3 := by have := r3.1; simpa using this
  have HE := Lib.hid hE
  have R1 := Lib.hid r1
  have R2 := Lib.hid r2
  have R3 := Lib.hid r3
  clear hE r1 r2 r3
  cases hz : withinB (n1 : Int) 1 40
  · have e : (10 : Int) = E := by rw [← HE.out, map_shape (by have := zones_no hz; omega)]
    have HEE := Lib.hid e
    have HZ := Lib.hid hz
    clear hz e l1 l2 l3
    go_enter Try.func9, Try.ntmps9
    go_wp2_with fail
    refine (withinref_is _ _ _ false HZ.out _).mono ?_
    rintro e w' ⟨rfl, rfl⟩
    go_wp2
    go_ret
    exact ⟨ret_int HEE.out, by repeat' (first | exact Below.refl _ _ | assumption | refine below_drewN ?_ _ | refine Below.drew ?_ | refine Below.alloc ?_ (by first | omega | (simp; done) | (simp; omega)) _ | refine Below.setCell ?_ (by first | omega | (simp; done) | (simp; omega)) _)⟩
  have hzy := zones_yes hz
  have HZ := Lib.hid hz
  by_cases h2 : n2 = n1
  rotate_left
  · have e : (10 : Int) = E := by rw [← HE.out, map_shape (by omega)]
    have HEE := Lib.hid e
    have hd : ((n2 : Int) != (n1 : Int)) = true := by simp; omega
    clear hz e l1 l2 l3 h2 hzy
    go_enter Try.func9, Try.ntmps9
    go_wp2_with fail
    refine (withinref_is _ _ _ true HZ.out _).mono ?_
    rintro e w' ⟨rfl, rfl⟩
    go_wp2
    go_ret
    exact ⟨ret_int HEE.out, by repeat' (first | exact Below.refl _ _ | assumption | refine below_drewN ?_ _ | refine Below.drew ?_ | refine Below.alloc ?_ (by first | omega | (simp; done) | (simp; omega)) _ | refine Below.setCell ?_ (by first | omega | (simp; done) | (simp; omega)) _)⟩
  by_cases h3 : n3 = n1
  rotate_left
  · have e : (10 : Int) = E := by rw [← HE.out, map_shape (by omega)]
    have HEE := Lib.hid e
    have hd : ((n2 : Int) != (n1 : Int)) = false := by simp; omega
    have hd3 : ((n3 : Int) != (n1 : Int)) = true := by simp; omega
    clear hz e l1 l2 l3 h2 h3 hzy
    go_enter Try.func9, Try.ntmps9
    go_wp2_with fail
    refine (withinref_is _ _ _ true HZ.out _).mono ?_
    rintro e w' ⟨rfl, rfl⟩
    go_wp2
    go_ret
    exact ⟨ret_int HEE.out, by repeat' (first | exact Below.refl _ _ | assumption | refine below_drewN ?_ _ | refine Below.drew ?_ | refine Below.alloc ?_ (by first | omega | (simp; done) | (simp; omega)) _ | refine Below.setCell ?_ (by first | omega | (simp; done) | (simp; omega)) _)⟩
  subst h2 h3
  have HSH : Hid (¬ (hs.length < 1 ∨ 40 < hs.length ∨ qs.length ≠ hs.length ∨ ws.length ≠ hs.length)) := by show ¬ _; rw [l1, l2, l3]; omega
  have hn40 : n3 ≤ 40 := by omega
  have hn1 : 1 ≤ n3 := by omega
  have HL := Lib.hid l1
  have HL3 := Lib.hid l3
  obtain ⟨b1, o1, z1, rfl, hb1, -, -⟩ := R1.out.int_ (show 0 < n3 by omega)
  obtain ⟨b2, o2, z2, rfl, hb2, -, -⟩ := R2.out.int_ (show 0 < n3 by omega)
  obtain ⟨b3, o3, z3, rfl, hb3, -, -⟩ := R3.out.int_ (show 0 < n3 by omega)
  clear hz hzy l1 l2 l3 hc1 hc2 hc3 z1 z2 z3
  go_enter Try.func9, Try.ntmps9
  go_wp2_with fail
  refine (withinref_is _ _ _ true HZ.out _).mono ?_
  rintro e w' ⟨rfl, rfl⟩
  go_wp2
  generalize hwn : (w.alloc (.cells #[.slice (some ⟨b1, o1, none⟩) n3 c1, .slice (some ⟨b2, o2, none⟩) n3 c2, .slice (some ⟨b3, o3, none⟩) n3 c3] 36)) = w1
  have hbn : Below w.heap.size w w1 := by rw [← hwn]; repeat' (first | exact Below.refl _ _ | refine below_drewN ?_ _ | refine Below.drew ?_ | refine Below.alloc ?_ (by first | omega | (simp; done) | (simp; omega) | (simp [World.setCell]; omega)) _ | refine Below.setCell ?_ (by first | omega | (simp; done) | (simp; omega)) _)
  have HB1 := Lib.hid (show Below w.heap.size w w1 from hbn)
  have K0_1 := Lib.hid (show Blk w1 (w.heap.size) 36 #[.slice (some ⟨b1, o1, none⟩) n3 c1, .slice (some ⟨b2, o2, none⟩) n3 c2, .slice (some ⟨b3, o3, none⟩) n3 c3] by rw [← hwn]; repeat' (first | exact Blk.at_ _ (by first | rfl | (simp; done) | (simp; omega)) _ _ | refine Blk.drewN ?_ _ | refine Blk.drew ?_ | refine Blk.alloc ?_ _ | refine Blk.far ?_ (by first | omega | (simp; done) | (simp; omega)) _ | assumption))
  have HN1 := Lib.hid hbn
  have hz1 := hbn.size
  clear hwn hbn
  have l0_1 : w.heap.size < w1.heap.size := K0_1.out.lt
  have z0_0_1 : w1.cell? ⟨w.heap.size, 0, none⟩ = some (.slice (some ⟨b1, o1, none⟩) n3 c1) := K0_1.out.cell 0
  have z0_1_1 : w1.cell? ⟨w.heap.size, 1, none⟩ = some (.slice (some ⟨b2, o2, none⟩) n3 c2) := K0_1.out.cell 1
  have z0_2_1 : w1.cell? ⟨w.heap.size, 2, none⟩ = some (.slice (some ⟨b3, o3, none⟩) n3 c3) := K0_1.out.cell 2
  have hs1 := HB1.out.size
  go_loopw [4, 5] (fun v i wr => ∃ k : Nat, k ≤ n3 ∧ v = .int .i64 (sumN (fun i => ws.getD i 0) k) ∧ i = .int .i64 k ∧ w1 = wr ∧ ∀ j, j < k → zoneB hs qs ws j = true) (fun _ i _ => n3 - (intOf i).toNat)
  case atStart => exact ⟨0, by omega, rfl, rfl, rfl, fun j hj => absurd hj (by omega)⟩
  case round =>
    obtain ⟨k, hk, rfl, rfl, rfl, hup⟩ := hrel
    have hsum := sumN_in (f := fun i => ws.getD i 0) (lo := 0) (hi := 1000) k (fun i hi => by
      have h1 := hup i hi
      unfold zoneB at h1
      rw [Bool.and_eq_true, Bool.and_eq_true] at h1
      exact (withinB_iff _ _ _).1 h1.2.2) k (Nat.le_refl _)
    have HUP := Lib.hid hup
    obtain ⟨sm, hsm⟩ : ∃ sm, sumN (fun i => ws.getD i 0) k = sm := ⟨_, rfl⟩
    rw [hsm] at hsum
    rw [hsm]
    have hs0 : 0 ≤ sm ∧ sm ≤ 40000 := by have := hsum.1; have := hsum.2; constructor <;> omega
    have HSM := Lib.hid hsm
    clear hup hsum hsm
    by_cases hlt : k < n3
    · obtain ⟨yb, yo, x1, hA, hy1, g1, d1⟩ := (R1.out.below HB1.out).int_ hlt
      obtain ⟨rfl, rfl⟩ : b1 = yb ∧ o1 = yo := by simpa using hA
      obtain ⟨yb, yo, x2, hA2, hy2, g2, d2⟩ := (R2.out.below HB1.out).int_ hlt
      obtain ⟨rfl, rfl⟩ : b2 = yb ∧ o2 = yo := by simpa using hA2
      obtain ⟨yb, yo, x3, hA3, hy3, g3, d3⟩ := (R3.out.below HB1.out).int_ hlt
      obtain ⟨rfl, rfl⟩ : b3 = yb ∧ o3 = yo := by simpa using hA3
      have hzo : zoneB hs qs ws k = (hgtB x1 && (withinB x2 0 1000 && withinB x3 0 1000)) := by
        unfold zoneB
        rw [getD_of g1, getD_of g2, getD_of g3]
      have hkk : (k : Int) < (n3 : Int) := by omega
      have hnx : sumN (fun i => ws.getD i 0) (k + 1) = sm + x3 := by
        show sumN (fun i => ws.getD i 0) k + ws.getD k 0 = sm + x3
        rw [HSM.out, getD_of g3]
      have HNX := Lib.hid hnx
      have HZO := Lib.hid hzo
      clear hA hA2 hA3 g1 g2 g3 hzo hnx
      cases h1 : hgtB x1
      · have H1 := Lib.hid h1
        have HEE := Lib.hid ((map_bad HSH.out (by rw [HL.out]; exact hlt) (by rw [HZO.out, h1]; rfl)).symm.trans HE.out)
        clear h1
        go_wp2_with fail
        refine (figheight_is _ false H1.out _).mono ?_
        rintro e w' ⟨rfl, rfl⟩
        go_wp2
        go_ret
        exact ⟨ret_int HEE.out, HB1.out⟩
      have H1 := Lib.hid h1
      cases h2 : withinB x2 0 1000
      · have H2 := Lib.hid h2
        have HEE := Lib.hid ((map_bad HSH.out (by rw [HL.out]; exact hlt) (by rw [HZO.out, h1, h2]; rfl)).symm.trans HE.out)
        clear h1 h2
        go_wp2_with fail
        refine (figheight_is _ true H1.out _).mono ?_
        rintro e w' ⟨rfl, rfl⟩
        go_wp2_with fail
        refine (withinref_is _ _ _ false H2.out _).mono ?_
        rintro e w' ⟨rfl, rfl⟩
        go_wp2
        go_ret
        exact ⟨ret_int HEE.out, HB1.out⟩
      have H2 := Lib.hid h2
      cases h3 : withinB x3 0 1000
      · have H3 := Lib.hid h3
        have HEE := Lib.hid ((map_bad HSH.out (by rw [HL.out]; exact hlt) (by rw [HZO.out, h1, h2, h3]; rfl)).symm.trans HE.out)
        clear h1 h2 h3
        go_wp2_with fail
        refine (figheight_is _ true H1.out _).mono ?_
        rintro e w' ⟨rfl, rfl⟩
        go_wp2_with fail
        refine (withinref_is _ _ _ true H2.out _).mono ?_
        rintro e w' ⟨rfl, rfl⟩
        go_wp2_with fail
        refine (withinref_is _ _ _ false H3.out _).mono ?_
        rintro e w' ⟨rfl, rfl⟩
        go_wp2
        go_ret
        exact ⟨ret_int HEE.out, HB1.out⟩
      have H3 := Lib.hid h3
      have hx3 := (withinB_iff _ _ _).1 h3
      have e1 := IntWalk.i64_in (sm + x3) ⟨by omega, by omega⟩
      have hok : zoneB hs qs ws k = true := by rw [HZO.out, h1, h2, h3]; rfl
      have HOK := Lib.hid hok
      clear h1 h2 h3 hok hx3
      go_wp2_with fail
      refine (figheight_is _ true H1.out _).mono ?_
      rintro e w' ⟨rfl, rfl⟩
      go_wp2_with fail
      refine (withinref_is _ _ _ true H2.out _).mono ?_
      rintro e w' ⟨rfl, rfl⟩
      go_wp2_with fail
      refine (withinref_is _ _ _ true H3.out _).mono ?_
      rintro e w' ⟨rfl, rfl⟩
      go_wp2
      go_roundw
      case rel => exact ⟨k + 1, by omega, by rw [HNX.out], by go_num, by first | trivial | rfl, fun j hj => by
        by_cases e : j = k
        · subst e; exact HOK.out
        · exact HUP.out j (by omega)⟩
      case measure => simp [intOf]; omega
    · obtain rfl : k = n3 := by omega
      have hall := map_all HSH.out (fun j hj => HUP.out j (by rw [← HL.out]; exact hj))
      have hz0 : ws.all (fun z => decide (z = 0)) = decide (sm = 0) := by rw [← HSM.out]; exact sum_zero HL3.out (fun i hi => by
        have h1 := HUP.out i hi
        unfold zoneB at h1
        rw [Bool.and_eq_true, Bool.and_eq_true] at h1
        exact ((withinB_iff _ _ _).1 h1.2.2).1)
      rw [hz0, HE.out] at hall
      by_cases h0 : sm = 0
      · subst h0
        have HEE := Lib.hid (show (11 : Int) = E by rw [hall]; simp)
        clear hall hz0
        go_wp2
        go_ret
        exact ⟨ret_int HEE.out, HB1.out⟩
      · have hd : (sm == 0) = false := by simpa using h0
        have HEE := Lib.hid (show (0 : Int) = E by rw [hall]; simp [h0])
        clear hall hz0
        go_wp2
        go_ret
        exact ⟨ret_int HEE.out, HB1.out⟩
end Go.Proofs.Ytkfecbkcghmmhaa

end

section
/- The mean of a map. -/
namespace Go.Proofs.Ytkfecbkcghmmhaa
open Go Go.RowKit

/-- A right map out of its lists. -/
def rmL (n b1 o1 c1 b2 o2 c2 b3 o3 c3 : Nat) (hs qs us : List Int) : Rm := ⟨n, b1, o1, c1, b2, o2, c2, b3, o3, c3, fun i => hs.getD i 0, fun i => qs.getD i 0, fun i => us.getD i 0⟩
theorem mapErr_ok {hs qs us : List Int} (h : mapErr hs qs us = 0) : (1 ≤ hs.length ∧ hs.length ≤ 40) ∧ qs.length = hs.length ∧ us.length = hs.length ∧ (∀ i, i < hs.length → zoneB hs qs us i = true) ∧ us.all (fun z => decide (z = 0)) = false := by
  unfold mapErr at h
  by_cases h1 : hs.length < 1 ∨ 40 < hs.length ∨ qs.length ≠ hs.length ∨ us.length ≠ hs.length
  · rw [if_pos h1] at h; cases h
  rw [if_neg h1] at h
  cases h2 : (List.range hs.length).all (zoneB hs qs us) with
  | false => rw [h2] at h; cases h
  | true =>
    rw [h2] at h
    cases h3 : us.all (fun z => decide (z = 0)) with
    | true => rw [h3] at h; cases h
    | false => exact ⟨by omega, by omega, by omega, fun i hi => List.all_eq_true.1 h2 i (List.mem_range.2 hi), rfl⟩
theorem rm_of {hs qs us : List Int} (h : mapErr hs qs us = 0) {A1 A2 A3 : Option Addr} {n1 n2 n3 : Nat} (c1 c2 c3 : Nat) {w : World} (r1 : Reads w w.heap.size 1 A1 n1 (hs.map (.int .i64))) (r2 : Reads w w.heap.size 1 A2 n2 (qs.map (.int .i64))) (r3 : Reads w w.heap.size 1 A3 n3 (us.map (.int .i64))) :
    n2 = n1 ∧ n3 = n1 ∧ ∃ b1 o1 b2 o2 b3 o3, A1 = some ⟨b1, o1, none⟩ ∧ A2 = some ⟨b2, o2, none⟩ ∧ A3 = some ⟨b3, o3, none⟩ ∧ RmAt (rmL n1 b1 o1 c1 b2 o2 c2 b3 o3 c3 hs qs us) w ∧ (rmL n1 b1 o1 c1 b2 o2 c2 b3 o3 c3 hs qs us).Ok ∧ 1 ≤ (rmL n1 b1 o1 c1 b2 o2 c2 b3 o3 c3 hs qs us).sw n1 := by
  obtain ⟨h1, h2, h3, h4, h5⟩ := mapErr_ok h
  have l1 : hs.length = n1 := by have := r1.1; simpa using this
  have l2 : qs.length = n2 := by have := r2.1; simpa using this
  have l3 : us.length = n3 := by have := r3.1; simpa using this
  obtain rfl : n2 = n1 := by omega
  obtain rfl : n3 = n2 := by omega
  have hz : ∀ i, i < n3 → (-100000 ≤ hs.getD i 0 ∧ hs.getD i 0 ≤ 100000) ∧ (0 ≤ qs.getD i 0 ∧ qs.getD i 0 ≤ 1000) ∧ (0 ≤ us.getD i 0 ∧ us.getD i 0 ≤ 1000) := by
    intro i hi
    have := h4 i (by omega)
    unfold zoneB at this
    rw [Bool.and_eq_true, Bool.and_eq_true] at this
    exact ⟨hgtB_iff.1 this.1, (withinB_iff _ _ _).1 this.2.1, (withinB_iff _ _ _).1 this.2.2⟩
  obtain ⟨b1, o1, -, rfl, k1, -, -⟩ := r1.int_ (show 0 < n3 by omega)
  obtain ⟨b2, o2, -, rfl, k2, -, -⟩ := r2.int_ (show 0 < n3 by omega)
  obtain ⟨b3, o3, -, rfl, k3, -, -⟩ := r3.int_ (show 0 < n3 by omega)
  refine ⟨rfl, rfl, b1, o1, b2, o2, b3, o3, rfl, rfl, rfl, ⟨k1, k2, k3, fun i hi => ?_, fun i hi => ?_, fun i hi => ?_⟩, ⟨by show 1 ≤ n3; omega, by show n3 ≤ 40; omega, fun i hi => (hz i hi).1, fun i hi => (hz i hi).2.1, fun i hi => (hz i hi).2.2⟩, ?_⟩
  · obtain ⟨b, o, z, hA, -, g, d⟩ := r1.int_ (show i < n3 from hi)
    obtain ⟨rfl, rfl⟩ : b1 = b ∧ o1 = o := by simpa using hA
    show _ = some (Value.int .i64 (hs.getD i 0))
    rw [getD_of g]; exact d
  · obtain ⟨b, o, z, hA, -, g, d⟩ := r2.int_ (show i < n3 from hi)
    obtain ⟨rfl, rfl⟩ : b2 = b ∧ o2 = o := by simpa using hA
    show _ = some (Value.int .i64 (qs.getD i 0))
    rw [getD_of g]; exact d
  · obtain ⟨b, o, z, hA, -, g, d⟩ := r3.int_ (show i < n3 from hi)
    obtain ⟨rfl, rfl⟩ : b3 = b ∧ o3 = o := by simpa using hA
    show _ = some (Value.int .i64 (us.getD i 0))
    rw [getD_of g]; exact d
  · have h6 := sum_zero l3 (fun i hi => (hz i hi).2.2.1)
    rw [h5] at h6
    have h7 := (sum_all0 (f := fun i => us.getD i 0) n3 (fun i hi => (hz i hi).2.2.1)).1
    have h8 := of_decide_eq_false h6.symm
    show 1 ≤ sumN (fun i => us.getD i 0) n3
    omega

end Go.Proofs.Ytkfecbkcghmmhaa

end

section
/- The reference's mean of a map. -/
namespace Go.Proofs.Ytkfecbkcghmmhaa
open Go Go.RowKit

end Go.Proofs.Ytkfecbkcghmmhaa

end

section
/- A class of worlds for drawn regions of calls: what is chosen, of any type, keeps its facts. -/
namespace Go.Proofs.Ytkfecbkcghmmhaa
open Go Go.RowKit

def StbT {α : Type} (Pf : Nat → α → World → Prop) : Prop := ∀ i x (w w' : World), Below w.heap.size w w' → Pf i x w → Pf i x w'
structure Kt {α : Type} (Pf : Nat → α → World → Prop) (W : World) (g : Nat → Option α) (w' : World) : Prop where
  bel : Below W.heap.size W w'
  has : ∀ i x, g i = some x → Pf i x w'
section
variable {α : Type} {Pf : Nat → α → World → Prop} {W w' w'' : World} {g : Nat → Option α} {f : Nat → Bool}
theorem Kt.start : Kt Pf W (fun _ => none) (W.drewN 1) := ⟨below_drewN (Below.refl _ _) 1, fun _ _ h => nomatch h⟩
theorem Kt.call (h : Kt Pf W g w') (hs : StbT Pf) (hb : Below w'.heap.size w' w'') : Kt Pf W g w'' := ⟨step_below hb h.bel, fun i x hx => hs i x _ _ hb (h.has i x hx)⟩
theorem Kt.choose (h : Kt Pf W g w') (hs : StbT Pf) (hb : Below w'.heap.size w' w'') (i : Nat) (x : α) (hx : Pf i x w'') : Kt Pf W (Fx.upd g i x) w'' := ⟨step_below hb h.bel, fun j y hy => by
  by_cases e : j = i
  · subst e
    rw [Fx.upd_same] at hy
    cases hy
    exact hx
  · rw [upd_ne e] at hy
    exact hs j y _ _ hb (h.has j y hy)⟩
end
/-- Three lists. -/
abbrev Pick3 := Pick × Pick × Pick
end Go.Proofs.Ytkfecbkcghmmhaa

end

section
/- The law's copy of a right map. -/
namespace Go.Proofs.Ytkfecbkcghmmhaa
open Go Go.RowKit

/-- The same numbers, elsewhere. -/
structure LikeM (m x : Rm) : Prop where
  n : x.n = m.n
  h : x.h = m.h
  q : x.q = m.q
  u : x.u = m.u
theorem LikeM.sums {m x : Rm} (h : LikeM m x) (k : Nat) : x.sw k = m.sw k ∧ x.sq k = m.sq k ∧ x.sh k = m.sh k := by
  unfold Rm.sw Rm.sq Rm.sh
  rw [h.h, h.q, h.u]
  exact ⟨rfl, rfl, rfl⟩
theorem LikeM.ok {m x : Rm} (h : LikeM m x) (hm : m.Ok) : x.Ok := by
  obtain ⟨a1, a2, a3, a4, a5⟩ := hm
  exact ⟨by rw [h.n]; exact a1, by rw [h.n]; exact a2, by rw [h.n, h.h]; exact a3, by rw [h.n, h.q]; exact a4, by rw [h.n, h.u]; exact a5⟩
theorem CkOk.lay {m : Rm} {w w' : World} (h : CkOk m w) (hb : Below w.heap.size w w') : CkOk m w' := fun w2 hb2 => h w2 (hb.trans (hb2.mono hb.size))
theorem ck_of {hs qs us : List Int} (h : mapErr hs qs us = 0) {n b1 o1 c1 b2 o2 c2 b3 o3 c3 : Nat} {w : World} (r1 : Reads w w.heap.size 1 (some ⟨b1, o1, none⟩) n (hs.map (.int .i64))) (r2 : Reads w w.heap.size 1 (some ⟨b2, o2, none⟩) n (qs.map (.int .i64))) (r3 : Reads w w.heap.size 1 (some ⟨b3, o3, none⟩) n (us.map (.int .i64))) (hn : n ≤ 1000) :
    CkOk (rmL n b1 o1 c1 b2 o2 c2 b3 o3 c3 hs qs us) w := fun w' hb =>
  checkmap_is (some ⟨b1, o1, none⟩) n c1 hs (some ⟨b2, o2, none⟩) n c2 qs (some ⟨b3, o3, none⟩) n c3 us 0 h w' ((r1.below hb).more hb.size) ((r2.below hb).more hb.size) ((r3.below hb).more hb.size) (by omega) (by omega) (by omega)
/-- What is known of a map that is a copy of a right one. -/
structure CopyM (m x : Rm) (w : World) : Prop where
  like : LikeM m x
  at_ : RmAt x w
  ck : CkOk x w
theorem CopyM.lay {m x : Rm} {w w' : World} (h : CopyM m x w) (hb : Below w.heap.size w w') : CopyM m x w' := ⟨h.like, h.at_.lay hb, h.ck.lay hb⟩
end Go.Proofs.Ytkfecbkcghmmhaa

end
