import Derived.Test.YtclnffpfbngjoaaQ9

section
/- Contracts of the apparent place of a target, the package's and the reference's. -/
namespace Go.Proofs.Ytclnffpfbngjoaa
open Go Go.RowKit

theorem mod9_any (a b : Int) (w : World) (h1 : -9223372036854775808 ≤ a) (h2 : a ≤ 9223372036854775807) (h3 : 1 ≤ b) (h4 : b ≤ 9223372036854775807) :
    Calls Try.prog 77 #[.int .i64 a, .int .i64 b] w fun e w' => e = .returned (.int .i64 (a % b)) ∧ w = w' := by
  have b0 : ¬ b = 0 := by omega
  have hlt := tmod_lt a b b0
  have hin := tmod_in a b (by omega) h4 b0
  have he : a % b = if a.tmod b < 0 then a.tmod b + b else a.tmod b := by
    rw [Int.tmod_eq_emod]
    have := Int.emod_nonneg a b0
    have := Int.emod_lt_of_pos a (show 0 < b by omega)
    by_cases h : 0 ≤ a ∨ b ∣ a
    · rw [if_pos h, if_neg (by omega)]
      omega
    · rw [if_neg h]
      have hn : (b.natAbs : Int) = b := by omega
      rw [hn, if_pos (by omega)]
      omega
  have HE := Lib.hid he
  clear he
  obtain ⟨r, hr⟩ : ∃ r, a.tmod b = r := ⟨_, rfl⟩
  rw [hr] at hlt hin
  have hw := IntWalk.i64_in r ⟨by omega, by omega⟩
  by_cases hneg : r < 0
  · have hw2 := IntWalk.i64_in (r + b) ⟨by omega, by omega⟩
    go_enter Try.func77, Try.ntmps77
    go_wp2
    go_ret
    exact ⟨ret_int (by rw [HE.out, hr, if_pos (by omega)]), rfl⟩
  · go_enter Try.func77, Try.ntmps77
    go_wp2
    go_ret
    exact ⟨ret_int (by rw [HE.out, hr, if_neg (by omega)]), rfl⟩


theorem part_between {D e d : Int} (h1 : 0 ≤ e) (h2 : e < d) : (0 ≤ D → 0 ≤ D * e / d ∧ D * e / d ≤ D) ∧ (D ≤ 0 → D ≤ D * e / d ∧ D * e / d ≤ 0) := by
  have hd : 0 < d := by omega
  refine ⟨fun h => ⟨Int.ediv_nonneg (Int.mul_nonneg h h1) (by omega), ?_⟩, fun h => ⟨?_, ?_⟩⟩
  · exact Int.ediv_le_of_le_mul hd (Int.mul_le_mul_of_nonneg_left (by omega) h)
  · exact Int.le_ediv_of_mul_le hd (Int.mul_le_mul_of_nonpos_left h (by omega))
  · refine Int.ediv_le_of_le_mul hd ?_
    rw [Int.zero_mul]
    exact Int.mul_nonpos_of_nonpos_of_nonneg h h1
theorem tabGo_between {lo hi x : Int} : ∀ (t : List (Int × Int)) (p : Int × Int), p.1 ≤ x → (p :: t).Pairwise (fun a b => a.1 < b.1) → (∀ q ∈ p :: t, lo ≤ q.2 ∧ q.2 ≤ hi) → lo ≤ tabGo p t x ∧ tabGo p t x ≤ hi
  | [], p, _, _, h => h p (by simp)
  | q :: t, p, hp, hs, h => by
    unfold tabGo
    have hpq : p.1 < q.1 := (List.pairwise_cons.1 hs).1 q (by simp)
    have b1 := h p (by simp)
    have b2 := h q (by simp)
    by_cases hx : x < q.1
    · rw [if_pos hx]
      obtain ⟨k1, k2⟩ := part_between (D := q.2 - p.2) (e := x - p.1) (d := q.1 - p.1) (by omega) (by omega)
      rcases Int.le_total 0 (q.2 - p.2) with hd | hd
      · have := k1 hd; omega
      · have := k2 hd; omega
    · rw [if_neg hx]
      exact tabGo_between t q (by omega) (List.pairwise_cons.1 hs).2 fun r hr => h r (List.mem_cons_of_mem _ hr)
/-- A value of a right table lies between any bounds of its values. -/
theorem tab_between {l : List (Int × Int)} {lo hi x : Int} (hl : l ≠ []) (hs : l.Pairwise (fun a b => a.1 < b.1)) (h : ∀ q ∈ l, lo ≤ q.2 ∧ q.2 ≤ hi) : lo ≤ tabAt l x ∧ tabAt l x ≤ hi := by
  cases l with
  | nil => exact absurd rfl hl
  | cons p t =>
    unfold tabAt
    simp only
    by_cases hx : x ≤ p.1
    · rw [if_pos hx]; exact h p (by simp)
    · rw [if_neg hx]; exact tabGo_between t p (by omega) hs h
theorem tab_in {l : List (Int × Int)} (h : tabErr l = 0) (x : Int) : -1000000 ≤ tabAt l x ∧ tabAt l x ≤ 1000000 := by
  obtain ⟨h1, -, h2, h3⟩ := tab_right h
  exact tab_between (fun e => by rw [e] at h1; simp at h1) h2 fun q hq => (h3 q hq).2

/-- A right mounting, a right target. -/
theorem mnt_right {m : Mnt} (h : mntErr m = 0) : (-25920000 ≤ m.ls ∧ m.ls ≤ 25920000 ∧ -25920000 ≤ m.ms ∧ m.ms ≤ 25920000) ∧ (0 ≤ m.lo ∧ m.hi ≤ 324000 ∧ 1 ≤ m.sp ∧ m.sp ≤ 1000000) ∧ m.ls ≤ m.ms ∧ m.lo ≤ m.hi ∧ tabErr m.l1 = 0 ∧ tabErr m.l2 = 0 := by
  unfold mntErr at h
  by_cases h1 : m.rng = false
  · rw [if_pos h1] at h; cases h
  rw [if_neg h1] at h
  by_cases h2 : m.ms < m.ls ∨ m.hi < m.lo
  · rw [if_pos h2] at h; cases h
  rw [if_neg h2] at h
  have h1 : m.rng = true := by cases hx : m.rng <;> simp_all
  unfold Mnt.rng at h1
  rw [small_two] at h1
  simp only [Bool.and_eq_true, withinB_iff] at h1
  have h3 : tabErr m.l1 = 0 := by
    unfold orE at h
    by_cases hz : tabErr m.l1 = 0
    · exact hz
    · rw [if_pos hz] at h; exact h
  have h4 : tabErr m.l2 = 0 := by
    unfold orE at h
    rw [if_neg (by simp [h3])] at h
    unfold orE at h
    by_cases hz : tabErr m.l2 = 0
    · exact hz
    · rw [if_pos hz] at h; exact h
  exact ⟨by omega, by omega, by omega, by omega, h3, h4⟩
theorem tgt_right {t : Tgt} (h : tgtErr t = 0) : nameB t.name = true ∧ (0 ≤ t.az ∧ t.az ≤ 1295999) ∧ (0 ≤ t.ht ∧ t.ht ≤ 324000) ∧ (0 ≤ t.fr ∧ t.fr < t.to ∧ t.to ≤ 10000000) ∧ 1 ≤ t.dw ∧ t.dw ≤ 10000 := by
  unfold tgtErr at h
  by_cases h1 : nameB t.name = false
  · rw [if_pos h1] at h; cases h
  rw [if_neg h1] at h
  by_cases h2 : t.rng = false
  · rw [if_pos h2] at h; cases h
  rw [if_neg h2] at h
  by_cases h3 : t.to ≤ t.fr
  · rw [if_pos h3] at h; cases h
  have h1 : nameB t.name = true := by cases hx : nameB t.name <;> simp_all
  have h2 : t.rng = true := by cases hx : t.rng <;> simp_all
  unfold Tgt.rng at h2
  simp only [Bool.and_eq_true, withinB_iff] at h2
  exact ⟨h1, by omega, by omega, by omega, by omega⟩
theorem day_right {d : Int} (h : dayErr d = 0) : 0 ≤ d ∧ d ≤ 100000 := by
  unfold dayErr at h
  by_cases hw : withinB d 0 100000 = true
  · exact (withinB_iff _ _ _).1 hw
  · rw [if_neg hw] at h; cases h

/-- The apparent place. -/
def appF (m : Mnt) (t : Tgt) (day : Int) : Int × Int := ((t.az + tabAt m.l2 day) % 1296000, t.ht + tabAt m.l1 t.ht)
theorem app_in {m : Mnt} {t : Tgt} {day : Int} (hm : mntErr m = 0) (ht : tgtErr t = 0) : 0 ≤ (appF m t day).1 ∧ (appF m t day).1 < 1296000 ∧ -2000000 ≤ (appF m t day).2 ∧ (appF m t day).2 ≤ 2000000 := by
  obtain ⟨-, -, -, -, h1, h2⟩ := mnt_right hm
  obtain ⟨-, -, h3, -⟩ := tgt_right ht
  have h4 := tab_in h1 t.ht
  unfold appF
  exact ⟨Int.emod_nonneg _ (by decide), Int.emod_lt_of_pos _ (by decide), by simp only; omega, by simp only; omega⟩

set_option maxRecDepth 100000 in
set_option maxHeartbeats 2000000 in
theorem papparent_is (m : Mnt) (t : Tgt) (day X Y : Int) (hE : appF m t day = (X, Y)) (w : World) (hx : MntAt m w) (hm : mntErr m = 0) (ht : tgtErr t = 0) (hd : dayErr day = 0) :
    Calls Try.prog 71 #[m.val, t.val, .int .i64 day] w fun e w' => e = .returned (.agg #[.int .i64 X, .int .i64 Y]) ∧ Below w.heap.size w w' := by
  obtain ⟨-, -, -, -, h1, h2⟩ := mnt_right hm
  obtain ⟨-, ⟨a1, a2⟩, ⟨g1, g2⟩, -⟩ := tgt_right ht
  obtain ⟨d1, d2⟩ := day_right hd
  obtain ⟨i1, i2⟩ := tab_in h1 t.ht
  obtain ⟨j1, j2⟩ := tab_in h2 day
  obtain ⟨ls, ms, lo, hi, sp, A1, n1, c1, l1, A2, n2, c2, l2⟩ := m
  obtain ⟨nm, az, hh, fr, to, dw⟩ := t
  obtain ⟨hx1, hx2, hb1, hb2⟩ := hx
  unfold appF at hE
  simp only at hx1 hx2 hb1 hb2 h1 h2 a1 a2 g1 g2 i1 i2 j1 j2 hE
  obtain ⟨eX, eY⟩ := Prod.mk.inj hE
  obtain ⟨D, hD⟩ : ∃ D, tabAt l2 day = D := ⟨_, rfl⟩
  obtain ⟨R, hR⟩ : ∃ R, tabAt l1 hh = R := ⟨_, rfl⟩
  rw [hD] at eX j1 j2
  rw [hR] at eY i1 i2
  obtain ⟨F, hF⟩ : ∃ F, (az + D) / 1296000 = F := ⟨_, rfl⟩
  have e1 : (az + D) - F * 1296000 = X := by omega
  have HDD := Lib.hid hD
  have HRR := Lib.hid hR
  have HF := Lib.hid hF
  have H1 := Lib.hid h1
  have H2 := Lib.hid h2
  have f1 : -10 ≤ F ∧ F ≤ 10 := by omega
  obtain ⟨f1, f2⟩ := f1
  have hflr : ∀ w, Calls Try.prog 66 #[.int .i64 (az + D), .int .i64 1296000] w fun e w' => e = .returned (.int .i64 F) ∧ w = w' := fun w => by
    have := floorpt_any (az + D) 1296000 w (by omega) (by omega) (by omega) (by omega)
    rwa [HF.out] at this
  have HFL := Lib.hid hflr
  have E1 := Lib.hid e1
  have HXA := Lib.hid hx1
  have E2 := Lib.hid eY
  unfold Mnt.val Tgt.val
  dsimp only
  clear hE eX eY hD hR hF h1 h2 hm ht hd hflr e1
  go_enter Try.func71, Try.ntmps71
  have R0_0 := Lib.hid hx1
  clear hx1
  have R1_0 := Lib.hid hx2
  clear hx2
  go_wp2
  generalize hwn : (((w.alloc (.cells #[.int .i64 (ls), .int .i64 (ms), .int .i64 (lo), .int .i64 (hi), .int .i64 (sp), .slice A1 n1 c1, .slice A2 n2 c2] 24)).alloc (.cells #[.string nm, .int .i64 (az), .int .i64 (hh), .int .i64 (fr), .int .i64 (to), .int .i64 (dw)] 62)).alloc (.cells #[.int .i64 (0), .int .i64 (0)] 26)) = w1
  have hbn : Below w.heap.size w w1 := by rw [← hwn]; repeat' (first | exact Below.refl _ _ | refine below_drewN ?_ _ | refine Below.drew ?_ | refine Below.alloc ?_ (by first | omega | (simp; done) | (simp; omega) | (simp [World.setCell]; omega)) _ | refine Below.setCell ?_ (by first | omega | (simp; done) | (simp; omega)) _)
  have HB1 := Lib.hid (show Below w.heap.size w w1 from hbn)
  have K0_1 := Lib.hid (show Blk w1 (w.heap.size) 24 #[.int .i64 (ls), .int .i64 (ms), .int .i64 (lo), .int .i64 (hi), .int .i64 (sp), .slice A1 n1 c1, .slice A2 n2 c2] by rw [← hwn]; repeat' (first | exact Blk.at_ _ (by first | rfl | (simp; done) | (simp; omega)) _ _ | refine Blk.drewN ?_ _ | refine Blk.drew ?_ | refine Blk.alloc ?_ _ | refine Blk.far ?_ (by first | omega | (simp; done) | (simp; omega)) _ | assumption))
  have K1_1 := Lib.hid (show Blk w1 (w.heap.size + 1) 62 #[.string nm, .int .i64 (az), .int .i64 (hh), .int .i64 (fr), .int .i64 (to), .int .i64 (dw)] by rw [← hwn]; repeat' (first | exact Blk.at_ _ (by first | rfl | (simp; done) | (simp; omega)) _ _ | refine Blk.drewN ?_ _ | refine Blk.drew ?_ | refine Blk.alloc ?_ _ | refine Blk.far ?_ (by first | omega | (simp; done) | (simp; omega)) _ | assumption))
  have K2_1 := Lib.hid (show Blk w1 (w.heap.size + 2) 26 #[.int .i64 (0), .int .i64 (0)] by rw [← hwn]; repeat' (first | exact Blk.at_ _ (by first | rfl | (simp; done) | (simp; omega)) _ _ | refine Blk.drewN ?_ _ | refine Blk.drew ?_ | refine Blk.alloc ?_ _ | refine Blk.far ?_ (by first | omega | (simp; done) | (simp; omega)) _ | assumption))
  have R0_1 := Lib.hid ((R0_0.out.below hbn).more hbn.size)
  have R1_1 := Lib.hid ((R1_0.out.below hbn).more hbn.size)
  have HN1 := Lib.hid hbn
  have hz1 := hbn.size
  clear hwn hbn R0_0 R1_0
  have l0_1 : w.heap.size < w1.heap.size := K0_1.out.lt
  have z0_0_1 : w1.cell? ⟨w.heap.size, 0, none⟩ = some (.int .i64 (ls)) := K0_1.out.cell 0
  have z0_1_1 : w1.cell? ⟨w.heap.size, 1, none⟩ = some (.int .i64 (ms)) := K0_1.out.cell 1
  have z0_2_1 : w1.cell? ⟨w.heap.size, 2, none⟩ = some (.int .i64 (lo)) := K0_1.out.cell 2
  have z0_3_1 : w1.cell? ⟨w.heap.size, 3, none⟩ = some (.int .i64 (hi)) := K0_1.out.cell 3
  have z0_4_1 : w1.cell? ⟨w.heap.size, 4, none⟩ = some (.int .i64 (sp)) := K0_1.out.cell 4
  have z0_5_1 : w1.cell? ⟨w.heap.size, 5, none⟩ = some (.slice A1 n1 c1) := K0_1.out.cell 5
  have z0_6_1 : w1.cell? ⟨w.heap.size, 6, none⟩ = some (.slice A2 n2 c2) := K0_1.out.cell 6
  have l1_1 : w.heap.size + 1 < w1.heap.size := K1_1.out.lt
  have z1_0_1 : w1.cell? ⟨w.heap.size + 1, 0, none⟩ = some (.string nm) := K1_1.out.cell 0
  have z1_1_1 : w1.cell? ⟨w.heap.size + 1, 1, none⟩ = some (.int .i64 (az)) := K1_1.out.cell 1
  have z1_2_1 : w1.cell? ⟨w.heap.size + 1, 2, none⟩ = some (.int .i64 (hh)) := K1_1.out.cell 2
  have z1_3_1 : w1.cell? ⟨w.heap.size + 1, 3, none⟩ = some (.int .i64 (fr)) := K1_1.out.cell 3
  have z1_4_1 : w1.cell? ⟨w.heap.size + 1, 4, none⟩ = some (.int .i64 (to)) := K1_1.out.cell 4
  have z1_5_1 : w1.cell? ⟨w.heap.size + 1, 5, none⟩ = some (.int .i64 (dw)) := K1_1.out.cell 5
  have l2_1 : w.heap.size + 2 < w1.heap.size := K2_1.out.lt
  have z2_0_1 : w1.cell? ⟨w.heap.size + 2, 0, none⟩ = some (.int .i64 (0)) := K2_1.out.cell 0
  have z2_1_1 : w1.cell? ⟨w.heap.size + 2, 1, none⟩ = some (.int .i64 (0)) := K2_1.out.cell 1
  have v0 := IntWalk.i64_in (az + D) ⟨by omega, by omega⟩
  have v1 := IntWalk.i64_in (F * 1296000) ⟨by omega, by omega⟩
  have v2 := IntWalk.i64_in ((az + D) - F * 1296000) ⟨by omega, by omega⟩
  have v3 := IntWalk.i64_in (hh + R) ⟨by omega, by omega⟩
  refine Fx.regionW (fun W f w' => Below W.heap.size W w') (by kernel_rfl) (by kernel_rfl) ?_ ?_
  · intro f hf0
    exact below_drewN (Below.refl _ _) 1
  repeat (first
    | (refine Fx.skip_ (by rfl) (fun f w h => h) ?_; simp only [Act.put, List.setIfInBounds_toArray, List.set_cons_zero, List.set_cons_succ])
    | (refine Fx.val_ ?_ (by rfl) ?_ (fun f w h => h) ?_
       rotate_left
       · intro f w' hD hk
         have hb := hD
         have kb0 := step_blk hb (show Blk _ (w.heap.size) 24 #[.int .i64 (ls), .int .i64 (ms), .int .i64 (lo), .int .i64 (hi), .int .i64 (sp), .slice A1 n1 c1, .slice A2 n2 c2] by repeat' (first | exact K0_1.out | exact K1_1.out | exact K2_1.out | exact Blk.at_ _ (by first | rfl | (simp; done) | (simp; omega)) _ _ | refine Blk.drewN ?_ _ | refine Blk.drew ?_ | refine Blk.alloc ?_ _ | refine Blk.far ?_ (by first | omega | (simp; done) | (simp; omega)) _ | assumption))
         have y0_0 : w'.cell? ⟨w.heap.size, 0, none⟩ = some (.int .i64 (ls)) := kb0.cell 0
         have y0_1 : w'.cell? ⟨w.heap.size, 1, none⟩ = some (.int .i64 (ms)) := kb0.cell 1
         have y0_2 : w'.cell? ⟨w.heap.size, 2, none⟩ = some (.int .i64 (lo)) := kb0.cell 2
         have y0_3 : w'.cell? ⟨w.heap.size, 3, none⟩ = some (.int .i64 (hi)) := kb0.cell 3
         have y0_4 : w'.cell? ⟨w.heap.size, 4, none⟩ = some (.int .i64 (sp)) := kb0.cell 4
         have y0_5 : w'.cell? ⟨w.heap.size, 5, none⟩ = some (.slice A1 n1 c1) := kb0.cell 5
         have y0_6 : w'.cell? ⟨w.heap.size, 6, none⟩ = some (.slice A2 n2 c2) := kb0.cell 6
         have kb1 := step_blk hb (show Blk _ (w.heap.size + 1) 62 #[.string nm, .int .i64 (az), .int .i64 (hh), .int .i64 (fr), .int .i64 (to), .int .i64 (dw)] by repeat' (first | exact K0_1.out | exact K1_1.out | exact K2_1.out | exact Blk.at_ _ (by first | rfl | (simp; done) | (simp; omega)) _ _ | refine Blk.drewN ?_ _ | refine Blk.drew ?_ | refine Blk.alloc ?_ _ | refine Blk.far ?_ (by first | omega | (simp; done) | (simp; omega)) _ | assumption))
         have y1_0 : w'.cell? ⟨w.heap.size + 1, 0, none⟩ = some (.string nm) := kb1.cell 0
         have y1_1 : w'.cell? ⟨w.heap.size + 1, 1, none⟩ = some (.int .i64 (az)) := kb1.cell 1
         have y1_2 : w'.cell? ⟨w.heap.size + 1, 2, none⟩ = some (.int .i64 (hh)) := kb1.cell 2
         have y1_3 : w'.cell? ⟨w.heap.size + 1, 3, none⟩ = some (.int .i64 (fr)) := kb1.cell 3
         have y1_4 : w'.cell? ⟨w.heap.size + 1, 4, none⟩ = some (.int .i64 (to)) := kb1.cell 4
         have y1_5 : w'.cell? ⟨w.heap.size + 1, 5, none⟩ = some (.int .i64 (dw)) := kb1.cell 5
         have kb2 := step_blk hb (show Blk _ (w.heap.size + 2) 26 #[.int .i64 (0), .int .i64 (0)] by repeat' (first | exact K0_1.out | exact K1_1.out | exact K2_1.out | exact Blk.at_ _ (by first | rfl | (simp; done) | (simp; omega)) _ _ | refine Blk.drewN ?_ _ | refine Blk.drew ?_ | refine Blk.alloc ?_ _ | refine Blk.far ?_ (by first | omega | (simp; done) | (simp; omega)) _ | assumption))
         have y2_0 : w'.cell? ⟨w.heap.size + 2, 0, none⟩ = some (.int .i64 (0)) := kb2.cell 0
         have y2_1 : w'.cell? ⟨w.heap.size + 2, 1, none⟩ = some (.int .i64 (0)) := kb2.cell 1
         clear kb0 kb1 kb2
         clear hk hD hb
         go_simp
         try rfl
       simp only [Act.put, List.setIfInBounds_toArray, List.set_cons_zero, List.set_cons_succ]))
  refine Fx.call_ (.int .i64 D) ?_ ?_ (by rfl) ?_ ?_ ?_
  rotate_left 2
  · intro w'
    go_simp
    refine ⟨?_, ?_⟩ <;> rfl
  · intro f w' hD hk
    exact (ptableat_is A2 n2 c2 l2 day D HDD.out _ ((R1_1.out.below hD).more hD.size) H2.out (by omega) (by omega)).mono fun e w'' ⟨he, hw⟩ => ⟨he, step_below hw hD⟩
  simp only [Act.put, List.setIfInBounds_toArray, List.set_cons_zero, List.set_cons_succ]
  repeat (first
    | (refine Fx.skip_ (by rfl) (fun f w h => h) ?_; simp only [Act.put, List.setIfInBounds_toArray, List.set_cons_zero, List.set_cons_succ])
    | (refine Fx.val_ ?_ (by rfl) ?_ (fun f w h => h) ?_
       rotate_left
       · intro f w' hD hk
         have hb := hD
         have kb0 := step_blk hb (show Blk _ (w.heap.size) 24 #[.int .i64 (ls), .int .i64 (ms), .int .i64 (lo), .int .i64 (hi), .int .i64 (sp), .slice A1 n1 c1, .slice A2 n2 c2] by repeat' (first | exact K0_1.out | exact K1_1.out | exact K2_1.out | exact Blk.at_ _ (by first | rfl | (simp; done) | (simp; omega)) _ _ | refine Blk.drewN ?_ _ | refine Blk.drew ?_ | refine Blk.alloc ?_ _ | refine Blk.far ?_ (by first | omega | (simp; done) | (simp; omega)) _ | assumption))
         have y0_0 : w'.cell? ⟨w.heap.size, 0, none⟩ = some (.int .i64 (ls)) := kb0.cell 0
         have y0_1 : w'.cell? ⟨w.heap.size, 1, none⟩ = some (.int .i64 (ms)) := kb0.cell 1
         have y0_2 : w'.cell? ⟨w.heap.size, 2, none⟩ = some (.int .i64 (lo)) := kb0.cell 2
         have y0_3 : w'.cell? ⟨w.heap.size, 3, none⟩ = some (.int .i64 (hi)) := kb0.cell 3
         have y0_4 : w'.cell? ⟨w.heap.size, 4, none⟩ = some (.int .i64 (sp)) := kb0.cell 4
         have y0_5 : w'.cell? ⟨w.heap.size, 5, none⟩ = some (.slice A1 n1 c1) := kb0.cell 5
         have y0_6 : w'.cell? ⟨w.heap.size, 6, none⟩ = some (.slice A2 n2 c2) := kb0.cell 6
         have kb1 := step_blk hb (show Blk _ (w.heap.size + 1) 62 #[.string nm, .int .i64 (az), .int .i64 (hh), .int .i64 (fr), .int .i64 (to), .int .i64 (dw)] by repeat' (first | exact K0_1.out | exact K1_1.out | exact K2_1.out | exact Blk.at_ _ (by first | rfl | (simp; done) | (simp; omega)) _ _ | refine Blk.drewN ?_ _ | refine Blk.drew ?_ | refine Blk.alloc ?_ _ | refine Blk.far ?_ (by first | omega | (simp; done) | (simp; omega)) _ | assumption))
         have y1_0 : w'.cell? ⟨w.heap.size + 1, 0, none⟩ = some (.string nm) := kb1.cell 0
         have y1_1 : w'.cell? ⟨w.heap.size + 1, 1, none⟩ = some (.int .i64 (az)) := kb1.cell 1
         have y1_2 : w'.cell? ⟨w.heap.size + 1, 2, none⟩ = some (.int .i64 (hh)) := kb1.cell 2
         have y1_3 : w'.cell? ⟨w.heap.size + 1, 3, none⟩ = some (.int .i64 (fr)) := kb1.cell 3
         have y1_4 : w'.cell? ⟨w.heap.size + 1, 4, none⟩ = some (.int .i64 (to)) := kb1.cell 4
         have y1_5 : w'.cell? ⟨w.heap.size + 1, 5, none⟩ = some (.int .i64 (dw)) := kb1.cell 5
         have kb2 := step_blk hb (show Blk _ (w.heap.size + 2) 26 #[.int .i64 (0), .int .i64 (0)] by repeat' (first | exact K0_1.out | exact K1_1.out | exact K2_1.out | exact Blk.at_ _ (by first | rfl | (simp; done) | (simp; omega)) _ _ | refine Blk.drewN ?_ _ | refine Blk.drew ?_ | refine Blk.alloc ?_ _ | refine Blk.far ?_ (by first | omega | (simp; done) | (simp; omega)) _ | assumption))
         have y2_0 : w'.cell? ⟨w.heap.size + 2, 0, none⟩ = some (.int .i64 (0)) := kb2.cell 0
         have y2_1 : w'.cell? ⟨w.heap.size + 2, 1, none⟩ = some (.int .i64 (0)) := kb2.cell 1
         clear kb0 kb1 kb2
         clear hk hD hb
         go_simp
         try rfl
       simp only [Act.put, List.setIfInBounds_toArray, List.set_cons_zero, List.set_cons_succ]))
  refine Fx.nil_ ?_
  intro f w2 hall hb
  try clear hall
  have HB12 := Lib.hid hb
  have HB2 := Lib.hid (show Below w.heap.size w w2 from step_below hb (by repeat' (first | exact Below.refl _ _ | exact HB1.out | refine below_drewN ?_ _ | refine Below.drew ?_ | refine Below.alloc ?_ (by first | omega | (simp; done) | (simp; omega) | (simp [World.setCell]; omega)) _ | refine Below.setCell ?_ (by first | omega | (simp; done) | (simp; omega)) _ | assumption)))
  have K0_2 := Lib.hid (step_blk hb (show Blk _ (w.heap.size) 24 #[.int .i64 (ls), .int .i64 (ms), .int .i64 (lo), .int .i64 (hi), .int .i64 (sp), .slice A1 n1 c1, .slice A2 n2 c2] by repeat' (first | exact K0_1.out | exact K1_1.out | exact K2_1.out | exact Blk.at_ _ (by first | rfl | (simp; done) | (simp; omega)) _ _ | refine Blk.drewN ?_ _ | refine Blk.drew ?_ | refine Blk.alloc ?_ _ | refine Blk.far ?_ (by first | omega | (simp; done) | (simp; omega)) _ | assumption)))
  have K1_2 := Lib.hid (step_blk hb (show Blk _ (w.heap.size + 1) 62 #[.string nm, .int .i64 (az), .int .i64 (hh), .int .i64 (fr), .int .i64 (to), .int .i64 (dw)] by repeat' (first | exact K0_1.out | exact K1_1.out | exact K2_1.out | exact Blk.at_ _ (by first | rfl | (simp; done) | (simp; omega)) _ _ | refine Blk.drewN ?_ _ | refine Blk.drew ?_ | refine Blk.alloc ?_ _ | refine Blk.far ?_ (by first | omega | (simp; done) | (simp; omega)) _ | assumption)))
  have K2_2 := Lib.hid (step_blk hb (show Blk _ (w.heap.size + 2) 26 #[.int .i64 (0), .int .i64 (0)] by repeat' (first | exact K0_1.out | exact K1_1.out | exact K2_1.out | exact Blk.at_ _ (by first | rfl | (simp; done) | (simp; omega)) _ _ | refine Blk.drewN ?_ _ | refine Blk.drew ?_ | refine Blk.alloc ?_ _ | refine Blk.far ?_ (by first | omega | (simp; done) | (simp; omega)) _ | assumption)))
  have hL2 := Lib.hid (show Below w1.heap.size w1 _ from reads_mid hb (by repeat' (first | exact Below.refl _ _ | refine below_drewN ?_ _ | refine Below.drew ?_ | refine Below.alloc ?_ (by first | omega | (simp; done) | (simp; omega) | (simp [World.setCell]; omega)) _ | refine Below.setCell ?_ (by first | omega | (simp; done) | (simp; omega)) _)))
  have R0_2 := Lib.hid (reads_lay hb hL2.out R0_1.out)
  have R1_2 := Lib.hid (reads_lay hb hL2.out R1_1.out)
  clear hL2 R0_1 R1_1
  have hz2 := hb.size
  try simp only [World.size_alloc, World.drewN, World.drew] at hz2
  clear hb K0_1 K1_1 K2_1 z0_0_1 z0_1_1 z0_2_1 z0_3_1 z0_4_1 z0_5_1 z0_6_1 l0_1 z1_0_1 z1_1_1 z1_2_1 z1_3_1 z1_4_1 z1_5_1 l1_1 z2_0_1 z2_1_1 l2_1
  have l0_2 : w.heap.size < w2.heap.size := K0_2.out.lt
  have z0_0_2 : w2.cell? ⟨w.heap.size, 0, none⟩ = some (.int .i64 (ls)) := K0_2.out.cell 0
  have z0_1_2 : w2.cell? ⟨w.heap.size, 1, none⟩ = some (.int .i64 (ms)) := K0_2.out.cell 1
  have z0_2_2 : w2.cell? ⟨w.heap.size, 2, none⟩ = some (.int .i64 (lo)) := K0_2.out.cell 2
  have z0_3_2 : w2.cell? ⟨w.heap.size, 3, none⟩ = some (.int .i64 (hi)) := K0_2.out.cell 3
  have z0_4_2 : w2.cell? ⟨w.heap.size, 4, none⟩ = some (.int .i64 (sp)) := K0_2.out.cell 4
  have z0_5_2 : w2.cell? ⟨w.heap.size, 5, none⟩ = some (.slice A1 n1 c1) := K0_2.out.cell 5
  have z0_6_2 : w2.cell? ⟨w.heap.size, 6, none⟩ = some (.slice A2 n2 c2) := K0_2.out.cell 6
  have l1_2 : w.heap.size + 1 < w2.heap.size := K1_2.out.lt
  have z1_0_2 : w2.cell? ⟨w.heap.size + 1, 0, none⟩ = some (.string nm) := K1_2.out.cell 0
  have z1_1_2 : w2.cell? ⟨w.heap.size + 1, 1, none⟩ = some (.int .i64 (az)) := K1_2.out.cell 1
  have z1_2_2 : w2.cell? ⟨w.heap.size + 1, 2, none⟩ = some (.int .i64 (hh)) := K1_2.out.cell 2
  have z1_3_2 : w2.cell? ⟨w.heap.size + 1, 3, none⟩ = some (.int .i64 (fr)) := K1_2.out.cell 3
  have z1_4_2 : w2.cell? ⟨w.heap.size + 1, 4, none⟩ = some (.int .i64 (to)) := K1_2.out.cell 4
  have z1_5_2 : w2.cell? ⟨w.heap.size + 1, 5, none⟩ = some (.int .i64 (dw)) := K1_2.out.cell 5
  have l2_2 : w.heap.size + 2 < w2.heap.size := K2_2.out.lt
  have z2_0_2 : w2.cell? ⟨w.heap.size + 2, 0, none⟩ = some (.int .i64 (0)) := K2_2.out.cell 0
  have z2_1_2 : w2.cell? ⟨w.heap.size + 2, 1, none⟩ = some (.int .i64 (0)) := K2_2.out.cell 1
  go_wp2
  refine Fx.regionW (fun W f w' => Below (w.heap.size + 2) W w' ∧ Blk w' (w.heap.size + 2) 26 (if f 14 then #[.int .i64 ((az + D) - F * 1296000), .int .i64 (hh + R)] else #[.int .i64 (0), .int .i64 (0)])) (by kernel_rfl) (by kernel_rfl) ?_ ?_
  · intro f hf0
    rw [hf0 14]
    exact ⟨below_drewN (Below.refl _ _) 1, Blk.drewN K2_2.out 1⟩
  repeat (first
    | (refine Fx.skip_ (by rfl) (fun f w h => h) ?_; simp only [Act.put, List.setIfInBounds_toArray, List.set_cons_zero, List.set_cons_succ])
    | (refine Fx.val_ ?_ (by rfl) ?_ (fun f w h => h) ?_
       rotate_left
       · intro f w' hD hk
         obtain ⟨hb, hblk⟩ := id hD
         have y0_0 : w'.cell? ⟨w.heap.size, 0, none⟩ = some (.int .i64 (ls)) := (Blk.below K0_2.out hb (by first | omega | (simp; omega))).cell 0
         have y0_1 : w'.cell? ⟨w.heap.size, 1, none⟩ = some (.int .i64 (ms)) := (Blk.below K0_2.out hb (by first | omega | (simp; omega))).cell 1
         have y0_2 : w'.cell? ⟨w.heap.size, 2, none⟩ = some (.int .i64 (lo)) := (Blk.below K0_2.out hb (by first | omega | (simp; omega))).cell 2
         have y0_3 : w'.cell? ⟨w.heap.size, 3, none⟩ = some (.int .i64 (hi)) := (Blk.below K0_2.out hb (by first | omega | (simp; omega))).cell 3
         have y0_4 : w'.cell? ⟨w.heap.size, 4, none⟩ = some (.int .i64 (sp)) := (Blk.below K0_2.out hb (by first | omega | (simp; omega))).cell 4
         have y0_5 : w'.cell? ⟨w.heap.size, 5, none⟩ = some (.slice A1 n1 c1) := (Blk.below K0_2.out hb (by first | omega | (simp; omega))).cell 5
         have y0_6 : w'.cell? ⟨w.heap.size, 6, none⟩ = some (.slice A2 n2 c2) := (Blk.below K0_2.out hb (by first | omega | (simp; omega))).cell 6
         have y1_0 : w'.cell? ⟨w.heap.size + 1, 0, none⟩ = some (.string nm) := (Blk.below K1_2.out hb (by first | omega | (simp; omega))).cell 0
         have y1_1 : w'.cell? ⟨w.heap.size + 1, 1, none⟩ = some (.int .i64 (az)) := (Blk.below K1_2.out hb (by first | omega | (simp; omega))).cell 1
         have y1_2 : w'.cell? ⟨w.heap.size + 1, 2, none⟩ = some (.int .i64 (hh)) := (Blk.below K1_2.out hb (by first | omega | (simp; omega))).cell 2
         have y1_3 : w'.cell? ⟨w.heap.size + 1, 3, none⟩ = some (.int .i64 (fr)) := (Blk.below K1_2.out hb (by first | omega | (simp; omega))).cell 3
         have y1_4 : w'.cell? ⟨w.heap.size + 1, 4, none⟩ = some (.int .i64 (to)) := (Blk.below K1_2.out hb (by first | omega | (simp; omega))).cell 4
         have y1_5 : w'.cell? ⟨w.heap.size + 1, 5, none⟩ = some (.int .i64 (dw)) := (Blk.below K1_2.out hb (by first | omega | (simp; omega))).cell 5
         clear hk hD hb hblk
         go_simp
         try rfl
       simp only [Act.put, List.setIfInBounds_toArray, List.set_cons_zero, List.set_cons_succ]))
  refine Fx.call_ (.int .i64 F) ?_ ?_ (by rfl) ?_ ?_ ?_
  rotate_left 2
  · intro w'
    go_simp
    refine ⟨?_, ?_⟩ <;> rfl
  · intro f w' hD hk
    exact (HFL.out _).mono fun e w'' ⟨he, hw⟩ => ⟨he, by subst hw; exact hD⟩
  simp only [Act.put, List.setIfInBounds_toArray, List.set_cons_zero, List.set_cons_succ]
  repeat (first
    | (refine Fx.skip_ (by rfl) (fun f w h => h) ?_; simp only [Act.put, List.setIfInBounds_toArray, List.set_cons_zero, List.set_cons_succ])
    | (refine Fx.val_ ?_ (by rfl) ?_ (fun f w h => h) ?_
       rotate_left
       · intro f w' hD hk
         obtain ⟨hb, hblk⟩ := id hD
         have y0_0 : w'.cell? ⟨w.heap.size, 0, none⟩ = some (.int .i64 (ls)) := (Blk.below K0_2.out hb (by first | omega | (simp; omega))).cell 0
         have y0_1 : w'.cell? ⟨w.heap.size, 1, none⟩ = some (.int .i64 (ms)) := (Blk.below K0_2.out hb (by first | omega | (simp; omega))).cell 1
         have y0_2 : w'.cell? ⟨w.heap.size, 2, none⟩ = some (.int .i64 (lo)) := (Blk.below K0_2.out hb (by first | omega | (simp; omega))).cell 2
         have y0_3 : w'.cell? ⟨w.heap.size, 3, none⟩ = some (.int .i64 (hi)) := (Blk.below K0_2.out hb (by first | omega | (simp; omega))).cell 3
         have y0_4 : w'.cell? ⟨w.heap.size, 4, none⟩ = some (.int .i64 (sp)) := (Blk.below K0_2.out hb (by first | omega | (simp; omega))).cell 4
         have y0_5 : w'.cell? ⟨w.heap.size, 5, none⟩ = some (.slice A1 n1 c1) := (Blk.below K0_2.out hb (by first | omega | (simp; omega))).cell 5
         have y0_6 : w'.cell? ⟨w.heap.size, 6, none⟩ = some (.slice A2 n2 c2) := (Blk.below K0_2.out hb (by first | omega | (simp; omega))).cell 6
         have y1_0 : w'.cell? ⟨w.heap.size + 1, 0, none⟩ = some (.string nm) := (Blk.below K1_2.out hb (by first | omega | (simp; omega))).cell 0
         have y1_1 : w'.cell? ⟨w.heap.size + 1, 1, none⟩ = some (.int .i64 (az)) := (Blk.below K1_2.out hb (by first | omega | (simp; omega))).cell 1
         have y1_2 : w'.cell? ⟨w.heap.size + 1, 2, none⟩ = some (.int .i64 (hh)) := (Blk.below K1_2.out hb (by first | omega | (simp; omega))).cell 2
         have y1_3 : w'.cell? ⟨w.heap.size + 1, 3, none⟩ = some (.int .i64 (fr)) := (Blk.below K1_2.out hb (by first | omega | (simp; omega))).cell 3
         have y1_4 : w'.cell? ⟨w.heap.size + 1, 4, none⟩ = some (.int .i64 (to)) := (Blk.below K1_2.out hb (by first | omega | (simp; omega))).cell 4
         have y1_5 : w'.cell? ⟨w.heap.size + 1, 5, none⟩ = some (.int .i64 (dw)) := (Blk.below K1_2.out hb (by first | omega | (simp; omega))).cell 5
         clear hk hD hb hblk
         go_simp
         try rfl
       simp only [Act.put, List.setIfInBounds_toArray, List.set_cons_zero, List.set_cons_succ]))
  refine Fx.call_ (.int .i64 R) ?_ ?_ (by rfl) ?_ ?_ ?_
  rotate_left 2
  · intro w'
    go_simp
    refine ⟨?_, ?_⟩ <;> rfl
  · intro f w' hD hk
    have hbw := HB2.out.trans (hD.1.mono (show w.heap.size ≤ w.heap.size + 2 by first | omega | (simp; omega)))
    have hgl : w.heap.size + 2 ≤ w2.heap.size := (by have := K2_2.out.lt; omega)
    exact (ptableat_is A1 n1 c1 l1 hh R HRR.out _ ((HXA.out.below hbw).more hbw.size) H1.out (by omega) (by omega)).mono fun e w'' ⟨he, hw⟩ => ⟨he, step_belowAt hw hD.1 hgl, step_blk hw hD.2⟩
  simp only [Act.put, List.setIfInBounds_toArray, List.set_cons_zero, List.set_cons_succ]
  repeat (first
    | (refine Fx.skip_ (by rfl) (fun f w h => h) ?_; simp only [Act.put, List.setIfInBounds_toArray, List.set_cons_zero, List.set_cons_succ])
    | (refine Fx.val_ ?_ (by rfl) ?_ (fun f w h => h) ?_
       rotate_left
       · intro f w' hD hk
         obtain ⟨hb, hblk⟩ := id hD
         have y0_0 : w'.cell? ⟨w.heap.size, 0, none⟩ = some (.int .i64 (ls)) := (Blk.below K0_2.out hb (by first | omega | (simp; omega))).cell 0
         have y0_1 : w'.cell? ⟨w.heap.size, 1, none⟩ = some (.int .i64 (ms)) := (Blk.below K0_2.out hb (by first | omega | (simp; omega))).cell 1
         have y0_2 : w'.cell? ⟨w.heap.size, 2, none⟩ = some (.int .i64 (lo)) := (Blk.below K0_2.out hb (by first | omega | (simp; omega))).cell 2
         have y0_3 : w'.cell? ⟨w.heap.size, 3, none⟩ = some (.int .i64 (hi)) := (Blk.below K0_2.out hb (by first | omega | (simp; omega))).cell 3
         have y0_4 : w'.cell? ⟨w.heap.size, 4, none⟩ = some (.int .i64 (sp)) := (Blk.below K0_2.out hb (by first | omega | (simp; omega))).cell 4
         have y0_5 : w'.cell? ⟨w.heap.size, 5, none⟩ = some (.slice A1 n1 c1) := (Blk.below K0_2.out hb (by first | omega | (simp; omega))).cell 5
         have y0_6 : w'.cell? ⟨w.heap.size, 6, none⟩ = some (.slice A2 n2 c2) := (Blk.below K0_2.out hb (by first | omega | (simp; omega))).cell 6
         have y1_0 : w'.cell? ⟨w.heap.size + 1, 0, none⟩ = some (.string nm) := (Blk.below K1_2.out hb (by first | omega | (simp; omega))).cell 0
         have y1_1 : w'.cell? ⟨w.heap.size + 1, 1, none⟩ = some (.int .i64 (az)) := (Blk.below K1_2.out hb (by first | omega | (simp; omega))).cell 1
         have y1_2 : w'.cell? ⟨w.heap.size + 1, 2, none⟩ = some (.int .i64 (hh)) := (Blk.below K1_2.out hb (by first | omega | (simp; omega))).cell 2
         have y1_3 : w'.cell? ⟨w.heap.size + 1, 3, none⟩ = some (.int .i64 (fr)) := (Blk.below K1_2.out hb (by first | omega | (simp; omega))).cell 3
         have y1_4 : w'.cell? ⟨w.heap.size + 1, 4, none⟩ = some (.int .i64 (to)) := (Blk.below K1_2.out hb (by first | omega | (simp; omega))).cell 4
         have y1_5 : w'.cell? ⟨w.heap.size + 1, 5, none⟩ = some (.int .i64 (dw)) := (Blk.below K1_2.out hb (by first | omega | (simp; omega))).cell 5
         clear hk hD hb hblk
         go_simp
         try rfl
       simp only [Act.put, List.setIfInBounds_toArray, List.set_cons_zero, List.set_cons_succ]))
  refine Fx.store_ (fun w' => ((w'.setCell ⟨w.heap.size + 2, 0, none⟩ (.int .i64 ((az + D) - F * 1296000))).setCell ⟨w.heap.size + 2, 1, none⟩ (.int .i64 (hh + R)))) (by rfl) ?_ ?_ ?_
  · intro f w' hD hk
    obtain ⟨hb, hblk⟩ := id hD
    rw [show f 14 = false from hk.1] at hblk
    have q0 := hblk.cell 0
    have q1 := hblk.cell 1
    have p0 := hblk.frozen 0
    have p1 := hblk.frozen 1
    clear hk hD hb hblk
    go_simp
  · intro f w' hD hk
    obtain ⟨hb, hblk⟩ := id hD
    rw [show f 14 = false from hk.1] at hblk
    have q0 := hblk.cell 0
    have q1 := hblk.cell 1
    have p0 := hblk.frozen 0
    have p1 := hblk.frozen 1
    exact ⟨((hb.setCell (p := ⟨w.heap.size + 2, 0, none⟩) (Nat.le_refl _) _).setCell (p := ⟨w.heap.size + 2, 1, none⟩) (Nat.le_refl _) _), by simpa [Fx.add] using ((hblk.set_ 0 (.int .i64 ((az + D) - F * 1296000))).set_ 1 (.int .i64 (hh + R)))⟩
  simp only [Act.put, List.setIfInBounds_toArray, List.set_cons_zero, List.set_cons_succ]
  refine Fx.nil_ ?_
  intro f w3 hall hD
  obtain ⟨hb, hblk⟩ := hD
  rw [hall 14 (by simp)] at hblk
  clear hall
  replace hblk : Blk w3 (w.heap.size + 2) 26 #[.int .i64 ((az + D) - F * 1296000), .int .i64 (hh + R)] := hblk
  have hbw : Below w.heap.size w w3 := HB2.out.trans (hb.mono (by first | omega | (simp; omega)))
  have kk0 := Blk.below K0_2.out hb (by first | omega | (simp; omega))
  have kk1 := Blk.below K1_2.out hb (by first | omega | (simp; omega))
  clear hb
  have HB3 := Lib.hid hbw
  have K0_3 := Lib.hid (show Blk w3 (w.heap.size) 24 #[.int .i64 (ls), .int .i64 (ms), .int .i64 (lo), .int .i64 (hi), .int .i64 (sp), .slice A1 n1 c1, .slice A2 n2 c2] from kk0)
  have K1_3 := Lib.hid (show Blk w3 (w.heap.size + 1) 62 #[.string nm, .int .i64 (az), .int .i64 (hh), .int .i64 (fr), .int .i64 (to), .int .i64 (dw)] from kk1)
  have K2_3 := Lib.hid (show Blk w3 (w.heap.size + 2) 26 #[.int .i64 ((az + D) - F * 1296000), .int .i64 (hh + R)] from hblk)
  clear hbw kk0 kk1 hblk
  have l0_3 : w.heap.size < w3.heap.size := K0_3.out.lt
  have z0_0_3 : w3.cell? ⟨w.heap.size, 0, none⟩ = some (.int .i64 (ls)) := K0_3.out.cell 0
  have z0_1_3 : w3.cell? ⟨w.heap.size, 1, none⟩ = some (.int .i64 (ms)) := K0_3.out.cell 1
  have z0_2_3 : w3.cell? ⟨w.heap.size, 2, none⟩ = some (.int .i64 (lo)) := K0_3.out.cell 2
  have z0_3_3 : w3.cell? ⟨w.heap.size, 3, none⟩ = some (.int .i64 (hi)) := K0_3.out.cell 3
  have z0_4_3 : w3.cell? ⟨w.heap.size, 4, none⟩ = some (.int .i64 (sp)) := K0_3.out.cell 4
  have z0_5_3 : w3.cell? ⟨w.heap.size, 5, none⟩ = some (.slice A1 n1 c1) := K0_3.out.cell 5
  have z0_6_3 : w3.cell? ⟨w.heap.size, 6, none⟩ = some (.slice A2 n2 c2) := K0_3.out.cell 6
  have l1_3 : w.heap.size + 1 < w3.heap.size := K1_3.out.lt
  have z1_0_3 : w3.cell? ⟨w.heap.size + 1, 0, none⟩ = some (.string nm) := K1_3.out.cell 0
  have z1_1_3 : w3.cell? ⟨w.heap.size + 1, 1, none⟩ = some (.int .i64 (az)) := K1_3.out.cell 1
  have z1_2_3 : w3.cell? ⟨w.heap.size + 1, 2, none⟩ = some (.int .i64 (hh)) := K1_3.out.cell 2
  have z1_3_3 : w3.cell? ⟨w.heap.size + 1, 3, none⟩ = some (.int .i64 (fr)) := K1_3.out.cell 3
  have z1_4_3 : w3.cell? ⟨w.heap.size + 1, 4, none⟩ = some (.int .i64 (to)) := K1_3.out.cell 4
  have z1_5_3 : w3.cell? ⟨w.heap.size + 1, 5, none⟩ = some (.int .i64 (dw)) := K1_3.out.cell 5
  have l2_3 : w.heap.size + 2 < w3.heap.size := K2_3.out.lt
  have z2_0_3 : w3.cell? ⟨w.heap.size + 2, 0, none⟩ = some (.int .i64 ((az + D) - F * 1296000)) := K2_3.out.cell 0
  have z2_1_3 : w3.cell? ⟨w.heap.size + 2, 1, none⟩ = some (.int .i64 (hh + R)) := K2_3.out.cell 1
  go_wp2
  exact bodyPost_ret (v := .agg #[.int .i64 ((az + D) - F * 1296000), .int .i64 (hh + R)]) (by simp [results, Try.results71, go_sem, z2_0_3, z2_1_3, l2_3]) rfl ⟨by rw [E1.out, E2.out], by repeat' (first | exact Below.refl _ _ | exact HB3.out | refine below_drewN ?_ _ | refine Below.drew ?_ | refine Below.alloc ?_ (by first | omega | (simp; done) | (simp; omega) | (simp [World.setCell]; omega)) _ | refine Below.setCell ?_ (by first | omega | (simp; done) | (simp; omega)) _ | assumption)⟩

set_option maxRecDepth 100000 in
set_option maxHeartbeats 2000000 in
theorem rapparent_is (m : Mnt) (t : Tgt) (day X Y : Int) (hE : appF m t day = (X, Y)) (w : World) (hx : MntAt m w) (hm : mntErr m = 0) (ht : tgtErr t = 0) (hd : dayErr day = 0) :
    Calls Try.prog 56 #[m.val, t.val, .int .i64 day] w fun e w' => e = .returned (.agg #[.int .i64 X, .int .i64 Y]) ∧ Below w.heap.size w w' := by
  obtain ⟨-, -, -, -, h1, h2⟩ := mnt_right hm
  obtain ⟨-, ⟨a1, a2⟩, ⟨g1, g2⟩, -⟩ := tgt_right ht
  obtain ⟨d1, d2⟩ := day_right hd
  obtain ⟨i1, i2⟩ := tab_in h1 t.ht
  obtain ⟨j1, j2⟩ := tab_in h2 day
  obtain ⟨ls, ms, lo, hi, sp, A1, n1, c1, l1, A2, n2, c2, l2⟩ := m
  obtain ⟨nm, az, hh, fr, to, dw⟩ := t
  obtain ⟨hx1, hx2, hb1, hb2⟩ := hx
  unfold appF at hE
  simp only at hx1 hx2 hb1 hb2 h1 h2 a1 a2 g1 g2 i1 i2 j1 j2 hE
  obtain ⟨eX, eY⟩ := Prod.mk.inj hE
  obtain ⟨D, hD⟩ : ∃ D, tabAt l2 day = D := ⟨_, rfl⟩
  obtain ⟨R, hR⟩ : ∃ R, tabAt l1 hh = R := ⟨_, rfl⟩
  rw [hD] at eX j1 j2
  rw [hR] at eY i1 i2
  have HDD := Lib.hid hD
  have HRR := Lib.hid hR
  have H1 := Lib.hid h1
  have H2 := Lib.hid h2
  have hmod : ∀ w, Calls Try.prog 77 #[.int .i64 (az + D), .int .i64 1296000] w fun e w' => e = .returned (.int .i64 X) ∧ w = w' := fun w => by
    have := mod9_any (az + D) 1296000 w (by omega) (by omega) (by omega) (by omega)
    rwa [eX] at this
  have HMD := Lib.hid hmod
  have E2 := Lib.hid eY
  have HXA := Lib.hid hx1
  have HXB := Lib.hid hx2
  unfold Mnt.val Tgt.val
  dsimp only
  clear hE eX eY hD hR h1 h2 hm ht hd hmod
  go_enter Try.func56, Try.ntmps56
  go_wp2
  generalize hwn : (((w.alloc (.cells #[.int .i64 (ls), .int .i64 (ms), .int .i64 (lo), .int .i64 (hi), .int .i64 (sp), .slice A1 n1 c1, .slice A2 n2 c2] 24)).alloc (.cells #[.string nm, .int .i64 (az), .int .i64 (hh), .int .i64 (fr), .int .i64 (to), .int .i64 (dw)] 62)).alloc (.cells #[.int .i64 (0), .int .i64 (0)] 26)) = w1
  have hbn : Below w.heap.size w w1 := by rw [← hwn]; repeat' (first | exact Below.refl _ _ | refine below_drewN ?_ _ | refine Below.drew ?_ | refine Below.alloc ?_ (by first | omega | (simp; done) | (simp; omega) | (simp [World.setCell]; omega)) _ | refine Below.setCell ?_ (by first | omega | (simp; done) | (simp; omega)) _)
  have HB1 := Lib.hid (show Below w.heap.size w w1 from hbn)
  have K0_1 := Lib.hid (show Blk w1 (w.heap.size) 24 #[.int .i64 (ls), .int .i64 (ms), .int .i64 (lo), .int .i64 (hi), .int .i64 (sp), .slice A1 n1 c1, .slice A2 n2 c2] by rw [← hwn]; repeat' (first | exact Blk.at_ _ (by first | rfl | (simp; done) | (simp; omega)) _ _ | refine Blk.drewN ?_ _ | refine Blk.drew ?_ | refine Blk.alloc ?_ _ | refine Blk.far ?_ (by first | omega | (simp; done) | (simp; omega)) _ | assumption))
  have K1_1 := Lib.hid (show Blk w1 (w.heap.size + 1) 62 #[.string nm, .int .i64 (az), .int .i64 (hh), .int .i64 (fr), .int .i64 (to), .int .i64 (dw)] by rw [← hwn]; repeat' (first | exact Blk.at_ _ (by first | rfl | (simp; done) | (simp; omega)) _ _ | refine Blk.drewN ?_ _ | refine Blk.drew ?_ | refine Blk.alloc ?_ _ | refine Blk.far ?_ (by first | omega | (simp; done) | (simp; omega)) _ | assumption))
  have K2_1 := Lib.hid (show Blk w1 (w.heap.size + 2) 26 #[.int .i64 (0), .int .i64 (0)] by rw [← hwn]; repeat' (first | exact Blk.at_ _ (by first | rfl | (simp; done) | (simp; omega)) _ _ | refine Blk.drewN ?_ _ | refine Blk.drew ?_ | refine Blk.alloc ?_ _ | refine Blk.far ?_ (by first | omega | (simp; done) | (simp; omega)) _ | assumption))
  have HN1 := Lib.hid hbn
  have hz1 := hbn.size
  clear hwn hbn
  have l0_1 : w.heap.size < w1.heap.size := K0_1.out.lt
  have z0_0_1 : w1.cell? ⟨w.heap.size, 0, none⟩ = some (.int .i64 (ls)) := K0_1.out.cell 0
  have z0_1_1 : w1.cell? ⟨w.heap.size, 1, none⟩ = some (.int .i64 (ms)) := K0_1.out.cell 1
  have z0_2_1 : w1.cell? ⟨w.heap.size, 2, none⟩ = some (.int .i64 (lo)) := K0_1.out.cell 2
  have z0_3_1 : w1.cell? ⟨w.heap.size, 3, none⟩ = some (.int .i64 (hi)) := K0_1.out.cell 3
  have z0_4_1 : w1.cell? ⟨w.heap.size, 4, none⟩ = some (.int .i64 (sp)) := K0_1.out.cell 4
  have z0_5_1 : w1.cell? ⟨w.heap.size, 5, none⟩ = some (.slice A1 n1 c1) := K0_1.out.cell 5
  have z0_6_1 : w1.cell? ⟨w.heap.size, 6, none⟩ = some (.slice A2 n2 c2) := K0_1.out.cell 6
  have l1_1 : w.heap.size + 1 < w1.heap.size := K1_1.out.lt
  have z1_0_1 : w1.cell? ⟨w.heap.size + 1, 0, none⟩ = some (.string nm) := K1_1.out.cell 0
  have z1_1_1 : w1.cell? ⟨w.heap.size + 1, 1, none⟩ = some (.int .i64 (az)) := K1_1.out.cell 1
  have z1_2_1 : w1.cell? ⟨w.heap.size + 1, 2, none⟩ = some (.int .i64 (hh)) := K1_1.out.cell 2
  have z1_3_1 : w1.cell? ⟨w.heap.size + 1, 3, none⟩ = some (.int .i64 (fr)) := K1_1.out.cell 3
  have z1_4_1 : w1.cell? ⟨w.heap.size + 1, 4, none⟩ = some (.int .i64 (to)) := K1_1.out.cell 4
  have z1_5_1 : w1.cell? ⟨w.heap.size + 1, 5, none⟩ = some (.int .i64 (dw)) := K1_1.out.cell 5
  have l2_1 : w.heap.size + 2 < w1.heap.size := K2_1.out.lt
  have z2_0_1 : w1.cell? ⟨w.heap.size + 2, 0, none⟩ = some (.int .i64 (0)) := K2_1.out.cell 0
  have z2_1_1 : w1.cell? ⟨w.heap.size + 2, 1, none⟩ = some (.int .i64 (0)) := K2_1.out.cell 1
  have v0 := IntWalk.i64_in (az + D) ⟨by omega, by omega⟩
  have v3 := IntWalk.i64_in (hh + R) ⟨by omega, by omega⟩
  refine Fx.regionW (fun W f w' => Below (w.heap.size + 2) W w' ∧ Blk w' (w.heap.size + 2) 26 (if f 17 then #[.int .i64 (X), .int .i64 (hh + R)] else #[.int .i64 (0), .int .i64 (0)])) (by kernel_rfl) (by kernel_rfl) ?_ ?_
  · intro f hf0
    rw [hf0 17]
    exact ⟨below_drewN (Below.refl _ _) 1, Blk.drewN K2_1.out 1⟩
  repeat (first
    | (refine Fx.skip_ (by rfl) (fun f w h => h) ?_; simp only [Act.put, List.setIfInBounds_toArray, List.set_cons_zero, List.set_cons_succ])
    | (refine Fx.val_ ?_ (by rfl) ?_ (fun f w h => h) ?_
       rotate_left
       · intro f w' hD hk
         obtain ⟨hb, hblk⟩ := id hD
         have y0_0 : w'.cell? ⟨w.heap.size, 0, none⟩ = some (.int .i64 (ls)) := (Blk.below K0_1.out hb (by first | omega | (simp; omega))).cell 0
         have y0_1 : w'.cell? ⟨w.heap.size, 1, none⟩ = some (.int .i64 (ms)) := (Blk.below K0_1.out hb (by first | omega | (simp; omega))).cell 1
         have y0_2 : w'.cell? ⟨w.heap.size, 2, none⟩ = some (.int .i64 (lo)) := (Blk.below K0_1.out hb (by first | omega | (simp; omega))).cell 2
         have y0_3 : w'.cell? ⟨w.heap.size, 3, none⟩ = some (.int .i64 (hi)) := (Blk.below K0_1.out hb (by first | omega | (simp; omega))).cell 3
         have y0_4 : w'.cell? ⟨w.heap.size, 4, none⟩ = some (.int .i64 (sp)) := (Blk.below K0_1.out hb (by first | omega | (simp; omega))).cell 4
         have y0_5 : w'.cell? ⟨w.heap.size, 5, none⟩ = some (.slice A1 n1 c1) := (Blk.below K0_1.out hb (by first | omega | (simp; omega))).cell 5
         have y0_6 : w'.cell? ⟨w.heap.size, 6, none⟩ = some (.slice A2 n2 c2) := (Blk.below K0_1.out hb (by first | omega | (simp; omega))).cell 6
         have y1_0 : w'.cell? ⟨w.heap.size + 1, 0, none⟩ = some (.string nm) := (Blk.below K1_1.out hb (by first | omega | (simp; omega))).cell 0
         have y1_1 : w'.cell? ⟨w.heap.size + 1, 1, none⟩ = some (.int .i64 (az)) := (Blk.below K1_1.out hb (by first | omega | (simp; omega))).cell 1
         have y1_2 : w'.cell? ⟨w.heap.size + 1, 2, none⟩ = some (.int .i64 (hh)) := (Blk.below K1_1.out hb (by first | omega | (simp; omega))).cell 2
         have y1_3 : w'.cell? ⟨w.heap.size + 1, 3, none⟩ = some (.int .i64 (fr)) := (Blk.below K1_1.out hb (by first | omega | (simp; omega))).cell 3
         have y1_4 : w'.cell? ⟨w.heap.size + 1, 4, none⟩ = some (.int .i64 (to)) := (Blk.below K1_1.out hb (by first | omega | (simp; omega))).cell 4
         have y1_5 : w'.cell? ⟨w.heap.size + 1, 5, none⟩ = some (.int .i64 (dw)) := (Blk.below K1_1.out hb (by first | omega | (simp; omega))).cell 5
         clear hk hD hb hblk
         go_simp
         try rfl
       simp only [Act.put, List.setIfInBounds_toArray, List.set_cons_zero, List.set_cons_succ]))
  refine Fx.call_ (.int .i64 D) ?_ ?_ (by rfl) ?_ ?_ ?_
  rotate_left 2
  · intro w'
    go_simp
    refine ⟨?_, ?_⟩ <;> rfl
  · intro f w' hD hk
    have hbw := HB1.out.trans (hD.1.mono (show w.heap.size ≤ w.heap.size + 2 by first | omega | (simp; omega)))
    have hgl : w.heap.size + 2 ≤ w1.heap.size := (by have := K2_1.out.lt; omega)
    exact (rtableat9_is A2 n2 c2 l2 day D HDD.out _ ((HXB.out.below hbw).more hbw.size) H2.out (by omega) (by omega)).mono fun e w'' ⟨he, hw⟩ => ⟨he, step_belowAt hw hD.1 hgl, step_blk hw hD.2⟩
  simp only [Act.put, List.setIfInBounds_toArray, List.set_cons_zero, List.set_cons_succ]
  repeat (first
    | (refine Fx.skip_ (by rfl) (fun f w h => h) ?_; simp only [Act.put, List.setIfInBounds_toArray, List.set_cons_zero, List.set_cons_succ])
    | (refine Fx.val_ ?_ (by rfl) ?_ (fun f w h => h) ?_
       rotate_left
       · intro f w' hD hk
         obtain ⟨hb, hblk⟩ := id hD
         have y0_0 : w'.cell? ⟨w.heap.size, 0, none⟩ = some (.int .i64 (ls)) := (Blk.below K0_1.out hb (by first | omega | (simp; omega))).cell 0
         have y0_1 : w'.cell? ⟨w.heap.size, 1, none⟩ = some (.int .i64 (ms)) := (Blk.below K0_1.out hb (by first | omega | (simp; omega))).cell 1
         have y0_2 : w'.cell? ⟨w.heap.size, 2, none⟩ = some (.int .i64 (lo)) := (Blk.below K0_1.out hb (by first | omega | (simp; omega))).cell 2
         have y0_3 : w'.cell? ⟨w.heap.size, 3, none⟩ = some (.int .i64 (hi)) := (Blk.below K0_1.out hb (by first | omega | (simp; omega))).cell 3
         have y0_4 : w'.cell? ⟨w.heap.size, 4, none⟩ = some (.int .i64 (sp)) := (Blk.below K0_1.out hb (by first | omega | (simp; omega))).cell 4
         have y0_5 : w'.cell? ⟨w.heap.size, 5, none⟩ = some (.slice A1 n1 c1) := (Blk.below K0_1.out hb (by first | omega | (simp; omega))).cell 5
         have y0_6 : w'.cell? ⟨w.heap.size, 6, none⟩ = some (.slice A2 n2 c2) := (Blk.below K0_1.out hb (by first | omega | (simp; omega))).cell 6
         have y1_0 : w'.cell? ⟨w.heap.size + 1, 0, none⟩ = some (.string nm) := (Blk.below K1_1.out hb (by first | omega | (simp; omega))).cell 0
         have y1_1 : w'.cell? ⟨w.heap.size + 1, 1, none⟩ = some (.int .i64 (az)) := (Blk.below K1_1.out hb (by first | omega | (simp; omega))).cell 1
         have y1_2 : w'.cell? ⟨w.heap.size + 1, 2, none⟩ = some (.int .i64 (hh)) := (Blk.below K1_1.out hb (by first | omega | (simp; omega))).cell 2
         have y1_3 : w'.cell? ⟨w.heap.size + 1, 3, none⟩ = some (.int .i64 (fr)) := (Blk.below K1_1.out hb (by first | omega | (simp; omega))).cell 3
         have y1_4 : w'.cell? ⟨w.heap.size + 1, 4, none⟩ = some (.int .i64 (to)) := (Blk.below K1_1.out hb (by first | omega | (simp; omega))).cell 4
         have y1_5 : w'.cell? ⟨w.heap.size + 1, 5, none⟩ = some (.int .i64 (dw)) := (Blk.below K1_1.out hb (by first | omega | (simp; omega))).cell 5
         clear hk hD hb hblk
         go_simp
         try rfl
       simp only [Act.put, List.setIfInBounds_toArray, List.set_cons_zero, List.set_cons_succ]))
  refine Fx.call_ (.int .i64 X) ?_ ?_ (by rfl) ?_ ?_ ?_
  rotate_left 2
  · intro w'
    go_simp
    refine ⟨?_, ?_⟩ <;> rfl
  · intro f w' hD hk
    exact (HMD.out _).mono fun e w'' ⟨he, hw⟩ => ⟨he, by subst hw; exact hD⟩
  simp only [Act.put, List.setIfInBounds_toArray, List.set_cons_zero, List.set_cons_succ]
  repeat (first
    | (refine Fx.skip_ (by rfl) (fun f w h => h) ?_; simp only [Act.put, List.setIfInBounds_toArray, List.set_cons_zero, List.set_cons_succ])
    | (refine Fx.val_ ?_ (by rfl) ?_ (fun f w h => h) ?_
       rotate_left
       · intro f w' hD hk
         obtain ⟨hb, hblk⟩ := id hD
         have y0_0 : w'.cell? ⟨w.heap.size, 0, none⟩ = some (.int .i64 (ls)) := (Blk.below K0_1.out hb (by first | omega | (simp; omega))).cell 0
         have y0_1 : w'.cell? ⟨w.heap.size, 1, none⟩ = some (.int .i64 (ms)) := (Blk.below K0_1.out hb (by first | omega | (simp; omega))).cell 1
         have y0_2 : w'.cell? ⟨w.heap.size, 2, none⟩ = some (.int .i64 (lo)) := (Blk.below K0_1.out hb (by first | omega | (simp; omega))).cell 2
         have y0_3 : w'.cell? ⟨w.heap.size, 3, none⟩ = some (.int .i64 (hi)) := (Blk.below K0_1.out hb (by first | omega | (simp; omega))).cell 3
         have y0_4 : w'.cell? ⟨w.heap.size, 4, none⟩ = some (.int .i64 (sp)) := (Blk.below K0_1.out hb (by first | omega | (simp; omega))).cell 4
         have y0_5 : w'.cell? ⟨w.heap.size, 5, none⟩ = some (.slice A1 n1 c1) := (Blk.below K0_1.out hb (by first | omega | (simp; omega))).cell 5
         have y0_6 : w'.cell? ⟨w.heap.size, 6, none⟩ = some (.slice A2 n2 c2) := (Blk.below K0_1.out hb (by first | omega | (simp; omega))).cell 6
         have y1_0 : w'.cell? ⟨w.heap.size + 1, 0, none⟩ = some (.string nm) := (Blk.below K1_1.out hb (by first | omega | (simp; omega))).cell 0
         have y1_1 : w'.cell? ⟨w.heap.size + 1, 1, none⟩ = some (.int .i64 (az)) := (Blk.below K1_1.out hb (by first | omega | (simp; omega))).cell 1
         have y1_2 : w'.cell? ⟨w.heap.size + 1, 2, none⟩ = some (.int .i64 (hh)) := (Blk.below K1_1.out hb (by first | omega | (simp; omega))).cell 2
         have y1_3 : w'.cell? ⟨w.heap.size + 1, 3, none⟩ = some (.int .i64 (fr)) := (Blk.below K1_1.out hb (by first | omega | (simp; omega))).cell 3
         have y1_4 : w'.cell? ⟨w.heap.size + 1, 4, none⟩ = some (.int .i64 (to)) := (Blk.below K1_1.out hb (by first | omega | (simp; omega))).cell 4
         have y1_5 : w'.cell? ⟨w.heap.size + 1, 5, none⟩ = some (.int .i64 (dw)) := (Blk.below K1_1.out hb (by first | omega | (simp; omega))).cell 5
         clear hk hD hb hblk
         go_simp
         try rfl
       simp only [Act.put, List.setIfInBounds_toArray, List.set_cons_zero, List.set_cons_succ]))
  refine Fx.call_ (.int .i64 R) ?_ ?_ (by rfl) ?_ ?_ ?_
  rotate_left 2
  · intro w'
    go_simp
    refine ⟨?_, ?_⟩ <;> rfl
  · intro f w' hD hk
    have hbw := HB1.out.trans (hD.1.mono (show w.heap.size ≤ w.heap.size + 2 by first | omega | (simp; omega)))
    have hgl : w.heap.size + 2 ≤ w1.heap.size := (by have := K2_1.out.lt; omega)
    exact (rtableat9_is A1 n1 c1 l1 hh R HRR.out _ ((HXA.out.below hbw).more hbw.size) H1.out (by omega) (by omega)).mono fun e w'' ⟨he, hw⟩ => ⟨he, step_belowAt hw hD.1 hgl, step_blk hw hD.2⟩
  simp only [Act.put, List.setIfInBounds_toArray, List.set_cons_zero, List.set_cons_succ]
  repeat (first
    | (refine Fx.skip_ (by rfl) (fun f w h => h) ?_; simp only [Act.put, List.setIfInBounds_toArray, List.set_cons_zero, List.set_cons_succ])
    | (refine Fx.val_ ?_ (by rfl) ?_ (fun f w h => h) ?_
       rotate_left
       · intro f w' hD hk
         obtain ⟨hb, hblk⟩ := id hD
         have y0_0 : w'.cell? ⟨w.heap.size, 0, none⟩ = some (.int .i64 (ls)) := (Blk.below K0_1.out hb (by first | omega | (simp; omega))).cell 0
         have y0_1 : w'.cell? ⟨w.heap.size, 1, none⟩ = some (.int .i64 (ms)) := (Blk.below K0_1.out hb (by first | omega | (simp; omega))).cell 1
         have y0_2 : w'.cell? ⟨w.heap.size, 2, none⟩ = some (.int .i64 (lo)) := (Blk.below K0_1.out hb (by first | omega | (simp; omega))).cell 2
         have y0_3 : w'.cell? ⟨w.heap.size, 3, none⟩ = some (.int .i64 (hi)) := (Blk.below K0_1.out hb (by first | omega | (simp; omega))).cell 3
         have y0_4 : w'.cell? ⟨w.heap.size, 4, none⟩ = some (.int .i64 (sp)) := (Blk.below K0_1.out hb (by first | omega | (simp; omega))).cell 4
         have y0_5 : w'.cell? ⟨w.heap.size, 5, none⟩ = some (.slice A1 n1 c1) := (Blk.below K0_1.out hb (by first | omega | (simp; omega))).cell 5
         have y0_6 : w'.cell? ⟨w.heap.size, 6, none⟩ = some (.slice A2 n2 c2) := (Blk.below K0_1.out hb (by first | omega | (simp; omega))).cell 6
         have y1_0 : w'.cell? ⟨w.heap.size + 1, 0, none⟩ = some (.string nm) := (Blk.below K1_1.out hb (by first | omega | (simp; omega))).cell 0
         have y1_1 : w'.cell? ⟨w.heap.size + 1, 1, none⟩ = some (.int .i64 (az)) := (Blk.below K1_1.out hb (by first | omega | (simp; omega))).cell 1
         have y1_2 : w'.cell? ⟨w.heap.size + 1, 2, none⟩ = some (.int .i64 (hh)) := (Blk.below K1_1.out hb (by first | omega | (simp; omega))).cell 2
         have y1_3 : w'.cell? ⟨w.heap.size + 1, 3, none⟩ = some (.int .i64 (fr)) := (Blk.below K1_1.out hb (by first | omega | (simp; omega))).cell 3
         have y1_4 : w'.cell? ⟨w.heap.size + 1, 4, none⟩ = some (.int .i64 (to)) := (Blk.below K1_1.out hb (by first | omega | (simp; omega))).cell 4
         have y1_5 : w'.cell? ⟨w.heap.size + 1, 5, none⟩ = some (.int .i64 (dw)) := (Blk.below K1_1.out hb (by first | omega | (simp; omega))).cell 5
         clear hk hD hb hblk
         go_simp
         try rfl
       simp only [Act.put, List.setIfInBounds_toArray, List.set_cons_zero, List.set_cons_succ]))
  refine Fx.store_ (fun w' => ((w'.setCell ⟨w.heap.size + 2, 0, none⟩ (.int .i64 (X))).setCell ⟨w.heap.size + 2, 1, none⟩ (.int .i64 (hh + R)))) (by rfl) ?_ ?_ ?_
  · intro f w' hD hk
    obtain ⟨hb, hblk⟩ := id hD
    rw [show f 17 = false from hk.1] at hblk
    have q0 := hblk.cell 0
    have q1 := hblk.cell 1
    have p0 := hblk.frozen 0
    have p1 := hblk.frozen 1
    clear hk hD hb hblk
    go_simp
  · intro f w' hD hk
    obtain ⟨hb, hblk⟩ := id hD
    rw [show f 17 = false from hk.1] at hblk
    have q0 := hblk.cell 0
    have q1 := hblk.cell 1
    have p0 := hblk.frozen 0
    have p1 := hblk.frozen 1
    exact ⟨((hb.setCell (p := ⟨w.heap.size + 2, 0, none⟩) (Nat.le_refl _) _).setCell (p := ⟨w.heap.size + 2, 1, none⟩) (Nat.le_refl _) _), by simpa [Fx.add] using ((hblk.set_ 0 (.int .i64 (X))).set_ 1 (.int .i64 (hh + R)))⟩
  simp only [Act.put, List.setIfInBounds_toArray, List.set_cons_zero, List.set_cons_succ]
  refine Fx.nil_ ?_
  intro f w2 hall hD
  obtain ⟨hb, hblk⟩ := hD
  rw [hall 17 (by simp)] at hblk
  clear hall
  replace hblk : Blk w2 (w.heap.size + 2) 26 #[.int .i64 (X), .int .i64 (hh + R)] := hblk
  have hbw : Below w.heap.size w w2 := HB1.out.trans (hb.mono (by first | omega | (simp; omega)))
  have kk0 := Blk.below K0_1.out hb (by first | omega | (simp; omega))
  have kk1 := Blk.below K1_1.out hb (by first | omega | (simp; omega))
  clear hb
  have HB2 := Lib.hid hbw
  have K0_2 := Lib.hid (show Blk w2 (w.heap.size) 24 #[.int .i64 (ls), .int .i64 (ms), .int .i64 (lo), .int .i64 (hi), .int .i64 (sp), .slice A1 n1 c1, .slice A2 n2 c2] from kk0)
  have K1_2 := Lib.hid (show Blk w2 (w.heap.size + 1) 62 #[.string nm, .int .i64 (az), .int .i64 (hh), .int .i64 (fr), .int .i64 (to), .int .i64 (dw)] from kk1)
  have K2_2 := Lib.hid (show Blk w2 (w.heap.size + 2) 26 #[.int .i64 (X), .int .i64 (hh + R)] from hblk)
  clear hbw kk0 kk1 hblk
  have l0_2 : w.heap.size < w2.heap.size := K0_2.out.lt
  have z0_0_2 : w2.cell? ⟨w.heap.size, 0, none⟩ = some (.int .i64 (ls)) := K0_2.out.cell 0
  have z0_1_2 : w2.cell? ⟨w.heap.size, 1, none⟩ = some (.int .i64 (ms)) := K0_2.out.cell 1
  have z0_2_2 : w2.cell? ⟨w.heap.size, 2, none⟩ = some (.int .i64 (lo)) := K0_2.out.cell 2
  have z0_3_2 : w2.cell? ⟨w.heap.size, 3, none⟩ = some (.int .i64 (hi)) := K0_2.out.cell 3
  have z0_4_2 : w2.cell? ⟨w.heap.size, 4, none⟩ = some (.int .i64 (sp)) := K0_2.out.cell 4
  have z0_5_2 : w2.cell? ⟨w.heap.size, 5, none⟩ = some (.slice A1 n1 c1) := K0_2.out.cell 5
  have z0_6_2 : w2.cell? ⟨w.heap.size, 6, none⟩ = some (.slice A2 n2 c2) := K0_2.out.cell 6
  have l1_2 : w.heap.size + 1 < w2.heap.size := K1_2.out.lt
  have z1_0_2 : w2.cell? ⟨w.heap.size + 1, 0, none⟩ = some (.string nm) := K1_2.out.cell 0
  have z1_1_2 : w2.cell? ⟨w.heap.size + 1, 1, none⟩ = some (.int .i64 (az)) := K1_2.out.cell 1
  have z1_2_2 : w2.cell? ⟨w.heap.size + 1, 2, none⟩ = some (.int .i64 (hh)) := K1_2.out.cell 2
  have z1_3_2 : w2.cell? ⟨w.heap.size + 1, 3, none⟩ = some (.int .i64 (fr)) := K1_2.out.cell 3
  have z1_4_2 : w2.cell? ⟨w.heap.size + 1, 4, none⟩ = some (.int .i64 (to)) := K1_2.out.cell 4
  have z1_5_2 : w2.cell? ⟨w.heap.size + 1, 5, none⟩ = some (.int .i64 (dw)) := K1_2.out.cell 5
  have l2_2 : w.heap.size + 2 < w2.heap.size := K2_2.out.lt
  have z2_0_2 : w2.cell? ⟨w.heap.size + 2, 0, none⟩ = some (.int .i64 (X)) := K2_2.out.cell 0
  have z2_1_2 : w2.cell? ⟨w.heap.size + 2, 1, none⟩ = some (.int .i64 (hh + R)) := K2_2.out.cell 1
  go_wp2
  exact bodyPost_ret (v := .agg #[.int .i64 X, .int .i64 (hh + R)]) (by simp [results, Try.results56, go_sem, z2_0_2, z2_1_2, l2_2]) rfl ⟨by rw [E2.out], by repeat' (first | exact Below.refl _ _ | exact HB2.out | refine below_drewN ?_ _ | refine Below.drew ?_ | refine Below.alloc ?_ (by first | omega | (simp; done) | (simp; omega) | (simp [World.setCell]; omega)) _ | refine Below.setCell ?_ (by first | omega | (simp; done) | (simp; omega)) _ | assumption)⟩

end Go.Proofs.Ytclnffpfbngjoaa

end
