import Derived.Test.YtcggceincmljdaaQ9
import Derived.Test.YtcggceincmljdaaQ10

section
/- The walk of the statement that the mirror is the same for every choice of the zero position. -/
namespace Go.Proofs.Ytcggceincmljdaa
open Go Go.RowKit

/-- The maps that begin at position z, the first a of them. -/
def turnT (t : List TRow) (z k a : Nat) : List TRow := (List.range a).map fun q => t.getD ((q + z) % k) ⟨none, 0, 0, []⟩
theorem turnT_len (t : List TRow) (z k a : Nat) : (turnT t z k a).length = a := by unfold turnT; simp
theorem turnT_succ {t : List TRow} {z k a : Nat} {r : TRow} (h : t[(a + z) % k]? = some r) : turnT t z k (a + 1) = turnT t z k a ++ [r] := by
  unfold turnT
  rw [List.range_succ, List.map_append]
  simp [List.getD_eq_getElem?_getD, h]
theorem turnT_mem {t : List TRow} {z k a : Nat} {r : TRow} (hk : 0 < k) (hl : t.length = k) (h : r ∈ turnT t z k a) : r ∈ t := by
  unfold turnT at h
  obtain ⟨q, -, rfl⟩ := List.mem_map.1 h
  have hlt : (q + z) % k < t.length := by rw [hl]; exact Nat.mod_lt _ hk
  rw [List.getD_eq_getElem?_getD, List.getElem?_eq_getElem hlt]
  exact List.getElem_mem hlt
theorem turnT_mat {t : List TRow} {z k a i : Nat} (ha : a < k) : matT (turnT t z k k) a i = matT t ((a + z) % k) i := by
  have h : (turnT t z k k)[a]? = some (t.getD ((a + z) % k) ⟨none, 0, 0, []⟩) := by
    unfold turnT
    rw [List.getElem?_map, List.getElem?_range ha]; rfl
  unfold matT
  simp [List.getD_eq_getElem?_getD, h]
theorem TurnOk.turn {n k z : Nat} {t : List TRow} (h : TurnOk n k t) : TurnOk n k (turnT t z k k) :=
  ⟨h.n1, h.k1, h.div, turnT_len t z k k, fun r hr => h.row r (turnT_mem (by have := h.k1; omega) h.len hr)⟩
theorem rstF_congr {M M' : Nat → Nat → Int} {k i : Nat} (h : ∀ t, t < k → M t i = M' t i) : rstF M k i = rstF M' k i := sumZ_congr h
theorem mirF_congr {M M' : Nat → Nat → Int} {k n s j : Nat} (h : ∀ t i, t < k → M t i = M' t i) : mirF M k n s k j = mirF M' k n s k j := by
  unfold mirF
  refine sumZ_congr fun t ht => ?_
  unfold zaddF
  rw [h t _ ht, rstF_congr fun t ht => h t _ ht]
theorem rst_turned {t : List TRow} {n k z : Nat} (hz : z < k) : rstL (turnT t z k k) n k = rstL t n k := by
  unfold rstL
  refine parL_congr fun j _ => ?_
  rw [rstF_congr (M' := fun t' => matT t ((t' + z) % k)) fun a ha => turnT_mat ha, rstF_turn (matT t) hz]
theorem mir_turned {t : List TRow} {n k z : Nat} (hz : z < k) (hd : k * (n / k) = n) (j : Nat) : mirF (matT (turnT t z k k)) k n (n / k) k j = mirF (matT t) k n (n / k) k ((j + n - z * (n / k)) % n) := by
  rw [mirF_congr (M' := fun t' => matT t ((t' + z) % k)) fun a i ha => turnT_mat ha, mirF_turn (matT t) hz hd]

set_option maxRecDepth 100000 in
set_option maxHeartbeats 8000000 in
theorem lawTZ_any (A1 : Option Addr) (n1 c1 : Nat) (hs : List Int) (A2 : Option Addr) (n2 c2 : Nat) (is : List Int) (T z : Int) (w : World) (hx1 : Reads w w.heap.size 1 A1 n1 (hs.map (.int .i64))) (hx2 : Reads w w.heap.size 1 A2 n2 (is.map (.int .i64))) :
    Calls Try.prog 4 #[.agg #[.slice A1 n1 c1, .slice A2 n2 c2, .int .i64 T], .int .i64 z] w fun e w' => e = .returned (.bool true) ∧ Below w.heap.size w w' := by
  have HX1 := Lib.hid hx1
  have HX2 := Lib.hid hx2
  clear hx1 hx2
  go_enter Try.func4, Try.ntmps4
  go_wp2_with fail
  generalize hwn : (w.alloc (.cells #[.slice A1 n1 c1, .slice A2 n2 c2, .int .i64 (T)] 42)) = w1
  have hbn : Below w.heap.size w w1 := by rw [← hwn]; repeat' (first | exact Below.refl _ _ | refine below_drewN ?_ _ | refine Below.drew ?_ | refine Below.alloc ?_ (by first | omega | (simp; done) | (simp; omega) | (simp [World.setCell]; omega)) _ | refine Below.setCell ?_ (by first | omega | (simp; done) | (simp; omega)) _)
  have HB1 := Lib.hid (show Below w.heap.size w w1 from hbn)
  have K0_1 := Lib.hid (show Blk w1 (w.heap.size) 42 #[.slice A1 n1 c1, .slice A2 n2 c2, .int .i64 (T)] by rw [← hwn]; repeat' (first | exact Blk.at_ _ (by first | rfl | (simp; done) | (simp; omega)) _ _ | refine Blk.drewN ?_ _ | refine Blk.drew ?_ | refine Blk.alloc ?_ _ | refine Blk.far ?_ (by first | omega | (simp; done) | (simp; omega)) _ | assumption))
  have HN1 := Lib.hid hbn
  have hz1 := hbn.size
  clear hwn hbn
  have l0_1 : w.heap.size < w1.heap.size := K0_1.out.lt
  have z0_0_1 : w1.cell? ⟨w.heap.size, 0, none⟩ = some (.slice A1 n1 c1) := K0_1.out.cell 0
  have z0_1_1 : w1.cell? ⟨w.heap.size, 1, none⟩ = some (.slice A2 n2 c2) := K0_1.out.cell 1
  have z0_2_1 : w1.cell? ⟨w.heap.size, 2, none⟩ = some (.int .i64 (T)) := K0_1.out.cell 2
  refine (reads_is _).mono ?_
  rintro e w2 ⟨rfl, hb⟩
  have HB2 := Lib.hid (show Below w.heap.size w w2 from step_below hb (by repeat' (first | exact Below.refl _ _ | exact HB1.out | refine below_drewN ?_ _ | refine Below.drew ?_ | refine Below.alloc ?_ (by first | omega | (simp; done) | (simp; omega) | (simp [World.setCell]; omega)) _ | refine Below.setCell ?_ (by first | omega | (simp; done) | (simp; omega)) _ | assumption)))
  have K0_2 := Lib.hid (step_blk hb (show Blk _ (w.heap.size) 42 #[.slice A1 n1 c1, .slice A2 n2 c2, .int .i64 (T)] by repeat' (first | exact K0_1.out | exact Blk.at_ _ (by first | rfl | (simp; done) | (simp; omega)) _ _ | refine Blk.drewN ?_ _ | refine Blk.drew ?_ | refine Blk.alloc ?_ _ | refine Blk.far ?_ (by first | omega | (simp; done) | (simp; omega)) _ | assumption)))
  have hz2 := hb.size
  try simp only [World.size_alloc, World.drewN, World.drew] at hz2
  clear hb K0_1 z0_0_1 z0_1_1 z0_2_1 l0_1
  have l0_2 : w.heap.size < w2.heap.size := K0_2.out.lt
  have z0_0_2 : w2.cell? ⟨w.heap.size, 0, none⟩ = some (.slice A1 n1 c1) := K0_2.out.cell 0
  have z0_1_2 : w2.cell? ⟨w.heap.size, 1, none⟩ = some (.slice A2 n2 c2) := K0_2.out.cell 1
  have z0_2_2 : w2.cell? ⟨w.heap.size, 2, none⟩ = some (.int .i64 (T)) := K0_2.out.cell 2
  have g1 := (HX1.out.below HB2.out).more HB2.out.size
  have g2 := (HX2.out.below HB2.out).more HB2.out.size
  clear HX1 HX2
  have R0_2 := Lib.hid g1
  clear g1
  have R1_2 := Lib.hid g2
  clear g2
  go_wp2_with fail
  refine (maps_any A1 n1 c1 hs A2 n2 c2 is T _ R0_2.out R1_2.out).mono ?_
  rintro e w3 ⟨⟨v, b, rfl, hno, hyes⟩, hb⟩
  have HB3 := Lib.hid (show Below w.heap.size w w3 from step_below hb (by repeat' (first | exact Below.refl _ _ | exact HB2.out | refine below_drewN ?_ _ | refine Below.drew ?_ | refine Below.alloc ?_ (by first | omega | (simp; done) | (simp; omega) | (simp [World.setCell]; omega)) _ | refine Below.setCell ?_ (by first | omega | (simp; done) | (simp; omega)) _ | assumption)))
  have K0_3 := Lib.hid (step_blk hb (show Blk _ (w.heap.size) 42 #[.slice A1 n1 c1, .slice A2 n2 c2, .int .i64 (T)] by repeat' (first | exact K0_2.out | exact Blk.at_ _ (by first | rfl | (simp; done) | (simp; omega)) _ _ | refine Blk.drewN ?_ _ | refine Blk.drew ?_ | refine Blk.alloc ?_ _ | refine Blk.far ?_ (by first | omega | (simp; done) | (simp; omega)) _ | assumption)))
  have hL3 := Lib.hid (show Below w2.heap.size w2 _ from reads_mid hb (by repeat' (first | exact Below.refl _ _ | refine below_drewN ?_ _ | refine Below.drew ?_ | refine Below.alloc ?_ (by first | omega | (simp; done) | (simp; omega) | (simp [World.setCell]; omega)) _ | refine Below.setCell ?_ (by first | omega | (simp; done) | (simp; omega)) _)))
  have R0_3 := Lib.hid (reads_lay hb hL3.out R0_2.out)
  have R1_3 := Lib.hid (reads_lay hb hL3.out R1_2.out)
  clear hL3 R0_2 R1_2
  have hz3 := hb.size
  try simp only [World.size_alloc, World.drewN, World.drew] at hz3
  clear hb K0_2 z0_0_2 z0_1_2 z0_2_2 l0_2
  have l0_3 : w.heap.size < w3.heap.size := K0_3.out.lt
  have z0_0_3 : w3.cell? ⟨w.heap.size, 0, none⟩ = some (.slice A1 n1 c1) := K0_3.out.cell 0
  have z0_1_3 : w3.cell? ⟨w.heap.size, 1, none⟩ = some (.slice A2 n2 c2) := K0_3.out.cell 1
  have z0_2_3 : w3.cell? ⟨w.heap.size, 2, none⟩ = some (.int .i64 (T)) := K0_3.out.cell 2
  clear R0_3 R1_3
  cases b with
  | false =>
    obtain rfl := hno rfl
    clear hno hyes
    go_wp2
    go_ret
    exact ⟨rfl, by repeat' (first | exact Below.refl _ _ | exact HB3.out | refine below_drewN ?_ _ | refine Below.drew ?_ | refine Below.alloc ?_ (by first | omega | (simp; done) | (simp; omega) | (simp [World.setCell]; omega)) _ | refine Below.setCell ?_ (by first | omega | (simp; done) | (simp; omega)) _ | assumption)⟩
  | true =>
  obtain ⟨n, k, A, c, t, rfl, hok, hr⟩ := hyes rfl
  clear hno hyes
  have R2_3 := Lib.hid hr
  clear hr
  have hn := hok.n1
  have hk := hok.k1
  have HOK := Lib.hid hok
  clear hok
  obtain ⟨tz, htz⟩ : ∃ tz, withinB z 0 ((k : Int) - 1) = tz := ⟨_, rfl⟩
  have HTZ := Lib.hid htz
  have ek := IntWalk.i64_in ((k : Int) - 1) ⟨by omega, by omega⟩
  clear htz
  go_wp2_with fail
  generalize hwn : (w3.alloc (.cells #[.int .i64 ((n : Int)), .slice A k c] 45)) = w4
  have hbn : Below w3.heap.size w3 w4 := by rw [← hwn]; repeat' (first | exact Below.refl _ _ | refine below_drewN ?_ _ | refine Below.drew ?_ | refine Below.alloc ?_ (by first | omega | (simp; done) | (simp; omega) | (simp [World.setCell]; omega)) _ | refine Below.setCell ?_ (by first | omega | (simp; done) | (simp; omega)) _)
  have HB4 := Lib.hid (show Below w.heap.size w w4 from HB3.out.trans (hbn.mono HB3.out.size))
  have K0_4 := Lib.hid (step_blk hbn K0_3.out)
  have K1_4 := Lib.hid (show Blk w4 (w3.heap.size) 45 #[.int .i64 ((n : Int)), .slice A k c] by rw [← hwn]; repeat' (first | exact Blk.at_ _ (by first | rfl | (simp; done) | (simp; omega)) _ _ | refine Blk.drewN ?_ _ | refine Blk.drew ?_ | refine Blk.alloc ?_ _ | refine Blk.far ?_ (by first | omega | (simp; done) | (simp; omega)) _ | assumption))
  have R2_4 := Lib.hid ((R2_3.out.below hbn).more hbn.size)
  have HN4 := Lib.hid hbn
  have hz4 := hbn.size
  clear hwn hbn K0_3 l0_3 z0_0_3 z0_1_3 z0_2_3 R2_3
  have l0_4 : w.heap.size < w4.heap.size := K0_4.out.lt
  have z0_0_4 : w4.cell? ⟨w.heap.size, 0, none⟩ = some (.slice A1 n1 c1) := K0_4.out.cell 0
  have z0_1_4 : w4.cell? ⟨w.heap.size, 1, none⟩ = some (.slice A2 n2 c2) := K0_4.out.cell 1
  have z0_2_4 : w4.cell? ⟨w.heap.size, 2, none⟩ = some (.int .i64 (T)) := K0_4.out.cell 2
  have l1_4 : w3.heap.size < w4.heap.size := K1_4.out.lt
  have z1_0_4 : w4.cell? ⟨w3.heap.size, 0, none⟩ = some (.int .i64 ((n : Int))) := K1_4.out.cell 0
  have z1_1_4 : w4.cell? ⟨w3.heap.size, 1, none⟩ = some (.slice A k c) := K1_4.out.cell 1
  refine (withinref_is _ _ _ tz HTZ.out _).mono ?_
  rintro e w' ⟨rfl, rfl⟩
  cases tz with
  | false =>
    go_wp2
    go_ret
    exact ⟨rfl, by repeat' (first | exact Below.refl _ _ | exact HB4.out | refine below_drewN ?_ _ | refine Below.drew ?_ | refine Below.alloc ?_ (by first | omega | (simp; done) | (simp; omega) | (simp [World.setCell]; omega)) _ | refine Below.setCell ?_ (by first | omega | (simp; done) | (simp; omega)) _ | assumption)⟩
  | true =>
  have hz := within_bounds HTZ.out
  obtain ⟨zn, rfl⟩ : ∃ zn : Nat, z = (zn : Int) := ⟨z.toNat, by omega⟩
  have hzk : zn < k := by omega
  go_wp2_with fail
  have hsz3 := l1_4
  have RT4 := R2_4
  generalize hwn : (w4.alloc (.cells #[.int .i64 ((n : Int)), .slice none 0 0] 45)) = w5
  have hbn : Below w4.heap.size w4 w5 := by rw [← hwn]; repeat' (first | exact Below.refl _ _ | refine below_drewN ?_ _ | refine Below.drew ?_ | refine Below.alloc ?_ (by first | omega | (simp; done) | (simp; omega) | (simp [World.setCell]; omega)) _ | refine Below.setCell ?_ (by first | omega | (simp; done) | (simp; omega)) _)
  have HB5 := Lib.hid (show Below w.heap.size w w5 from HB4.out.trans (hbn.mono HB4.out.size))
  have K0_5 := Lib.hid (step_blk hbn K0_4.out)
  have K1_5 := Lib.hid (step_blk hbn K1_4.out)
  have K2_5 := Lib.hid (show Blk w5 (w4.heap.size) 45 #[.int .i64 ((n : Int)), .slice none 0 0] by rw [← hwn]; repeat' (first | exact Blk.at_ _ (by first | rfl | (simp; done) | (simp; omega)) _ _ | refine Blk.drewN ?_ _ | refine Blk.drew ?_ | refine Blk.alloc ?_ _ | refine Blk.far ?_ (by first | omega | (simp; done) | (simp; omega)) _ | assumption))
  have R2_5 := Lib.hid ((R2_4.out.below hbn).more hbn.size)
  have HN5 := Lib.hid hbn
  have hz5 := hbn.size
  clear hwn hbn K0_4 l0_4 z0_0_4 z0_1_4 z0_2_4 K1_4 l1_4 z1_0_4 z1_1_4 R2_4
  have l0_5 : w.heap.size < w5.heap.size := K0_5.out.lt
  have z0_0_5 : w5.cell? ⟨w.heap.size, 0, none⟩ = some (.slice A1 n1 c1) := K0_5.out.cell 0
  have z0_1_5 : w5.cell? ⟨w.heap.size, 1, none⟩ = some (.slice A2 n2 c2) := K0_5.out.cell 1
  have z0_2_5 : w5.cell? ⟨w.heap.size, 2, none⟩ = some (.int .i64 (T)) := K0_5.out.cell 2
  have l1_5 : w3.heap.size < w5.heap.size := K1_5.out.lt
  have z1_0_5 : w5.cell? ⟨w3.heap.size, 0, none⟩ = some (.int .i64 ((n : Int))) := K1_5.out.cell 0
  have z1_1_5 : w5.cell? ⟨w3.heap.size, 1, none⟩ = some (.slice A k c) := K1_5.out.cell 1
  have l2_5 : w4.heap.size < w5.heap.size := K2_5.out.lt
  have z2_0_5 : w5.cell? ⟨w4.heap.size, 0, none⟩ = some (.int .i64 ((n : Int))) := K2_5.out.cell 0
  have z2_1_5 : w5.cell? ⟨w4.heap.size, 1, none⟩ = some (.slice none 0 0) := K2_5.out.cell 1
  have hsz4 := l2_5
  have hsz4' : w3.heap.size < w4.heap.size := hsz3
  have hs45 := HN5.out.size
  have RT := Lib.hid (RT4.out.below HN5.out)
  have KM := K1_5
  have HB5' := HB5
  have HB4' := HB4
  have KL := K2_5
  go_loopw [9] (fun x wr => ∃ (v : Value) (a : Nat), a ≤ k ∧ x = .int .i64 a ∧ Tch (fun q => q = w4.heap.size) w5 wr ∧ Blk wr w4.heap.size 45 #[.int .i64 n, v] ∧ wr.ownsRow w5.heap.size 22 1 v a ((turnT t zn k a).map TRow.val)) (fun x _ => k - (intOf x).toNat)
  case atStart => exact ⟨.slice none 0 0, 0, by omega, rfl, Tch.refl _ _, KL.out, World.ownsRow_nil _ _ _ _⟩
  case round =>
    obtain ⟨v, a, ha, rfl, htc, hkl, ho⟩ := hrel
    obtain ⟨w6, hnm⟩ : ∃ z : World, z = wr := ⟨_, rfl⟩
    subst hnm
    have hb5 : Below w4.heap.size w5 w6 := htc.below (fun q hq => by rw [hq]; omega) hs45
    have hw6 := htc.size
    have hrt : ReadsT w6 w4.heap.size A k t := RT.out.below hb5
    have hkm : Blk w6 w3.heap.size 45 #[.int .i64 n, .slice A k c] := htc.blk KM.out (by show ¬ w3.heap.size = w4.heap.size; omega)
    have HRT := Lib.hid hrt
    have HO := Lib.hid ho
    have HKL := Lib.hid hkl
    have HKM := Lib.hid hkm
    have HB5 := Lib.hid hb5
    have HTC := Lib.hid htc
    clear hrt ho hkl hkm hb5 htc
    by_cases hlt : a < k
    rotate_left
    · obtain rfl : k = a := by omega
      obtain ⟨A9, c9, rfl, -⟩ := own_reads HO.out
      have hbw := HB5'.out.trans (HB5.out.mono HB4'.out.size)
      have h1 : ReadsT w6 w6.heap.size A k t := HRT.out.more (by omega)
      have h2 : ReadsT w6 w6.heap.size A9 k (turnT t zn k k) := ⟨own_reads2 HO.out, fun r hr => (h1.2 r (turnT_mem (by omega) HOK.out.len hr))⟩
      have HOK2 := Lib.hid (HOK.out.turn (z := zn))
      have hd : k * (n / k) = n := Nat.mul_div_cancel' (Nat.dvd_of_mod_eq_zero HOK.out.div)
      have HRST := Lib.hid (rst_turned (t := t) (n := n) hzk)
      have HMIR := Lib.hid (fun j => mir_turned (t := t) (n := n) hzk hd j)
      have km := HKM.out
      have kl := HKL.out
      clear HKM HKL HO HRT RT
      have HB6 := Lib.hid hbw
      have K0_6 := Lib.hid (show Blk w6 (w3.heap.size) 45 #[.int .i64 ((n : Int)), .slice A k c] from km)
      have K1_6 := Lib.hid (show Blk w6 (w4.heap.size) 45 #[.int .i64 ((n : Int)), .slice A9 k c9] from kl)
      clear hbw km kl
      have l0_6 : w3.heap.size < w6.heap.size := K0_6.out.lt
      have z0_0_6 : w6.cell? ⟨w3.heap.size, 0, none⟩ = some (.int .i64 ((n : Int))) := K0_6.out.cell 0
      have z0_1_6 : w6.cell? ⟨w3.heap.size, 1, none⟩ = some (.slice A k c) := K0_6.out.cell 1
      have l1_6 : w4.heap.size < w6.heap.size := K1_6.out.lt
      have z1_0_6 : w6.cell? ⟨w4.heap.size, 0, none⟩ = some (.int .i64 ((n : Int))) := K1_6.out.cell 0
      have z1_1_6 : w6.cell? ⟨w4.heap.size, 1, none⟩ = some (.slice A9 k c9) := K1_6.out.cell 1
      have R0_6 := Lib.hid h1
      clear h1
      have R1_6 := Lib.hid h2
      clear h2
      go_wp2_with fail
      refine (mirror_is A n k c t HOK.out _ R0_6.out).mono ?_
      rintro e w7 ⟨A7, c7, rfl, hb, hr7⟩
      have HB7 := Lib.hid (show Below w.heap.size w w7 from step_below hb (by repeat' (first | exact Below.refl _ _ | exact HB6.out | refine below_drewN ?_ _ | refine Below.drew ?_ | refine Below.alloc ?_ (by first | omega | (simp; done) | (simp; omega) | (simp [World.setCell]; omega)) _ | refine Below.setCell ?_ (by first | omega | (simp; done) | (simp; omega)) _ | assumption)))
      have K0_7 := Lib.hid (step_blk hb (show Blk _ (w3.heap.size) 45 #[.int .i64 ((n : Int)), .slice A k c] by repeat' (first | exact K0_6.out | exact K1_6.out | exact Blk.at_ _ (by first | rfl | (simp; done) | (simp; omega)) _ _ | refine Blk.drewN ?_ _ | refine Blk.drew ?_ | refine Blk.alloc ?_ _ | refine Blk.far ?_ (by first | omega | (simp; done) | (simp; omega)) _ | assumption)))
      have K1_7 := Lib.hid (step_blk hb (show Blk _ (w4.heap.size) 45 #[.int .i64 ((n : Int)), .slice A9 k c9] by repeat' (first | exact K0_6.out | exact K1_6.out | exact Blk.at_ _ (by first | rfl | (simp; done) | (simp; omega)) _ _ | refine Blk.drewN ?_ _ | refine Blk.drew ?_ | refine Blk.alloc ?_ _ | refine Blk.far ?_ (by first | omega | (simp; done) | (simp; omega)) _ | assumption)))
      have hL7 := Lib.hid (show Below w6.heap.size w6 _ from reads_mid hb (by repeat' (first | exact Below.refl _ _ | refine below_drewN ?_ _ | refine Below.drew ?_ | refine Below.alloc ?_ (by first | omega | (simp; done) | (simp; omega) | (simp [World.setCell]; omega)) _ | refine Below.setCell ?_ (by first | omega | (simp; done) | (simp; omega)) _)))
      have R0_7 := Lib.hid (readsT_lay hb hL7.out R0_6.out)
      have R1_7 := Lib.hid (readsT_lay hb hL7.out R1_6.out)
      clear hL7 R0_6 R1_6
      have hz7 := hb.size
      try simp only [World.size_alloc, World.drewN, World.drew] at hz7
      clear hb K0_6 K1_6 z0_0_6 z0_1_6 l0_6 z1_0_6 z1_1_6 l1_6
      have l0_7 : w3.heap.size < w7.heap.size := K0_7.out.lt
      have z0_0_7 : w7.cell? ⟨w3.heap.size, 0, none⟩ = some (.int .i64 ((n : Int))) := K0_7.out.cell 0
      have z0_1_7 : w7.cell? ⟨w3.heap.size, 1, none⟩ = some (.slice A k c) := K0_7.out.cell 1
      have l1_7 : w4.heap.size < w7.heap.size := K1_7.out.lt
      have z1_0_7 : w7.cell? ⟨w4.heap.size, 0, none⟩ = some (.int .i64 ((n : Int))) := K1_7.out.cell 0
      have z1_1_7 : w7.cell? ⟨w4.heap.size, 1, none⟩ = some (.slice A9 k c9) := K1_7.out.cell 1
      have R2_7 := Lib.hid hr7
      clear hr7
      go_wp2_with fail
      refine (mirror_is A9 n k c9 _ HOK2.out _ R1_7.out).mono ?_
      rintro e w8 ⟨A8, c8, rfl, hb, hr8⟩
      have HB8 := Lib.hid (show Below w.heap.size w w8 from step_below hb (by repeat' (first | exact Below.refl _ _ | exact HB7.out | refine below_drewN ?_ _ | refine Below.drew ?_ | refine Below.alloc ?_ (by first | omega | (simp; done) | (simp; omega) | (simp [World.setCell]; omega)) _ | refine Below.setCell ?_ (by first | omega | (simp; done) | (simp; omega)) _ | assumption)))
      have K0_8 := Lib.hid (step_blk hb (show Blk _ (w3.heap.size) 45 #[.int .i64 ((n : Int)), .slice A k c] by repeat' (first | exact K0_7.out | exact K1_7.out | exact Blk.at_ _ (by first | rfl | (simp; done) | (simp; omega)) _ _ | refine Blk.drewN ?_ _ | refine Blk.drew ?_ | refine Blk.alloc ?_ _ | refine Blk.far ?_ (by first | omega | (simp; done) | (simp; omega)) _ | assumption)))
      have K1_8 := Lib.hid (step_blk hb (show Blk _ (w4.heap.size) 45 #[.int .i64 ((n : Int)), .slice A9 k c9] by repeat' (first | exact K0_7.out | exact K1_7.out | exact Blk.at_ _ (by first | rfl | (simp; done) | (simp; omega)) _ _ | refine Blk.drewN ?_ _ | refine Blk.drew ?_ | refine Blk.alloc ?_ _ | refine Blk.far ?_ (by first | omega | (simp; done) | (simp; omega)) _ | assumption)))
      have hL8 := Lib.hid (show Below w7.heap.size w7 _ from reads_mid hb (by repeat' (first | exact Below.refl _ _ | refine below_drewN ?_ _ | refine Below.drew ?_ | refine Below.alloc ?_ (by first | omega | (simp; done) | (simp; omega) | (simp [World.setCell]; omega)) _ | refine Below.setCell ?_ (by first | omega | (simp; done) | (simp; omega)) _)))
      have R0_8 := Lib.hid (readsT_lay hb hL8.out R0_7.out)
      have R1_8 := Lib.hid (readsT_lay hb hL8.out R1_7.out)
      have R2_8 := Lib.hid (reads_lay hb hL8.out R2_7.out)
      clear hL8 R0_7 R1_7 R2_7
      have hz8 := hb.size
      try simp only [World.size_alloc, World.drewN, World.drew] at hz8
      clear hb K0_7 K1_7 z0_0_7 z0_1_7 l0_7 z1_0_7 z1_1_7 l1_7
      have l0_8 : w3.heap.size < w8.heap.size := K0_8.out.lt
      have z0_0_8 : w8.cell? ⟨w3.heap.size, 0, none⟩ = some (.int .i64 ((n : Int))) := K0_8.out.cell 0
      have z0_1_8 : w8.cell? ⟨w3.heap.size, 1, none⟩ = some (.slice A k c) := K0_8.out.cell 1
      have l1_8 : w4.heap.size < w8.heap.size := K1_8.out.lt
      have z1_0_8 : w8.cell? ⟨w4.heap.size, 0, none⟩ = some (.int .i64 ((n : Int))) := K1_8.out.cell 0
      have z1_1_8 : w8.cell? ⟨w4.heap.size, 1, none⟩ = some (.slice A9 k c9) := K1_8.out.cell 1
      have R3_8 := Lib.hid hr8
      clear hr8
      go_wp2_with fail
      refine (rest_is A n k c t HOK.out _ R0_8.out).mono ?_
      rintro e w9 ⟨Aa, ca, rfl, hb, hra⟩
      have HB9 := Lib.hid (show Below w.heap.size w w9 from step_below hb (by repeat' (first | exact Below.refl _ _ | exact HB8.out | refine below_drewN ?_ _ | refine Below.drew ?_ | refine Below.alloc ?_ (by first | omega | (simp; done) | (simp; omega) | (simp [World.setCell]; omega)) _ | refine Below.setCell ?_ (by first | omega | (simp; done) | (simp; omega)) _ | assumption)))
      have K0_9 := Lib.hid (step_blk hb (show Blk _ (w3.heap.size) 45 #[.int .i64 ((n : Int)), .slice A k c] by repeat' (first | exact K0_8.out | exact K1_8.out | exact Blk.at_ _ (by first | rfl | (simp; done) | (simp; omega)) _ _ | refine Blk.drewN ?_ _ | refine Blk.drew ?_ | refine Blk.alloc ?_ _ | refine Blk.far ?_ (by first | omega | (simp; done) | (simp; omega)) _ | assumption)))
      have K1_9 := Lib.hid (step_blk hb (show Blk _ (w4.heap.size) 45 #[.int .i64 ((n : Int)), .slice A9 k c9] by repeat' (first | exact K0_8.out | exact K1_8.out | exact Blk.at_ _ (by first | rfl | (simp; done) | (simp; omega)) _ _ | refine Blk.drewN ?_ _ | refine Blk.drew ?_ | refine Blk.alloc ?_ _ | refine Blk.far ?_ (by first | omega | (simp; done) | (simp; omega)) _ | assumption)))
      have hL9 := Lib.hid (show Below w8.heap.size w8 _ from reads_mid hb (by repeat' (first | exact Below.refl _ _ | refine below_drewN ?_ _ | refine Below.drew ?_ | refine Below.alloc ?_ (by first | omega | (simp; done) | (simp; omega) | (simp [World.setCell]; omega)) _ | refine Below.setCell ?_ (by first | omega | (simp; done) | (simp; omega)) _)))
      have R0_9 := Lib.hid (readsT_lay hb hL9.out R0_8.out)
      have R1_9 := Lib.hid (readsT_lay hb hL9.out R1_8.out)
      have R2_9 := Lib.hid (reads_lay hb hL9.out R2_8.out)
      have R3_9 := Lib.hid (reads_lay hb hL9.out R3_8.out)
      clear hL9 R0_8 R1_8 R2_8 R3_8
      have hz9 := hb.size
      try simp only [World.size_alloc, World.drewN, World.drew] at hz9
      clear hb K0_8 K1_8 z0_0_8 z0_1_8 l0_8 z1_0_8 z1_1_8 l1_8
      have l0_9 : w3.heap.size < w9.heap.size := K0_9.out.lt
      have z0_0_9 : w9.cell? ⟨w3.heap.size, 0, none⟩ = some (.int .i64 ((n : Int))) := K0_9.out.cell 0
      have z0_1_9 : w9.cell? ⟨w3.heap.size, 1, none⟩ = some (.slice A k c) := K0_9.out.cell 1
      have l1_9 : w4.heap.size < w9.heap.size := K1_9.out.lt
      have z1_0_9 : w9.cell? ⟨w4.heap.size, 0, none⟩ = some (.int .i64 ((n : Int))) := K1_9.out.cell 0
      have z1_1_9 : w9.cell? ⟨w4.heap.size, 1, none⟩ = some (.slice A9 k c9) := K1_9.out.cell 1
      have R4_9 := Lib.hid hra
      clear hra
      go_wp2_with fail
      refine (rest_is A9 n k c9 _ HOK2.out _ R1_9.out).mono ?_
      rintro e w10 ⟨Ab, cb, rfl, hb, hrb⟩
      have HB10 := Lib.hid (show Below w.heap.size w w10 from step_below hb (by repeat' (first | exact Below.refl _ _ | exact HB9.out | refine below_drewN ?_ _ | refine Below.drew ?_ | refine Below.alloc ?_ (by first | omega | (simp; done) | (simp; omega) | (simp [World.setCell]; omega)) _ | refine Below.setCell ?_ (by first | omega | (simp; done) | (simp; omega)) _ | assumption)))
      have K0_10 := Lib.hid (step_blk hb (show Blk _ (w3.heap.size) 45 #[.int .i64 ((n : Int)), .slice A k c] by repeat' (first | exact K0_9.out | exact K1_9.out | exact Blk.at_ _ (by first | rfl | (simp; done) | (simp; omega)) _ _ | refine Blk.drewN ?_ _ | refine Blk.drew ?_ | refine Blk.alloc ?_ _ | refine Blk.far ?_ (by first | omega | (simp; done) | (simp; omega)) _ | assumption)))
      have K1_10 := Lib.hid (step_blk hb (show Blk _ (w4.heap.size) 45 #[.int .i64 ((n : Int)), .slice A9 k c9] by repeat' (first | exact K0_9.out | exact K1_9.out | exact Blk.at_ _ (by first | rfl | (simp; done) | (simp; omega)) _ _ | refine Blk.drewN ?_ _ | refine Blk.drew ?_ | refine Blk.alloc ?_ _ | refine Blk.far ?_ (by first | omega | (simp; done) | (simp; omega)) _ | assumption)))
      have hL10 := Lib.hid (show Below w9.heap.size w9 _ from reads_mid hb (by repeat' (first | exact Below.refl _ _ | refine below_drewN ?_ _ | refine Below.drew ?_ | refine Below.alloc ?_ (by first | omega | (simp; done) | (simp; omega) | (simp [World.setCell]; omega)) _ | refine Below.setCell ?_ (by first | omega | (simp; done) | (simp; omega)) _)))
      have R0_10 := Lib.hid (readsT_lay hb hL10.out R0_9.out)
      have R1_10 := Lib.hid (readsT_lay hb hL10.out R1_9.out)
      have R2_10 := Lib.hid (reads_lay hb hL10.out R2_9.out)
      have R3_10 := Lib.hid (reads_lay hb hL10.out R3_9.out)
      have R4_10 := Lib.hid (reads_lay hb hL10.out R4_9.out)
      clear hL10 R0_9 R1_9 R2_9 R3_9 R4_9
      have hz10 := hb.size
      try simp only [World.size_alloc, World.drewN, World.drew] at hz10
      clear hb K0_9 K1_9 z0_0_9 z0_1_9 l0_9 z1_0_9 z1_1_9 l1_9
      have l0_10 : w3.heap.size < w10.heap.size := K0_10.out.lt
      have z0_0_10 : w10.cell? ⟨w3.heap.size, 0, none⟩ = some (.int .i64 ((n : Int))) := K0_10.out.cell 0
      have z0_1_10 : w10.cell? ⟨w3.heap.size, 1, none⟩ = some (.slice A k c) := K0_10.out.cell 1
      have l1_10 : w4.heap.size < w10.heap.size := K1_10.out.lt
      have z1_0_10 : w10.cell? ⟨w4.heap.size, 0, none⟩ = some (.int .i64 ((n : Int))) := K1_10.out.cell 0
      have z1_1_10 : w10.cell? ⟨w4.heap.size, 1, none⟩ = some (.slice A9 k c9) := K1_10.out.cell 1
      have hrb' := hrb
      rw [HRST.out] at hrb'
      clear hrb
      have R5_10 := Lib.hid hrb'
      clear hrb'
      clear R0_10 R1_10
      have e0 : ((n : Int) != (n : Int)) = false := by simp
      have hfr : ∀ w' N, Reads w' N 2 Aa n (cells2 (rstL t n k)) → Reads w' N 2 Ab n (cells2 (rstL t n k)) → Calls Try.prog 14 #[.slice Aa n ca, .slice Ab n cb] w' fun e w'' => e = .returned (.bool true) ∧ ∃ q, w'' = w'.drewN q := fun w' N h1 h2 => by
        have := fracs_any Aa Ab ca cb n n _ _ w' N h1 h2 (by omega) (by omega)
        rwa [show decide (rstL t n k = rstL t n k) = true by simp] at this
      have HFR := Lib.hid hfr
      clear hfr
      go_wp2_with fail
      refine (HFR.out _ _ R4_10.out R5_10.out).mono ?_
      rintro e w11 ⟨rfl, q11, hw11⟩
      have hb11 : Below w10.heap.size w10 w11 := by rw [hw11]; exact below_drewN (Below.refl _ _) _
      clear hw11
      clear R4_10 R5_10
      have HB11 := Lib.hid (show Below w.heap.size w w11 from step_below hb11 (by repeat' (first | exact Below.refl _ _ | exact HB10.out | refine below_drewN ?_ _ | refine Below.drew ?_ | refine Below.alloc ?_ (by first | omega | (simp; done) | (simp; omega) | (simp [World.setCell]; omega)) _ | refine Below.setCell ?_ (by first | omega | (simp; done) | (simp; omega)) _ | assumption)))
      have K0_11 := Lib.hid (step_blk hb11 (show Blk _ (w3.heap.size) 45 #[.int .i64 ((n : Int)), .slice A k c] by repeat' (first | exact K0_10.out | exact K1_10.out | exact Blk.at_ _ (by first | rfl | (simp; done) | (simp; omega)) _ _ | refine Blk.drewN ?_ _ | refine Blk.drew ?_ | refine Blk.alloc ?_ _ | refine Blk.far ?_ (by first | omega | (simp; done) | (simp; omega)) _ | assumption)))
      have K1_11 := Lib.hid (step_blk hb11 (show Blk _ (w4.heap.size) 45 #[.int .i64 ((n : Int)), .slice A9 k c9] by repeat' (first | exact K0_10.out | exact K1_10.out | exact Blk.at_ _ (by first | rfl | (simp; done) | (simp; omega)) _ _ | refine Blk.drewN ?_ _ | refine Blk.drew ?_ | refine Blk.alloc ?_ _ | refine Blk.far ?_ (by first | omega | (simp; done) | (simp; omega)) _ | assumption)))
      have hL11 := Lib.hid (show Below w10.heap.size w10 _ from reads_mid hb11 (by repeat' (first | exact Below.refl _ _ | refine below_drewN ?_ _ | refine Below.drew ?_ | refine Below.alloc ?_ (by first | omega | (simp; done) | (simp; omega) | (simp [World.setCell]; omega)) _ | refine Below.setCell ?_ (by first | omega | (simp; done) | (simp; omega)) _)))
      have R2_11 := Lib.hid (reads_lay hb11 hL11.out R2_10.out)
      have R3_11 := Lib.hid (reads_lay hb11 hL11.out R3_10.out)
      clear hL11 R2_10 R3_10
      have hz11 := hb11.size
      try simp only [World.size_alloc, World.drewN, World.drew] at hz11
      clear hb11 K0_10 K1_10 z0_0_10 z0_1_10 l0_10 z1_0_10 z1_1_10 l1_10
      have l0_11 : w3.heap.size < w11.heap.size := K0_11.out.lt
      have z0_0_11 : w11.cell? ⟨w3.heap.size, 0, none⟩ = some (.int .i64 ((n : Int))) := K0_11.out.cell 0
      have z0_1_11 : w11.cell? ⟨w3.heap.size, 1, none⟩ = some (.slice A k c) := K0_11.out.cell 1
      have l1_11 : w4.heap.size < w11.heap.size := K1_11.out.lt
      have z1_0_11 : w11.cell? ⟨w4.heap.size, 0, none⟩ = some (.int .i64 ((n : Int))) := K1_11.out.cell 0
      have z1_1_11 : w11.cell? ⟨w4.heap.size, 1, none⟩ = some (.slice A9 k c9) := K1_11.out.cell 1
      go_wp2
      have RA := R2_11
      have RB := R3_11
      have KA := K0_11
      obtain ⟨s, hs'⟩ : ∃ s, n / k = s := ⟨_, rfl⟩
      rw [hs'] at hd
      have hsq : (n : Int).tdiv k = (s : Int) := by rw [Int.tdiv_eq_ediv_of_nonneg (by omega)]; rw [← hs']; exact (Int.natCast_ediv n k).symm
      have hsb : s ≤ 24 := by rw [← hs']; exact Nat.le_trans (Nat.div_le_self _ _) hn.2
      have hsw := IntWalk.i64_in (s : Int) ⟨by omega, by omega⟩
      have hzs0 : zn * s ≤ n := by rw [← hd]; exact Nat.mul_le_mul_right s (by omega)
      obtain ⟨zs, hzs⟩ : ∃ zs, zn * s = zs := ⟨_, rfl⟩
      rw [hzs] at hzs0
      have hzi : (zn : Int) * (s : Int) = (zs : Int) := by rw [← hzs]; exact (Int.natCast_mul zn s).symm
      have fz : IntKind.i64.wrap ((zn : Int) * (s : Int)) = (zs : Int) := by rw [hzi]; exact IntWalk.i64_in _ ⟨by omega, by omega⟩
      have hk00 : ¬ k = 0 := by omega
      have HSS := Lib.hid hs'
      have HZS := Lib.hid hzs
      clear R2_11 R3_11
      clear hs' hzs hzi hd
      go_loopw [18] (fun x wr => ∃ i : Nat, i ≤ n ∧ x = .int .i64 i ∧ Below w11.heap.size w11 wr) (fun x _ => n - (intOf x).toNat)
      case atStart => exact ⟨0, by omega, rfl, Below.refl _ _⟩
      case round =>
        obtain ⟨i, hi, rfl, hbk⟩ := hrel
        obtain ⟨w12, hnm⟩ : ∃ z : World, z = wr := ⟨_, rfl⟩
        subst hnm
        have HBK := Lib.hid hbk
        have hb' := HB11.out.trans (hbk.mono HB11.out.size)
        have hra := (RA.out.below hbk).more hbk.size
        have hrb := (RB.out.below hbk).more hbk.size
        have ka := Blk.below KA.out hbk KA.out.lt
        clear hbk
        have HB12 := Lib.hid hb'
        have K0_12 := Lib.hid (show Blk w12 (w3.heap.size) 45 #[.int .i64 ((n : Int)), .slice A k c] from ka)
        clear hb' ka
        have l0_12 : w3.heap.size < w12.heap.size := K0_12.out.lt
        have z0_0_12 : w12.cell? ⟨w3.heap.size, 0, none⟩ = some (.int .i64 ((n : Int))) := K0_12.out.cell 0
        have z0_1_12 : w12.cell? ⟨w3.heap.size, 1, none⟩ = some (.slice A k c) := K0_12.out.cell 1
        by_cases hlt2 : i < n
        rotate_left
        · obtain rfl : n = i := by omega
          go_wp2
          go_ret
          exact ⟨rfl, by repeat' (first | exact Below.refl _ _ | exact HB12.out | refine below_drewN ?_ _ | refine Below.drew ?_ | refine Below.alloc ?_ (by first | omega | (simp; done) | (simp; omega) | (simp [World.setCell]; omega)) _ | refine Below.setCell ?_ (by first | omega | (simp; done) | (simp; omega)) _ | assumption)⟩
        have hii : (i : Int) < (n : Int) := by omega
        have ei := IntWalk.i64_in ((i : Int) + 1) ⟨by omega, by omega⟩
        obtain ⟨jv, hjv⟩ : ∃ jv, (i + n - zs) % n = jv := ⟨_, rfl⟩
        have hjn : jv < n := by rw [← hjv]; exact Nat.mod_lt _ (by omega)
        obtain ⟨x2, hx2⟩ : ∃ x2 : Int, (i : Int) - (zs : Int) = x2 := ⟨_, rfl⟩
        have f2 : IntKind.i64.wrap ((i : Int) - (zs : Int)) = x2 := by rw [hx2]; exact IntWalk.i64_in x2 ⟨by omega, by omega⟩
        have hmd : ∀ w', Calls Try.prog 15 #[.int .i64 x2, .int .i64 n] w' fun e w'' => e = .returned (.int .i64 jv) ∧ w' = w'' := fun w' => by
          have := mod5_any x2 n w' (by omega) (by omega) (by omega) (by omega)
          have e : x2 % (n : Int) = (jv : Int) := by
            rw [← hjv, ← hx2, ← Int.add_emod_right]
            rw [show (i : Int) - zs + n = ((i + n - zs : Nat) : Int) by omega]
            exact (Int.natCast_emod _ _).symm
          rwa [e] at this
        have HMOD := Lib.hid hmd
        obtain ⟨ab, ao, ⟨p, q⟩, hA, hab, hai, ca0, ca1⟩ := hra.pair hjn
        obtain ⟨bb, bo, ⟨p2, q2⟩, hB, hbb, hbi, cb0, cb1⟩ := hrb.pair hlt2
        subst hA
        subst hB
        simp only at ca0 ca1 cb0 cb1
        have hsame : (p2, q2) = (p, q) := by
          unfold mirL at hai hbi
          rw [parL_get _ _ hjn] at hai
          rw [parL_get _ _ hlt2, HMIR.out i, HSS.out, HZS.out, hjv] at hbi
          rw [HSS.out] at hai
          exact (Option.some.inj hbi).symm.trans (Option.some.inj hai)
        obtain ⟨rfl, rfl⟩ : p2 = p ∧ q2 = q := by simpa using hsame
        clear hsame hai hbi hjv hx2 hmd hra hrb
        go_wp2_with fail
        refine Fx.regionW (fun W f w' => Below W.heap.size W w') (by kernel_rfl) (by kernel_rfl) ?_ ?_
        · intro f hf0
          exact below_drewN (Below.refl _ _) 1
        repeat (first
          | (refine Fx.skip_ (by rfl) (fun f w h => h) ?_; simp only [Act.put, List.setIfInBounds_toArray, List.set_cons_zero, List.set_cons_succ])
          | (refine Fx.val_ ?_ (by rfl) ?_ (fun f w h => h) ?_
             rotate_left
             · intro f w' hD hk
               have hb := hD
               have kb0 := step_blk hb (show Blk _ (w3.heap.size) 45 #[.int .i64 ((n : Int)), .slice A k c] by repeat' (first | exact K0_12.out | exact Blk.at_ _ (by first | rfl | (simp; done) | (simp; omega)) _ _ | refine Blk.drewN ?_ _ | refine Blk.drew ?_ | refine Blk.alloc ?_ _ | refine Blk.far ?_ (by first | omega | (simp; done) | (simp; omega)) _ | assumption))
               have y0_0 : w'.cell? ⟨w3.heap.size, 0, none⟩ = some (.int .i64 ((n : Int))) := kb0.cell 0
               have y0_1 : w'.cell? ⟨w3.heap.size, 1, none⟩ = some (.slice A k c) := kb0.cell 1
               have q0 := (hb.cell (p := ⟨ab, _, none⟩) hab).trans ca0
               have q1 := (hb.cell (p := ⟨ab, _, none⟩) hab).trans ca1
               have q2' := (hb.cell (p := ⟨bb, _, none⟩) hbb).trans cb0
               have q3 := (hb.cell (p := ⟨bb, _, none⟩) hbb).trans cb1
               clear kb0
               clear hk hD hb
               go_simp
               try rfl
             simp only [Act.put, List.setIfInBounds_toArray, List.set_cons_zero, List.set_cons_succ]))
        refine Fx.call_ (.int .i64 (jv : Int)) ?_ ?_ (by rfl) ?_ ?_ ?_
        rotate_left 2
        · intro w'
          go_simp
          refine ⟨?_, ?_⟩ <;> rfl
        · intro f w' hD hk
          exact (HMOD.out w').mono fun e w'' ⟨he, hw⟩ => ⟨he, hw ▸ hD⟩
        simp only [Act.put, List.setIfInBounds_toArray, List.set_cons_zero, List.set_cons_succ]
        repeat (first
          | (refine Fx.skip_ (by rfl) (fun f w h => h) ?_; simp only [Act.put, List.setIfInBounds_toArray, List.set_cons_zero, List.set_cons_succ])
          | (refine Fx.val_ ?_ (by rfl) ?_ (fun f w h => h) ?_
             rotate_left
             · intro f w' hD hk
               have hb := hD
               have kb0 := step_blk hb (show Blk _ (w3.heap.size) 45 #[.int .i64 ((n : Int)), .slice A k c] by repeat' (first | exact K0_12.out | exact Blk.at_ _ (by first | rfl | (simp; done) | (simp; omega)) _ _ | refine Blk.drewN ?_ _ | refine Blk.drew ?_ | refine Blk.alloc ?_ _ | refine Blk.far ?_ (by first | omega | (simp; done) | (simp; omega)) _ | assumption))
               have y0_0 : w'.cell? ⟨w3.heap.size, 0, none⟩ = some (.int .i64 ((n : Int))) := kb0.cell 0
               have y0_1 : w'.cell? ⟨w3.heap.size, 1, none⟩ = some (.slice A k c) := kb0.cell 1
               have q0 := (hb.cell (p := ⟨ab, _, none⟩) hab).trans ca0
               have q1 := (hb.cell (p := ⟨ab, _, none⟩) hab).trans ca1
               have q2' := (hb.cell (p := ⟨bb, _, none⟩) hbb).trans cb0
               have q3 := (hb.cell (p := ⟨bb, _, none⟩) hbb).trans cb1
               clear kb0
               clear hk hD hb
               go_simp
               try rfl
             simp only [Act.put, List.setIfInBounds_toArray, List.set_cons_zero, List.set_cons_succ]))
        refine Fx.nil_ ?_
        intro f w13 hall hb
        try clear hall
        have HB1213 := Lib.hid hb
        have HB13 := Lib.hid (show Below w.heap.size w w13 from step_below hb (by repeat' (first | exact Below.refl _ _ | exact HB12.out | refine below_drewN ?_ _ | refine Below.drew ?_ | refine Below.alloc ?_ (by first | omega | (simp; done) | (simp; omega) | (simp [World.setCell]; omega)) _ | refine Below.setCell ?_ (by first | omega | (simp; done) | (simp; omega)) _ | assumption)))
        have K0_13 := Lib.hid (step_blk hb (show Blk _ (w3.heap.size) 45 #[.int .i64 ((n : Int)), .slice A k c] by repeat' (first | exact K0_12.out | exact Blk.at_ _ (by first | rfl | (simp; done) | (simp; omega)) _ _ | refine Blk.drewN ?_ _ | refine Blk.drew ?_ | refine Blk.alloc ?_ _ | refine Blk.far ?_ (by first | omega | (simp; done) | (simp; omega)) _ | assumption)))
        have hz13 := hb.size
        try simp only [World.size_alloc, World.drewN, World.drew] at hz13
        clear hb K0_12 z0_0_12 z0_1_12 l0_12
        have l0_13 : w3.heap.size < w13.heap.size := K0_13.out.lt
        have z0_0_13 : w13.cell? ⟨w3.heap.size, 0, none⟩ = some (.int .i64 ((n : Int))) := K0_13.out.cell 0
        have z0_1_13 : w13.cell? ⟨w3.heap.size, 1, none⟩ = some (.slice A k c) := K0_13.out.cell 1
        have HBB := Lib.hid (HBK.out.trans (HB1213.out.mono HBK.out.size))
        go_wp2
        go_roundw
        case rel => exact ⟨i + 1, by omega, by go_num, HBB.out⟩
        case measure => simp [intOf]; omega
    have hak : (a : Int) < (k : Int) := by omega
    have hk0 : ¬ k = 0 := by omega
    have hk1 : ((k : Int) == 0) = false := by simp; omega
    have ea := IntWalk.i64_in ((a : Int) + 1) ⟨by omega, by omega⟩
    obtain ⟨jv, hjv⟩ : ∃ jv, (a + zn) % k = jv := ⟨_, rfl⟩
    have hjk : jv < k := by rw [← hjv]; exact Nat.mod_lt _ (by omega)
    obtain ⟨x1, hx1⟩ : ∃ x1 : Int, (a : Int) + (zn : Int) = x1 := ⟨_, rfl⟩
    have f1 : IntKind.i64.wrap ((a : Int) + (zn : Int)) = x1 := by rw [hx1]; exact IntWalk.i64_in x1 ⟨by omega, by omega⟩
    have f2 : x1.tmod (k : Int) = (jv : Int) := by
      rw [Int.tmod_eq_emod_of_nonneg (by omega), ← hjv, ← hx1]
      exact_mod_cast (Int.natCast_emod (a + zn) k).symm
    have f3 := IntWalk.i64_in (jv : Int) ⟨by omega, by omega⟩
    obtain ⟨ab, ao, ⟨Ar, nr, cr, xr⟩, hAe, hab, hr, c0, hrc, -, -⟩ := HRT.out.at_ hjk
    subst hAe
    simp only at c0 hrc
    rw [← hjv] at hr
    have HSC := Lib.hid (turnT_succ (z := zn) hr)
    have hneT : v.ownBlock ≠ some w4.heap.size := fun e => by have := (own_lt HO.out e).1; omega
    have hvn : ∀ q, v.ownBlock = some q → w4.heap.size ≤ q := fun q hq => by have := (own_lt HO.out hq).1; omega
    have hs46 : w4.heap.size ≤ w6.heap.size := by omega
    clear hjv hx1 hr
    go_wp2_with fail
    have hownS := HO.out
    have hblkS := HKL.out
    have hneS := hneT
    refine Fx.regionM (fun W g f w' => As (w5.heap.size) 22 1 (v) (a) ((turnT t zn k a).map TRow.val) [.slice Ar nr cr] 11 12 14 (w4.heap.size) 45 #[.int .i64 ((n : Int)), v] 1 W g f w') (fun i (x : Pick) => if i = 11 then .slice x.1 1 1 else .slice x.1 (a + 1) x.2) (by kernel_rfl) ?_ ?_
    · intro f hf0
      exact As.start hownS hblkS hneS (hf0 14) 1
    first
    | (refine Fx.WM.skip 0 (by rfl) (by kernel_rfl) (by kernel_rfl) (by kernel_rfl) (by rfl) (fun g f w h => As.same h (by decide)) ?_; simp only [Act.put, List.setIfInBounds_toArray, List.set_cons_zero, List.set_cons_succ])
    | (refine Fx.WM.val_ 0 ?_ (by rfl) (by kernel_rfl) (by kernel_rfl) (by kernel_rfl) (by rfl) ?_ (fun g f w h => As.same h (by decide)) ?_
       rotate_left
       · intro g f w' hx hD hk
         obtain has := id hD
         have hbq := has.below (N := w4.heap.size) hvn (Nat.le_refl _) hs46
         have y1 : w'.cell? ⟨w3.heap.size, 1, none⟩ = some (.slice (some ⟨ab, ao, none⟩) k c) := (hbq.cell (p := ⟨w3.heap.size, 1, none⟩) hsz4').trans (HKM.out.cell 1)
         have y2 : w'.cell? ⟨ab, ao + jv, none⟩ = some (.slice Ar nr cr) := (hbq.cell (p := ⟨ab, ao + jv, none⟩) hab).trans c0
         clear hx hk hD has
         go_simp
         try rfl
       simp only [Act.put, List.setIfInBounds_toArray, List.set_cons_zero, List.set_cons_succ])
    first
    | (refine Fx.WM.skip 1 (by rfl) (by kernel_rfl) (by kernel_rfl) (by kernel_rfl) (by rfl) (fun g f w h => As.same h (by decide)) ?_; simp only [Act.put, List.setIfInBounds_toArray, List.set_cons_zero, List.set_cons_succ])
    | (refine Fx.WM.val_ 1 ?_ (by rfl) (by kernel_rfl) (by kernel_rfl) (by kernel_rfl) (by rfl) ?_ (fun g f w h => As.same h (by decide)) ?_
       rotate_left
       · intro g f w' hx hD hk
         obtain has := id hD
         have hst := (hk.un 14 12 (by kernel_rfl) (hk.2.1 12 (by kernel_rfl)))
         have qf := (has.cell hst 1).1
         have hbq := has.below (N := w4.heap.size) hvn (Nat.le_refl _) hs46
         have y1 : w'.cell? ⟨w3.heap.size, 1, none⟩ = some (.slice (some ⟨ab, ao, none⟩) k c) := (hbq.cell (p := ⟨w3.heap.size, 1, none⟩) hsz4').trans (HKM.out.cell 1)
         have y2 : w'.cell? ⟨ab, ao + jv, none⟩ = some (.slice Ar nr cr) := (hbq.cell (p := ⟨ab, ao + jv, none⟩) hab).trans c0
         clear hx hk hD has hst
         go_simp
         try rfl
       simp only [Act.put, List.setIfInBounds_toArray, List.set_cons_zero, List.set_cons_succ])
    first
    | (refine Fx.WM.skip 2 (by rfl) (by kernel_rfl) (by kernel_rfl) (by kernel_rfl) (by rfl) (fun g f w h => As.same h (by decide)) ?_; simp only [Act.put, List.setIfInBounds_toArray, List.set_cons_zero, List.set_cons_succ])
    | (refine Fx.WM.val_ 2 ?_ (by rfl) (by kernel_rfl) (by kernel_rfl) (by kernel_rfl) (by rfl) ?_ (fun g f w h => As.same h (by decide)) ?_
       rotate_left
       · intro g f w' hx hD hk
         obtain has := id hD
         have hbq := has.below (N := w4.heap.size) hvn (Nat.le_refl _) hs46
         have y1 : w'.cell? ⟨w3.heap.size, 1, none⟩ = some (.slice (some ⟨ab, ao, none⟩) k c) := (hbq.cell (p := ⟨w3.heap.size, 1, none⟩) hsz4').trans (HKM.out.cell 1)
         have y2 : w'.cell? ⟨ab, ao + jv, none⟩ = some (.slice Ar nr cr) := (hbq.cell (p := ⟨ab, ao + jv, none⟩) hab).trans c0
         clear hx hk hD has
         go_simp
         try rfl
       simp only [Act.put, List.setIfInBounds_toArray, List.set_cons_zero, List.set_cons_succ])
    first
    | (refine Fx.WM.skip 3 (by rfl) (by kernel_rfl) (by kernel_rfl) (by kernel_rfl) (by rfl) (fun g f w h => As.same h (by decide)) ?_; simp only [Act.put, List.setIfInBounds_toArray, List.set_cons_zero, List.set_cons_succ])
    | (refine Fx.WM.val_ 3 ?_ (by rfl) (by kernel_rfl) (by kernel_rfl) (by kernel_rfl) (by rfl) ?_ (fun g f w h => As.same h (by decide)) ?_
       rotate_left
       · intro g f w' hx hD hk
         obtain has := id hD
         have hbq := has.below (N := w4.heap.size) hvn (Nat.le_refl _) hs46
         have y1 : w'.cell? ⟨w3.heap.size, 1, none⟩ = some (.slice (some ⟨ab, ao, none⟩) k c) := (hbq.cell (p := ⟨w3.heap.size, 1, none⟩) hsz4').trans (HKM.out.cell 1)
         have y2 : w'.cell? ⟨ab, ao + jv, none⟩ = some (.slice Ar nr cr) := (hbq.cell (p := ⟨ab, ao + jv, none⟩) hab).trans c0
         clear hx hk hD has
         go_simp
         try rfl
       simp only [Act.put, List.setIfInBounds_toArray, List.set_cons_zero, List.set_cons_succ])
    first
    | (refine Fx.WM.skip 4 (by rfl) (by kernel_rfl) (by kernel_rfl) (by kernel_rfl) (by rfl) (fun g f w h => As.same h (by decide)) ?_; simp only [Act.put, List.setIfInBounds_toArray, List.set_cons_zero, List.set_cons_succ])
    | (refine Fx.WM.val_ 4 ?_ (by rfl) (by kernel_rfl) (by kernel_rfl) (by kernel_rfl) (by rfl) ?_ (fun g f w h => As.same h (by decide)) ?_
       rotate_left
       · intro g f w' hx hD hk
         obtain has := id hD
         have hbq := has.below (N := w4.heap.size) hvn (Nat.le_refl _) hs46
         have y1 : w'.cell? ⟨w3.heap.size, 1, none⟩ = some (.slice (some ⟨ab, ao, none⟩) k c) := (hbq.cell (p := ⟨w3.heap.size, 1, none⟩) hsz4').trans (HKM.out.cell 1)
         have y2 : w'.cell? ⟨ab, ao + jv, none⟩ = some (.slice Ar nr cr) := (hbq.cell (p := ⟨ab, ao + jv, none⟩) hab).trans c0
         clear hx hk hD has
         go_simp
         try rfl
       simp only [Act.put, List.setIfInBounds_toArray, List.set_cons_zero, List.set_cons_succ])
    first
    | (refine Fx.WM.skip 5 (by rfl) (by kernel_rfl) (by kernel_rfl) (by kernel_rfl) (by rfl) (fun g f w h => As.same h (by decide)) ?_; simp only [Act.put, List.setIfInBounds_toArray, List.set_cons_zero, List.set_cons_succ])
    | (refine Fx.WM.val_ 5 ?_ (by rfl) (by kernel_rfl) (by kernel_rfl) (by kernel_rfl) (by rfl) ?_ (fun g f w h => As.same h (by decide)) ?_
       rotate_left
       · intro g f w' hx hD hk
         obtain has := id hD
         have hbq := has.below (N := w4.heap.size) hvn (Nat.le_refl _) hs46
         have y1 : w'.cell? ⟨w3.heap.size, 1, none⟩ = some (.slice (some ⟨ab, ao, none⟩) k c) := (hbq.cell (p := ⟨w3.heap.size, 1, none⟩) hsz4').trans (HKM.out.cell 1)
         have y2 : w'.cell? ⟨ab, ao + jv, none⟩ = some (.slice Ar nr cr) := (hbq.cell (p := ⟨ab, ao + jv, none⟩) hab).trans c0
         clear hx hk hD has
         go_simp
         try rfl
       simp only [Act.put, List.setIfInBounds_toArray, List.set_cons_zero, List.set_cons_succ])
    first
    | (refine Fx.WM.skip 6 (by rfl) (by kernel_rfl) (by kernel_rfl) (by kernel_rfl) (by rfl) (fun g f w h => As.same h (by decide)) ?_; simp only [Act.put, List.setIfInBounds_toArray, List.set_cons_zero, List.set_cons_succ])
    | (refine Fx.WM.val_ 6 ?_ (by rfl) (by kernel_rfl) (by kernel_rfl) (by kernel_rfl) (by rfl) ?_ (fun g f w h => As.same h (by decide)) ?_
       rotate_left
       · intro g f w' hx hD hk
         obtain has := id hD
         have hbq := has.below (N := w4.heap.size) hvn (Nat.le_refl _) hs46
         have y1 : w'.cell? ⟨w3.heap.size, 1, none⟩ = some (.slice (some ⟨ab, ao, none⟩) k c) := (hbq.cell (p := ⟨w3.heap.size, 1, none⟩) hsz4').trans (HKM.out.cell 1)
         have y2 : w'.cell? ⟨ab, ao + jv, none⟩ = some (.slice Ar nr cr) := (hbq.cell (p := ⟨ab, ao + jv, none⟩) hab).trans c0
         clear hx hk hD has
         go_simp
         try rfl
       simp only [Act.put, List.setIfInBounds_toArray, List.set_cons_zero, List.set_cons_succ])
    first
    | (refine Fx.WM.skip 7 (by rfl) (by kernel_rfl) (by kernel_rfl) (by kernel_rfl) (by rfl) (fun g f w h => As.same h (by decide)) ?_; simp only [Act.put, List.setIfInBounds_toArray, List.set_cons_zero, List.set_cons_succ])
    | (refine Fx.WM.val_ 7 ?_ (by rfl) (by kernel_rfl) (by kernel_rfl) (by kernel_rfl) (by rfl) ?_ (fun g f w h => As.same h (by decide)) ?_
       rotate_left
       · intro g f w' hx hD hk
         obtain has := id hD
         have hbq := has.below (N := w4.heap.size) hvn (Nat.le_refl _) hs46
         have y1 : w'.cell? ⟨w3.heap.size, 1, none⟩ = some (.slice (some ⟨ab, ao, none⟩) k c) := (hbq.cell (p := ⟨w3.heap.size, 1, none⟩) hsz4').trans (HKM.out.cell 1)
         have y2 : w'.cell? ⟨ab, ao + jv, none⟩ = some (.slice Ar nr cr) := (hbq.cell (p := ⟨ab, ao + jv, none⟩) hab).trans c0
         clear hx hk hD has
         go_simp
         try rfl
       simp only [Act.put, List.setIfInBounds_toArray, List.set_cons_zero, List.set_cons_succ])
    first
    | (refine Fx.WM.skip 8 (by rfl) (by kernel_rfl) (by kernel_rfl) (by kernel_rfl) (by rfl) (fun g f w h => As.same h (by decide)) ?_; simp only [Act.put, List.setIfInBounds_toArray, List.set_cons_zero, List.set_cons_succ])
    | (refine Fx.WM.val_ 8 ?_ (by rfl) (by kernel_rfl) (by kernel_rfl) (by kernel_rfl) (by rfl) ?_ (fun g f w h => As.same h (by decide)) ?_
       rotate_left
       · intro g f w' hx hD hk
         obtain has := id hD
         have hbq := has.below (N := w4.heap.size) hvn (Nat.le_refl _) hs46
         have y1 : w'.cell? ⟨w3.heap.size, 1, none⟩ = some (.slice (some ⟨ab, ao, none⟩) k c) := (hbq.cell (p := ⟨w3.heap.size, 1, none⟩) hsz4').trans (HKM.out.cell 1)
         have y2 : w'.cell? ⟨ab, ao + jv, none⟩ = some (.slice Ar nr cr) := (hbq.cell (p := ⟨ab, ao + jv, none⟩) hab).trans c0
         clear hx hk hD has
         go_simp
         try rfl
       simp only [Act.put, List.setIfInBounds_toArray, List.set_cons_zero, List.set_cons_succ])
    first
    | (refine Fx.WM.skip 9 (by rfl) (by kernel_rfl) (by kernel_rfl) (by kernel_rfl) (by rfl) (fun g f w h => As.same h (by decide)) ?_; simp only [Act.put, List.setIfInBounds_toArray, List.set_cons_zero, List.set_cons_succ])
    | (refine Fx.WM.val_ 9 ?_ (by rfl) (by kernel_rfl) (by kernel_rfl) (by kernel_rfl) (by rfl) ?_ (fun g f w h => As.same h (by decide)) ?_
       rotate_left
       · intro g f w' hx hD hk
         obtain has := id hD
         have hbq := has.below (N := w4.heap.size) hvn (Nat.le_refl _) hs46
         have y1 : w'.cell? ⟨w3.heap.size, 1, none⟩ = some (.slice (some ⟨ab, ao, none⟩) k c) := (hbq.cell (p := ⟨w3.heap.size, 1, none⟩) hsz4').trans (HKM.out.cell 1)
         have y2 : w'.cell? ⟨ab, ao + jv, none⟩ = some (.slice Ar nr cr) := (hbq.cell (p := ⟨ab, ao + jv, none⟩) hab).trans c0
         clear hx hk hD has
         go_simp
         try rfl
       simp only [Act.put, List.setIfInBounds_toArray, List.set_cons_zero, List.set_cons_succ])
    first
    | (refine Fx.WM.skip 10 (by rfl) (by kernel_rfl) (by kernel_rfl) (by kernel_rfl) (by rfl) (fun g f w h => As.same h (by decide)) ?_; simp only [Act.put, List.setIfInBounds_toArray, List.set_cons_zero, List.set_cons_succ])
    | (refine Fx.WM.val_ 10 ?_ (by rfl) (by kernel_rfl) (by kernel_rfl) (by kernel_rfl) (by rfl) ?_ (fun g f w h => As.same h (by decide)) ?_
       rotate_left
       · intro g f w' hx hD hk
         obtain has := id hD
         have hbq := has.below (N := w4.heap.size) hvn (Nat.le_refl _) hs46
         have y1 : w'.cell? ⟨w3.heap.size, 1, none⟩ = some (.slice (some ⟨ab, ao, none⟩) k c) := (hbq.cell (p := ⟨w3.heap.size, 1, none⟩) hsz4').trans (HKM.out.cell 1)
         have y2 : w'.cell? ⟨ab, ao + jv, none⟩ = some (.slice Ar nr cr) := (hbq.cell (p := ⟨ab, ao + jv, none⟩) hab).trans c0
         clear hx hk hD has
         go_simp
         try rfl
       simp only [Act.put, List.setIfInBounds_toArray, List.set_cons_zero, List.set_cons_succ])
    refine Fx.WM.choose 11 (by rfl) (by kernel_rfl) (by rfl) ?_ ?_
    · skip
      refine Fx.Chooses.make (by rfl) ?_
      intro f w' hD hk
      refine ⟨(some ⟨w'.heap.size, 0, none⟩, 0), w'.alloc (.cells #[.slice Ar nr cr] 22), ?_, ?_⟩
      · clear hk hD
        go_simp
        try rfl
      · exact As.mk_lit hD (by decide) (by decide)
    intro x
    simp only [Act.put, List.setIfInBounds_toArray, List.set_cons_zero, List.set_cons_succ]
    refine Fx.WM.choose 12 (by rfl) (by kernel_rfl) (by rfl) ?_ ?_
    · skip
      refine Fx.Chooses.make (by rfl) ?_
      intro f w' hD hk
      obtain ⟨y', w2', hrun, hD2⟩ := As.app (P := Try.prog) (c := 1) hD Try.underlying43 info_ints rfl (by omega) (by simp [Value.oneCell']) rfl (hw6) (by unfold maxLen; omega) (by omega) (x := x) (by rfl) (by rfl) (by decide) (by decide) (hk.2.1 14 (by kernel_rfl))
      exact ⟨y', w2', exec_append _ _ _ rfl hrun, hD2⟩
    intro y
    simp only [Act.put, List.setIfInBounds_toArray, List.set_cons_zero, List.set_cons_succ]
    first
    | (refine Fx.WM.skip 13 (by rfl) (by kernel_rfl) (by kernel_rfl) (by kernel_rfl) (by rfl) (fun g f w h => As.same h (by decide)) ?_; simp only [Act.put, List.setIfInBounds_toArray, List.set_cons_zero, List.set_cons_succ])
    | (refine Fx.WM.val_ 13 ?_ (by rfl) (by kernel_rfl) (by kernel_rfl) (by kernel_rfl) (by rfl) ?_ (fun g f w h => As.same h (by decide)) ?_
       rotate_left
       · intro g f w' hx hD hk
         obtain has := id hD
         have hbq := has.below (N := w4.heap.size) hvn (Nat.le_refl _) hs46
         have y1 : w'.cell? ⟨w3.heap.size, 1, none⟩ = some (.slice (some ⟨ab, ao, none⟩) k c) := (hbq.cell (p := ⟨w3.heap.size, 1, none⟩) hsz4').trans (HKM.out.cell 1)
         have y2 : w'.cell? ⟨ab, ao + jv, none⟩ = some (.slice Ar nr cr) := (hbq.cell (p := ⟨ab, ao + jv, none⟩) hab).trans c0
         clear hx hk hD has
         go_simp
         try rfl
       simp only [Act.put, List.setIfInBounds_toArray, List.set_cons_zero, List.set_cons_succ])
    refine Fx.WM.eff 14 undef (by rfl) (by kernel_rfl) (by kernel_rfl) (by kernel_rfl) (by rfl) ?_ ?_
    · intro g f w' hx hD hk
      have hst : f 14 = false := hk.1
      obtain ⟨qf, pf⟩ := As.cell hD hst 1
      refine Fx.gives_skip (w' := (w'.setCell ⟨w4.heap.size, 1, none⟩ (.slice y.1 (a + 1) y.2))) ?_ ?_
      · clear hx hk hD hst
        go_simp
        try rfl
      · exact As.store hD (hx 12 _ (by rfl)) hk.1
    simp only [Act.put, List.setIfInBounds_toArray, List.set_cons_zero, List.set_cons_succ]
    refine Fx.WM.nil (by kernel_rfl) ?_
    intro w7 has
    obtain ⟨hoA, hfb⟩ := As.ends has (y := y) (by rfl) (by rfl)
    have ht7 : Tch (fun q => q = w4.heap.size) w5 w7 := HTC.out.then_ (Y := fun q => q = w4.heap.size ∨ v.ownBlock = some q) ⟨has.os, has.tape, has.output, has.size, fun i hi hx => has.keep i hi (fun e => hx (.inr e)) (fun e => hx (.inl e))⟩ fun i hi hx => by
      rcases hx with h | h
      · exact h
      · have := (own_lt HO.out h).1; omega
    have hk7 : Blk w7 w4.heap.size 45 #[.int .i64 n, .slice y.1 (a + 1) y.2] := by simpa using hfb
    have HT7 := Lib.hid ht7
    have HK7 := Lib.hid hk7
    have HO7 := Lib.hid (show w7.ownsRow w5.heap.size 22 1 (.slice y.1 (a + 1) y.2) (a + 1) ((turnT t zn k (a + 1)).map TRow.val) by rw [HSC.out, List.map_append]; exact hoA)
    clear has hoA hfb ht7 hk7 hvn hneT
    go_wp2
    go_roundw
    case rel => exact ⟨_, a + 1, by omega, by go_num, HT7.out, HK7.out, HO7.out⟩
    case measure => simp [intOf]; omega
end Go.Proofs.Ytcggceincmljdaa

end
