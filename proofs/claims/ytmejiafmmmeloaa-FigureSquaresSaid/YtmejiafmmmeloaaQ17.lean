import Derived.Test.YtmejiafmmmeloaaQ15
import Derived.Test.YtmejiafmmmeloaaQ16

section
/- The contract of the check of a map. -/
namespace Go.Proofs.Ytmejiafmmmeloaa
open Go Go.RowKit

def zoneB (hs qs ws : List Int) (i : Nat) : Bool := hgtB (hs.getD i 0) && (withinB (qs.getD i 0) 0 1000 && withinB (ws.getD i 0) 0 1000)
/-- The error of a map. -/
def mapErr (hs qs ws : List Int) : Int := if hs.length < 1 ∨ 40 < hs.length ∨ qs.length ≠ hs.length ∨ ws.length ≠ hs.length then 10 else if (List.range hs.length).all (zoneB hs qs ws) then (if ws.all (fun z => decide (z = 0)) then 11 else 0) else 2
theorem map_shape {hs qs ws : List Int} (h : hs.length < 1 ∨ 40 < hs.length ∨ qs.length ≠ hs.length ∨ ws.length ≠ hs.length) : mapErr hs qs ws = 10 := by unfold mapErr; rw [if_pos h]
theorem map_bad {hs qs ws : List Int} (h : ¬ (hs.length < 1 ∨ 40 < hs.length ∨ qs.length ≠ hs.length ∨ ws.length ≠ hs.length)) {k : Nat} (hk : k < hs.length) (hz : zoneB hs qs ws k = false) : mapErr hs qs ws = 2 := by
  unfold mapErr
  rw [if_neg h, if_neg]
  intro ha
  have := List.all_eq_true.1 ha k (List.mem_range.2 hk)
  rw [hz] at this
  cases this
theorem map_all {hs qs ws : List Int} (h : ¬ (hs.length < 1 ∨ 40 < hs.length ∨ qs.length ≠ hs.length ∨ ws.length ≠ hs.length)) (hz : ∀ k, k < hs.length → zoneB hs qs ws k = true) : mapErr hs qs ws = if ws.all (fun z => decide (z = 0)) then 11 else 0 := by
  unfold mapErr
  rw [if_neg h, if_pos (List.all_eq_true.2 fun k hk => hz k (List.mem_range.1 hk))]

set_option maxRecDepth 100000 in
set_option maxHeartbeats 4000000 in
theorem checkmap_is (A1 : Option Addr) (n1 c1 : Nat) (hs : List Int) (A2 : Option Addr) (n2 c2 : Nat) (qs : List Int) (A3 : Option Addr) (n3 c3 : Nat) (ws : List Int) (E : Int) (hE : mapErr hs qs ws = E) (w : World)
    (r1 : Reads w w.heap.size 1 A1 n1 (hs.map (.int .i64))) (r2 : Reads w w.heap.size 1 A2 n2 (qs.map (.int .i64))) (r3 : Reads w w.heap.size 1 A3 n3 (ws.map (.int .i64))) (hc1 : n1 ≤ 9223372036854775807) (hc2 : n2 ≤ 9223372036854775807) (hc3 : n3 ≤ 9223372036854775807) :
    Calls Try.prog 24 #[.agg #[.slice A1 n1 c1, .slice A2 n2 c2, .slice A3 n3 c3]] w fun e w' => e = .returned (.int .i64 E) ∧ Below w.heap.size w w' := by
  have l1 : hs.length = n1 := by have := r1.1; simpa using this
  have l2 : qs.length = n2 := by have := r2.1; simpa using this
  have l3 : ws.length = n3 := by have := r3.1; simpa using this
  have HE := Lib.hid hE
  have R1 := Lib.hid r1
  have R2 := Lib.hid r2
  have R3 := Lib.hid r3
  clear hE r1 r2 r3
  cases hz : withinB (n1 : Int) 1 40
  · have e : (10 : Int) = E := by rw [← HE.out, map_shape (by have := zones_no hz; omega)]
    have HEE := Lib.hid e
    have HZ := Lib.hid hz
    clear hz e l1 l2 l3
    go_enter Try.func24, Try.ntmps24
    go_wp2_with fail
    refine (iszones_is _ false HZ.out _).mono ?_
    rintro e w' ⟨rfl, rfl⟩
    go_wp2
    go_ret
    exact ⟨ret_int HEE.out, by repeat' (first | exact Below.refl _ _ | assumption | refine below_drewN ?_ _ | refine Below.drew ?_ | refine Below.alloc ?_ (by first | omega | (simp; done) | (simp; omega)) _ | refine Below.setCell ?_ (by first | omega | (simp; done) | (simp; omega)) _)⟩
  have hzy := zones_yes hz
  have HZ := Lib.hid hz
  by_cases h2 : n2 = n1
  rotate_left
  · have e : (10 : Int) = E := by rw [← HE.out, map_shape (by omega)]
    have HEE := Lib.hid e
    have hd : ((n2 : Int) != (n1 : Int)) = true := by simp; omega
    clear hz e l1 l2 l3 h2 hzy
    go_enter Try.func24, Try.ntmps24
    go_wp2_with fail
    refine (iszones_is _ true HZ.out _).mono ?_
    rintro e w' ⟨rfl, rfl⟩
    go_wp2
    go_ret
    exact ⟨ret_int HEE.out, by repeat' (first | exact Below.refl _ _ | assumption | refine below_drewN ?_ _ | refine Below.drew ?_ | refine Below.alloc ?_ (by first | omega | (simp; done) | (simp; omega)) _ | refine Below.setCell ?_ (by first | omega | (simp; done) | (simp; omega)) _)⟩
  by_cases h3 : n3 = n1
  rotate_left
  · have e : (10 : Int) = E := by rw [← HE.out, map_shape (by omega)]
    have HEE := Lib.hid e
    have hd : ((n2 : Int) != (n1 : Int)) = false := by simp; omega
    have hd3 : ((n3 : Int) != (n1 : Int)) = true := by simp; omega
    clear hz e l1 l2 l3 h2 h3 hzy
    go_enter Try.func24, Try.ntmps24
    go_wp2_with fail
    refine (iszones_is _ true HZ.out _).mono ?_
    rintro e w' ⟨rfl, rfl⟩
    go_wp2
    go_ret
    exact ⟨ret_int HEE.out, by repeat' (first | exact Below.refl _ _ | assumption | refine below_drewN ?_ _ | refine Below.drew ?_ | refine Below.alloc ?_ (by first | omega | (simp; done) | (simp; omega)) _ | refine Below.setCell ?_ (by first | omega | (simp; done) | (simp; omega)) _)⟩
  subst h2 h3
  have HSH : Hid (¬ (hs.length < 1 ∨ 40 < hs.length ∨ qs.length ≠ hs.length ∨ ws.length ≠ hs.length)) := by show ¬ _; rw [l1, l2, l3]; omega
  have hn40 : n3 ≤ 40 := by omega
  have hn1 : 1 ≤ n3 := by omega
  have HL := Lib.hid l1
  have HL3 := Lib.hid l3
  obtain ⟨b1, o1, z1, rfl, hb1, -, -⟩ := R1.out.int_ (show 0 < n3 by omega)
  obtain ⟨b2, o2, z2, rfl, hb2, -, -⟩ := R2.out.int_ (show 0 < n3 by omega)
  obtain ⟨b3, o3, z3, rfl, hb3, -, -⟩ := R3.out.int_ (show 0 < n3 by omega)
  clear hz hzy l1 l2 l3 hc1 hc2 hc3 z1 z2 z3
  go_enter Try.func24, Try.ntmps24
  go_wp2_with fail
  refine (iszones_is _ true HZ.out _).mono ?_
  rintro e w' ⟨rfl, rfl⟩
  go_wp2
  generalize hwn : (w.alloc (.cells #[.slice (some ⟨b1, o1, none⟩) n3 c1, .slice (some ⟨b2, o2, none⟩) n3 c2, .slice (some ⟨b3, o3, none⟩) n3 c3] 38)) = w1
  have hbn : Below w.heap.size w w1 := by rw [← hwn]; repeat' (first | exact Below.refl _ _ | refine below_drewN ?_ _ | refine Below.drew ?_ | refine Below.alloc ?_ (by first | omega | (simp; done) | (simp; omega) | (simp [World.setCell]; omega)) _ | refine Below.setCell ?_ (by first | omega | (simp; done) | (simp; omega)) _)
  have HB1 := Lib.hid (show Below w.heap.size w w1 from hbn)
  have K0_1 := Lib.hid (show Blk w1 (w.heap.size) 38 #[.slice (some ⟨b1, o1, none⟩) n3 c1, .slice (some ⟨b2, o2, none⟩) n3 c2, .slice (some ⟨b3, o3, none⟩) n3 c3] by rw [← hwn]; repeat' (first | exact Blk.at_ _ (by first | rfl | (simp; done) | (simp; omega)) _ _ | refine Blk.drewN ?_ _ | refine Blk.drew ?_ | refine Blk.alloc ?_ _ | refine Blk.far ?_ (by first | omega | (simp; done) | (simp; omega)) _ | assumption))
  have HN1 := Lib.hid hbn
  have hz1 := hbn.size
  clear hwn hbn
  have l0_1 : w.heap.size < w1.heap.size := K0_1.out.lt
  have z0_0_1 : w1.cell? ⟨w.heap.size, 0, none⟩ = some (.slice (some ⟨b1, o1, none⟩) n3 c1) := K0_1.out.cell 0
  have z0_1_1 : w1.cell? ⟨w.heap.size, 1, none⟩ = some (.slice (some ⟨b2, o2, none⟩) n3 c2) := K0_1.out.cell 1
  have z0_2_1 : w1.cell? ⟨w.heap.size, 2, none⟩ = some (.slice (some ⟨b3, o3, none⟩) n3 c3) := K0_1.out.cell 2
  have hs1 := HB1.out.size
  go_loopw [29] (fun i wr => ∃ k : Nat, k ≤ n3 ∧ i = .int .i64 k ∧ w1 = wr ∧ ∀ j, j < k → zoneB hs qs ws j = true) (fun i _ => n3 - (intOf i).toNat)
  case atStart => exact ⟨0, by omega, rfl, rfl, fun j hj => absurd hj (by omega)⟩
  case round =>
    obtain ⟨k, hk, rfl, rfl, hup⟩ := hrel
    have HUP := Lib.hid hup
    clear hup
    by_cases hlt : k < n3
    · obtain ⟨yb, yo, x1, hA, -, g1, d1⟩ := (R1.out.below HB1.out).int_ hlt
      obtain ⟨rfl, rfl⟩ : b1 = yb ∧ o1 = yo := by simpa using hA
      obtain ⟨yb, yo, x2, hA2, -, g2, d2⟩ := (R2.out.below HB1.out).int_ hlt
      obtain ⟨rfl, rfl⟩ : b2 = yb ∧ o2 = yo := by simpa using hA2
      obtain ⟨yb, yo, x3, hA3, -, g3, d3⟩ := (R3.out.below HB1.out).int_ hlt
      obtain ⟨rfl, rfl⟩ : b3 = yb ∧ o3 = yo := by simpa using hA3
      have hzo : zoneB hs qs ws k = (hgtB x1 && (withinB x2 0 1000 && withinB x3 0 1000)) := by
        unfold zoneB
        rw [getD_of g1, getD_of g2, getD_of g3]
      have hkk : (k : Int) < (n3 : Int) := by omega
      have HZO := Lib.hid hzo
      clear hA hA2 hA3 g1 g2 g3 hzo
      cases h1 : hgtB x1
      · have H1 := Lib.hid h1
        have HEE := Lib.hid ((map_bad HSH.out (by rw [HL.out]; exact hlt) (by rw [HZO.out, h1]; rfl)).symm.trans HE.out)
        clear h1
        go_wp2_with fail
        refine (withinfig_is _ _ _ false H1.out _).mono ?_
        rintro e w' ⟨rfl, rfl⟩
        go_wp2
        go_ret
        exact ⟨ret_int HEE.out, HB1.out⟩
      have H1 := Lib.hid h1
      cases h2 : withinB x2 0 1000
      · have H2 := Lib.hid h2
        have HEE := Lib.hid ((map_bad HSH.out (by rw [HL.out]; exact hlt) (by rw [HZO.out, h1, h2]; rfl)).symm.trans HE.out)
        clear h1 h2
        go_wp2_with fail
        refine (withinfig_is _ _ _ true H1.out _).mono ?_
        rintro e w' ⟨rfl, rfl⟩
        go_wp2_with fail
        refine (withinfig_is _ _ _ false H2.out _).mono ?_
        rintro e w' ⟨rfl, rfl⟩
        go_wp2
        go_ret
        exact ⟨ret_int HEE.out, HB1.out⟩
      have H2 := Lib.hid h2
      cases h3 : withinB x3 0 1000
      · have H3 := Lib.hid h3
        have HEE := Lib.hid ((map_bad HSH.out (by rw [HL.out]; exact hlt) (by rw [HZO.out, h1, h2, h3]; rfl)).symm.trans HE.out)
        clear h1 h2 h3
        go_wp2_with fail
        refine (withinfig_is _ _ _ true H1.out _).mono ?_
        rintro e w' ⟨rfl, rfl⟩
        go_wp2_with fail
        refine (withinfig_is _ _ _ true H2.out _).mono ?_
        rintro e w' ⟨rfl, rfl⟩
        go_wp2_with fail
        refine (withinfig_is _ _ _ false H3.out _).mono ?_
        rintro e w' ⟨rfl, rfl⟩
        go_wp2
        go_ret
        exact ⟨ret_int HEE.out, HB1.out⟩
      have H3 := Lib.hid h3
      have hok : zoneB hs qs ws k = true := by rw [HZO.out, h1, h2, h3]; rfl
      have HOK := Lib.hid hok
      clear h1 h2 h3 hok
      go_wp2_with fail
      refine (withinfig_is _ _ _ true H1.out _).mono ?_
      rintro e w' ⟨rfl, rfl⟩
      go_wp2_with fail
      refine (withinfig_is _ _ _ true H2.out _).mono ?_
      rintro e w' ⟨rfl, rfl⟩
      go_wp2_with fail
      refine (withinfig_is _ _ _ true H3.out _).mono ?_
      rintro e w' ⟨rfl, rfl⟩
      go_wp2
      go_roundw
      case rel => exact ⟨k + 1, by omega, by go_num, trivial, fun j hj => by
        rcases Nat.lt_or_ge j k with h | h
        · exact HUP.out j h
        · obtain rfl : j = k := by omega
          exact HOK.out⟩
      case measure => simp [intOf]; omega
    · obtain rfl : k = n3 := by omega
      have hall := map_all HSH.out (fun j hj => HUP.out j (by rw [HL.out] at hj; exact hj))
      have hws : ∀ z ∈ ws, 0 ≤ z ∧ z ≤ 1000 := fun z hz => by
        obtain ⟨i, hi⟩ := List.getElem?_of_mem hz
        have h1 := HUP.out i (by rw [← HL3.out]; exact (List.getElem?_eq_some_iff.1 hi).1)
        unfold zoneB at h1
        rw [getD_of hi, Bool.and_eq_true, Bool.and_eq_true, withinB_iff] at h1
        exact within_yes h1.2.2
      have HALL := Lib.hid (hall.symm.trans HE.out)
      have HWS := Lib.hid hws
      clear hall hws
      go_wp2_with fail
      refine (max_any _ k c3 ws hn1 (by omega) HWS.out _ ((R3.out.below HB1.out).more HB1.out.size)).mono ?_
      rintro e w' ⟨⟨v, rfl, hv⟩, rfl⟩
      by_cases hv0 : v = 0
      · have hd : (v == 0) = true := by simpa using hv0
        have he : (11 : Int) = E := by rw [← HALL.out, if_pos (List.all_eq_true.2 fun z hz => by simpa using (hv.1 hv0) z hz)]
        have HEE := Lib.hid he
        clear hv hv0 he
        go_wp2
        go_ret
        exact ⟨ret_int HEE.out, HB1.out⟩
      · have hd : (v == 0) = false := by simpa using hv0
        have he : (0 : Int) = E := by
          rw [← HALL.out, if_neg]
          intro ha
          exact hv0 (hv.2 fun z hz => by simpa using List.all_eq_true.1 ha z hz)
        have HEE := Lib.hid he
        clear hv hv0 he
        go_wp2
        go_ret
        exact ⟨ret_int HEE.out, HB1.out⟩
end Go.Proofs.Ytmejiafmmmeloaa

end

section
/- Contracts of the least sum. -/
namespace Go.Proofs.Ytmejiafmmmeloaa
open Go Go.RowKit

theorem red_le {a b : Int} (hb : 1 ≤ b) : ((redN a b).natAbs ≤ a.natAbs) ∧ 1 ≤ redD a b ∧ redD a b ≤ b := by
  unfold redN redD
  have hg : 0 < Int.gcd a b := Int.gcd_pos_of_ne_zero_right a (by omega)
  obtain ⟨x, hx⟩ := Int.gcd_dvd_left a b
  obtain ⟨y, hy⟩ := Int.gcd_dvd_right a b
  obtain ⟨g, hgg⟩ : ∃ g : Nat, Int.gcd a b = g := ⟨_, rfl⟩
  rw [hgg] at hx hy hg ⊢
  have hg' : (g : Int) ≠ 0 := by omega
  have e1 : a / (g : Int) = x := by rw [hx]; exact Int.mul_ediv_cancel_left x hg'
  have e2 : b / (g : Int) = y := by rw [hy]; exact Int.mul_ediv_cancel_left y hg'
  rw [e1, e2]
  have hy1 : 1 ≤ y := by
    rcases Int.lt_or_le 0 y with h | h
    · omega
    · have := Int.mul_nonpos_of_nonneg_of_nonpos (show (0 : Int) ≤ (g : Int) by omega) h; omega
  refine ⟨?_, hy1, ?_⟩
  · rw [hx, Int.natAbs_mul, Int.natAbs_natCast]; exact Nat.le_mul_of_pos_left _ hg
  · rw [hy]
    have := Int.mul_le_mul (show (1 : Int) ≤ (g : Int) by omega) (Int.le_refl y) (by omega) (by omega)
    omega
/-- The bounds of a line of least removal. -/
structure LnR (a b c d : Int) : Prop where
  a1 : -400000000 ≤ a
  a2 : a ≤ 400000000
  b1 : 1 ≤ b
  b2 : b ≤ 1000
  c1 : -200000 ≤ c
  c2 : c ≤ 200000
  d1 : 1 ≤ d
  d2 : d ≤ 1000
theorem LnR.ok {a b c d : Int} (h : LnR a b c d) : LnOk a b c d := by
  obtain ⟨a1, a2, b1, b2, c1, c2, d1, d2⟩ := h
  exact ⟨by omega, by omega, b1, b2, by omega, by omega, d1, d2⟩
/-- The zones of the side that is looked for. -/
theorem corner_zones {m : Rm} (h2 : (hullF m.h m.q m.n).length ≠ 1) (hm : m.Ok) : ∃ za zb, (hullF m.h m.q m.n).getD (cornerI m (hullF m.h m.q m.n) - 1) 0 = za ∧ (hullF m.h m.q m.n).getD (cornerI m (hullF m.h m.q m.n)) 0 = zb ∧ za < m.n ∧ zb < m.n ∧ m.q za < m.q zb := by
  have hne := hull_ne (h := m.h) (q := m.q) hm.n1
  have hasc := hull_asc m.h m.q m.n
  have hmem : ∀ z ∈ hullF m.h m.q m.n, z < m.n := fun z hz => hull_mem hz
  obtain ⟨l, hl⟩ : ∃ l, hullF m.h m.q m.n = l := ⟨_, rfl⟩
  rw [hl] at hne hasc hmem h2 ⊢
  have h3 : 1 < l.length := by
    cases l with
    | nil => exact absurd rfl hne
    | cons x r => cases r with
      | nil => exact absurd rfl h2
      | cons y t => simp
  obtain ⟨h4, h5⟩ := corner_lt (m := m) h3
  have g1 : cornerI m l - 1 < l.length := by omega
  refine ⟨_, _, rfl, rfl, ?_, ?_, ?_⟩
  · rw [List.getD_eq_getElem?_getD, List.getElem?_eq_getElem g1]; exact hmem _ (List.getElem_mem g1)
  · rw [List.getD_eq_getElem?_getD, List.getElem?_eq_getElem h5]; exact hmem _ (List.getElem_mem h5)
  · rw [List.getD_eq_getElem?_getD, List.getD_eq_getElem?_getD, List.getElem?_eq_getElem g1, List.getElem?_eq_getElem h5]
    exact (List.pairwise_iff_getElem.1 hasc) _ _ g1 h5 (by omega)
theorem ref_in {m : Rm} (hm : m.Ok) : LnR (refF m).1.1.1 (refF m).1.1.2 (refF m).1.2.1 (refF m).1.2.2 ∧ (refF m).2.1 < m.n ∧ (refF m).2.2 < m.n := by
  by_cases h1 : (hullF m.h m.q m.n).length = 1
  · unfold refF
    rw [if_pos h1]
    have hz : (hullF m.h m.q m.n).getD 0 0 < m.n := by
      have hmem : ∀ z ∈ hullF m.h m.q m.n, z < m.n := fun z hz => hull_mem hz
      obtain ⟨a, ha⟩ := List.length_eq_one_iff.1 h1
      rw [ha] at hmem ⊢
      exact hmem a (by simp)
    have := hm.h _ hz
    exact ⟨⟨by show -400000000 ≤ m.h _; omega, by show m.h _ ≤ 400000000; omega, by show (1 : Int) ≤ 1; omega, by show (1 : Int) ≤ 1000; omega, by show (-200000 : Int) ≤ 0; omega, by show (0 : Int) ≤ 200000; omega, by show (1 : Int) ≤ 1; omega, by show (1 : Int) ≤ 1000; omega⟩, hz, hz⟩
  · obtain ⟨za, zb, e1, e2, h3, h4, h5⟩ := corner_zones h1 hm
    unfold refF
    rw [if_neg h1, e1, e2]
    have ra := hm.h za h3
    have rb := hm.h zb h4
    have sa := hm.q za h3
    have sb := hm.q zb h4
    have p1 := prod_small (x := m.h za) (y := m.q zb - m.q za) (X := 100000) (Y := 1000) (by omega) (by omega) (by omega) (by omega)
    have p2 := prod_small (x := m.h zb - m.h za) (y := m.q za) (X := 200000) (Y := 1000) (by omega) (by omega) (by omega) (by omega)
    have k1 := red_le (a := m.h za * (m.q zb - m.q za) - (m.h zb - m.h za) * m.q za) (b := m.q zb - m.q za) (by omega)
    have k2 := red_le (a := m.h zb - m.h za) (b := m.q zb - m.q za) (by omega)
    refine ⟨?_, h3, h4⟩
    show LnR (redN _ _) (redD _ _) (redN _ _) (redD _ _)
    exact ⟨by omega, by omega, by omega, by omega, by omega, by omega, by omega, by omega⟩
theorem remR_in {m : Rm} (hm : m.Ok) {a b c d : Int} (hl : LnR a b c d) {z : Nat} (hz : z < m.n) : (1 ≤ b * d ∧ b * d ≤ 1000000) ∧ -1000000000000 ≤ remN m a b c d z ∧ remN m a b c d z ≤ 1000000000000 := by
  obtain ⟨a1, a2, b1, b2, c1, c2, d1, d2⟩ := hl
  have r1 := hm.h z hz
  have r2 := hm.q z hz
  have p0 := prod_small (x := b) (y := d) (X := 1000) (Y := 1000) (by omega) (by omega) (by omega) (by omega)
  have p00 : 1 ≤ b * d := Int.mul_le_mul b1 d1 (by omega) (by omega)
  have p1 := prod_small (x := m.h z) (y := b * d) (X := 100000) (Y := 1000000) (by omega) (by omega) (by omega) (by omega)
  have p2 := prod_small (x := a) (y := d) (X := 400000000) (Y := 1000) (by omega) (by omega) (by omega) (by omega)
  have p3 := prod_small (x := c) (y := m.q z) (X := 200000) (Y := 1000) (by omega) (by omega) (by omega) (by omega)
  have p4 := prod_small (x := c * m.q z) (y := b) (X := 200000000) (Y := 1000) (by omega) (by omega) (by omega) (by omega)
  unfold remN
  omega
/-- The sum of weight times removal, by the line of least removal, times its denominators. -/
def lsumF (m : Rm) (k : Nat) : Int := sumN (fun i => m.u i * remN m (refF m).1.1.1 (refF m).1.1.2 (refF m).1.2.1 (refF m).1.2.2 i) k
def lwhole (m : Rm) : Int := (refF m).1.1.2 * (refF m).1.2.2
theorem lsum_in {m : Rm} (hm : m.Ok) {k : Nat} (hk : k ≤ m.n) : -40000000000000000 ≤ lsumF m k ∧ lsumF m k ≤ 40000000000000000 := by
  have hn := hm.n2
  have h3 := sumN_in m.n (f := fun i => m.u i * remN m (refF m).1.1.1 (refF m).1.1.2 (refF m).1.2.1 (refF m).1.2.2 i) (lo := -1000000000000000) (hi := 1000000000000000) (fun i hi => by
    have a := hm.u i hi
    have b := (remR_in hm (ref_in hm).1 hi).2
    have := prod_small (x := m.u i) (y := remN m (refF m).1.1.1 (refF m).1.1.2 (refF m).1.2.1 (refF m).1.2.2 i) (X := 1000) (Y := 1000000000000) (by omega) (by omega) (by omega) (by omega)
    exact ⟨by omega, by omega⟩) k hk
  unfold lsumF
  omega
def CkOk (m : Rm) (w : World) : Prop := ∀ w', Below w.heap.size w w' → Calls Try.prog 24 #[m.val] w' fun e w'' => e = .returned (.int .i64 0) ∧ Below w'.heap.size w' w''

set_option maxRecDepth 100000 in
set_option maxHeartbeats 4000000 in
theorem least_ok (m : Rm) (hm : m.Ok) (hn19 : m.n < 20) (w : World) (hx : RmAt m w) (hck : CkOk m w) (s v : Int) (hs : redN (lsumF m m.n) (lwhole m) = s) (hv : redD (lsumF m m.n) (lwhole m) = v) :
    Calls Try.prog 9 #[m.val] w fun e w' => e = .returned (.tuple #[.agg #[.int .i64 s, .int .i64 v], .int .i64 0]) ∧ Below w.heap.size w w' := by
  obtain ⟨⟨⟨⟨a, b⟩, ⟨c, d⟩⟩, ⟨ta, tb⟩⟩, hrf⟩ : ∃ x, refF m = x := ⟨_, rfl⟩
  have hin := ref_in hm
  rw [hrf] at hin
  simp only at hin
  have hsum : ∀ k, lsumF m (k + 1) = lsumF m k + m.u k * remN m a b c d k := fun k => by unfold lsumF; rw [hrf]; rfl
  have hwh : lwhole m = b * d := by unfold lwhole; rw [hrf]
  obtain ⟨v0, hv0⟩ : ∃ v0, b * d = v0 := ⟨_, rfl⟩
  rw [hwh, hv0] at hs hv
  have hv0in := (remR_in hm hin.1 (show 0 < m.n from hm.n1)).1
  rw [hv0] at hv0in
  have HIN := Lib.hid hin.1
  have HX := Lib.hid hx
  have HM := Lib.hid hm
  have HCK := Lib.hid hck
  have HS := Lib.hid hs
  have HV := Lib.hid hv
  have HRF := Lib.hid hrf
  have HSUM := Lib.hid hsum
  have HV0 := Lib.hid hv0
  have l3 := hx.l3
  have hn1 := hm.n1
  have hn2 := hm.n2
  clear hin hx hm hck hs hv hrf hsum hwh hv0
  have hmv : m.val = .agg #[.slice (some ⟨m.b1, m.o1, none⟩) m.n m.c1, .slice (some ⟨m.b2, m.o2, none⟩) m.n m.c2, .slice (some ⟨m.b3, m.o3, none⟩) m.n m.c3] := rfl
  have HMV := Lib.hid hmv
  clear hmv
  unfold Rm.val
  go_enter Try.func9, Try.ntmps9
  go_wp2_with fail
  generalize hwn : ((w.alloc (.cells #[.slice (some ⟨m.b1, m.o1, none⟩) m.n m.c1, .slice (some ⟨m.b2, m.o2, none⟩) m.n m.c2, .slice (some ⟨m.b3, m.o3, none⟩) m.n m.c3] 38)).alloc (.cells #[.int .i64 (0), .int .i64 (0)] 25)) = w1
  have hbn : Below w.heap.size w w1 := by rw [← hwn]; repeat' (first | exact Below.refl _ _ | refine below_drewN ?_ _ | refine Below.drew ?_ | refine Below.alloc ?_ (by first | omega | (simp; done) | (simp; omega) | (simp [World.setCell]; omega)) _ | refine Below.setCell ?_ (by first | omega | (simp; done) | (simp; omega)) _)
  have HB1 := Lib.hid (show Below w.heap.size w w1 from hbn)
  have K0_1 := Lib.hid (show Blk w1 (w.heap.size) 38 #[.slice (some ⟨m.b1, m.o1, none⟩) m.n m.c1, .slice (some ⟨m.b2, m.o2, none⟩) m.n m.c2, .slice (some ⟨m.b3, m.o3, none⟩) m.n m.c3] by rw [← hwn]; repeat' (first | exact Blk.at_ _ (by first | rfl | (simp; done) | (simp; omega)) _ _ | refine Blk.drewN ?_ _ | refine Blk.drew ?_ | refine Blk.alloc ?_ _ | refine Blk.far ?_ (by first | omega | (simp; done) | (simp; omega)) _ | assumption))
  have K1_1 := Lib.hid (show Blk w1 (w.heap.size + 1) 25 #[.int .i64 (0), .int .i64 (0)] by rw [← hwn]; repeat' (first | exact Blk.at_ _ (by first | rfl | (simp; done) | (simp; omega)) _ _ | refine Blk.drewN ?_ _ | refine Blk.drew ?_ | refine Blk.alloc ?_ _ | refine Blk.far ?_ (by first | omega | (simp; done) | (simp; omega)) _ | assumption))
  have HN1 := Lib.hid hbn
  have hz1 := hbn.size
  clear hwn hbn
  have l0_1 : w.heap.size < w1.heap.size := K0_1.out.lt
  have z0_0_1 : w1.cell? ⟨w.heap.size, 0, none⟩ = some (.slice (some ⟨m.b1, m.o1, none⟩) m.n m.c1) := K0_1.out.cell 0
  have z0_1_1 : w1.cell? ⟨w.heap.size, 1, none⟩ = some (.slice (some ⟨m.b2, m.o2, none⟩) m.n m.c2) := K0_1.out.cell 1
  have z0_2_1 : w1.cell? ⟨w.heap.size, 2, none⟩ = some (.slice (some ⟨m.b3, m.o3, none⟩) m.n m.c3) := K0_1.out.cell 2
  have l1_1 : w.heap.size + 1 < w1.heap.size := K1_1.out.lt
  have z1_0_1 : w1.cell? ⟨w.heap.size + 1, 0, none⟩ = some (.int .i64 (0)) := K1_1.out.cell 0
  have z1_1_1 : w1.cell? ⟨w.heap.size + 1, 1, none⟩ = some (.int .i64 (0)) := K1_1.out.cell 1
  refine (HCK.out w1 HB1.out).mono ?_
  rintro e w2 ⟨rfl, hb⟩
  have HB2 := Lib.hid (show Below w.heap.size w w2 from step_below hb (by repeat' (first | exact Below.refl _ _ | exact HB1.out | refine below_drewN ?_ _ | refine Below.drew ?_ | refine Below.alloc ?_ (by first | omega | (simp; done) | (simp; omega) | (simp [World.setCell]; omega)) _ | refine Below.setCell ?_ (by first | omega | (simp; done) | (simp; omega)) _ | assumption)))
  have K0_2 := Lib.hid (step_blk hb (show Blk _ (w.heap.size) 38 #[.slice (some ⟨m.b1, m.o1, none⟩) m.n m.c1, .slice (some ⟨m.b2, m.o2, none⟩) m.n m.c2, .slice (some ⟨m.b3, m.o3, none⟩) m.n m.c3] by repeat' (first | exact K0_1.out | exact K1_1.out | exact Blk.at_ _ (by first | rfl | (simp; done) | (simp; omega)) _ _ | refine Blk.drewN ?_ _ | refine Blk.drew ?_ | refine Blk.alloc ?_ _ | refine Blk.far ?_ (by first | omega | (simp; done) | (simp; omega)) _ | assumption)))
  have K1_2 := Lib.hid (step_blk hb (show Blk _ (w.heap.size + 1) 25 #[.int .i64 (0), .int .i64 (0)] by repeat' (first | exact K0_1.out | exact K1_1.out | exact Blk.at_ _ (by first | rfl | (simp; done) | (simp; omega)) _ _ | refine Blk.drewN ?_ _ | refine Blk.drew ?_ | refine Blk.alloc ?_ _ | refine Blk.far ?_ (by first | omega | (simp; done) | (simp; omega)) _ | assumption)))
  have hz2 := hb.size
  try simp only [World.size_alloc, World.drewN, World.drew] at hz2
  clear hb K0_1 K1_1 z0_0_1 z0_1_1 z0_2_1 l0_1 z1_0_1 z1_1_1 l1_1
  have l0_2 : w.heap.size < w2.heap.size := K0_2.out.lt
  have z0_0_2 : w2.cell? ⟨w.heap.size, 0, none⟩ = some (.slice (some ⟨m.b1, m.o1, none⟩) m.n m.c1) := K0_2.out.cell 0
  have z0_1_2 : w2.cell? ⟨w.heap.size, 1, none⟩ = some (.slice (some ⟨m.b2, m.o2, none⟩) m.n m.c2) := K0_2.out.cell 1
  have z0_2_2 : w2.cell? ⟨w.heap.size, 2, none⟩ = some (.slice (some ⟨m.b3, m.o3, none⟩) m.n m.c3) := K0_2.out.cell 2
  have l1_2 : w.heap.size + 1 < w2.heap.size := K1_2.out.lt
  have z1_0_2 : w2.cell? ⟨w.heap.size + 1, 0, none⟩ = some (.int .i64 (0)) := K1_2.out.cell 0
  have z1_1_2 : w2.cell? ⟨w.heap.size + 1, 1, none⟩ = some (.int .i64 (0)) := K1_2.out.cell 1
  go_wp2_with fail
  refine (reference_any m HM.out hn19 _ HRF.out _ (HX.out.lay HB2.out)).mono ?_
  rintro e w3 ⟨rfl, hb⟩
  unfold lineV
  simp only
  have HB3 := Lib.hid (show Below w.heap.size w w3 from step_below hb (by repeat' (first | exact Below.refl _ _ | exact HB2.out | refine below_drewN ?_ _ | refine Below.drew ?_ | refine Below.alloc ?_ (by first | omega | (simp; done) | (simp; omega) | (simp [World.setCell]; omega)) _ | refine Below.setCell ?_ (by first | omega | (simp; done) | (simp; omega)) _ | assumption)))
  have K0_3 := Lib.hid (step_blk hb (show Blk _ (w.heap.size) 38 #[.slice (some ⟨m.b1, m.o1, none⟩) m.n m.c1, .slice (some ⟨m.b2, m.o2, none⟩) m.n m.c2, .slice (some ⟨m.b3, m.o3, none⟩) m.n m.c3] by repeat' (first | exact K0_2.out | exact K1_2.out | exact Blk.at_ _ (by first | rfl | (simp; done) | (simp; omega)) _ _ | refine Blk.drewN ?_ _ | refine Blk.drew ?_ | refine Blk.alloc ?_ _ | refine Blk.far ?_ (by first | omega | (simp; done) | (simp; omega)) _ | assumption)))
  have K1_3 := Lib.hid (step_blk hb (show Blk _ (w.heap.size + 1) 25 #[.int .i64 (0), .int .i64 (0)] by repeat' (first | exact K0_2.out | exact K1_2.out | exact Blk.at_ _ (by first | rfl | (simp; done) | (simp; omega)) _ _ | refine Blk.drewN ?_ _ | refine Blk.drew ?_ | refine Blk.alloc ?_ _ | refine Blk.far ?_ (by first | omega | (simp; done) | (simp; omega)) _ | assumption)))
  have hz3 := hb.size
  try simp only [World.size_alloc, World.drewN, World.drew] at hz3
  clear hb K0_2 K1_2 z0_0_2 z0_1_2 z0_2_2 l0_2 z1_0_2 z1_1_2 l1_2
  have l0_3 : w.heap.size < w3.heap.size := K0_3.out.lt
  have z0_0_3 : w3.cell? ⟨w.heap.size, 0, none⟩ = some (.slice (some ⟨m.b1, m.o1, none⟩) m.n m.c1) := K0_3.out.cell 0
  have z0_1_3 : w3.cell? ⟨w.heap.size, 1, none⟩ = some (.slice (some ⟨m.b2, m.o2, none⟩) m.n m.c2) := K0_3.out.cell 1
  have z0_2_3 : w3.cell? ⟨w.heap.size, 2, none⟩ = some (.slice (some ⟨m.b3, m.o3, none⟩) m.n m.c3) := K0_3.out.cell 2
  have l1_3 : w.heap.size + 1 < w3.heap.size := K1_3.out.lt
  have z1_0_3 : w3.cell? ⟨w.heap.size + 1, 0, none⟩ = some (.int .i64 (0)) := K1_3.out.cell 0
  have z1_1_3 : w3.cell? ⟨w.heap.size + 1, 1, none⟩ = some (.int .i64 (0)) := K1_3.out.cell 1
  go_wp2
  generalize hwn : (w3.alloc (.cells #[.int .i64 (a), .int .i64 (b), .int .i64 (c), .int .i64 (d), .int .i64 ((ta : Int)), .int .i64 ((tb : Int))] 62)) = w4
  have hbn : Below w3.heap.size w3 w4 := by rw [← hwn]; repeat' (first | exact Below.refl _ _ | refine below_drewN ?_ _ | refine Below.drew ?_ | refine Below.alloc ?_ (by first | omega | (simp; done) | (simp; omega) | (simp [World.setCell]; omega)) _ | refine Below.setCell ?_ (by first | omega | (simp; done) | (simp; omega)) _)
  have HB4 := Lib.hid (show Below w.heap.size w w4 from HB3.out.trans (hbn.mono HB3.out.size))
  have K0_4 := Lib.hid (step_blk hbn K0_3.out)
  have K1_4 := Lib.hid (step_blk hbn K1_3.out)
  have K2_4 := Lib.hid (show Blk w4 (w3.heap.size) 62 #[.int .i64 (a), .int .i64 (b), .int .i64 (c), .int .i64 (d), .int .i64 ((ta : Int)), .int .i64 ((tb : Int))] by rw [← hwn]; repeat' (first | exact Blk.at_ _ (by first | rfl | (simp; done) | (simp; omega)) _ _ | refine Blk.drewN ?_ _ | refine Blk.drew ?_ | refine Blk.alloc ?_ _ | refine Blk.far ?_ (by first | omega | (simp; done) | (simp; omega)) _ | assumption))
  have HN4 := Lib.hid hbn
  have hz4 := hbn.size
  clear hwn hbn K0_3 l0_3 z0_0_3 z0_1_3 z0_2_3 K1_3 l1_3 z1_0_3 z1_1_3
  have l0_4 : w.heap.size < w4.heap.size := K0_4.out.lt
  have z0_0_4 : w4.cell? ⟨w.heap.size, 0, none⟩ = some (.slice (some ⟨m.b1, m.o1, none⟩) m.n m.c1) := K0_4.out.cell 0
  have z0_1_4 : w4.cell? ⟨w.heap.size, 1, none⟩ = some (.slice (some ⟨m.b2, m.o2, none⟩) m.n m.c2) := K0_4.out.cell 1
  have z0_2_4 : w4.cell? ⟨w.heap.size, 2, none⟩ = some (.slice (some ⟨m.b3, m.o3, none⟩) m.n m.c3) := K0_4.out.cell 2
  have l1_4 : w.heap.size + 1 < w4.heap.size := K1_4.out.lt
  have z1_0_4 : w4.cell? ⟨w.heap.size + 1, 0, none⟩ = some (.int .i64 (0)) := K1_4.out.cell 0
  have z1_1_4 : w4.cell? ⟨w.heap.size + 1, 1, none⟩ = some (.int .i64 (0)) := K1_4.out.cell 1
  have l2_4 : w3.heap.size < w4.heap.size := K2_4.out.lt
  have z2_0_4 : w4.cell? ⟨w3.heap.size, 0, none⟩ = some (.int .i64 (a)) := K2_4.out.cell 0
  have z2_1_4 : w4.cell? ⟨w3.heap.size, 1, none⟩ = some (.int .i64 (b)) := K2_4.out.cell 1
  have z2_2_4 : w4.cell? ⟨w3.heap.size, 2, none⟩ = some (.int .i64 (c)) := K2_4.out.cell 2
  have z2_3_4 : w4.cell? ⟨w3.heap.size, 3, none⟩ = some (.int .i64 (d)) := K2_4.out.cell 3
  have z2_4_4 : w4.cell? ⟨w3.heap.size, 4, none⟩ = some (.int .i64 ((ta : Int))) := K2_4.out.cell 4
  have z2_5_4 : w4.cell? ⟨w3.heap.size, 5, none⟩ = some (.int .i64 ((tb : Int))) := K2_4.out.cell 5
  have hs4 := HB4.out.size
  go_loopw [6, 7, 23] (fun x y i wr => ∃ k : Nat, k ≤ m.n ∧ x = .int .i64 (lsumF m k) ∧ y = .int .i64 (if k = 0 then 1 else v0) ∧ i = .int .i64 k ∧ Below w4.heap.size w4 wr) (fun _ _ i _ => m.n - (intOf i).toNat)
  case atStart => exact ⟨0, by omega, rfl, rfl, rfl, Below.refl _ _⟩
  case round =>
    obtain ⟨k, hk, rfl, rfl, rfl, hb⟩ := hrel
    obtain ⟨w5, hnm⟩ : ∃ z : World, z = wr := ⟨_, rfl⟩
    subst hnm
    have HA4 := Lib.hid (show Below w4.heap.size w4 w4 from Below.refl _ _)
    have HA4' := Lib.hid hb
    clear HA4
    have HB5 := Lib.hid (show Below w.heap.size w w5 from step_below hb (by repeat' (first | exact Below.refl _ _ | exact HB4.out | refine below_drewN ?_ _ | refine Below.drew ?_ | refine Below.alloc ?_ (by first | omega | (simp; done) | (simp; omega) | (simp [World.setCell]; omega)) _ | refine Below.setCell ?_ (by first | omega | (simp; done) | (simp; omega)) _ | assumption)))
    have K0_5 := Lib.hid (step_blk hb (show Blk _ (w.heap.size) 38 #[.slice (some ⟨m.b1, m.o1, none⟩) m.n m.c1, .slice (some ⟨m.b2, m.o2, none⟩) m.n m.c2, .slice (some ⟨m.b3, m.o3, none⟩) m.n m.c3] by repeat' (first | exact K0_4.out | exact K1_4.out | exact K2_4.out | exact Blk.at_ _ (by first | rfl | (simp; done) | (simp; omega)) _ _ | refine Blk.drewN ?_ _ | refine Blk.drew ?_ | refine Blk.alloc ?_ _ | refine Blk.far ?_ (by first | omega | (simp; done) | (simp; omega)) _ | assumption)))
    have K1_5 := Lib.hid (step_blk hb (show Blk _ (w.heap.size + 1) 25 #[.int .i64 (0), .int .i64 (0)] by repeat' (first | exact K0_4.out | exact K1_4.out | exact K2_4.out | exact Blk.at_ _ (by first | rfl | (simp; done) | (simp; omega)) _ _ | refine Blk.drewN ?_ _ | refine Blk.drew ?_ | refine Blk.alloc ?_ _ | refine Blk.far ?_ (by first | omega | (simp; done) | (simp; omega)) _ | assumption)))
    have K2_5 := Lib.hid (step_blk hb (show Blk _ (w3.heap.size) 62 #[.int .i64 (a), .int .i64 (b), .int .i64 (c), .int .i64 (d), .int .i64 ((ta : Int)), .int .i64 ((tb : Int))] by repeat' (first | exact K0_4.out | exact K1_4.out | exact K2_4.out | exact Blk.at_ _ (by first | rfl | (simp; done) | (simp; omega)) _ _ | refine Blk.drewN ?_ _ | refine Blk.drew ?_ | refine Blk.alloc ?_ _ | refine Blk.far ?_ (by first | omega | (simp; done) | (simp; omega)) _ | assumption)))
    have hz5 := hb.size
    try simp only [World.size_alloc, World.drewN, World.drew] at hz5
    clear hb K0_4 K1_4 K2_4 z0_0_4 z0_1_4 z0_2_4 l0_4 z1_0_4 z1_1_4 l1_4 z2_0_4 z2_1_4 z2_2_4 z2_3_4 z2_4_4 z2_5_4 l2_4
    have l0_5 : w.heap.size < w5.heap.size := K0_5.out.lt
    have z0_0_5 : w5.cell? ⟨w.heap.size, 0, none⟩ = some (.slice (some ⟨m.b1, m.o1, none⟩) m.n m.c1) := K0_5.out.cell 0
    have z0_1_5 : w5.cell? ⟨w.heap.size, 1, none⟩ = some (.slice (some ⟨m.b2, m.o2, none⟩) m.n m.c2) := K0_5.out.cell 1
    have z0_2_5 : w5.cell? ⟨w.heap.size, 2, none⟩ = some (.slice (some ⟨m.b3, m.o3, none⟩) m.n m.c3) := K0_5.out.cell 2
    have l1_5 : w.heap.size + 1 < w5.heap.size := K1_5.out.lt
    have z1_0_5 : w5.cell? ⟨w.heap.size + 1, 0, none⟩ = some (.int .i64 (0)) := K1_5.out.cell 0
    have z1_1_5 : w5.cell? ⟨w.heap.size + 1, 1, none⟩ = some (.int .i64 (0)) := K1_5.out.cell 1
    have l2_5 : w3.heap.size < w5.heap.size := K2_5.out.lt
    have z2_0_5 : w5.cell? ⟨w3.heap.size, 0, none⟩ = some (.int .i64 (a)) := K2_5.out.cell 0
    have z2_1_5 : w5.cell? ⟨w3.heap.size, 1, none⟩ = some (.int .i64 (b)) := K2_5.out.cell 1
    have z2_2_5 : w5.cell? ⟨w3.heap.size, 2, none⟩ = some (.int .i64 (c)) := K2_5.out.cell 2
    have z2_3_5 : w5.cell? ⟨w3.heap.size, 3, none⟩ = some (.int .i64 (d)) := K2_5.out.cell 3
    have z2_4_5 : w5.cell? ⟨w3.heap.size, 4, none⟩ = some (.int .i64 ((ta : Int))) := K2_5.out.cell 4
    have z2_5_5 : w5.cell? ⟨w3.heap.size, 5, none⟩ = some (.int .i64 ((tb : Int))) := K2_5.out.cell 5
    by_cases hlt : k < m.n
    · obtain ⟨r, hr⟩ : ∃ r, remN m a b c d k = r := ⟨_, rfl⟩
      have hrin := (remR_in HM.out HIN.out hlt).2
      rw [hr] at hrin
      have hsin := lsum_in HM.out (k := k + 1) (by omega)
      have hnx := HSUM.out k
      rw [hr] at hnx
      have hu := HM.out.u k hlt
      have d1 := (HX.out.lay HB5.out).r3 k hlt
      have p1 := prod_small (x := m.u k) (y := r) (X := 1000) (Y := 1000000000000) (by omega) (by omega) (by omega) (by omega)
      have e1 := IntWalk.i64_in (m.u k * r) ⟨by omega, by omega⟩
      have e2 : IntKind.i64.wrap (lsumF m k + m.u k * r) = lsumF m (k + 1) := by rw [← hnx]; exact IntWalk.i64_in _ ⟨by omega, by omega⟩
      have hkk : (k : Int) < (m.n : Int) := by omega
      obtain ⟨y, hy⟩ : ∃ y : Int, (if k = 0 then 1 else v0) = y := ⟨_, rfl⟩
      have HR := Lib.hid hr
      rw [hy]
      clear hr hnx hy
      go_wp2_with fail
      refine (removal_is m HM.out a b c d (ta : Int) (tb : Int) HIN.out.ok k hlt r v0 HR.out HV0.out _ (HX.out.lay HB5.out)).mono ?_
      rintro e w6 ⟨rfl, hb6⟩
      have HB6 := Lib.hid (HA4'.out.trans (hb6.mono HA4'.out.size))
      clear hb6 d1
      go_wp2
      go_roundw
      case rel => exact ⟨k + 1, by omega, rfl, by rw [if_neg (by omega)], by go_num, HB6.out⟩
      case measure => simp [intOf]; omega
    · obtain rfl : k = m.n := by omega
      have hsin := lsum_in HM.out (k := m.n) (Nat.le_refl _)
      rw [if_neg (show ¬ m.n = 0 by omega)]
      go_wp2_with fail
      refine (lowestfig_is _ _ s v HS.out HV.out _ (by omega) (by omega) (by omega) (by omega)).mono ?_
      rintro e w6 ⟨rfl, hb⟩
      have HB6 := Lib.hid (show Below w.heap.size w w6 from step_below hb (by repeat' (first | exact Below.refl _ _ | exact HB5.out | refine below_drewN ?_ _ | refine Below.drew ?_ | refine Below.alloc ?_ (by first | omega | (simp; done) | (simp; omega) | (simp [World.setCell]; omega)) _ | refine Below.setCell ?_ (by first | omega | (simp; done) | (simp; omega)) _ | assumption)))
      have K0_6 := Lib.hid (step_blk hb (show Blk _ (w.heap.size) 38 #[.slice (some ⟨m.b1, m.o1, none⟩) m.n m.c1, .slice (some ⟨m.b2, m.o2, none⟩) m.n m.c2, .slice (some ⟨m.b3, m.o3, none⟩) m.n m.c3] by repeat' (first | exact K0_5.out | exact K1_5.out | exact K2_5.out | exact Blk.at_ _ (by first | rfl | (simp; done) | (simp; omega)) _ _ | refine Blk.drewN ?_ _ | refine Blk.drew ?_ | refine Blk.alloc ?_ _ | refine Blk.far ?_ (by first | omega | (simp; done) | (simp; omega)) _ | assumption)))
      have K1_6 := Lib.hid (step_blk hb (show Blk _ (w.heap.size + 1) 25 #[.int .i64 (0), .int .i64 (0)] by repeat' (first | exact K0_5.out | exact K1_5.out | exact K2_5.out | exact Blk.at_ _ (by first | rfl | (simp; done) | (simp; omega)) _ _ | refine Blk.drewN ?_ _ | refine Blk.drew ?_ | refine Blk.alloc ?_ _ | refine Blk.far ?_ (by first | omega | (simp; done) | (simp; omega)) _ | assumption)))
      have K2_6 := Lib.hid (step_blk hb (show Blk _ (w3.heap.size) 62 #[.int .i64 (a), .int .i64 (b), .int .i64 (c), .int .i64 (d), .int .i64 ((ta : Int)), .int .i64 ((tb : Int))] by repeat' (first | exact K0_5.out | exact K1_5.out | exact K2_5.out | exact Blk.at_ _ (by first | rfl | (simp; done) | (simp; omega)) _ _ | refine Blk.drewN ?_ _ | refine Blk.drew ?_ | refine Blk.alloc ?_ _ | refine Blk.far ?_ (by first | omega | (simp; done) | (simp; omega)) _ | assumption)))
      have hz6 := hb.size
      try simp only [World.size_alloc, World.drewN, World.drew] at hz6
      clear hb K0_5 K1_5 K2_5 z0_0_5 z0_1_5 z0_2_5 l0_5 z1_0_5 z1_1_5 l1_5 z2_0_5 z2_1_5 z2_2_5 z2_3_5 z2_4_5 z2_5_5 l2_5
      have l0_6 : w.heap.size < w6.heap.size := K0_6.out.lt
      have z0_0_6 : w6.cell? ⟨w.heap.size, 0, none⟩ = some (.slice (some ⟨m.b1, m.o1, none⟩) m.n m.c1) := K0_6.out.cell 0
      have z0_1_6 : w6.cell? ⟨w.heap.size, 1, none⟩ = some (.slice (some ⟨m.b2, m.o2, none⟩) m.n m.c2) := K0_6.out.cell 1
      have z0_2_6 : w6.cell? ⟨w.heap.size, 2, none⟩ = some (.slice (some ⟨m.b3, m.o3, none⟩) m.n m.c3) := K0_6.out.cell 2
      have l1_6 : w.heap.size + 1 < w6.heap.size := K1_6.out.lt
      have z1_0_6 : w6.cell? ⟨w.heap.size + 1, 0, none⟩ = some (.int .i64 (0)) := K1_6.out.cell 0
      have z1_1_6 : w6.cell? ⟨w.heap.size + 1, 1, none⟩ = some (.int .i64 (0)) := K1_6.out.cell 1
      have l2_6 : w3.heap.size < w6.heap.size := K2_6.out.lt
      have z2_0_6 : w6.cell? ⟨w3.heap.size, 0, none⟩ = some (.int .i64 (a)) := K2_6.out.cell 0
      have z2_1_6 : w6.cell? ⟨w3.heap.size, 1, none⟩ = some (.int .i64 (b)) := K2_6.out.cell 1
      have z2_2_6 : w6.cell? ⟨w3.heap.size, 2, none⟩ = some (.int .i64 (c)) := K2_6.out.cell 2
      have z2_3_6 : w6.cell? ⟨w3.heap.size, 3, none⟩ = some (.int .i64 (d)) := K2_6.out.cell 3
      have z2_4_6 : w6.cell? ⟨w3.heap.size, 4, none⟩ = some (.int .i64 ((ta : Int))) := K2_6.out.cell 4
      have z2_5_6 : w6.cell? ⟨w3.heap.size, 5, none⟩ = some (.int .i64 ((tb : Int))) := K2_6.out.cell 5
      have zf1_0 := K1_6.out.frozen 0
      have zf1_1 := K1_6.out.frozen 1
      go_wp2
      exact bodyPost_ret (v := .tuple #[.agg #[.int .i64 s, .int .i64 v], .int .i64 0]) (by simp [results, Try.results9, go_sem, z1_0_6, z1_1_6, l1_6]) rfl ⟨rfl, by repeat' (first | exact Below.refl _ _ | exact HB6.out | refine below_drewN ?_ _ | refine Below.drew ?_ | refine Below.alloc ?_ (by first | omega | (simp; done) | (simp; omega) | (simp [World.setCell]; omega)) _ | refine Below.setCell ?_ (by first | omega | (simp; done) | (simp; omega)) _ | assumption)⟩
end Go.Proofs.Ytmejiafmmmeloaa

end
