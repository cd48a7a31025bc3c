import Derived.Test.YtoiconebcmneiabQ10
import Derived.Test.YtoiconebcmneiabQ13
import Derived.Test.YtoiconebcmneiabQ12

section
/- Contracts of the reference's sums below a thing. -/
namespace Go.Proofs.Ytoiconebcmneiab
open Go Go.RowKit

theorem int_at {w : World} {B n : Nat} {A : Option Addr} {xs : List Int} (h : Reads w B 1 A n (xs.map (.int .i64))) {i : Nat} (hi : i < n) : ∃ b o z, A = some ⟨b, o, none⟩ ∧ b < B ∧ xs[i]? = some z ∧ w.cell? ⟨b, o + i, none⟩ = some (.int .i64 z) := by
  obtain ⟨b, o, u, e, hb, hu, hc⟩ := h.at_ hi
  rw [List.getElem?_map] at hu
  cases hz : xs[i]? with
  | none => rw [hz] at hu; cases hu
  | some z => rw [hz] at hu; obtain rfl := Option.some.inj hu; exact ⟨b, o, z, e, hb, rfl, hc⟩
theorem points_below {l : List Rk} (h0 : openErr l = 0) {ps : List ByteArray} (hp : ptsOf l = some ps) : below_ l (topName l) = ps := by
  have := below_pts h0 (topName l)
  unfold ptsOf at hp
  rw [hp] at this
  exact (Option.some.inj this).symm

set_option maxRecDepth 100000 in
set_option maxHeartbeats 1000000 in
theorem under_any (l : List Rk) (hfits : ∀ r ∈ l, r.Fits) (A : Option Addr) (n c : Nat) (B : Option Addr) (m cb : Nat) (xs : List Int) (s : ByteArray) (w : World) (hx : Reads w w.heap.size 5 A n (rkCells l)) (hn : n ≤ 100000) (hy : Reads w w.heap.size 1 B m (xs.map (.int .i64))) (h0 : openErr l = 0) (ps : List ByteArray) (hp : ptsOf l = some ps) (hps : ps.length ≤ 1000000) (hmn : ps.length = m)
    (hxs : ∀ z ∈ xs, 0 ≤ z ∧ z ≤ 1000000) (hbl : (below_ l s).length ≤ 1000000) (hsub : ∀ x ∈ below_ l s, x ∈ ps) :
    Calls Try.prog 64 #[.slice A n c, .string s, .slice B m cb] w fun e w' => e = .returned (.int .i64 (underI l ps xs s)) ∧ Below w.heap.size w w' := by
  have hxl : xs.length = m := by have := hy.1; simpa using this
  have HXL := Lib.hid hxl
  have HP := Lib.hid hp
  have H0 := Lib.hid h0
  have HBP := Lib.hid (below_pts h0 s)
  have HSUB := Lib.hid hsub
  have HMN := Lib.hid hmn
  have hm6 : m ≤ 1000000 := by omega
  clear hp h0 hsub hxl hmn
  obtain ⟨q, hq⟩ : ∃ q, (below_ l s).length = q := ⟨_, rfl⟩
  have HQ := Lib.hid hq
  rw [hq] at hbl
  clear hq
  go_enter Try.func64, Try.ntmps64
  have R0_0 := Lib.hid hx
  clear hx
  have R1_0 := Lib.hid hy
  clear hy
  go_wp2_with fail
  refine (rpoints_any l hfits A n c _ _ R0_0.out (Nat.le_refl _) hn H0.out ps HP.out hps).mono ?_
  rintro e w1 ⟨hb, A1, c1, rfl, ho⟩
  have HB1 := Lib.hid (show Below w.heap.size w w1 from step_below hb (by repeat' (first | exact Below.refl _ _ | exact HB0.out | refine below_drewN ?_ _ | refine Below.drew ?_ | refine Below.alloc ?_ (by first | omega | (simp; done) | (simp; omega) | (simp [World.setCell]; omega)) _ | refine Below.setCell ?_ (by first | omega | (simp; done) | (simp; omega)) _ | assumption)))
  have hL1 := Lib.hid (show Below w.heap.size w _ from reads_mid hb (by repeat' (first | exact Below.refl _ _ | refine below_drewN ?_ _ | refine Below.drew ?_ | refine Below.alloc ?_ (by first | omega | (simp; done) | (simp; omega) | (simp [World.setCell]; omega)) _ | refine Below.setCell ?_ (by first | omega | (simp; done) | (simp; omega)) _)))
  have R0_1 := Lib.hid (reads_lay hb hL1.out R0_0.out)
  have R1_1 := Lib.hid (reads_lay hb hL1.out R1_0.out)
  clear hL1 R0_0 R1_0
  have hz1 := hb.size
  try simp only [World.size_alloc, World.drewN, World.drew] at hz1
  clear hb
  have hr' := own_reads2 ho
  clear ho
  rw [HMN.out] at hr'
  rw [HMN.out]
  have R2_1 := Lib.hid hr'
  clear hr'
  go_wp2_with fail
  refine (rbelow_any l hfits A n c _ hn l.length s (below_ l s) _ HBP.out R0_1.out (Nat.le_refl _) (by rw [HQ.out]; exact hbl)).mono ?_
  rintro e w2 ⟨hb, A2, c2, rfl, ho⟩
  have HB2 := Lib.hid (show Below w.heap.size w w2 from step_below hb (by repeat' (first | exact Below.refl _ _ | exact HB1.out | refine below_drewN ?_ _ | refine Below.drew ?_ | refine Below.alloc ?_ (by first | omega | (simp; done) | (simp; omega) | (simp [World.setCell]; omega)) _ | refine Below.setCell ?_ (by first | omega | (simp; done) | (simp; omega)) _ | assumption)))
  have hL2 := Lib.hid (show Below w1.heap.size w1 _ from reads_mid hb (by repeat' (first | exact Below.refl _ _ | refine below_drewN ?_ _ | refine Below.drew ?_ | refine Below.alloc ?_ (by first | omega | (simp; done) | (simp; omega) | (simp [World.setCell]; omega)) _ | refine Below.setCell ?_ (by first | omega | (simp; done) | (simp; omega)) _)))
  have R0_2 := Lib.hid (reads_lay hb hL2.out R0_1.out)
  have R1_2 := Lib.hid (reads_lay hb hL2.out R1_1.out)
  have R2_2 := Lib.hid (reads_lay hb hL2.out R2_1.out)
  clear hL2 R0_1 R1_1 R2_1
  have hz2 := hb.size
  try simp only [World.size_alloc, World.drewN, World.drew] at hz2
  clear hb
  have hr' := own_reads2 ho
  clear ho
  rw [HQ.out] at hr'
  rw [HQ.out]
  have R3_2 := Lib.hid hr'
  clear hr'
  go_wp2
  go_loop [9, 10] (fun t i => ∃ k : Nat, k ≤ q ∧ i = .int .i64 k ∧ t = .int .i64 (sumF (loadOf ps xs) ((below_ l s).take k))) (fun _ i => q - (intOf i).toNat)
  case atStart => exact ⟨0, by omega, rfl, by rfl⟩
  case round =>
    obtain ⟨k, hk, rfl, rfl⟩ := hrel
    have hsb := sumF_bound (g := loadOf ps xs) (b := 1000000) ((below_ l s).take k) (fun s _ => loadOf_bound (by omega) hxs s)
    have hlk : ((below_ l s).take k).length ≤ q := by rw [List.length_take, HQ.out]; omega
    by_cases hlt : k < q
    · obtain ⟨zb, zo, x, rfl, hzb, hxk, c0⟩ := R3_2.out.str hlt
      obtain ⟨i, hi⟩ := posOf_mem (HSUB.out x (List.mem_of_getElem? hxk))
      obtain ⟨hi1, hi2⟩ := posOf_some hi
      have him : i < m := by have := (List.getElem?_eq_some_iff.1 hi1).1; rw [HMN.out] at this; exact this
      obtain ⟨yb, yo, z, rfl, hyb, hz, d0⟩ := int_at R1_2.out him
      have hsn : sumF (loadOf ps xs) ((below_ l s).take (k + 1)) = sumF (loadOf ps xs) ((below_ l s).take k) + z := by
        rw [List.take_add_one, hxk]
        show sumF _ (_ ++ [x]) = _
        rw [sumF_snoc]
        congr 1
        unfold loadOf
        rw [hi]
        simp only
        rw [List.getD, hz]
        rfl
      have hzb2 := hxs z (List.mem_of_getElem? hz)
      have HSN := Lib.hid hsn
      have HI1 := Lib.hid hi1
      have HI2 := Lib.hid hi2
      obtain ⟨S, hS⟩ : ∃ S, sumF (loadOf ps xs) ((below_ l s).take k) = S := ⟨_, rfl⟩
      rw [hS] at hsb
      have HS := Lib.hid hS
      rw [hS]
      have hS2 : S ≤ 1000000000000 := by omega
      clear hsn hi hi1 hi2 hz hxk hS
      go_wp2_with fail
      refine (place_is ps _ m c1 _ x i HI1.out HI2.out _ R2_2.out (by omega)).mono ?_
      rintro e w' ⟨rfl, rfl⟩
      go_wp2
      go_round
      case rel => exact ⟨k + 1, by omega, by go_num, by rw [HSN.out, HS.out]⟩
      case measure => simp [intOf]; omega
    · have hkq : k = q := by omega
      have HE : Hid (sumF (loadOf ps xs) ((below_ l s).take k) = underI l ps xs s) := by
        show _ = _
        rw [List.take_of_length_le (by rw [HQ.out]; omega)]
        rfl
      clear hkq
      go_wp2
      go_ret
      exact ⟨ret_int HE.out, HB2.out⟩
theorem under_is (l : List Rk) (hfits : ∀ r ∈ l, r.Fits) (A : Option Addr) (n c : Nat) (B : Option Addr) (m cb : Nat) (xs : List Int) (s : ByteArray) (t : Int) (w : World) (ps : List ByteArray) (ht : underI l ps xs s = t) (hx : Reads w w.heap.size 5 A n (rkCells l)) (hn : n ≤ 100000) (hy : Reads w w.heap.size 1 B m (xs.map (.int .i64))) (h0 : openErr l = 0) (hp : ptsOf l = some ps) (hps : ps.length ≤ 1000000) (hmn : ps.length = m)
    (hxs : ∀ z ∈ xs, 0 ≤ z ∧ z ≤ 1000000) (hbl : (below_ l s).length ≤ 1000000) (hsub : ∀ x ∈ below_ l s, x ∈ ps) :
    Calls Try.prog 64 #[.slice A n c, .string s, .slice B m cb] w fun e w' => e = .returned (.int .i64 t) ∧ Below w.heap.size w w' := ht ▸ under_any l hfits A n c B m cb xs s w hx hn hy h0 ps hp hps hmn hxs hbl hsub

end Go.Proofs.Ytoiconebcmneiab

end

section
/- The reference's check of tables; how large a table may be. -/
namespace Go.Proofs.Ytoiconebcmneiab
open Go Go.RowKit

/-- The error of a table, from its numbers alone. -/
def tblE (T : List (List Int)) : Int :=
  if withinB (T.length : Int) 1 40 = false then 10 else if T.any (fun r => decide (r.length ≠ ((T[0]?).map List.length).getD 0)) then 10 else if 41 < ((T[0]?).map List.length).getD 0 then 8 else if T.any (fun r => r.any outZ) then 2 else 0
theorem any_congr {α : Type} {p q : α → Bool} : ∀ {l : List α}, (∀ x ∈ l, p x = q x) → l.any p = l.any q
  | [], _ => rfl
  | x :: l, h => by rw [List.any_cons, List.any_cons, h x (by simp), any_congr fun y hy => h y (by simp [hy])]
theorem tblErr_plain {t : List TRow} (h : ∀ r ∈ t, r.xs.length = r.n) : tblErr t = tblE (t.map TRow.xs) := by
  have e1 : headLen t = (((t.map TRow.xs)[0]?).map List.length).getD 0 := by
    unfold headLen
    rw [List.getElem?_map]
    cases h0 : t[0]? with
    | none => rfl
    | some r => simp [h r (List.mem_of_getElem? h0)]
  unfold tblErr tblE
  rw [List.length_map, List.any_map, List.any_map, ← e1, any_congr (p := oddB t) (q := (fun r : List Int => decide (r.length ≠ headLen t)) ∘ TRow.xs) fun r hr => by
    show decide (r.n ≠ headLen t) = decide (r.xs.length ≠ headLen t)
    rw [h r hr]]
  rfl
theorem tblErr_same {t t' : List TRow} (h : ∀ r ∈ t, r.xs.length = r.n) (h' : ∀ r ∈ t', r.xs.length = r.n) (he : t.map TRow.xs = t'.map TRow.xs) : tblErr t = tblErr t' := by
  rw [tblErr_plain h, tblErr_plain h', he]
theorem tbl_zero {t : List TRow} (h : tblErr t = 0) : (1 ≤ t.length ∧ t.length ≤ 40) ∧ (∀ r ∈ t, r.n = headLen t) ∧ headLen t ≤ 41 ∧ ∀ r ∈ t, ∀ z ∈ r.xs, -10000 ≤ z ∧ z ≤ 10000 := by
  unfold tblErr at h
  by_cases h1 : withinB (t.length : Int) 1 40 = false
  · rw [if_pos h1] at h; cases h
  rw [if_neg h1] at h
  by_cases h2 : t.any (oddB t) = true
  · rw [if_pos h2] at h; cases h
  rw [if_neg h2] at h
  by_cases h3 : 41 < headLen t
  · rw [if_pos h3] at h; cases h
  rw [if_neg h3] at h
  by_cases h4 : t.any outR = true
  · rw [if_pos h4] at h; cases h
  have a1 := (withinB_iff _ _ _).1 (by simpa using h1)
  refine ⟨by omega, fun r hr => ?_, by omega, fun r hr z hz => ?_⟩
  · have := List.any_eq_false.1 (by simpa using h2) r hr
    unfold oddB at this
    simpa using this
  · have := List.any_eq_false.1 (by simpa using h4) r hr
    unfold outR at this
    have := List.any_eq_false.1 (by simpa using this) z hz
    unfold outZ at this
    exact (withinB_iff _ _ _).1 (by simpa using this)

set_option maxRecDepth 100000 in
theorem rchecktable_any (A : Option Addr) (n c : Nat) (t : List TRow) (w : World) (hx : ReadsT w w.heap.size A n t) (hn : n ≤ 9223372036854775807) (E : Int) (hE : tblErr t = E) :
    Calls Try.prog 14 #[.slice A n c] w fun e w' => e = .returned (.int .i64 E) ∧ Below w.heap.size w w' := by
  have hxl := hx.len
  have HE := Lib.hid hE
  have HXL := Lib.hid hxl
  clear hE
  cases hw : withinB (t.length : Int) 1 40 with
  | false =>
    have e := HE.out.symm.trans (tbl_10 hw)
    subst e
    rw [hxl] at hw
    have HW := Lib.hid hw
    clear hw hxl hx
    go_enter Try.func14, Try.ntmps14
    go_wp2_with fail
    refine (withinref_is _ _ _ false HW.out _).mono ?_
    rintro e w' ⟨rfl, rfl⟩
    go_wp2
    go_ret
    exact ⟨rfl, Below.refl _ _⟩
  | true =>
    have HW0 := Lib.hid hw
    rw [hxl] at hw
    have HW := Lib.hid hw
    have hn1 := (withinB_iff _ _ _).1 hw
    have HX := Lib.hid hx
    obtain ⟨yb, yo, q, hA, hyb, hq, c0, hqc, -, -⟩ := hx.at_ (i := 0) (by omega)
    have hh : headLen t = q.n := by unfold headLen; rw [hq]; rfl
    clear hq hw hx hxl
    subst hA
    simp only [Nat.add_zero] at c0
    have HHH := Lib.hid hh
    clear hh
    go_enter Try.func14, Try.ntmps14
    go_wp2_with fail
    refine (withinref_is _ _ _ true HW.out _).mono ?_
    rintro e w' ⟨rfl, rfl⟩
    go_wp2
    go_loopw [3] (fun i wr => ∃ k : Nat, k ≤ n ∧ i = .int .i64 k ∧ (t.take k).any (oddB t) = false ∧ Below w.heap.size w wr) (fun i _ => n - (intOf i).toNat)
    case atStart => exact ⟨0, by omega, rfl, by simp, Below.refl _ _⟩
    case round =>
      obtain ⟨k, hk, rfl, ht, hb⟩ := hrel
      have HT := Lib.hid ht
      have HB := Lib.hid hb
      have hbs := hb.size
      have d0 := (hb.cell (p := ⟨yb, yo, none⟩) hyb).trans c0
      clear ht hb
      by_cases hlt : k < n
      · obtain ⟨xb, xo, r, hA2, hxb, hr, c1, hrc, hrl, hrr⟩ := HX.out.at_ hlt
        obtain ⟨rfl, rfl⟩ : yb = xb ∧ yo = xo := by simpa using hA2
        have d1 := (HB.out.cell (p := ⟨yb, yo + k, none⟩) hxb).trans c1
        have HR := Lib.hid hr
        obtain ⟨b, hb⟩ : ∃ b, oddB t r = b := ⟨_, rfl⟩
        have hne : ((r.n : Int) != (q.n : Int)) = b := by
          rw [← hb]
          unfold oddB
          rw [HHH.out]
          by_cases h : r.n = q.n
          · simp [h]
          · have : ¬ (r.n : Int) = (q.n : Int) := by omega
            simp [h, this]
        have HP := Lib.hid hb
        clear hr c1 hrr hb hA2
        cases b
        all_goals
          go_wp2
          go_quiet (fail)
          generalize hw5 : World.drewN _ _ = w5
          have HB5 : Hid (Below w.heap.size w w5) := by show Below _ _ _; rw [← hw5]; exact below_drewN HB.out _
          clear hw5
        · go_wp2
          go_roundw
          case rel => exact ⟨k + 1, by omega, by go_num, any_takeR HR.out HT.out HP.out, HB5.out⟩
          case measure => simp [intOf]; omega
        · have e := HE.out.symm.trans (tbl_odd HW0.out (List.any_eq_true.2 ⟨r, List.mem_of_getElem? HR.out, HP.out⟩))
          subst e
          go_wp2
          go_ret
          exact ⟨rfl, HB5.out⟩
      · have hno : t.any (oddB t) = false := by
          have ht := HT.out
          rwa [List.take_of_length_le (by rw [HXL.out]; omega)] at ht
        have HODD := Lib.hid hno
        clear hno
        by_cases h41 : 41 < headLen t
        · have e := HE.out.symm.trans (tbl_8 HW0.out HODD.out h41)
          subst e
          rw [HHH.out] at h41
          go_wp2
          go_ret
          exact ⟨rfl, HB.out⟩
        · have H41 := Lib.hid h41
          have hle : q.n ≤ 41 := by rw [HHH.out] at h41; omega
          clear h41
          obtain ⟨w1, hw1⟩ : ∃ w1 : World, w1 = wr := ⟨_, rfl⟩
          subst hw1
          go_wp2
          go_loopw [4] (fun i wr => ∃ k : Nat, k ≤ n ∧ i = .int .i64 k ∧ (t.take k).any outR = false ∧ Below w.heap.size w wr) (fun i _ => n - (intOf i).toNat)
          case atStart => exact ⟨0, by omega, rfl, by simp, HB.out⟩
          case round =>
            clear HT HB d0
            obtain ⟨k2, hk2, rfl, ht, hb⟩ := hrel
            have HT := Lib.hid ht
            have HB := Lib.hid hb
            have hbs2 := hb.size
            clear ht hb
            by_cases hlt2 : k2 < n
            · obtain ⟨xb, xo, r, hA2, hxb, hr, c1, hrc, hrl, hrr⟩ := HX.out.at_ hlt2
              obtain ⟨rfl, rfl⟩ : yb = xb ∧ yo = xo := by simpa using hA2
              have d1 := (HB.out.cell (p := ⟨yb, yo + k2, none⟩) hxb).trans c1
              have HRR : Hid (Reads wr wr.heap.size 1 r.A r.n (r.xs.map (.int .i64))) := (hrr.below HB.out).more hbs2
              have HR := Lib.hid hr
              clear hr c1 hrr hA2
              go_wp2
              go_loopw [5] (fun i wr' => ∃ j : Nat, j ≤ r.n ∧ i = .int .i64 j ∧ (r.xs.take j).any outZ = false ∧ wr' = wr) (fun i _ => r.n - (intOf i).toNat)
              case atStart => exact ⟨0, by omega, rfl, by simp, rfl⟩
              case round =>
                obtain ⟨j, hj, rfl, htj, rfl⟩ := hrel
                have HTJ := Lib.hid htj
                clear htj
                by_cases hlj : j < r.n
                · obtain ⟨zb, zo, z, hA3, hzb, hz, c2⟩ := int_at HRR.out hlj
                  have HZ := Lib.hid hz
                  obtain ⟨b, hb⟩ : ∃ b, withinB z (-10000) 10000 = b := ⟨_, rfl⟩
                  have HP := Lib.hid hb
                  clear hz hb
                  rw [hA3] at d1
                  go_wp2_with fail
                  refine (withinref_is _ _ _ b HP.out _).mono ?_
                  rintro e w' ⟨rfl, rfl⟩
                  cases b
                  · have e := HE.out.symm.trans (tbl_2 HW0.out HODD.out H41.out (List.any_eq_true.2 ⟨r, List.mem_of_getElem? HR.out, List.any_eq_true.2 ⟨z, List.mem_of_getElem? HZ.out, by unfold outZ; rw [HP.out]; rfl⟩⟩))
                    subst e
                    go_wp2
                    go_ret
                    exact ⟨rfl, HB.out⟩
                  · go_wp2
                    go_roundw
                    case rel => exact ⟨j + 1, by omega, by go_num, any_takeR HZ.out HTJ.out (by unfold outZ; rw [HP.out]; rfl), trivial⟩
                    case measure => simp [intOf]; omega
                · have hno : outR r = false := by
                    have ht := HTJ.out
                    rwa [List.take_of_length_le (by omega)] at ht
                  have HNO := Lib.hid hno
                  clear hno
                  go_wp2
                  go_roundw
                  case rel => exact ⟨k2 + 1, by omega, by go_num, any_takeR HR.out HT.out HNO.out, HB.out⟩
                  case measure => simp [intOf]; omega
            · have hno : t.any outR = false := by
                have ht := HT.out
                rwa [List.take_of_length_le (by rw [HXL.out]; omega)] at ht
              have e := HE.out.symm.trans (tbl_0 HW0.out HODD.out H41.out hno)
              subst e
              clear hno
              go_wp2
              go_ret
              exact ⟨rfl, HB.out⟩

/-- Is a table small enough, or too large? -/
def roomR (r : TRow) : Bool := decide (12 < r.n ∧ r.n ≤ 41 ∨ 44 < r.n)
def roomB (t : List TRow) : Bool := !(decide (8 < t.length ∧ t.length ≤ 40 ∨ 43 < t.length) || t.any roomR)
theorem room_parts {t : List TRow} (h : roomB t = true) : (t.length ≤ 8 ∨ 40 < t.length) ∧ t.length ≤ 43 ∧ ∀ r ∈ t, (r.n ≤ 12 ∨ 41 < r.n) ∧ r.n ≤ 44 := by
  unfold roomB at h
  simp only [Bool.not_eq_true', Bool.or_eq_false_iff, decide_eq_false_iff_not] at h
  refine ⟨by omega, by omega, fun r hr => ?_⟩
  have := List.any_eq_false.1 h.2 r hr
  unfold roomR at this
  simp only [decide_eq_true_eq] at this
  omega
set_option maxRecDepth 100000 in
set_option maxHeartbeats 2000000 in
theorem room_is (A : Option Addr) (n c : Nat) (t : List TRow) (b : Bool) (hb : roomB t = b) (w : World) (hx : ReadsT w w.heap.size A n t) (hn : n ≤ 9223372036854775807) :
    Calls Try.prog 10 #[.slice A n c] w fun e w' => e = .returned (.bool b) ∧ w = w' := by
  have hxl := hx.len
  have HX := Lib.hid hx
  have HXL := Lib.hid hxl
  have HE := Lib.hid hb
  clear hx hb
  by_cases hbig : 8 < n ∧ n ≤ 40 ∨ 43 < n
  · have e : b = false := by
      rw [← HE.out]
      unfold roomB
      rw [hxl]
      simp [hbig]
    subst e
    clear hxl
    rcases hbig with ⟨h1, h2⟩ | h1
    · go_enter Try.func10, Try.ntmps10
      go_wp2
      go_ret
      exact ⟨rfl, rfl⟩
    · have h3 : 8 < n := by omega
      have h4 : 40 < n := by omega
      go_enter Try.func10, Try.ntmps10
      go_wp2
      go_ret
      exact ⟨rfl, rfl⟩
  have HBIG : Hid (decide (8 < t.length ∧ t.length ≤ 40 ∨ 43 < t.length) = false) := by
    show _ = _
    rw [hxl]; simp only [decide_eq_false_iff_not]; exact hbig
  have h43 : ¬ 43 < n := by omega
  by_cases h8 : 8 < n
  rotate_left
  · have h8' : n ≤ 8 := by omega
    clear hbig
    go_enter Try.func10, Try.ntmps10
    go_wp2
    go_loopw [3] (fun i wr => ∃ k : Nat, k ≤ n ∧ i = .int .i64 k ∧ (t.take k).any roomR = false ∧ wr = w) (fun i _ => n - (intOf i).toNat)
    case atStart => exact ⟨0, by omega, rfl, by simp, rfl⟩
    case round =>
      obtain ⟨k, hk, rfl, ht, rfl⟩ := hrel
      have HT := Lib.hid ht
      clear ht
      by_cases hlt : k < n
      · obtain ⟨xb, xo, r, rfl, hxb, hr, c1, hrc, hrl, -⟩ := HX.out.at_ hlt
        have HR := Lib.hid hr
        clear hr
        by_cases hbad : 12 < r.n ∧ r.n ≤ 41 ∨ 44 < r.n
        · have hp : roomR r = true := by unfold roomR; simp [hbad]
          have e : b = false := by
            rw [← HE.out]
            unfold roomB
            rw [HBIG.out, List.any_eq_true.2 ⟨r, List.mem_of_getElem? HR.out, hp⟩]
            rfl
          subst e
          clear hp
          rcases hbad with ⟨g1, g2⟩ | g1
          · go_wp2
            go_ret
            exact ⟨rfl, rfl⟩
          · have g3 : 12 < r.n := by omega
            have g4 : 41 < r.n := by omega
            go_wp2
            go_ret
            exact ⟨rfl, rfl⟩
        · have hp : roomR r = false := by unfold roomR; simp only [decide_eq_false_iff_not]; exact hbad
          have HP := Lib.hid hp
          have g0 : r.n ≤ 44 := by omega
          by_cases g1 : 12 < r.n
          · have g2 : 41 < r.n := by omega
            clear hp hbad
            go_wp2
            go_roundw
            case rel => exact ⟨k + 1, by omega, by go_num, any_takeR HR.out HT.out HP.out, trivial⟩
            case measure => simp [intOf]; omega
          · have g2 : r.n ≤ 12 := by omega
            clear hp hbad
            go_wp2
            go_roundw
            case rel => exact ⟨k + 1, by omega, by go_num, any_takeR HR.out HT.out HP.out, trivial⟩
            case measure => simp [intOf]; omega
      · have e : b = true := by
          rw [← HE.out]
          unfold roomB
          have ht := HT.out
          rw [List.take_of_length_le (by rw [HXL.out]; omega)] at ht
          rw [HBIG.out, ht]
          rfl
        subst e
        go_wp2
        go_ret
        exact ⟨rfl, rfl⟩
  · have h40 : 40 < n := by omega
    clear hbig
    go_enter Try.func10, Try.ntmps10
    go_wp2
    go_loopw [3] (fun i wr => ∃ k : Nat, k ≤ n ∧ i = .int .i64 k ∧ (t.take k).any roomR = false ∧ wr = w) (fun i _ => n - (intOf i).toNat)
    case atStart => exact ⟨0, by omega, rfl, by simp, rfl⟩
    case round =>
      obtain ⟨k, hk, rfl, ht, rfl⟩ := hrel
      have HT := Lib.hid ht
      clear ht
      by_cases hlt : k < n
      · obtain ⟨xb, xo, r, rfl, hxb, hr, c1, hrc, hrl, -⟩ := HX.out.at_ hlt
        have HR := Lib.hid hr
        clear hr
        by_cases hbad : 12 < r.n ∧ r.n ≤ 41 ∨ 44 < r.n
        · have hp : roomR r = true := by unfold roomR; simp [hbad]
          have e : b = false := by
            rw [← HE.out]
            unfold roomB
            rw [HBIG.out, List.any_eq_true.2 ⟨r, List.mem_of_getElem? HR.out, hp⟩]
            rfl
          subst e
          clear hp
          rcases hbad with ⟨g1, g2⟩ | g1
          · go_wp2
            go_ret
            exact ⟨rfl, rfl⟩
          · have g3 : 12 < r.n := by omega
            have g4 : 41 < r.n := by omega
            go_wp2
            go_ret
            exact ⟨rfl, rfl⟩
        · have hp : roomR r = false := by unfold roomR; simp only [decide_eq_false_iff_not]; exact hbad
          have HP := Lib.hid hp
          have g0 : r.n ≤ 44 := by omega
          by_cases g1 : 12 < r.n
          · have g2 : 41 < r.n := by omega
            clear hp hbad
            go_wp2
            go_roundw
            case rel => exact ⟨k + 1, by omega, by go_num, any_takeR HR.out HT.out HP.out, trivial⟩
            case measure => simp [intOf]; omega
          · have g2 : r.n ≤ 12 := by omega
            clear hp hbad
            go_wp2
            go_roundw
            case rel => exact ⟨k + 1, by omega, by go_num, any_takeR HR.out HT.out HP.out, trivial⟩
            case measure => simp [intOf]; omega
      · have e : b = true := by
          rw [← HE.out]
          unfold roomB
          have ht := HT.out
          rw [List.take_of_length_le (by rw [HXL.out]; omega)] at ht
          rw [HBIG.out, ht]
          rfl
        subst e
        go_wp2
        go_ret
        exact ⟨rfl, rfl⟩

end Go.Proofs.Ytoiconebcmneiab

end

section
/- The plain law of arms: the tree with new arms has the same names; its shares are the loads. -/
namespace Go.Proofs.Ytoiconebcmneiab
open Go.RowKit

/-- A rocker without its arms. -/
def bare (r : Rk) : Rk := { r with al := 1, ar := 1 }
theorem bare_idx (l : List Rk) (s : ByteArray) : idxOf (l.map bare) s = idxOf l s := by
  unfold idxOf; rw [List.findIdx?_map]; rfl
theorem bare_bearer (l : List Rk) (s : ByteArray) : bearerOf (l.map bare) s = bearerOf l s := by
  unfold bearerOf; rw [List.findIdx?_map]; rfl
theorem bare_borne (l : List Rk) : borneAll (l.map bare) = borneAll l := by
  unfold borneAll; rw [List.flatMap_map]; rfl
theorem bare_name (l : List Rk) (i : Nat) : ((l.map bare)[i]?).map (·.name) = (l[i]?).map (·.name) := by
  rw [List.getElem?_map, Option.map_map]; rfl
theorem bare_climbs (l : List Rk) : ∀ (f : Nat) (s : ByteArray), climbs (l.map bare) f s = climbs l f s := by
  intro f
  induction f with
  | zero => intro s; unfold climbs; rw [bare_bearer]
  | succ f ih =>
    intro s
    unfold climbs
    rw [bare_bearer]
    cases bearerOf l s with
    | none => rfl
    | some i => simp only; rw [bare_name, ih]
theorem bare_tops (l : List Rk) : topsOf (l.map bare) = topsOf l := by
  unfold topsOf topsTo
  rw [List.length_map]
  congr 1
  funext i
  unfold isTop
  rw [List.getElem?_map]
  cases l[i]? with
  | none => rfl
  | some r => simp only [Option.map_some]; rw [bare_bearer]; rfl
theorem bare_top (l : List Rk) : topName (l.map bare) = topName l := by
  unfold topName topOf; rw [bare_tops, bare_name]
theorem bare_pts (l : List Rk) : ∀ (f : Nat) (s : ByteArray), pts (l.map bare) f s = pts l f s := by
  intro f
  induction f with
  | zero => intro s; unfold pts; rw [bare_idx]
  | succ f ih =>
    intro s
    unfold pts
    rw [bare_idx]
    cases idxOf l s with
    | none => rfl
    | some i =>
      simp only
      rw [List.getElem?_map]
      cases l[i]? with
      | none => rfl
      | some r =>
        simp only [Option.map_some]
        rw [ih, ih]
        rfl

/-- Two trees with the same names. -/
def Alike (l x : List Rk) : Prop := l.map bare = x.map bare
theorem Alike.len {l x : List Rk} (h : Alike l x) : l.length = x.length := by have := congrArg List.length h; simpa using this
theorem Alike.idx {l x : List Rk} (h : Alike l x) (s : ByteArray) : idxOf x s = idxOf l s := by rw [← bare_idx, ← bare_idx l, h]
theorem Alike.pts {l x : List Rk} (h : Alike l x) (f : Nat) (s : ByteArray) : pts x f s = pts l f s := by rw [← bare_pts, ← bare_pts l, h]
theorem Alike.top {l x : List Rk} (h : Alike l x) : topName x = topName l := by rw [← bare_top, ← bare_top l, h]
theorem Alike.ptsOf {l x : List Rk} (h : Alike l x) : ptsOf x = ptsOf l := by
  unfold Proofs.Ytoiconebcmneiab.ptsOf; rw [h.pts, h.top, h.len]
theorem Alike.below {l x : List Rk} (h : Alike l x) (s : ByteArray) : below_ x s = below_ l s := by
  unfold below_; rw [h.pts, h.len]

theorem rkErr_zero {b : Bool} {r : Rk} : rkErr b r = 0 ↔ nameB r.name = true ∧ b = false ∧ nameB r.left = true ∧ nameB r.right = true ∧ withinB r.al 1 10000 = true ∧ withinB r.ar 1 10000 = true := by
  unfold rkErr
  cases nameB r.name <;> cases b <;> cases nameB r.left <;> cases nameB r.right <;> cases withinB r.al 1 10000 <;> cases withinB r.ar 1 10000 <;> simp

theorem err1_alike : ∀ (l x seen seen' : List Rk), Alike seen seen' → Alike l x → (∀ r ∈ x, withinB r.al 1 10000 = true ∧ withinB r.ar 1 10000 = true) → err1 seen l = 0 → err1 seen' x = 0
  | [], x, seen, seen', _, hx, _, _ => by
    have := hx.len
    simp at this
    obtain rfl := List.eq_nil_of_length_eq_zero this.symm
    rfl
  | r :: l, x, seen, seen', hs, hx, ha, he => by
    cases x with
    | nil => have := hx.len; simp at this
    | cons y x =>
      have h1 : bare r = bare y ∧ Alike l x := by
        unfold Alike at hx
        rw [List.map_cons, List.map_cons] at hx
        exact ⟨(List.cons.inj hx).1, (List.cons.inj hx).2⟩
      have e1 : r.name = y.name := by have := congrArg Rk.name h1.1; exact this
      have e2 : r.left = y.left := by have := congrArg Rk.left h1.1; exact this
      have e3 : r.right = y.right := by have := congrArg Rk.right h1.1; exact this
      unfold err1 at he ⊢
      have h0 : rkErr (idxM seen r.name).isSome r = 0 := by
        by_cases h : rkErr (idxM seen r.name).isSome r = 0
        · exact h
        · rw [if_neg h] at he; exact absurd he h
      rw [if_pos h0] at he
      have hi : (idxM seen' y.name).isSome = (idxM seen r.name).isSome := by unfold idxM; rw [hs.idx, e1]
      have h2 : rkErr (idxM seen' y.name).isSome y = 0 := by
        rw [hi]
        obtain ⟨g1, g2, g3, g4, g5, g6⟩ := rkErr_zero.1 h0
        obtain ⟨a1, a2⟩ := ha y (by simp)
        exact rkErr_zero.2 ⟨by rw [← e1]; exact g1, g2, by rw [← e2]; exact g3, by rw [← e3]; exact g4, a1, a2⟩
      rw [if_pos h2]
      refine err1_alike l x _ _ ?_ h1.2 (fun r hr => ha r (by simp [hr])) he
      unfold Alike at hs ⊢
      rw [List.map_append, List.map_append, hs]
      simp [h1.1]

theorem open_alike {l x : List Rk} (h : Alike l x) (ha : ArmsOK x) (h0 : openErr l = 0) : openErr x = 0 := by
  have hb : borneAll x = borneAll l := by rw [← bare_borne, ← bare_borne l, h]
  have ht : topsOf x = topsOf l := by rw [← bare_tops, ← bare_tops l, h]
  have hn : x.any (fun r => climbs x (x.length + 1) r.name) = l.any (fun r => climbs l (l.length + 1) r.name) := by
    have e : ∀ s, climbs x (x.length + 1) s = climbs l (l.length + 1) s := fun s => by rw [← bare_climbs, ← bare_climbs l, h, h.len]
    have e2 : ∀ m : List Rk, m.any (fun r => climbs l (l.length + 1) r.name) = (m.map bare).any (fun r => climbs l (l.length + 1) r.name) := fun m => by rw [List.any_map]; rfl
    rw [show (fun r : Rk => climbs x (x.length + 1) r.name) = fun r => climbs l (l.length + 1) r.name from funext fun r => e r.name, e2 x, e2 l, h]
  obtain ⟨g0, g1, g2, g3, g4, g5⟩ := open_zero h0
  have hl := h.len
  have e1 : err1 [] x = 0 := err1_alike l x [] [] rfl h (fun r hr => by
    obtain ⟨a1, a2, a3, a4⟩ := ha r hr
    exact ⟨(withinB_iff _ _ _).2 ⟨a1, a2⟩, (withinB_iff _ _ _).2 ⟨a3, a4⟩⟩) g2
  unfold openErr at h0 ⊢
  rw [hb, ht, hn, e1, ← hl]
  rw [g2] at h0
  exact h0

/-- The arms that balance two loads. -/
def armR (r : Rk) (p : Int × Int) : Rk := { r with al := redN p.2 p.1, ar := redD p.2 p.1 }
def armsTo (l : List Rk) (S : List (Int × Int)) (k : Nat) : List Rk := (List.zipWith armR l S).take k ++ l.drop k
def bigA (p : Int × Int) : Bool := decide (10000 < redN p.2 p.1) || decide (10000 < redD p.2 p.1)
theorem armsTo_len {l : List Rk} {S : List (Int × Int)} (h : S.length = l.length) (k : Nat) : (armsTo l S k).length = l.length := by
  unfold armsTo; rw [List.length_append, List.length_take, List.length_zipWith, List.length_drop]; omega
theorem armsTo_get {l : List Rk} {S : List (Int × Int)} (h : S.length = l.length) {k i : Nat} {r : Rk} (hr : l[i]? = some r) (hi : k ≤ i) : (armsTo l S k)[i]? = some r := by
  have hil := (List.getElem?_eq_some_iff.1 hr).1
  unfold armsTo
  have e : ((List.zipWith armR l S).take k).length = k := by rw [List.length_take, List.length_zipWith]; omega
  rw [List.getElem?_append_right (by omega), e, List.getElem?_drop, show k + (i - k) = i by omega, hr]
theorem armsTo_succ {l : List Rk} {S : List (Int × Int)} {k : Nat} {r : Rk} {p : Int × Int} (hr : l[k]? = some r) (hp : S[k]? = some p) : (armsTo l S k).set k (armR r p) = armsTo l S (k + 1) := by
  have hil := (List.getElem?_eq_some_iff.1 hr).1
  have hpl := (List.getElem?_eq_some_iff.1 hp).1
  have hz : (List.zipWith armR l S)[k]? = some (armR r p) := by rw [List.getElem?_zipWith, hr, hp]
  unfold armsTo
  have e : ((List.zipWith armR l S).take k).length = k := by rw [List.length_take, List.length_zipWith]; omega
  have hd : l.drop k = r :: l.drop (k + 1) := by
    have := List.drop_eq_getElem_cons hil
    rw [this]
    congr 1
    exact (List.getElem?_eq_some_iff.1 hr).2
  rw [hd, List.set_append_right _ _ (by omega), e, Nat.sub_self, List.set_cons_zero, List.take_add_one, hz, List.append_assoc]
  rfl
theorem armsTo_all {l : List Rk} {S : List (Int × Int)} (h : S.length = l.length) : armsTo l S l.length = List.zipWith armR l S := by
  unfold armsTo; rw [List.drop_length, List.append_nil, List.take_of_length_le (by rw [List.length_zipWith]; omega)]
theorem armsTo_zero (l : List Rk) (S : List (Int × Int)) : armsTo l S 0 = l := by simp [armsTo]
theorem arms_alike : ∀ (l : List Rk) (S : List (Int × Int)), S.length = l.length → Alike l (List.zipWith armR l S)
  | [], S, _ => by simp [Alike]
  | r :: l, [], h => by simp at h
  | r :: l, p :: S, h => by
    have := arms_alike l S (by simpa using h)
    unfold Alike at this ⊢
    rw [List.zipWith_cons_cons, List.map_cons, List.map_cons, this]
    rfl

theorem rkCells_set : ∀ (l : List Rk) (k : Nat) (r : Rk) (a b : Int), l[k]? = some r → ((rkCells l).set (k * 5 + 3) (.int .i64 a)).set (k * 5 + 4) (.int .i64 b) = rkCells (l.set k { r with al := a, ar := b })
  | [], k, r, a, b, h => by simp at h
  | x :: l, 0, r, a, b, h => by
    simp at h
    subst h
    simp [rkCells, Rk.cells]
  | x :: l, k + 1, r, a, b, h => by
    have ih := rkCells_set l k r a b (by simpa using h)
    have e : rkCells (x :: l) = .string x.name :: .string x.left :: .string x.right :: .int .i64 x.al :: .int .i64 x.ar :: rkCells l := rfl
    rw [List.set_cons_succ, e, show (k + 1) * 5 + 3 = k * 5 + 3 + 1 + 1 + 1 + 1 + 1 by omega, show (k + 1) * 5 + 4 = k * 5 + 4 + 1 + 1 + 1 + 1 + 1 by omega]
    simp only [List.set_cons_succ]
    rw [ih]
    rfl

/-- The errors of loads. -/
def armsErr (np : Nat) (xs : List Int) : Int := if xs.length ≠ np then 10 else if xs.any (fun z => !(withinB z 1 1000000)) then 2 else 0

theorem red_eq {a b c d : Int} (hb : 0 < b) (hd : 0 < d) (h : a * d = c * b) : redN a b = redN c d ∧ redD a b = redD c d := by
  have h1 := red_scale hd a b
  have h2 := red_scale hb c d
  have e : d * a = b * c := by rw [Int.mul_comm d a, h, Int.mul_comm]
  have e2 : d * b = b * d := Int.mul_comm _ _
  rw [e, e2] at h1
  exact ⟨h1.1.symm.trans h2.1, h1.2.1.symm.trans h2.2.1⟩

theorem red_mul {a b : Int} (hb : 0 < b) : redN a b * b = redD a b * a ∧ 0 < redD a b := by
  have hg : 0 < (Int.gcd a b : Int) := by exact_mod_cast Int.gcd_pos_of_ne_zero_right a (by omega)
  obtain ⟨p, hp⟩ := Int.gcd_dvd_left a b
  obtain ⟨q, hq⟩ := Int.gcd_dvd_right a b
  have e1 : redN a b = p := by unfold redN; exact Int.ediv_eq_of_eq_mul_right (by omega) hp
  have e2 : redD a b = q := by unfold redD; exact Int.ediv_eq_of_eq_mul_right (by omega) hq
  rw [e1, e2]
  generalize (Int.gcd a b : Int) = g at *
  refine ⟨?_, ?_⟩
  · rw [hp, hq]; grind
  · rw [hq] at hb
    rw [Int.mul_comm] at hb
    exact Int.pos_of_mul_pos_left hb hg

theorem sumF_acc_eq (g : ByteArray → Int) : ∀ (b : List ByteArray) (t : Int), b.foldl (fun t s => t + g s) t = t + b.foldl (fun t s => t + g s) 0
  | [], t => by simp
  | s :: b, t => by rw [List.foldl_cons, List.foldl_cons, sumF_acc_eq g b (t + g s), sumF_acc_eq g b (0 + g s)]; omega
theorem sumF_append (g : ByteArray → Int) (a b : List ByteArray) : sumF g (a ++ b) = sumF g a + sumF g b := by
  unfold sumF; rw [List.foldl_append, sumF_acc_eq]

theorem pts_le {l : List Rk} {f g : Nat} (h : f ≤ g) {s : ByteArray} {ps : List ByteArray} (hp : pts l f s = some ps) : pts l g s = some ps := by
  induction g with
  | zero => obtain rfl : f = 0 := by omega
            exact hp
  | succ g ih =>
    by_cases e : f = g + 1
    · rw [← e]; exact hp
    · exact pts_mono _ _ _ (ih (by omega))
theorem below_of {l : List Rk} {f : Nat} (h : f ≤ l.length) {s : ByteArray} {ps : List ByteArray} (hp : pts l f s = some ps) : below_ l s = ps := by
  unfold below_; rw [pts_le h hp]; rfl

/-- The shares of the tree with the arms that balance loads are the loads' shares. -/
theorem arms_sh {l : List Rk} {ps : List ByteArray} {xs : List Int} {T : Int} (hT : 0 < T) (hpos : ∀ (i : Nat) (r : Rk), l[i]? = some r → 1 ≤ underI l ps xs r.left ∧ 1 ≤ underI l ps xs r.right) :
    ∀ (f : Nat), f ≤ l.length → ∀ (s : ByteArray) (qs : List ByteArray) (zs : List (Int × Int)), pts l f s = some qs →
      sh (List.zipWith armR l (l.map fun r : Rk => (underI l ps xs r.left, underI l ps xs r.right))) f s (redN (underI l ps xs s) T) (redD (underI l ps xs s) T) = some zs →
      zs = qs.map fun q => (redN (loadOf ps xs q) T, redD (loadOf ps xs q) T) := by
  have hA : Alike l (List.zipWith armR l (l.map fun r : Rk => (underI l ps xs r.left, underI l ps xs r.right))) := arms_alike _ _ (by rw [List.length_map])
  have leaf : ∀ (f : Nat), f ≤ l.length → ∀ s qs, pts l f s = some qs → idxOf l s = none → qs = [s] ∧ underI l ps xs s = loadOf ps xs s := by
    intro f hf s qs hp hi
    have hq : qs = [s] := by
      cases f with
      | zero => unfold pts at hp; rw [hi] at hp; exact (Option.some.inj hp).symm
      | succ f => unfold pts at hp; rw [hi] at hp; exact (Option.some.inj hp).symm
    refine ⟨hq, ?_⟩
    unfold underI
    rw [below_of hf hp, hq]
    simp [sumF]
  intro f
  induction f with
  | zero =>
    intro hf s qs zs hp hz
    have hi : idxOf l s = none := by
      cases hi : idxOf l s with
      | none => rfl
      | some i => unfold pts at hp; rw [hi] at hp; cases hp
    obtain ⟨rfl, hu⟩ := leaf 0 hf s qs hp hi
    unfold sh at hz
    rw [← Option.some.inj hz, hu]
    rfl
  | succ f ih =>
    intro hf s qs zs hp hz
    cases hi : idxOf l s with
    | none =>
      obtain ⟨rfl, hu⟩ := leaf (f + 1) hf s qs hp hi
      unfold sh at hz
      rw [hA.idx, hi] at hz
      simp only at hz
      rw [← Option.some.inj hz, hu]
      rfl
    | some i =>
      have hp0 := hp
      unfold pts at hp
      rw [hi] at hp
      simp only at hp
      cases hr : l[i]? with
      | none => rw [hr] at hp; cases hp
      | some r =>
        rw [hr] at hp
        simp only at hp
        cases ha : pts l f r.left with
        | none => rw [ha] at hp; cases hp
        | some a =>
          cases hb : pts l f r.right with
          | none => rw [ha, hb] at hp; cases hp
          | some b =>
            rw [ha, hb] at hp
            have hqs : a ++ b = qs := Option.some.inj hp
            have hU : underI l ps xs s = underI l ps xs r.left + underI l ps xs r.right := by
              unfold underI
              rw [below_of hf hp0, below_of (by omega) ha, below_of (by omega) hb, ← hqs, sumF_append]
            obtain ⟨p1, p2⟩ := hpos i r hr
            have hx : (List.zipWith armR l (l.map fun r : Rk => (underI l ps xs r.left, underI l ps xs r.right)))[i]? = some (armR r (underI l ps xs r.left, underI l ps xs r.right)) := by
              rw [List.getElem?_zipWith, List.getElem?_map, hr]; rfl
            unfold sh at hz
            rw [hA.idx, hi] at hz
            simp only [hx] at hz
            have hjoin : ∃ z1 z2, sh (List.zipWith armR l (l.map fun r : Rk => (underI l ps xs r.left, underI l ps xs r.right))) f r.left (redN (redN (underI l ps xs s) T * redD (underI l ps xs r.right) (underI l ps xs r.left)) (redD (underI l ps xs s) T * (redN (underI l ps xs r.right) (underI l ps xs r.left) + redD (underI l ps xs r.right) (underI l ps xs r.left)))) (redD (redN (underI l ps xs s) T * redD (underI l ps xs r.right) (underI l ps xs r.left)) (redD (underI l ps xs s) T * (redN (underI l ps xs r.right) (underI l ps xs r.left) + redD (underI l ps xs r.right) (underI l ps xs r.left)))) = some z1 ∧
                sh (List.zipWith armR l (l.map fun r : Rk => (underI l ps xs r.left, underI l ps xs r.right))) f r.right (redN (redN (underI l ps xs s) T * redN (underI l ps xs r.right) (underI l ps xs r.left)) (redD (underI l ps xs s) T * (redN (underI l ps xs r.right) (underI l ps xs r.left) + redD (underI l ps xs r.right) (underI l ps xs r.left)))) (redD (redN (underI l ps xs s) T * redN (underI l ps xs r.right) (underI l ps xs r.left)) (redD (underI l ps xs s) T * (redN (underI l ps xs r.right) (underI l ps xs r.left) + redD (underI l ps xs r.right) (underI l ps xs r.left)))) = some z2 ∧ zs = z1 ++ z2 := by
              split at hz
              · unfold join2 at hz
                split at hz
                · rename_i z1 z2 e1 e2
                  exact ⟨z1, z2, e1, e2, (Option.some.inj hz).symm⟩
                · cases hz
              · cases hz
            obtain ⟨z1, z2, h1, h2, rfl⟩ := hjoin
            obtain ⟨m1, m2⟩ := red_mul (a := underI l ps xs s) hT
            obtain ⟨m3, m4⟩ := red_mul (a := underI l ps xs r.right) (b := underI l ps xs r.left) (by omega)
            have m5 : 0 < redN (underI l ps xs r.right) (underI l ps xs r.left) := by
              have : 0 < redN (underI l ps xs r.right) (underI l ps xs r.left) * underI l ps xs r.left := by rw [m3]; exact Int.mul_pos m4 (by omega)
              exact Int.pos_of_mul_pos_left this (by omega)
            rw [hU] at m1
            have hden : 0 < redD (underI l ps xs s) T * (redN (underI l ps xs r.right) (underI l ps xs r.left) + redD (underI l ps xs r.right) (underI l ps xs r.left)) := Int.mul_pos m2 (by omega)
            rw [hU] at h1 h2 hden m2
            obtain ⟨L, hL⟩ : ∃ L, underI l ps xs r.left = L := ⟨_, rfl⟩
            obtain ⟨R, hR⟩ : ∃ R, underI l ps xs r.right = R := ⟨_, rfl⟩
            rw [hL, hR] at m1 m2 m3 m4 m5 hden h1 h2
            generalize redN (L + R) T = n at *
            generalize redD (L + R) T = d at *
            generalize redN R L = al at *
            generalize redD R L = ar at *
            have q1 := red_eq (a := n * ar) (b := d * (al + ar)) (c := L) (d := T) hden hT (by grind)
            have q2 := red_eq (a := n * al) (b := d * (al + ar)) (c := R) (d := T) hden hT (by grind)
            rw [q1.1, q1.2] at h1
            rw [q2.1, q2.2, ← hR] at h2
            rw [← hL] at h1
            rw [ih (by omega) _ _ _ ha h1, ih (by omega) _ _ _ hb h2, ← hqs, List.map_append]
end Go.Proofs.Ytoiconebcmneiab

end

section
/- Contracts of all shares as the reference has them, and of its check of shares. -/
namespace Go.Proofs.Ytoiconebcmneiab
open Go.RowKit

theorem made_fracs (m : Nat) : madeCells #[.int .i64 0, .int .i64 0] (m * 2) = (cells2 (List.replicate m (0, 0))).toArray := by
  apply Array.ext
  · rw [size_madeCells]; simp [cells2_length]
  · intro i h1 h2
    rw [size_madeCells] at h1
    have hl : (List.replicate m ((0 : Int), (0 : Int))).length = m := by simp
    have e1 : (madeCells #[.int .i64 0, .int .i64 0] (m * 2))[i]'(by rw [size_madeCells]; exact h1) = .int .i64 0 := by
      unfold madeCells
      simp only [Array.getElem_map, Array.getElem_range]
      have : i % 2 = 0 ∨ i % 2 = 1 := by omega
      rcases this with h | h <;> simp [h]
    have e2 : (cells2 (List.replicate m ((0 : Int), (0 : Int))))[i]'(by rw [cells2_length, hl]; exact h1) = .int .i64 0 := by
      have hg := cells2_get (List.replicate m ((0 : Int), (0 : Int))) (i / 2) (by rw [hl]; omega)
      simp only [List.getElem_replicate] at hg
      have : i = i / 2 * 2 ∨ i = i / 2 * 2 + 1 := by omega
      rcases this with h | h
      · have := hg.1; rw [← h] at this; exact (List.getElem?_eq_some_iff.1 this).2
      · have := hg.2; rw [← h] at this; exact (List.getElem?_eq_some_iff.1 this).2
    rw [e1]
    simp only [List.getElem_toArray]
    rw [e2]

def RSharesPost (l : List Rk) (m : Nat) (w : World) (e : Ending) (w' : World) : Prop :=
  Below w.heap.size w w' ∧ ∃ A' c', e = .returned (.tuple #[.slice A' m c', .bool (sharesOf l).isSome]) ∧ ∀ ys, sharesOf l = some ys → Reads w' w'.heap.size 2 A' m (cells2 ys)

set_option maxRecDepth 100000 in
set_option maxHeartbeats 1000000 in
theorem rshares_any (l : List Rk) (hfits : ∀ r ∈ l, r.Fits) (A : Option Addr) (n c N : Nat) (w : World) (hx : Reads w N 5 A n (rkCells l)) (hN : N ≤ w.heap.size) (hn : n ≤ 100000) (h0 : openErr l = 0) (ps : List ByteArray) (hp : ptsOf l = some ps) (hps : ps.length ≤ 1000000) :
    Calls Try.prog 37 #[.slice A n c] w (RSharesPost l ps.length w) := by
  obtain ⟨i0, hi0, hz0, hz1, hz2⟩ := info_parts info_frac
  have harms := arms_of h0
  have hnd := points_nodup h0 hp
  have hx' := hx.more hN
  have HX := Lib.hid hx'
  have HP := Lib.hid hp
  have H0 := Lib.hid h0
  have hmk : ∀ w, (Instr.makeSlice 49 (.int .i64 (ps.length : Int)) (.int .i64 (ps.length : Int))).run Try.prog w = .ok (.slice (some ⟨w.heap.size, 0, none⟩) ps.length ps.length) (w.alloc (.cells (cells2 (List.replicate ps.length (0, 0))).toArray 53)) := fun w => by
    have := run_make_rowN (P := Try.prog) 49 53 i0 (.agg #[.int .i64 0, .int .i64 0]) Try.underlying49 hi0 hz0 .i64 .i64 ps.length ps.length (Nat.le_refl _) (by rw [hz2]; omega) (by omega) w
    rw [this, hz1]
    have e := made_fracs ps.length
    rw [← e]
    rfl
  clear hx hx' hp h0 hi0 hz0 hz1 hz2
  obtain ⟨m, hm⟩ : ∃ m, ps.length = m := ⟨_, rfl⟩
  have HM := Lib.hid hm
  rw [hm] at hmk hps
  rw [hm]
  clear hm
  have hxq := HX.out
  go_enter Try.func37, Try.ntmps37
  have R0_0 := Lib.hid hxq
  clear hxq
  go_wp2_with fail
  refine (rpoints_any l hfits A n c _ _ R0_0.out (Nat.le_refl _) hn H0.out ps HP.out (by rw [HM.out]; exact hps)).mono ?_
  rintro e w1 ⟨hb, A1, c1, rfl, ho⟩
  have HB1 := Lib.hid (show Below w.heap.size w w1 from step_below hb (by repeat' (first | exact Below.refl _ _ | exact HB0.out | refine below_drewN ?_ _ | refine Below.drew ?_ | refine Below.alloc ?_ (by first | omega | (simp; done) | (simp; omega) | (simp [World.setCell]; omega)) _ | refine Below.setCell ?_ (by first | omega | (simp; done) | (simp; omega)) _ | assumption)))
  have hL1 := Lib.hid (show Below w.heap.size w _ from reads_mid hb (by repeat' (first | exact Below.refl _ _ | refine below_drewN ?_ _ | refine Below.drew ?_ | refine Below.alloc ?_ (by first | omega | (simp; done) | (simp; omega) | (simp [World.setCell]; omega)) _ | refine Below.setCell ?_ (by first | omega | (simp; done) | (simp; omega)) _)))
  have R0_1 := Lib.hid (reads_lay hb hL1.out R0_0.out)
  clear hL1 R0_0
  have hz1 := hb.size
  try simp only [World.size_alloc, World.drewN, World.drew] at hz1
  clear hb
  have hr' := own_reads2 ho
  rw [HM.out] at hr'
  rw [HM.out]
  clear ho
  have R1_1 := Lib.hid hr'
  clear hr'
  go_wp2_with fail
  clear hmk
  have hb : Below w1.heap.size w1 (w1.alloc (.cells (cells2 (List.replicate m (0, 0))).toArray 53)) := (Below.refl _ _).alloc (Nat.le_refl _) _
  refine (rtop_any l hfits A n c w.heap.size _ (HX.out.below (HB1.out.trans (hb.mono HB1.out.size))) (Nat.le_trans HB1.out.size hb.size) hn H0.out).mono ?_
  rintro e w2 ⟨rfl, hb2⟩
  have kz : Blk w2 w1.heap.size 53 (cells2 ([] ++ List.replicate m (0, 0) ++ [])).toArray := by
    rw [List.nil_append, List.append_nil]
    exact (Blk.new w1 _ _).below hb2 (by simp)
  have hw12 : Below w1.heap.size w1 w2 := hb.trans (hb2.mono hb.size)
  have hw02 : Below w.heap.size w w2 := HB1.out.trans (hw12.mono HB1.out.size)
  have hr2 : Reads w2 w1.heap.size 1 A1 m (strs ps) := R1_1.out.below hw12
  have hx2 : Reads w2 w.heap.size 5 A n (rkCells l) := HX.out.below hw02
  have KZ := Lib.hid kz
  have HW02 := Lib.hid hw02
  have HW12 := Lib.hid hw12
  have HR2 := Lib.hid hr2
  have HX2 := Lib.hid hx2
  have hs1 := HB1.out.size
  clear kz hw12 hw02 hr2 hx2 hb hb2
  go_wp2_with fail
  refine (rshare_any l hfits harms A n c w.heap.size A1 m c1 w1.heap.size ps hn hps hs1 hnd l.length (topName l) ps 1 1 [] [] [] (List.replicate m (0, 0)) [] _ (by have := HP.out; unfold ptsOf at this; exact this) ⟨by omega, by omega⟩ ⟨by omega, by omega⟩ (by simp) HX2.out HR2.out KZ.out rfl (by simp [HM.out]) (by simp)).mono ?_
  rintro e w3 ⟨hg, rfl, zs, hzl, hzb, hzy⟩
  have HW03 : Hid (Below w.heap.size w w3) := by
    exact HW02.out.grown hg (by have := HW02.out.size; omega) (fun g hg => by have e := Option.some.inj hg; rw [← e]; exact hs1)
  have HZB := Lib.hid hzb
  have HZY := Lib.hid hzy
  have HZL := Lib.hid hzl
  clear hg hzb hzy hzl
  go_wp2
  go_ret2
  refine ⟨HW03.out, some ⟨w1.heap.size, 0, none⟩, m, ?_, fun ys hys => ?_⟩
  · unfold sharesOf; rfl
  · have := HZY.out ys (by unfold sharesOf at hys; exact hys)
    rw [List.nil_append, List.append_nil] at this
    subst this
    exact Blk.reads HZB.out (by rw [cells2_length, HZL.out])

/-- The error of the first fraction that is not right. -/
def fracsErr : List (Int × Int) → Int
  | [] => 0
  | p :: l => if fracErr p.1 p.2 ≠ 0 then fracErr p.1 p.2 else fracsErr l
theorem fracsErr_zero : ∀ {l : List (Int × Int)}, (∀ (k : Nat) (p : Int × Int), l[k]? = some p → fracErr p.1 p.2 = 0) → fracsErr l = 0
  | [], _ => rfl
  | p :: l, h => by
    unfold fracsErr
    rw [if_neg (by have := h 0 p rfl; simpa using this)]
    exact fracsErr_zero fun k q hq => h (k + 1) q (by simpa using hq)
theorem fracsErr_at : ∀ {l : List (Int × Int)} {k : Nat} {p : Int × Int}, (∀ j, j < k → ∀ q : Int × Int, l[j]? = some q → fracErr q.1 q.2 = 0) → l[k]? = some p → fracErr p.1 p.2 ≠ 0 → fracsErr l = fracErr p.1 p.2
  | x :: l, 0, p, h, hp, hne => by
    simp at hp; subst hp
    unfold fracsErr
    rw [if_pos hne]
  | x :: l, k + 1, p, h, hp, hne => by
    unfold fracsErr
    rw [if_neg (by have := h 0 (Nat.succ_pos _) x rfl; simpa using this)]
    exact fracsErr_at (fun j hj q hq => h (j + 1) (Nat.succ_lt_succ hj) q (by simpa using hq)) (by simpa using hp) hne
  | [], k, p, h, hp, hne => by simp at hp
/-- The error of shares of a right tree with so many points. -/
def cksErr (np : Nat) (res : Option (List (Int × Int))) (xs : List (Int × Int)) : Int :=
  if xs.length ≠ np then 10 else if fracsErr xs ≠ 0 then fracsErr xs else match res with
    | none => 8
    | some ys => if ys = xs then 0 else 22

theorem checkfracref_is2 (n d t : Int) (h : fracErr n d = t) (w : World) (h1 : -9223372036854775808 ≤ n) (h2 : n ≤ 9223372036854775807) (h3 : -9223372036854775808 ≤ d) (h4 : d ≤ 9223372036854775807) :
    Calls Try.prog 33 #[.agg #[.int .i64 n, .int .i64 d]] w fun e w' => e = .returned (.int .i64 t) ∧ Below w.heap.size w w' := h ▸ checkfracref_any n d w h1 h2 h3 h4

theorem checkfrac_is2 (n d t : Int) (h : fracErr n d = t) (w : World) (h1 : -9223372036854775808 ≤ n) (h2 : n ≤ 9223372036854775807) (h3 : -9223372036854775808 ≤ d) (h4 : d ≤ 9223372036854775807) :
    Calls Try.prog 77 #[.agg #[.int .i64 n, .int .i64 d]] w fun e w' => e = .returned (.int .i64 t) ∧ Below w.heap.size w w' := h ▸ checkfrac_any n d w h1 h2 h3 h4

def Small2 (l : List (Int × Int)) : Prop := ∀ p ∈ l, (-9223372036854775808 ≤ p.1 ∧ p.1 ≤ 9223372036854775807) ∧ (-9223372036854775808 ≤ p.2 ∧ p.2 ≤ 9223372036854775807)


end Go.Proofs.Ytoiconebcmneiab

end

section
/- Contracts of what asks for a number for each point, of the comparison of two lists of fractions, of the check of shares. -/
namespace Go.Proofs.Ytoiconebcmneiab
open Go.RowKit


theorem forpoints_bad (l : List Rk) (hfits : ∀ r ∈ l, r.Fits) (A : Option Addr) (n c : Nat) (m E : Int) (w : World) (hx : Reads w w.heap.size 5 A n (rkCells l)) (hn : n ≤ 100000) (hE : openErr l = E) (h0 : E ≠ 0) :
    Calls Try.prog 45 #[.slice A n c, .int .i64 m] w fun e w' => e = .returned (.tuple #[.pointer none, .int .i64 E]) ∧ Below w.heap.size w w' := by
  have e0 : (E == 0) = false := by simpa using h0
  have e1 : (E != 0) = true := by simpa using h0
  subst hE
  have H0 := Lib.hid h0
  clear h0
  go_enter Try.func45, Try.ntmps45
  have R0_0 := Lib.hid hx
  clear hx
  go_wp2_with fail
  refine (open_bad l hfits A n c _ _ R0_0.out (Nat.le_refl _) (by omega) H0.out).mono ?_
  rintro e w1 ⟨rfl, hb⟩
  have HB1 := Lib.hid (show Below w.heap.size w w1 from step_below hb (by repeat' (first | exact Below.refl _ _ | exact HB0.out | refine below_drewN ?_ _ | refine Below.drew ?_ | refine Below.alloc ?_ (by first | omega | (simp; done) | (simp; omega) | (simp [World.setCell]; omega)) _ | refine Below.setCell ?_ (by first | omega | (simp; done) | (simp; omega)) _ | assumption)))
  have hL1 := Lib.hid (show Below w.heap.size w _ from reads_mid hb (by repeat' (first | exact Below.refl _ _ | refine below_drewN ?_ _ | refine Below.drew ?_ | refine Below.alloc ?_ (by first | omega | (simp; done) | (simp; omega) | (simp [World.setCell]; omega)) _ | refine Below.setCell ?_ (by first | omega | (simp; done) | (simp; omega)) _)))
  have R0_1 := Lib.hid (reads_lay hb hL1.out R0_0.out)
  clear hL1 R0_0
  have hz1 := hb.size
  try simp only [World.size_alloc, World.drewN, World.drew] at hz1
  clear hb
  go_wp2
  go_ret2
  refine ⟨rfl, ?_⟩
  repeat' (first | exact Below.refl _ _ | exact HB1.out | refine below_drewN ?_ _ | refine Below.drew ?_ | refine Below.alloc ?_ (by first | omega | (simp; done) | (simp; omega) | (simp [World.setCell]; omega)) _ | refine Below.setCell ?_ (by first | omega | (simp; done) | (simp; omega)) _ | assumption)

/-- The tree that is open, and all that it stands on. -/
def ForPost (l : List Rk) (A : Option Addr) (n c : Nat) (w : World) (e : Ending) (w' : World) : Prop :=
  Below w.heap.size w w' ∧ ∃ tb mb, e = .returned (.tuple #[.pointer (some ⟨tb, 0, none⟩), .int .i64 0]) ∧ TreeAt l A n c tb mb (topOf l : Int) w'.heap.size w'

set_option maxHeartbeats 1000000 in
theorem forpoints_ok (l : List Rk) (hfits : ∀ r ∈ l, r.Fits) (A : Option Addr) (n c m : Nat) (w : World) (hx : Reads w w.heap.size 5 A n (rkCells l)) (hn : n ≤ 100000) (h0 : openErr l = 0) (ps : List ByteArray) (hp : ptsOf l = some ps) (hps : ps.length ≤ 1000000) (hm : ps.length = m) :
    Calls Try.prog 45 #[.slice A n c, .int .i64 (m : Int)] w (ForPost l A n c w) := by
  obtain ⟨z0, -⟩ := open_zero h0
  have htop := topOf_lt z0
  have H0 := Lib.hid h0
  have HPS := Lib.hid hp
  have htop' := Lib.hid htop
  have HX := Lib.hid hx
  subst hm
  clear h0 hp z0 htop hx
  have hx := HX.out
  go_enter Try.func45, Try.ntmps45
  have R0_0 := Lib.hid hx
  clear hx
  go_wp2_with fail
  refine (open_ok l hfits A n c _ _ R0_0.out (Nat.le_refl _) (by omega) H0.out).mono ?_
  rintro e w1 ⟨rfl, hb, ht, hm⟩
  have HB1 := Lib.hid (show Below w.heap.size w w1 from step_below hb (by repeat' (first | exact Below.refl _ _ | exact HB0.out | refine below_drewN ?_ _ | refine Below.drew ?_ | refine Below.alloc ?_ (by first | omega | (simp; done) | (simp; omega) | (simp [World.setCell]; omega)) _ | refine Below.setCell ?_ (by first | omega | (simp; done) | (simp; omega)) _ | assumption)))
  have hL1 := Lib.hid (show Below w.heap.size w _ from reads_mid hb (by repeat' (first | exact Below.refl _ _ | refine below_drewN ?_ _ | refine Below.drew ?_ | refine Below.alloc ?_ (by first | omega | (simp; done) | (simp; omega) | (simp [World.setCell]; omega)) _ | refine Below.setCell ?_ (by first | omega | (simp; done) | (simp; omega)) _)))
  have R0_1 := Lib.hid (reads_lay hb hL1.out R0_0.out)
  clear hL1 R0_0
  have hz1 := hb.size
  try simp only [World.size_alloc, World.drewN, World.drew] at hz1
  clear hb
  have HT := Lib.hid (TreeAt.of R0_1.out (Nat.le_refl _) ht hm)
  clear ht hm
  go_wp2_with fail
  refine (points_any l hfits A n c _ _ w1 (by omega) HT.out htop'.out ps HPS.out hps).mono ?_
  rintro e w2 ⟨hb2, A', c', rfl, hown⟩
  have HB2 := Lib.hid (HB1.out.trans (hb2.mono (by omega)))
  have HT2 := Lib.hid ((HT.out.below hb2).more hb2.size)
  have hq : ((ps.length : Int) != (ps.length : Int)) = false := by simp
  clear hown hb2
  go_wp2
  go_ret2
  exact ⟨HB2.out, _, _, rfl, HT2.out⟩

set_option maxHeartbeats 1000000 in
theorem forpoints_no (l : List Rk) (hfits : ∀ r ∈ l, r.Fits) (A : Option Addr) (n c m : Nat) (w : World) (hx : Reads w w.heap.size 5 A n (rkCells l)) (hn : n ≤ 100000) (h0 : openErr l = 0) (ps : List ByteArray) (hp : ptsOf l = some ps) (hps : ps.length ≤ 1000000) (hm : ps.length ≠ m) :
    Calls Try.prog 45 #[.slice A n c, .int .i64 (m : Int)] w fun e w' => e = .returned (.tuple #[.pointer none, .int .i64 10]) ∧ Below w.heap.size w w' := by
  obtain ⟨z0, -⟩ := open_zero h0
  have htop := topOf_lt z0
  have H0 := Lib.hid h0
  have HPS := Lib.hid hp
  have htop' := Lib.hid htop
  have HX := Lib.hid hx
  have HM := Lib.hid hm
  clear h0 hp z0 htop hx hm
  have hx := HX.out
  go_enter Try.func45, Try.ntmps45
  have R0_0 := Lib.hid hx
  clear hx
  go_wp2_with fail
  refine (open_ok l hfits A n c _ _ R0_0.out (Nat.le_refl _) (by omega) H0.out).mono ?_
  rintro e w1 ⟨rfl, hb, ht, hm⟩
  have HB1 := Lib.hid (show Below w.heap.size w w1 from step_below hb (by repeat' (first | exact Below.refl _ _ | exact HB0.out | refine below_drewN ?_ _ | refine Below.drew ?_ | refine Below.alloc ?_ (by first | omega | (simp; done) | (simp; omega) | (simp [World.setCell]; omega)) _ | refine Below.setCell ?_ (by first | omega | (simp; done) | (simp; omega)) _ | assumption)))
  have hL1 := Lib.hid (show Below w.heap.size w _ from reads_mid hb (by repeat' (first | exact Below.refl _ _ | refine below_drewN ?_ _ | refine Below.drew ?_ | refine Below.alloc ?_ (by first | omega | (simp; done) | (simp; omega) | (simp [World.setCell]; omega)) _ | refine Below.setCell ?_ (by first | omega | (simp; done) | (simp; omega)) _)))
  have R0_1 := Lib.hid (reads_lay hb hL1.out R0_0.out)
  clear hL1 R0_0
  have hz1 := hb.size
  try simp only [World.size_alloc, World.drewN, World.drew] at hz1
  clear hb
  have HT := Lib.hid (TreeAt.of R0_1.out (Nat.le_refl _) ht hm)
  clear ht hm
  go_wp2_with fail
  refine (points_any l hfits A n c _ _ w1 (by omega) HT.out htop'.out ps HPS.out hps).mono ?_
  rintro e w2 ⟨hb2, A', c', rfl, hown⟩
  have HB2 := Lib.hid (HB1.out.trans (hb2.mono (by omega)))
  have hq : ((ps.length : Int) != (m : Int)) = true := by have := HM.out; simp; omega
  clear hown hb2
  go_wp2
  go_ret2
  exact ⟨rfl, HB2.out⟩



end Go.Proofs.Ytoiconebcmneiab

end
