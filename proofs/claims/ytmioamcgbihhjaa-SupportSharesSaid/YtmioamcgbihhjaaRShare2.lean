/- Contracts of all shares as the reference has them, and of its check of shares. -/
import Derived.Test.YtmioamcgbihhjaaRShare
import Derived.Test.YtmioamcgbihhjaaReturns
namespace Go.Proofs.Ytmioamcgbihhjaa
open Go.RowKit

theorem made_fracs (m : Nat) : madeCells #[.int .i64 0, .int .i64 0] (m * 2) = (cells2 (List.replicate m (0, 0))).toArray := by
  apply Array.ext
  · rw [size_madeCells]; simp [cells2_length]
  · intro i h1 h2
    rw [size_madeCells] at h1
    have hl : (List.replicate m ((0 : Int), (0 : Int))).length = m := by simp
    have e1 : (madeCells #[.int .i64 0, .int .i64 0] (m * 2))[i]'(by rw [size_madeCells]; exact h1) = .int .i64 0 := by
      unfold madeCells
      simp only [Array.getElem_map, Array.getElem_range]
      have : i % 2 = 0 ∨ i % 2 = 1 := by omega
      rcases this with h | h <;> simp [h]
    have e2 : (cells2 (List.replicate m ((0 : Int), (0 : Int))))[i]'(by rw [cells2_length, hl]; exact h1) = .int .i64 0 := by
      have hg := cells2_get (List.replicate m ((0 : Int), (0 : Int))) (i / 2) (by rw [hl]; omega)
      simp only [List.getElem_replicate] at hg
      have : i = i / 2 * 2 ∨ i = i / 2 * 2 + 1 := by omega
      rcases this with h | h
      · have := hg.1; rw [← h] at this; exact (List.getElem?_eq_some_iff.1 this).2
      · have := hg.2; rw [← h] at this; exact (List.getElem?_eq_some_iff.1 this).2
    rw [e1]
    simp only [List.getElem_toArray]
    rw [e2]

def RSharesPost (l : List Rk) (m : Nat) (w : World) (e : Ending) (w' : World) : Prop :=
  Below w.heap.size w w' ∧ ∃ A' c', e = .returned (.tuple #[.slice A' m c', .bool (sharesOf l).isSome]) ∧ ∀ ys, sharesOf l = some ys → Reads w' w'.heap.size 2 A' m (cells2 ys)

set_option maxRecDepth 100000 in
set_option maxHeartbeats 1000000 in
theorem rshares_any (l : List Rk) (hfits : ∀ r ∈ l, r.Fits) (A : Option Addr) (n c N : Nat) (w : World) (hx : Reads w N 5 A n (rkCells l)) (hN : N ≤ w.heap.size) (hn : n ≤ 100000) (h0 : openErr l = 0) (ps : List ByteArray) (hp : ptsOf l = some ps) (hps : ps.length ≤ 1000000) :
    Calls Try.prog 61 #[.slice A n c] w (RSharesPost l ps.length w) := by
  obtain ⟨i0, hi0, hz0, hz1, hz2⟩ := info_parts info_frac
  have harms := arms_of h0
  have hnd := points_nodup h0 hp
  have hx' := hx.more hN
  have HX := Lib.hid hx'
  have HP := Lib.hid hp
  have H0 := Lib.hid h0
  have hmk : ∀ w, (Instr.makeSlice 25 (.int .i64 (ps.length : Int)) (.int .i64 (ps.length : Int))).run Try.prog w = .ok (.slice (some ⟨w.heap.size, 0, none⟩) ps.length ps.length) (w.alloc (.cells (cells2 (List.replicate ps.length (0, 0))).toArray 23)) := fun w => by
    have := run_make_rowN (P := Try.prog) 25 23 i0 (.agg #[.int .i64 0, .int .i64 0]) Try.underlying25 hi0 hz0 .i64 .i64 ps.length ps.length (Nat.le_refl _) (by rw [hz2]; omega) (by omega) w
    rw [this, hz1]
    have e := made_fracs ps.length
    rw [← e]
    rfl
  clear hx hx' hp h0 hi0 hz0 hz1 hz2
  obtain ⟨m, hm⟩ : ∃ m, ps.length = m := ⟨_, rfl⟩
  have HM := Lib.hid hm
  rw [hm] at hmk hps
  rw [hm]
  clear hm
  have hxq := HX.out
  go_enter Try.func61, Try.ntmps61
  have R0_0 := Lib.hid hxq
  clear hxq
  go_wp2_with fail
  refine (rpoints_any l hfits A n c _ _ R0_0.out (Nat.le_refl _) hn H0.out ps HP.out (by rw [HM.out]; exact hps)).mono ?_
  rintro e w1 ⟨hb, A1, c1, rfl, ho⟩
  have HB1 := Lib.hid (show Below w.heap.size w w1 from step_below hb (by repeat' (first | exact Below.refl _ _ | exact HB0.out | refine below_drewN ?_ _ | refine Below.drew ?_ | refine Below.alloc ?_ (by first | omega | (simp; done) | (simp; omega) | (simp [World.setCell]; omega)) _ | refine Below.setCell ?_ (by first | omega | (simp; done) | (simp; omega)) _ | assumption)))
  have hL1 := Lib.hid (show Below w.heap.size w _ from reads_mid hb (by repeat' (first | exact Below.refl _ _ | refine below_drewN ?_ _ | refine Below.drew ?_ | refine Below.alloc ?_ (by first | omega | (simp; done) | (simp; omega) | (simp [World.setCell]; omega)) _ | refine Below.setCell ?_ (by first | omega | (simp; done) | (simp; omega)) _)))
  have R0_1 := Lib.hid (reads_lay hb hL1.out R0_0.out)
  clear hL1 R0_0
  have hz1 := hb.size
  try simp only [World.size_alloc, World.drewN, World.drew] at hz1
  clear hb
  have hr' := own_reads2 ho
  rw [HM.out] at hr'
  rw [HM.out]
  clear ho
  have R1_1 := Lib.hid hr'
  clear hr'
  go_wp2_with fail
  clear hmk
  have hb : Below w1.heap.size w1 (w1.alloc (.cells (cells2 (List.replicate m (0, 0))).toArray 23)) := (Below.refl _ _).alloc (Nat.le_refl _) _
  refine (rtop_any l hfits A n c w.heap.size _ (HX.out.below (HB1.out.trans (hb.mono HB1.out.size))) (Nat.le_trans HB1.out.size hb.size) hn H0.out).mono ?_
  rintro e w2 ⟨rfl, hb2⟩
  have kz : Blk w2 w1.heap.size 23 (cells2 ([] ++ List.replicate m (0, 0) ++ [])).toArray := by
    rw [List.nil_append, List.append_nil]
    exact (Blk.new w1 _ _).below hb2 (by simp)
  have hw12 : Below w1.heap.size w1 w2 := hb.trans (hb2.mono hb.size)
  have hw02 : Below w.heap.size w w2 := HB1.out.trans (hw12.mono HB1.out.size)
  have hr2 : Reads w2 w1.heap.size 1 A1 m (strs ps) := R1_1.out.below hw12
  have hx2 : Reads w2 w.heap.size 5 A n (rkCells l) := HX.out.below hw02
  have KZ := Lib.hid kz
  have HW02 := Lib.hid hw02
  have HW12 := Lib.hid hw12
  have HR2 := Lib.hid hr2
  have HX2 := Lib.hid hx2
  have hs1 := HB1.out.size
  clear kz hw12 hw02 hr2 hx2 hb hb2
  go_wp2_with fail
  refine (rshare_any l hfits harms A n c w.heap.size A1 m c1 w1.heap.size ps hn hps hs1 hnd l.length (topName l) ps 1 1 [] [] [] (List.replicate m (0, 0)) [] _ (by have := HP.out; unfold ptsOf at this; exact this) ⟨by omega, by omega⟩ ⟨by omega, by omega⟩ (by simp) HX2.out HR2.out KZ.out rfl (by simp [HM.out]) (by simp)).mono ?_
  rintro e w3 ⟨hg, rfl, zs, hzl, hzb, hzy⟩
  have HW03 : Hid (Below w.heap.size w w3) := by
    exact HW02.out.grown hg (by have := HW02.out.size; omega) (fun g hg => by have e := Option.some.inj hg; rw [← e]; exact hs1)
  have HZB := Lib.hid hzb
  have HZY := Lib.hid hzy
  have HZL := Lib.hid hzl
  clear hg hzb hzy hzl
  go_wp2
  go_ret2
  refine ⟨HW03.out, some ⟨w1.heap.size, 0, none⟩, m, ?_, fun ys hys => ?_⟩
  · unfold sharesOf; rfl
  · have := HZY.out ys (by unfold sharesOf at hys; exact hys)
    rw [List.nil_append, List.append_nil] at this
    subst this
    exact Blk.reads HZB.out (by rw [cells2_length, HZL.out])

/-- The error of the first fraction that is not right. -/
def fracsErr : List (Int × Int) → Int
  | [] => 0
  | p :: l => if fracErr p.1 p.2 ≠ 0 then fracErr p.1 p.2 else fracsErr l
theorem fracsErr_zero : ∀ {l : List (Int × Int)}, (∀ (k : Nat) (p : Int × Int), l[k]? = some p → fracErr p.1 p.2 = 0) → fracsErr l = 0
  | [], _ => rfl
  | p :: l, h => by
    unfold fracsErr
    rw [if_neg (by have := h 0 p rfl; simpa using this)]
    exact fracsErr_zero fun k q hq => h (k + 1) q (by simpa using hq)
theorem fracsErr_at : ∀ {l : List (Int × Int)} {k : Nat} {p : Int × Int}, (∀ j, j < k → ∀ q : Int × Int, l[j]? = some q → fracErr q.1 q.2 = 0) → l[k]? = some p → fracErr p.1 p.2 ≠ 0 → fracsErr l = fracErr p.1 p.2
  | x :: l, 0, p, h, hp, hne => by
    simp at hp; subst hp
    unfold fracsErr
    rw [if_pos hne]
  | x :: l, k + 1, p, h, hp, hne => by
    unfold fracsErr
    rw [if_neg (by have := h 0 (Nat.succ_pos _) x rfl; simpa using this)]
    exact fracsErr_at (fun j hj q hq => h (j + 1) (Nat.succ_lt_succ hj) q (by simpa using hq)) (by simpa using hp) hne
  | [], k, p, h, hp, hne => by simp at hp
/-- The error of shares of a right tree with so many points. -/
def cksErr (np : Nat) (res : Option (List (Int × Int))) (xs : List (Int × Int)) : Int :=
  if xs.length ≠ np then 10 else if fracsErr xs ≠ 0 then fracsErr xs else match res with
    | none => 8
    | some ys => if ys = xs then 0 else 22

theorem checkfracref_is2 (n d t : Int) (h : fracErr n d = t) (w : World) (h1 : -9223372036854775808 ≤ n) (h2 : n ≤ 9223372036854775807) (h3 : -9223372036854775808 ≤ d) (h4 : d ≤ 9223372036854775807) :
    Calls Try.prog 17 #[.agg #[.int .i64 n, .int .i64 d]] w fun e w' => e = .returned (.int .i64 t) ∧ Below w.heap.size w w' := h ▸ checkfracref_any n d w h1 h2 h3 h4
theorem checkfrac_is2 (n d t : Int) (h : fracErr n d = t) (w : World) (h1 : -9223372036854775808 ≤ n) (h2 : n ≤ 9223372036854775807) (h3 : -9223372036854775808 ≤ d) (h4 : d ≤ 9223372036854775807) :
    Calls Try.prog 72 #[.agg #[.int .i64 n, .int .i64 d]] w fun e w' => e = .returned (.int .i64 t) ∧ Below w.heap.size w w' := h ▸ checkfrac_any n d w h1 h2 h3 h4

def Small2 (l : List (Int × Int)) : Prop := ∀ p ∈ l, (-9223372036854775808 ≤ p.1 ∧ p.1 ≤ 9223372036854775807) ∧ (-9223372036854775808 ≤ p.2 ∧ p.2 ≤ 9223372036854775807)

set_option maxRecDepth 100000 in
set_option maxHeartbeats 1000000 in
theorem rcheckshares_any (l : List Rk) (hfits : ∀ r ∈ l, r.Fits) (A : Option Addr) (n c : Nat) (B : Option Addr) (m cb : Nat) (xs : List (Int × Int)) (w : World) (hx : Reads w w.heap.size 5 A n (rkCells l)) (hn : n ≤ 100000) (hy : Reads w w.heap.size 2 B m (cells2 xs)) (hm : m ≤ 1000000) (hsm : Small2 xs) (h0 : openErr l = 0) (ps : List ByteArray) (hp : ptsOf l = some ps) (hps : ps.length ≤ 1000000) :
    Calls Try.prog 64 #[.slice A n c, .slice B m cb] w fun e w' => e = .returned (.int .i64 (cksErr ps.length (sharesOf l) xs)) ∧ Below w.heap.size w w' := by
  have hyl := Lib.hid hy.len2
  have HP := Lib.hid hp
  have H0 := Lib.hid h0
  have HSM := Lib.hid hsm
  clear hp h0 hsm
  obtain ⟨np, hnp⟩ : ∃ np, ps.length = np := ⟨_, rfl⟩
  have HNP := Lib.hid hnp
  rw [hnp] at hps
  rw [hnp]
  clear hnp
  go_enter Try.func64, Try.ntmps64
  have R0_0 := Lib.hid hx
  clear hx
  have R1_0 := Lib.hid hy
  clear hy
  go_wp2_with fail
  refine (rpoints_any l hfits A n c _ _ R0_0.out (Nat.le_refl _) hn H0.out ps HP.out (by rw [HNP.out]; exact hps)).mono ?_
  rintro e w1 ⟨hb, A1, c1, rfl, -⟩
  have HB1 := Lib.hid (show Below w.heap.size w w1 from step_below hb (by repeat' (first | exact Below.refl _ _ | exact HB0.out | refine below_drewN ?_ _ | refine Below.drew ?_ | refine Below.alloc ?_ (by first | omega | (simp; done) | (simp; omega) | (simp [World.setCell]; omega)) _ | refine Below.setCell ?_ (by first | omega | (simp; done) | (simp; omega)) _ | assumption)))
  have hL1 := Lib.hid (show Below w.heap.size w _ from reads_mid hb (by repeat' (first | exact Below.refl _ _ | refine below_drewN ?_ _ | refine Below.drew ?_ | refine Below.alloc ?_ (by first | omega | (simp; done) | (simp; omega) | (simp [World.setCell]; omega)) _ | refine Below.setCell ?_ (by first | omega | (simp; done) | (simp; omega)) _)))
  have R0_1 := Lib.hid (reads_lay hb hL1.out R0_0.out)
  have R1_1 := Lib.hid (reads_lay hb hL1.out R1_0.out)
  clear hL1 R0_0 R1_0
  have hz1 := hb.size
  try simp only [World.size_alloc, World.drewN, World.drew] at hz1
  clear hb
  rw [HNP.out]
  by_cases hmn : m = np
  rotate_left
  · have HE : Hid (cksErr np (sharesOf l) xs = 10) := by show _ = _; unfold cksErr; rw [if_pos (by rw [hyl.out]; exact hmn)]
    have hne : ((m : Int) != (np : Int)) = true := bne_iff_ne.2 (by omega)
    go_wp2
    go_ret
    exact ⟨ret_int HE.out.symm, HB1.out⟩
  have hne : ((m : Int) != (np : Int)) = false := by rw [hmn]; simp
  have HMN := Lib.hid hmn
  clear hmn
  have hb1s := HB1.out.size
  go_wp2
  go_loopw [5] (fun i wr => ∃ k : Nat, k ≤ m ∧ i = .int .i64 k ∧ Below w1.heap.size w1 wr ∧ ∀ j, j < k → ∀ q, xs[j]? = some q → fracErr q.1 q.2 = 0) (fun i _ => m - (intOf i).toNat)
  case atStart => exact ⟨0, by omega, rfl, Below.refl _ _, fun j hj => by omega⟩
  case round =>
    obtain ⟨k, hk, rfl, hb, hok⟩ := hrel
    have HOK := Lib.hid hok
    have HBR := Lib.hid hb
    have HBW := Lib.hid (HB1.out.trans (hb.mono hb1s))
    clear hok hb
    by_cases hlt : k < m
    · obtain ⟨zb, zo, p, rfl, hzb, hp, c0, c1⟩ := R1_1.out.pair hlt
      have hs := HSM.out p (List.mem_of_getElem? hp)
      obtain ⟨⟨s1, s2⟩, s3, s4⟩ := hs
      have HPK := Lib.hid hp
      rw [← HBR.out.cell (p := ⟨zb, zo + k * 2, none⟩) hzb] at c0
      rw [← HBR.out.cell (p := ⟨zb, zo + k * 2 + 1, none⟩) hzb] at c1
      clear hp
      obtain ⟨t, ht⟩ : ∃ t, fracErr p.1 p.2 = t := ⟨_, rfl⟩
      have HT := Lib.hid ht
      go_wp2_with fail
      refine (checkfracref_is2 p.1 p.2 t HT.out _ s1 s2 s3 s4).mono ?_
      rintro e w3 ⟨rfl, hb3⟩
      have HB3 := Lib.hid (HBR.out.trans (hb3.mono HBR.out.size))
      have HB3w := Lib.hid (HBW.out.trans (hb3.mono HBW.out.size))
      clear hb3 c0 c1 ht
      by_cases ht0 : t = 0
      · have HOK2 : Hid (∀ j, j < k + 1 → ∀ q, xs[j]? = some q → fracErr q.1 q.2 = 0) := fun j hj q hq => by
          rcases Nat.lt_succ_iff_lt_or_eq.1 hj with hj | hj
          · exact HOK.out j hj q hq
          · subst hj
            obtain rfl := Option.some.inj (hq.symm.trans HPK.out)
            exact HT.out.trans ht0
        have ht1 : (t != 0) = false := by simp [ht0]
        have HT0 := Lib.hid ht0
        clear ht0
        go_wp2
        go_roundw
        case rel => exact ⟨k + 1, by omega, by go_num, HB3.out, HOK2.out⟩
        case measure => simp [intOf]; omega
      · have HE : Hid (cksErr np (sharesOf l) xs = t) := by
          show _ = _
          have hf := fracsErr_at HOK.out HPK.out (by rw [HT.out]; exact ht0)
          unfold cksErr
          rw [if_neg (by rw [hyl.out, HMN.out]; simp), hf, HT.out, if_pos ht0]
        have ht1 : (t != 0) = true := by simpa using ht0
        have HT0 := Lib.hid ht0
        clear ht0
        go_wp2
        go_ret
        exact ⟨ret_int HE.out.symm, HB3w.out⟩
    · have hkm : k = m := by omega
      have HF : Hid (fracsErr xs = 0) := fracsErr_zero fun j q hq => HOK.out j (by have := (List.getElem?_eq_some_iff.1 hq).1; rw [hyl.out] at this; omega) q hq
      have HX2 := Lib.hid (R0_1.out.below HBR.out)
      have HY2 := Lib.hid (R1_1.out.below HBR.out)
      have hbrs := HBR.out.size
      clear HOK hkm
      go_wp2_with fail
      refine (rshares_any l hfits A n c w1.heap.size _ HX2.out hbrs hn H0.out ps HP.out (by rw [HNP.out]; exact hps)).mono ?_
      rintro e w3 ⟨hb3, A3, c3, rfl, hr3⟩
      rw [HNP.out] at hr3
      rw [HNP.out]
      have HB3w := Lib.hid (HBW.out.trans (hb3.mono HBW.out.size))
      have HY3 := Lib.hid (HY2.out.belowLe hb3 hbrs)
      have h3s := hb3.size
      have HR3 := Lib.hid hr3
      clear hb3 hr3
      cases hs : sharesOf l with
      | none =>
        have HE : Hid (cksErr np (sharesOf l) xs = 8) := by
          show _ = _
          unfold cksErr
          rw [hs, if_neg (by rw [hyl.out, HMN.out]; simp), if_neg (by rw [HF.out]; simp)]
        clear hs HR3
        simp only [Option.isSome_none]
        go_wp2
        go_ret
        exact ⟨ret_int HE.out.symm, HB3w.out⟩
      | some ys =>
        have hr := HR3.out ys hs
        have HRR := Lib.hid hr
        have hle : m = np := HMN.out
        have HLE := Lib.hid hle
        have HS := Lib.hid hs
        clear hs HR3 hr hle
        simp only [Option.isSome_some]
        have HX3 : Hid (Reads w3 w3.heap.size 2 B m (cells2 xs)) := HY3.out.more (by omega)
        obtain ⟨bt, hbt⟩ : ∃ b, decide (xs = ys) = b := ⟨_, rfl⟩
        have HBT := Lib.hid hbt
        go_wp2_with fail
        refine (fracs_any B A3 cb c3 m np xs ys _ _ HX3.out HRR.out (by omega) (by omega)).mono ?_
        rintro e w4 ⟨rfl, q, rfl⟩
        rw [hbt]
        clear hbt
        cases bt
        · have HE : Hid (cksErr np (sharesOf l) xs = 22) := by
            show _ = _
            have : ¬ ys = xs := fun e => by have := of_decide_eq_false HBT.out; exact this e.symm
            unfold cksErr
            rw [HS.out, if_neg (by rw [hyl.out, HMN.out]; simp), if_neg (by rw [HF.out]; simp)]
            simp only [if_neg this]
          go_wp2
          go_ret
          exact ⟨ret_int HE.out.symm, below_drewN HB3w.out _⟩
        · have HE : Hid (cksErr np (sharesOf l) xs = 0) := by
            show _ = _
            have : ys = xs := (of_decide_eq_true HBT.out).symm
            unfold cksErr
            rw [HS.out, if_neg (by rw [hyl.out, HMN.out]; simp), if_neg (by rw [HF.out]; simp)]
            simp only [if_pos this]
          go_wp2
          go_ret
          exact ⟨ret_int HE.out.symm, below_drewN HB3w.out _⟩

end Go.Proofs.Ytmioamcgbihhjaa
