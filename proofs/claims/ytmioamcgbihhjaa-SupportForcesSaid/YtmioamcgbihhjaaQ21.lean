import Derived.Test.YtmioamcgbihhjaaQ19
import Derived.Test.YtmioamcgbihhjaaQ9
import Derived.Test.YtmioamcgbihhjaaQ15

section
/- Contracts of what asks for a number for each point, of the comparison of two lists of fractions, of the check of shares. -/
namespace Go.Proofs.Ytmioamcgbihhjaa
open Go.RowKit

set_option maxHeartbeats 1000000 in
theorem equal_any (A B : Option Addr) (ca cb n m : Nat) (xs ys : List (Int × Int)) (w : World) (N : Nat) (hx : Reads w N 2 A n (cells2 xs)) (hy : Reads w N 2 B m (cells2 ys))
    (h1 : n ≤ 9223372036854775807) (h2 : m ≤ 9223372036854775807) :
    Calls Try.prog 106 #[.slice A n ca, .slice B m cb] w fun e w' => e = .returned (.bool (decide (xs = ys))) ∧ ∃ n, w' = w.drewN n := by
  have hxl := Lib.hid hx.len2
  have hyl := Lib.hid hy.len2
  by_cases hl : n = m
  · subst hl
    have hb : ((n : Int) != (n : Int)) = false := by simp
    have HX := Lib.hid hx
    have HY := Lib.hid hy
    clear hx hy
    go_enter Try.func106, Try.ntmps106
    go_wp2
    go_loopw [13] (fun i wr => ∃ k : Nat, k ≤ n ∧ i = .int .i64 k ∧ xs.take k = ys.take k ∧ ∃ q, wr = w.drewN q) (fun i _ => n - (intOf i).toNat)
    case atStart => exact ⟨0, by omega, rfl, rfl, 0, rfl⟩
    case round =>
      obtain ⟨k, hk, rfl, ht, q, rfl⟩ := hrel
      have HT := Lib.hid ht
      clear ht
      by_cases hlt : k < n
      · obtain ⟨xb, xo, p, rfl, _, hp, c0, c1⟩ := HX.out.pair hlt
        obtain ⟨yb, yo, r, rfl, _, hr, d0, d1⟩ := HY.out.pair hlt
        go_wp2
        go_quiet (fail)
        go_wp2
        · go_ret
          refine ⟨?_, _, World.drewN_drewN _ _ _⟩
          have hne : xs ≠ ys := fun e => by
            subst e
            obtain rfl := Option.some.inj (hp.symm.trans hr)
            simp_all
          rw [decide_eq_false hne]; rfl
        · go_roundw
          case rel =>
            refine ⟨k + 1, by omega, by go_num, ?_, _, rfl⟩
            have hpr : p = r := by
              obtain ⟨p1, p2⟩ := p
              obtain ⟨r1, r2⟩ := r
              simp_all
            subst hpr
            exact take_succ_eq HT.out hp hr
          case measure => simp [intOf]; omega
      · go_wp2
        go_ret
        refine ⟨?_, _, rfl⟩
        have hkn : k = n := by omega
        have e : xs = ys := by
          have h := HT.out
          rw [List.take_of_length_le (by rw [hxl.out]; omega), List.take_of_length_le (by rw [hyl.out]; omega)] at h
          exact h
        rw [decide_eq_true e]; rfl
  · have hb : ((n : Int) != (m : Int)) = true := by simp; omega
    go_enter Try.func106, Try.ntmps106
    go_wp2
    go_ret
    exact ⟨by rw [decide_eq_false (fun e => hl (by rw [← hxl.out, ← hyl.out, e]))]; rfl, 0, rfl⟩

theorem forpoints_bad (l : List Rk) (hfits : ∀ r ∈ l, r.Fits) (A : Option Addr) (n c : Nat) (m E : Int) (w : World) (hx : Reads w w.heap.size 5 A n (rkCells l)) (hn : n ≤ 100000) (hE : openErr l = E) (h0 : E ≠ 0) :
    Calls Try.prog 105 #[.slice A n c, .int .i64 m] w fun e w' => e = .returned (.tuple #[.pointer none, .int .i64 E]) ∧ Below w.heap.size w w' := by
  have e0 : (E == 0) = false := by simpa using h0
  have e1 : (E != 0) = true := by simpa using h0
  subst hE
  have H0 := Lib.hid h0
  clear h0
  go_enter Try.func105, Try.ntmps105
  have R0_0 := Lib.hid hx
  clear hx
  go_wp2_with fail
  refine (open_bad l hfits A n c _ _ R0_0.out (Nat.le_refl _) (by omega) H0.out).mono ?_
  rintro e w1 ⟨rfl, hb⟩
  have HB1 := Lib.hid (show Below w.heap.size w w1 from step_below hb (by repeat' (first | exact Below.refl _ _ | exact HB0.out | refine below_drewN ?_ _ | refine Below.drew ?_ | refine Below.alloc ?_ (by first | omega | (simp; done) | (simp; omega) | (simp [World.setCell]; omega)) _ | refine Below.setCell ?_ (by first | omega | (simp; done) | (simp; omega)) _ | assumption)))
  have hL1 := Lib.hid (show Below w.heap.size w _ from reads_mid hb (by repeat' (first | exact Below.refl _ _ | refine below_drewN ?_ _ | refine Below.drew ?_ | refine Below.alloc ?_ (by first | omega | (simp; done) | (simp; omega) | (simp [World.setCell]; omega)) _ | refine Below.setCell ?_ (by first | omega | (simp; done) | (simp; omega)) _)))
  have R0_1 := Lib.hid (reads_lay hb hL1.out R0_0.out)
  clear hL1 R0_0
  have hz1 := hb.size
  try simp only [World.size_alloc, World.drewN, World.drew] at hz1
  clear hb
  go_wp2
  go_ret2
  refine ⟨rfl, ?_⟩
  repeat' (first | exact Below.refl _ _ | exact HB1.out | refine below_drewN ?_ _ | refine Below.drew ?_ | refine Below.alloc ?_ (by first | omega | (simp; done) | (simp; omega) | (simp [World.setCell]; omega)) _ | refine Below.setCell ?_ (by first | omega | (simp; done) | (simp; omega)) _ | assumption)

/-- The tree that is open, and all that it stands on. -/
def ForPost (l : List Rk) (A : Option Addr) (n c : Nat) (w : World) (e : Ending) (w' : World) : Prop :=
  Below w.heap.size w w' ∧ ∃ tb mb, e = .returned (.tuple #[.pointer (some ⟨tb, 0, none⟩), .int .i64 0]) ∧ TreeAt l A n c tb mb (topOf l : Int) w'.heap.size w'

set_option maxHeartbeats 1000000 in
theorem forpoints_ok (l : List Rk) (hfits : ∀ r ∈ l, r.Fits) (A : Option Addr) (n c m : Nat) (w : World) (hx : Reads w w.heap.size 5 A n (rkCells l)) (hn : n ≤ 100000) (h0 : openErr l = 0) (ps : List ByteArray) (hp : ptsOf l = some ps) (hps : ps.length ≤ 1000000) (hm : ps.length = m) :
    Calls Try.prog 105 #[.slice A n c, .int .i64 (m : Int)] w (ForPost l A n c w) := by
  obtain ⟨z0, -⟩ := open_zero h0
  have htop := topOf_lt z0
  have H0 := Lib.hid h0
  have HPS := Lib.hid hp
  have htop' := Lib.hid htop
  have HX := Lib.hid hx
  subst hm
  clear h0 hp z0 htop hx
  have hx := HX.out
  go_enter Try.func105, Try.ntmps105
  have R0_0 := Lib.hid hx
  clear hx
  go_wp2_with fail
  refine (open_ok l hfits A n c _ _ R0_0.out (Nat.le_refl _) (by omega) H0.out).mono ?_
  rintro e w1 ⟨rfl, hb, ht, hm⟩
  have HB1 := Lib.hid (show Below w.heap.size w w1 from step_below hb (by repeat' (first | exact Below.refl _ _ | exact HB0.out | refine below_drewN ?_ _ | refine Below.drew ?_ | refine Below.alloc ?_ (by first | omega | (simp; done) | (simp; omega) | (simp [World.setCell]; omega)) _ | refine Below.setCell ?_ (by first | omega | (simp; done) | (simp; omega)) _ | assumption)))
  have hL1 := Lib.hid (show Below w.heap.size w _ from reads_mid hb (by repeat' (first | exact Below.refl _ _ | refine below_drewN ?_ _ | refine Below.drew ?_ | refine Below.alloc ?_ (by first | omega | (simp; done) | (simp; omega) | (simp [World.setCell]; omega)) _ | refine Below.setCell ?_ (by first | omega | (simp; done) | (simp; omega)) _)))
  have R0_1 := Lib.hid (reads_lay hb hL1.out R0_0.out)
  clear hL1 R0_0
  have hz1 := hb.size
  try simp only [World.size_alloc, World.drewN, World.drew] at hz1
  clear hb
  have HT := Lib.hid (TreeAt.of R0_1.out (Nat.le_refl _) ht hm)
  clear ht hm
  go_wp2_with fail
  refine (points_any l hfits A n c _ _ w1 (by omega) HT.out htop'.out ps HPS.out hps).mono ?_
  rintro e w2 ⟨hb2, A', c', rfl, hown⟩
  have HB2 := Lib.hid (HB1.out.trans (hb2.mono (by omega)))
  have HT2 := Lib.hid ((HT.out.below hb2).more hb2.size)
  have hq : ((ps.length : Int) != (ps.length : Int)) = false := by simp
  clear hown hb2
  go_wp2
  go_ret2
  exact ⟨HB2.out, _, _, rfl, HT2.out⟩

set_option maxHeartbeats 1000000 in
theorem forpoints_no (l : List Rk) (hfits : ∀ r ∈ l, r.Fits) (A : Option Addr) (n c m : Nat) (w : World) (hx : Reads w w.heap.size 5 A n (rkCells l)) (hn : n ≤ 100000) (h0 : openErr l = 0) (ps : List ByteArray) (hp : ptsOf l = some ps) (hps : ps.length ≤ 1000000) (hm : ps.length ≠ m) :
    Calls Try.prog 105 #[.slice A n c, .int .i64 (m : Int)] w fun e w' => e = .returned (.tuple #[.pointer none, .int .i64 10]) ∧ Below w.heap.size w w' := by
  obtain ⟨z0, -⟩ := open_zero h0
  have htop := topOf_lt z0
  have H0 := Lib.hid h0
  have HPS := Lib.hid hp
  have htop' := Lib.hid htop
  have HX := Lib.hid hx
  have HM := Lib.hid hm
  clear h0 hp z0 htop hx hm
  have hx := HX.out
  go_enter Try.func105, Try.ntmps105
  have R0_0 := Lib.hid hx
  clear hx
  go_wp2_with fail
  refine (open_ok l hfits A n c _ _ R0_0.out (Nat.le_refl _) (by omega) H0.out).mono ?_
  rintro e w1 ⟨rfl, hb, ht, hm⟩
  have HB1 := Lib.hid (show Below w.heap.size w w1 from step_below hb (by repeat' (first | exact Below.refl _ _ | exact HB0.out | refine below_drewN ?_ _ | refine Below.drew ?_ | refine Below.alloc ?_ (by first | omega | (simp; done) | (simp; omega) | (simp [World.setCell]; omega)) _ | refine Below.setCell ?_ (by first | omega | (simp; done) | (simp; omega)) _ | assumption)))
  have hL1 := Lib.hid (show Below w.heap.size w _ from reads_mid hb (by repeat' (first | exact Below.refl _ _ | refine below_drewN ?_ _ | refine Below.drew ?_ | refine Below.alloc ?_ (by first | omega | (simp; done) | (simp; omega) | (simp [World.setCell]; omega)) _ | refine Below.setCell ?_ (by first | omega | (simp; done) | (simp; omega)) _)))
  have R0_1 := Lib.hid (reads_lay hb hL1.out R0_0.out)
  clear hL1 R0_0
  have hz1 := hb.size
  try simp only [World.size_alloc, World.drewN, World.drew] at hz1
  clear hb
  have HT := Lib.hid (TreeAt.of R0_1.out (Nat.le_refl _) ht hm)
  clear ht hm
  go_wp2_with fail
  refine (points_any l hfits A n c _ _ w1 (by omega) HT.out htop'.out ps HPS.out hps).mono ?_
  rintro e w2 ⟨hb2, A', c', rfl, hown⟩
  have HB2 := Lib.hid (HB1.out.trans (hb2.mono (by omega)))
  have hq : ((ps.length : Int) != (m : Int)) = true := by have := HM.out; simp; omega
  clear hown hb2
  go_wp2
  go_ret2
  exact ⟨rfl, HB2.out⟩

set_option maxHeartbeats 1000000 in
theorem checkshares_bad (l : List Rk) (hfits : ∀ r ∈ l, r.Fits) (A : Option Addr) (n c : Nat) (B : Option Addr) (m cb : Nat) (E : Int) (w : World) (hx : Reads w w.heap.size 5 A n (rkCells l)) (hn : n ≤ 100000) (hE : openErr l = E) (h0 : E ≠ 0) :
    Calls Try.prog 62 #[.slice A n c, .slice B m cb] w fun e w' => e = .returned (.int .i64 E) ∧ Below w.heap.size w w' := by
  have e1 : (E != 0) = true := by simpa using h0
  have H0 := Lib.hid h0
  have HE := Lib.hid hE
  clear h0 hE
  go_enter Try.func62, Try.ntmps62
  have R0_0 := Lib.hid hx
  clear hx
  go_wp2_with fail
  refine (forpoints_bad l hfits A n c (m : Int) E _ R0_0.out hn HE.out H0.out).mono ?_
  rintro e w1 ⟨rfl, hb⟩
  have HB1 := Lib.hid (show Below w.heap.size w w1 from step_below hb (by repeat' (first | exact Below.refl _ _ | exact HB0.out | refine below_drewN ?_ _ | refine Below.drew ?_ | refine Below.alloc ?_ (by first | omega | (simp; done) | (simp; omega) | (simp [World.setCell]; omega)) _ | refine Below.setCell ?_ (by first | omega | (simp; done) | (simp; omega)) _ | assumption)))
  have hL1 := Lib.hid (show Below w.heap.size w _ from reads_mid hb (by repeat' (first | exact Below.refl _ _ | refine below_drewN ?_ _ | refine Below.drew ?_ | refine Below.alloc ?_ (by first | omega | (simp; done) | (simp; omega) | (simp [World.setCell]; omega)) _ | refine Below.setCell ?_ (by first | omega | (simp; done) | (simp; omega)) _)))
  have R0_1 := Lib.hid (reads_lay hb hL1.out R0_0.out)
  clear hL1 R0_0
  have hz1 := hb.size
  try simp only [World.size_alloc, World.drewN, World.drew] at hz1
  clear hb
  go_wp2
  go_ret
  exact ⟨rfl, by repeat' (first | exact Below.refl _ _ | exact HB1.out | refine below_drewN ?_ _ | refine Below.drew ?_ | refine Below.alloc ?_ (by first | omega | (simp; done) | (simp; omega) | (simp [World.setCell]; omega)) _ | refine Below.setCell ?_ (by first | omega | (simp; done) | (simp; omega)) _ | assumption)⟩

set_option maxRecDepth 100000 in
set_option maxHeartbeats 1000000 in
theorem checkshares_any (l : List Rk) (hfits : ∀ r ∈ l, r.Fits) (A : Option Addr) (n c : Nat) (B : Option Addr) (m cb : Nat) (xs : List (Int × Int)) (w : World) (hx : Reads w w.heap.size 5 A n (rkCells l)) (hn : n ≤ 100000) (hy : Reads w w.heap.size 2 B m (cells2 xs)) (hm : m ≤ 1000000) (hsm : Small2 xs) (h0 : openErr l = 0) (ps : List ByteArray) (hp : ptsOf l = some ps) (hps : ps.length ≤ 1000000) :
    Calls Try.prog 62 #[.slice A n c, .slice B m cb] w fun e w' => e = .returned (.int .i64 (cksErr ps.length (sharesOf l) xs)) ∧ Below w.heap.size w w' := by
  have hyl := Lib.hid hy.len2
  have HP := Lib.hid hp
  have harms := arms_of h0
  obtain ⟨z0, -⟩ := open_zero h0
  have htop := Lib.hid (topOf_lt z0)
  have H0 := Lib.hid h0
  have HSM := Lib.hid hsm
  clear hp h0 hsm z0
  obtain ⟨np, hnp⟩ : ∃ np, ps.length = np := ⟨_, rfl⟩
  have HNP := Lib.hid hnp
  by_cases hmn : ps.length = m
  rotate_left
  · have HE : Hid (cksErr ps.length (sharesOf l) xs = 10) := by show _ = _; unfold cksErr; rw [if_pos (by rw [hyl.out]; exact fun e => hmn e.symm)]
    have HMN := Lib.hid hmn
    clear hmn hnp
    go_enter Try.func62, Try.ntmps62
    have R0_0 := Lib.hid hx
    clear hx
    have R1_0 := Lib.hid hy
    clear hy
    go_wp2_with fail
    refine (forpoints_no l hfits A n c m _ R0_0.out hn H0.out ps HP.out hps HMN.out).mono ?_
    rintro e w1 ⟨rfl, hb⟩
    have HB1 := Lib.hid (show Below w.heap.size w w1 from step_below hb (by repeat' (first | exact Below.refl _ _ | exact HB0.out | refine below_drewN ?_ _ | refine Below.drew ?_ | refine Below.alloc ?_ (by first | omega | (simp; done) | (simp; omega) | (simp [World.setCell]; omega)) _ | refine Below.setCell ?_ (by first | omega | (simp; done) | (simp; omega)) _ | assumption)))
    have hL1 := Lib.hid (show Below w.heap.size w _ from reads_mid hb (by repeat' (first | exact Below.refl _ _ | refine below_drewN ?_ _ | refine Below.drew ?_ | refine Below.alloc ?_ (by first | omega | (simp; done) | (simp; omega) | (simp [World.setCell]; omega)) _ | refine Below.setCell ?_ (by first | omega | (simp; done) | (simp; omega)) _)))
    have R0_1 := Lib.hid (reads_lay hb hL1.out R0_0.out)
    have R1_1 := Lib.hid (reads_lay hb hL1.out R1_0.out)
    clear hL1 R0_0 R1_0
    have hz1 := hb.size
    try simp only [World.size_alloc, World.drewN, World.drew] at hz1
    clear hb
    go_wp2
    go_ret
    exact ⟨ret_int HE.out.symm, HB1.out⟩
  have HMN := Lib.hid hmn
  rw [hnp] at hps
  rw [hnp]
  clear hnp hmn
  go_enter Try.func62, Try.ntmps62
  have R0_0 := Lib.hid hx
  clear hx
  have R1_0 := Lib.hid hy
  clear hy
  go_wp2_with fail
  refine (forpoints_ok l hfits A n c m _ R0_0.out hn H0.out ps HP.out (by rw [HNP.out]; exact hps) HMN.out).mono ?_
  rintro e w1 ⟨hb, tb, mb, rfl, ht⟩
  have HB1 := Lib.hid (show Below w.heap.size w w1 from step_below hb (by repeat' (first | exact Below.refl _ _ | exact HB0.out | refine below_drewN ?_ _ | refine Below.drew ?_ | refine Below.alloc ?_ (by first | omega | (simp; done) | (simp; omega) | (simp [World.setCell]; omega)) _ | refine Below.setCell ?_ (by first | omega | (simp; done) | (simp; omega)) _ | assumption)))
  have hL1 := Lib.hid (show Below w.heap.size w _ from reads_mid hb (by repeat' (first | exact Below.refl _ _ | refine below_drewN ?_ _ | refine Below.drew ?_ | refine Below.alloc ?_ (by first | omega | (simp; done) | (simp; omega) | (simp [World.setCell]; omega)) _ | refine Below.setCell ?_ (by first | omega | (simp; done) | (simp; omega)) _)))
  have R0_1 := Lib.hid (reads_lay hb hL1.out R0_0.out)
  have R1_1 := Lib.hid (reads_lay hb hL1.out R1_0.out)
  clear hL1 R0_0 R1_0
  have hz1 := hb.size
  try simp only [World.size_alloc, World.drewN, World.drew] at hz1
  clear hb
  have HT := Lib.hid ht
  clear ht
  have hb1s := HB1.out.size
  go_wp2
  go_loopw [24] (fun i wr => ∃ k : Nat, k ≤ m ∧ i = .int .i64 k ∧ Below w1.heap.size w1 wr ∧ ∀ j, j < k → ∀ q : Int × Int, xs[j]? = some q → fracErr q.1 q.2 = 0) (fun i _ => m - (intOf i).toNat)
  case atStart => exact ⟨0, by omega, rfl, Below.refl _ _, fun j hj => by omega⟩
  case round =>
    obtain ⟨k, hk, rfl, hb, hok⟩ := hrel
    have HOK := Lib.hid hok
    have HBR := Lib.hid hb
    have HBW := Lib.hid (HB1.out.trans (hb.mono hb1s))
    clear hok hb
    by_cases hlt : k < m
    · obtain ⟨zb, zo, p, rfl, hzb, hp, c0, c1⟩ := R1_1.out.pair hlt
      have hs := HSM.out p (List.mem_of_getElem? hp)
      obtain ⟨⟨s1, s2⟩, s3, s4⟩ := hs
      have HPK := Lib.hid hp
      rw [← HBR.out.cell (p := ⟨zb, zo + k * 2, none⟩) hzb] at c0
      rw [← HBR.out.cell (p := ⟨zb, zo + k * 2 + 1, none⟩) hzb] at c1
      clear hp
      obtain ⟨t, ht⟩ : ∃ t, fracErr p.1 p.2 = t := ⟨_, rfl⟩
      have HT2 := Lib.hid ht
      go_wp2_with fail
      refine (checkfrac_is2 p.1 p.2 t HT2.out _ s1 s2 s3 s4).mono ?_
      rintro e w3 ⟨rfl, hb3⟩
      have hbm : Below wr.heap.size wr w3 := by
        refine Below.trans ?_ (hb3.mono ?_)
        · repeat' (first | exact Below.refl _ _ | refine below_drewN ?_ _ | refine Below.drew ?_ | refine Below.alloc ?_ (by first | omega | (simp; done) | (simp; omega) | (simp [World.setCell]; omega)) _ | refine Below.setCell ?_ (by first | omega | (simp; done) | (simp; omega)) _)
        · simp
      have HB3 := Lib.hid (HBR.out.trans (hbm.mono HBR.out.size))
      have HB3w := Lib.hid (HBW.out.trans (hbm.mono HBW.out.size))
      clear hb3 hbm c0 c1 ht
      by_cases ht0 : t = 0
      · have HOK2 : Hid (∀ j, j < k + 1 → ∀ q : Int × Int, xs[j]? = some q → fracErr q.1 q.2 = 0) := fun j hj q hq => by
          rcases Nat.lt_succ_iff_lt_or_eq.1 hj with hj | hj
          · exact HOK.out j hj q hq
          · subst hj
            obtain rfl := Option.some.inj (hq.symm.trans HPK.out)
            exact HT2.out.trans ht0
        have ht1 : (t != 0) = false := by simp [ht0]
        have HT0 := Lib.hid ht0
        clear ht0
        go_wp2
        go_roundw
        case rel => exact ⟨k + 1, by omega, by go_num, HB3.out, HOK2.out⟩
        case measure => simp [intOf]; omega
      · have HE : Hid (cksErr np (sharesOf l) xs = t) := by
          show _ = _
          have hf := fracsErr_at HOK.out HPK.out (by rw [HT2.out]; exact ht0)
          unfold cksErr
          rw [if_neg (by rw [hyl.out, ← HMN.out, HNP.out]; simp), hf, HT2.out, if_pos ht0]
        have ht1 : (t != 0) = true := by simpa using ht0
        have HT0 := Lib.hid ht0
        clear ht0
        go_wp2
        go_ret
        exact ⟨ret_int HE.out.symm, HB3w.out⟩
    · have hkm : k = m := by omega
      have HF : Hid (fracsErr xs = 0) := fracsErr_zero fun j q hq => HOK.out j (by have := (List.getElem?_eq_some_iff.1 hq).1; rw [hyl.out] at this; omega) q hq
      have hlen : xs.length = np := by rw [hyl.out, ← HMN.out, HNP.out]
      have HLEN := Lib.hid hlen
      have HY2 := Lib.hid (R1_1.out.below HBR.out)
      have HTT := Lib.hid (HT.out.below HBR.out)
      have hbrs := HBR.out.size
      have hpp := HP.out
      unfold ptsOf at hpp
      have HPP := Lib.hid hpp
      clear HOK hkm hlen hpp
      cases hs : sharesOf l with
      | none =>
        have HE : Hid (cksErr np (sharesOf l) xs = 8) := by
          show _ = _
          unfold cksErr
          rw [hs, if_neg (by rw [HLEN.out]; simp), if_neg (by rw [HF.out]; simp)]
        have HS := Lib.hid hs
        clear hs
        go_wp2_with fail
        refine (all_none l hfits harms A n c _ tb mb _ hn HTT.out.reads hbrs HTT.out.tree HTT.out.map htop.out ps HPP.out (by rw [HNP.out]; exact hps) HS.out).mono ?_
        rintro e w3 ⟨hb3, v3, rfl⟩
        have HB3 := Lib.hid (HBW.out.trans (hb3.mono HBW.out.size))
        clear hb3
        go_wp2
        go_ret
        exact ⟨ret_int HE.out.symm, HB3.out⟩
      | some ys =>
        have HS := Lib.hid hs
        clear hs
        go_wp2_with fail
        refine (all_some l hfits harms A n c _ tb mb _ hn HTT.out.reads hbrs HTT.out.tree HTT.out.map htop.out ps HPP.out (by rw [HNP.out]; exact hps) ys HS.out).mono ?_
        rintro e w3 ⟨hb3, v3, rfl, ho3⟩
        have HB3 := Lib.hid (HBW.out.trans (hb3.mono HBW.out.size))
        obtain ⟨A3, c3, rfl, hr3⟩ := own_reads ho3
        have HR3 := Lib.hid hr3
        have hyn : ys.length = np := by
          have h1 := HS.out
          unfold sharesOf at h1
          rw [sh_length l _ _ _ _ _ _ HPP.out h1, HNP.out]
        have HYN := Lib.hid hyn
        have HY3 := Lib.hid ((HY2.out.belowLe hb3 hbrs).more (Nat.le_trans hbrs hb3.size))
        obtain ⟨bt, hbt⟩ : ∃ b, decide (ys = xs) = b := ⟨_, rfl⟩
        have HBT := Lib.hid hbt
        clear hb3 ho3 hr3 hyn
        go_wp2_with fail
        refine (equal_any A3 B c3 cb ys.length m ys xs _ _ HR3.out HY3.out (by rw [HYN.out]; omega) (by omega)).mono ?_
        rintro e w4 ⟨rfl, q, rfl⟩
        rw [hbt]
        clear hbt
        cases bt
        · have HE : Hid (cksErr np (sharesOf l) xs = 22) := by
            show _ = _
            have := of_decide_eq_false HBT.out
            unfold cksErr
            rw [HS.out, if_neg (by rw [HLEN.out]; simp), if_neg (by rw [HF.out]; simp)]
            simp only [if_neg this]
          go_wp2
          go_ret
          exact ⟨ret_int HE.out.symm, below_drewN HB3.out _⟩
        · have HE : Hid (cksErr np (sharesOf l) xs = 0) := by
            show _ = _
            have := of_decide_eq_true HBT.out
            unfold cksErr
            rw [HS.out, if_neg (by rw [HLEN.out]; simp), if_neg (by rw [HF.out]; simp)]
            simp only [if_pos this]
          go_wp2
          go_ret
          exact ⟨ret_int HE.out.symm, below_drewN HB3.out _⟩

end Go.Proofs.Ytmioamcgbihhjaa

end

section
/- Contracts of the search of a list by a function value, and of the copy of a train. -/
namespace Go.Proofs.Ytmioamcgbihhjaa
open Go Go.RowKit

/-- A function value that asks something of a number, and changes nothing. -/
structure Asks (k : FuncId) (pr : Int → Bool) : Prop where
  ent : ∀ (args : Array Value) (w : World), (callFunc k args).run Try.prog w = .ok (.enter k args) w
  call : ∀ (z : Int) (w : World), Calls Try.prog k #[.int .i64 z] w fun e w' => e = .returned (.bool (pr z)) ∧ w = w'

theorem Asks.is {k : FuncId} {pr : Int → Bool} (h : Asks k pr) (z : Int) (t : Bool) (ht : pr z = t) (w : World) : Calls Try.prog k #[.int .i64 z] w fun e w' => e = .returned (.bool t) ∧ w = w' := ht ▸ h.call z w

theorem any_take {pr : Int → Bool} {l : List Int} {k : Nat} {z : Int} (hz : l[k]? = some z) (h : (l.take k).any pr = false) (hp : pr z = false) : (l.take (k + 1)).any pr = false := by
  rw [List.take_add_one, hz]
  simp [List.any_append, h, hp]

set_option maxRecDepth 100000 in
theorem indexfunc_any (k : FuncId) (pr : Int → Bool) (hk : Asks k pr) (A : Option Addr) (n c N : Nat) (l : List Int) (w : World) (hx : Reads w N 1 A n (l.map (.int .i64))) (hN : N ≤ w.heap.size) (hn : n ≤ 9223372036854775807) :
    Calls Try.prog 129 #[.slice A n c, .func (.func k) #[] #[]] w fun e w' => (∃ r : Int, e = .returned (.int .i64 r) ∧ (0 ≤ r ↔ l.any pr = true)) ∧ Below w.heap.size w w' := by
  have hxl : l.length = n := by have := hx.1; simpa using this
  have HX := Lib.hid hx
  have HXL := Lib.hid hxl
  have hent := hk.ent
  have HK := Lib.hid hk
  clear hx hxl hk
  go_enter Try.func129, Try.ntmps129
  go_wp2
  go_loopw [8] (fun i wr => ∃ q : Nat, q ≤ n ∧ i = .int .i64 q ∧ (l.take q).any pr = false ∧ Below w.heap.size w wr) (fun i _ => n - (intOf i).toNat)
  case atStart => exact ⟨0, by omega, rfl, by simp, Below.refl _ _⟩
  case round =>
    obtain ⟨q, hq, rfl, ht, hb⟩ := hrel
    have HT := Lib.hid ht
    have HB := Lib.hid hb
    clear ht hb
    by_cases hlt : q < n
    · obtain ⟨xb, xo, u, rfl, hxb, hu, c0⟩ := (HX.out.belowLe HB.out hN).at_ hlt
      obtain ⟨z, hz, rfl⟩ : ∃ z, l[q]? = some z ∧ .int .i64 z = u := by
        rw [List.getElem?_map] at hu
        cases h : l[q]? with
        | none => rw [h] at hu; cases hu
        | some t => rw [h] at hu; exact ⟨t, rfl, Option.some.inj hu⟩
      have HZ := Lib.hid hz
      clear hu hz
      cases hp : pr z with
      | false =>
        have HP := Lib.hid hp
        clear hp
        go_wp2
        refine (HK.out.is z false HP.out _).mono ?_
        rintro e w' ⟨rfl, rfl⟩
        go_wp2
        go_roundw
        case rel => exact ⟨q + 1, by omega, by go_num, any_take HZ.out HT.out HP.out, HB.out⟩
        case measure => simp [intOf]; omega
      | true =>
        have HP := Lib.hid hp
        clear hp
        go_wp2
        refine (HK.out.is z true HP.out _).mono ?_
        rintro e w' ⟨rfl, rfl⟩
        go_wp2
        go_ret
        refine ⟨⟨_, rfl, ?_⟩, HB.out⟩
        have : l.any pr = true := List.any_eq_true.2 ⟨z, List.mem_of_getElem? HZ.out, HP.out⟩
        simp [this]
    · go_wp2
      go_ret
      refine ⟨⟨_, rfl, ?_⟩, HB.out⟩
      have ht := HT.out
      rw [List.take_of_length_le (by rw [HXL.out]; omega)] at ht
      rw [ht]
      simp

theorem containsfunc_any (k : FuncId) (pr : Int → Bool) (hk : Asks k pr) (A : Option Addr) (n c N : Nat) (l : List Int) (w : World) (hx : Reads w N 1 A n (l.map (.int .i64))) (hN : N ≤ w.heap.size) (hn : n ≤ 9223372036854775807) (t : Bool) (ht : l.any pr = t) :
    Calls Try.prog 107 #[.slice A n c, .func (.func k) #[] #[]] w fun e w' => e = .returned (.bool t) ∧ Below w.heap.size w w' := by
  have HX := Lib.hid hx
  have HT := Lib.hid ht
  have HI := Lib.hid (indexfunc_any k pr hk A n c N l)
  clear hx ht
  go_enter Try.func107, Try.ntmps107
  go_wp2_with fail
  refine (HI.out w HX.out hN hn).mono ?_
  rintro e w1 ⟨⟨r, rfl, hr⟩, hb⟩
  have HR := Lib.hid hr
  have HB := Lib.hid hb
  clear hr hb
  cases t with
  | false =>
    have h : ¬ 0 ≤ r := fun h => by have := HR.out.1 h; rw [HT.out] at this; cases this
    have h' : r < 0 := by omega
    go_wp2
    go_ret
    exact ⟨by first | rfl | (simp; done) | (simp; omega), HB.out⟩
  | true =>
    have h := HR.out.2 HT.out
    go_wp2
    go_ret
    exact ⟨by first | rfl | (simp; done) | (simp; omega), HB.out⟩

set_option maxRecDepth 100000 in
theorem periodic1_call (z : Int) (t : Bool) (ht : withinB z 0 1000000 = t) (w : World) : Calls Try.prog 108 #[.int .i64 z] w fun e w' => e = .returned (.bool (!t)) ∧ w = w' := by
  have H := Lib.hid ht
  clear ht
  go_enter Try.func108, Try.ntmps108
  go_wp2_with fail
  refine (withinsup_is _ _ _ _ H.out _).mono ?_
  rintro e w' ⟨rfl, rfl⟩
  cases t with
  | false =>
    go_wp2
    go_ret
    exact ⟨rfl, rfl⟩
  | true =>
    go_wp2
    go_ret
    exact ⟨rfl, rfl⟩

theorem periodic1_asks : Asks 108 (fun z => !(withinB z 0 1000000)) where
  ent := fun _ _ => by kernel_rfl
  call := fun z w => periodic1_call z _ rfl w

theorem eq_nil_pairs (A : Option Addr) (n c : Nat) (w : World) : (Op.equalIn 10000 34 (.slice A n c) (.slice none 0 0)).run Try.prog w = .ok A.isNone w := by
  show (Op.equalIn (9999 + 1) _ _ _).run _ w = _
  rw [Op.equalIn.eq_def]
  cases A <;> simp [Sem.run_bind, run_underlying Try.underlying34]

@[go_sem ↓ high] theorem eql_nil_pairs (A : Option Addr) (n c : Nat) (w : World) : (binOp .eql 34 (.slice A n c) (.slice none 0 0)).run Try.prog w = .ok (.bool A.isNone) w := by
  simp only [binOp]
  simp [Op.equal, Op.maxDepth, eq_nil_pairs]

set_option maxRecDepth 100000 in
theorem clone_any (A : Option Addr) (n c N : Nat) (l : List (Int × Int)) (w : World) (hx : Reads w N 2 A n (cells2 l)) (hN : N ≤ w.heap.size) (hn : n ≤ 1000000) :
    Calls Try.prog 109 #[.slice A n c] w (CopyPost w 45 2 n (cells2 l)) := by
  cases A with
  | none =>
    have hn0 : n = 0 := by
      rcases Nat.eq_zero_or_pos n with h | h
      · exact h
      · obtain ⟨_, _, e, _⟩ := hx.2 h
        cases e
    subst hn0
    have hl : cells2 l = [] := List.length_eq_zero_iff.1 (by simpa using hx.1)
    have HL := Lib.hid hl
    clear hx hl
    go_enter Try.func109, Try.ntmps109
    go_wp2
    go_ret
    exact ⟨none, 0, rfl, Below.refl _ _, by rw [HL.out]; exact Reads.none_, by rw [HL.out]; exact World.ownsRow_nil _ _ _ _⟩
  | some a =>
    obtain ⟨v', W2, hrun, ho, hb⟩ := copy_run (P := Try.prog) 34 34 45 _ 2 16 Try.underlying34 info_pair rfl (by omega) w N (some a) n c (cells2 l) hx hN (one_cells2 l) (by unfold maxLen; omega) (by omega)
    have HRUN := Lib.hid hrun
    have HO := Lib.hid ho
    have HB := Lib.hid hb
    clear hrun ho hb hx
    go_enter Try.func109, Try.ntmps109
    go_wp2_with (first | (at_builtin; refine wpList_app _ W2 v' rfl _ _ _ rfl _ _ rfl rfl HRUN.out ?_))
    go_ret
    exact CopyPost.of HO.out HB.out

end Go.Proofs.Ytmioamcgbihhjaa

end
