import Derived.Test.YtmioamcgbihhjaaQ19
import Derived.Test.YtmioamcgbihhjaaQ22

section
/- The contract of the rockers that forces do not balance, as the reference finds them; the comparison of lists of numbers. -/
namespace Go.Proofs.Ytmioamcgbihhjaa
open Go Go.RowKit

theorem points_below {l : List Rk} (h0 : openErr l = 0) {ps : List ByteArray} (hp : ptsOf l = some ps) : below_ l (topName l) = ps := by
  have := below_pts h0 (topName l)
  unfold ptsOf at hp
  rw [hp] at this
  exact (Option.some.inj this).symm

theorem ints_same (A B : Option Addr) (ca cb n : Nat) (xs : List Int) (w : World) (N : Nat) (hx : Reads w N 1 A n (xs.map (.int .i64))) (hy : Reads w N 1 B n (xs.map (.int .i64))) (h1 : n ≤ 9223372036854775807) :
    Calls Try.prog 70 #[.slice A n ca, .slice B n cb] w fun e w' => e = .returned (.bool true) ∧ ∃ q, w' = w.drewN q := by
  have hb : ((n : Int) != (n : Int)) = false := by simp
  have HX := Lib.hid hx
  have HY := Lib.hid hy
  clear hx hy
  go_enter Try.func70, Try.ntmps70
  go_wp2
  go_loopw [5] (fun i wr => ∃ k : Nat, k ≤ n ∧ i = .int .i64 k ∧ ∃ q, wr = w.drewN q) (fun i _ => n - (intOf i).toNat)
  case atStart => exact ⟨0, by omega, rfl, 0, rfl⟩
  case round =>
    obtain ⟨k, hk, rfl, q, rfl⟩ := hrel
    by_cases hlt : k < n
    · obtain ⟨xb, xo, p, rfl, _, hp, c0⟩ := int_at HX.out hlt
      obtain ⟨yb, yo, r, rfl, _, hr, d0⟩ := int_at HY.out hlt
      obtain rfl := Option.some.inj (hp.symm.trans hr)
      have hq : (p != p) = false := by simp
      clear hp hr
      go_wp2
      go_quiet (fail)
      go_wp2
      go_roundw
      case rel => exact ⟨k + 1, by omega, by go_num, _, rfl⟩
      case measure => simp [intOf]; omega
    · go_wp2
      go_ret
      exact ⟨rfl, _, rfl⟩

theorem runb_err (l : List Rk) (hfits : ∀ r ∈ l, r.Fits) (A : Option Addr) (n c : Nat) (B : Option Addr) (m cb : Nat) (xs : List Int) (w : World) (hx : Reads w w.heap.size 5 A n (rkCells l)) (hn : n ≤ 100000) (hy : Reads w w.heap.size 1 B m (xs.map (.int .i64))) (hm : m ≤ 1000000) (h0 : openErr l = 0) (ps : List ByteArray) (hp : ptsOf l = some ps) (hps : ps.length ≤ 1000000) (E : Int) (hE : forcesErr ps.length xs = E) (hE0 : E ≠ 0) :
    Calls Try.prog 69 #[.slice A n c, .slice B m cb] w fun e w' => e = .returned (.tuple #[.slice none 0 0, .int .i64 E]) ∧ Below w.heap.size w w' := by
  have hxl : xs.length = m := by have := hy.1; simpa using this
  have H0 := Lib.hid h0
  have HP := Lib.hid hp
  by_cases hmn : ps.length = m
  rotate_left
  · have e : E = 10 := by rw [← hE]; unfold forcesErr; rw [if_pos (by omega)]
    subst e
    have hne : ((m : Int) != (ps.length : Int)) = true := bne_iff_ne.2 (by omega)
    clear hmn hp h0 hE
    go_enter Try.func69, Try.ntmps69
    have R0_0 := Lib.hid hx
    clear hx
    go_wp2_with fail
    refine (rpoints_any l hfits A n c _ _ R0_0.out (Nat.le_refl _) hn H0.out ps HP.out hps).mono ?_
    rintro e w1 ⟨hb, A1, c1, rfl, -⟩
    have HB1 := Lib.hid (show Below w.heap.size w w1 from step_below hb (by repeat' (first | exact Below.refl _ _ | exact HB0.out | refine below_drewN ?_ _ | refine Below.drew ?_ | refine Below.alloc ?_ (by first | omega | (simp; done) | (simp; omega) | (simp [World.setCell]; omega)) _ | refine Below.setCell ?_ (by first | omega | (simp; done) | (simp; omega)) _ | assumption)))
    have hL1 := Lib.hid (show Below w.heap.size w _ from reads_mid hb (by repeat' (first | exact Below.refl _ _ | refine below_drewN ?_ _ | refine Below.drew ?_ | refine Below.alloc ?_ (by first | omega | (simp; done) | (simp; omega) | (simp [World.setCell]; omega)) _ | refine Below.setCell ?_ (by first | omega | (simp; done) | (simp; omega)) _)))
    have R0_1 := Lib.hid (reads_lay hb hL1.out R0_0.out)
    clear hL1 R0_0
    have hz1 := hb.size
    try simp only [World.size_alloc, World.drewN, World.drew] at hz1
    clear hb
    go_wp2
    go_ret2
    refine ⟨rfl, ?_⟩
    repeat' (first | exact Below.refl _ _ | exact HB1.out | refine below_drewN ?_ _ | refine Below.drew ?_ | refine Below.alloc ?_ (by first | omega | (simp; done) | (simp; omega) | (simp [World.setCell]; omega)) _ | refine Below.setCell ?_ (by first | omega | (simp; done) | (simp; omega)) _ | assumption)
  · have hany : xs.any (fun z => !(withinB z 0 1000000)) = true := by
      cases ha : xs.any (fun z => !(withinB z 0 1000000)) with
      | true => rfl
      | false =>
        unfold forcesErr at hE
        rw [if_neg (by omega), ha, if_neg (by simp)] at hE
        exact absurd hE.symm hE0
    have e : E = 2 := by rw [← hE]; unfold forcesErr; rw [if_neg (by omega), hany]; rfl
    subst e
    have hne : ((m : Int) != (ps.length : Int)) = false := by rw [hmn]; simp
    have HANY := Lib.hid hany
    have HXL := Lib.hid hxl
    clear hmn hp h0 hE hany hxl
    go_enter Try.func69, Try.ntmps69
    have R0_0 := Lib.hid hx
    clear hx
    have R1_0 := Lib.hid hy
    clear hy
    go_wp2_with fail
    refine (rpoints_any l hfits A n c _ _ R0_0.out (Nat.le_refl _) hn H0.out ps HP.out hps).mono ?_
    rintro e w1 ⟨hb, A1, c1, rfl, -⟩
    have HB1 := Lib.hid (show Below w.heap.size w w1 from step_below hb (by repeat' (first | exact Below.refl _ _ | exact HB0.out | refine below_drewN ?_ _ | refine Below.drew ?_ | refine Below.alloc ?_ (by first | omega | (simp; done) | (simp; omega) | (simp [World.setCell]; omega)) _ | refine Below.setCell ?_ (by first | omega | (simp; done) | (simp; omega)) _ | assumption)))
    have hL1 := Lib.hid (show Below w.heap.size w _ from reads_mid hb (by repeat' (first | exact Below.refl _ _ | refine below_drewN ?_ _ | refine Below.drew ?_ | refine Below.alloc ?_ (by first | omega | (simp; done) | (simp; omega) | (simp [World.setCell]; omega)) _ | refine Below.setCell ?_ (by first | omega | (simp; done) | (simp; omega)) _)))
    have R0_1 := Lib.hid (reads_lay hb hL1.out R0_0.out)
    have R1_1 := Lib.hid (reads_lay hb hL1.out R1_0.out)
    clear hL1 R0_0 R1_0
    have hz1 := hb.size
    try simp only [World.size_alloc, World.drewN, World.drew] at hz1
    clear hb
    go_wp2
    go_loop [6] (fun i => ∃ k : Nat, k ≤ m ∧ i = .int .i64 k ∧ (xs.take k).any (fun z => !(withinB z 0 1000000)) = false) (fun i => m - (intOf i).toNat)
    case atStart => exact ⟨0, by omega, rfl, by simp⟩
    case round =>
      obtain ⟨k, hk, rfl, ht⟩ := hrel
      have HT := Lib.hid ht
      clear ht
      by_cases hlt : k < m
      · obtain ⟨yb, yo, z, rfl, hyb, hz, d0⟩ := int_at R1_1.out hlt
        have HZ := Lib.hid hz
        obtain ⟨t, htz⟩ : ∃ t, withinB z 0 1000000 = t := ⟨_, rfl⟩
        have HTZ := Lib.hid htz
        clear hz htz
        go_wp2_with fail
        refine (withinref_is _ _ _ t HTZ.out _).mono ?_
        rintro e w' ⟨rfl, rfl⟩
        cases t
        · go_wp2
          go_ret2
          refine ⟨rfl, ?_⟩
          repeat' (first | exact Below.refl _ _ | exact HB1.out | refine below_drewN ?_ _ | refine Below.drew ?_ | refine Below.alloc ?_ (by first | omega | (simp; done) | (simp; omega) | (simp [World.setCell]; omega)) _ | refine Below.setCell ?_ (by first | omega | (simp; done) | (simp; omega)) _ | assumption)
        · go_wp2
          go_round
          case rel => exact ⟨k + 1, by omega, by go_num, any_take HZ.out HT.out (by rw [HTZ.out]; rfl)⟩
          case measure => simp [intOf]; omega
      · exfalso
        have := HT.out
        rw [List.take_of_length_le (by rw [HXL.out]; omega), HANY.out] at this
        cases this

set_option maxRecDepth 100000 in
set_option maxHeartbeats 2000000 in
theorem runb_ok (l : List Rk) (hfits : ∀ r ∈ l, r.Fits) (A : Option Addr) (n c : Nat) (B : Option Addr) (m cb : Nat) (xs : List Int) (w : World) (hx : Reads w w.heap.size 5 A n (rkCells l)) (hn : n ≤ 1000) (hy : Reads w w.heap.size 1 B m (xs.map (.int .i64))) (hm : m ≤ 1000000) (h0 : openErr l = 0) (ps : List ByteArray) (hp : ptsOf l = some ps) (hps : ps.length ≤ 1000000) (hbl : ∀ s, (below_ l s).length ≤ 1000000) (hE : forcesErr ps.length xs = 0) :
    Calls Try.prog 69 #[.slice A n c, .slice B m cb] w (IntsPost (unbTo l (sidesOf l ps xs) n) w) := by
  obtain ⟨i0, hi0, hz0, hz1, hz2⟩ := info_parts info_int
  have hxl : xs.length = m := by have := hy.1; simpa using this
  have hln := hx.len5
  have hmn : ps.length = m := by
    unfold forcesErr at hE
    by_cases h : xs.length ≠ ps.length
    · rw [if_pos h] at hE; cases hE
    · omega
  have hany : xs.any (fun z => !(withinB z 0 1000000)) = false := by
    unfold forcesErr at hE
    rw [if_neg (by omega)] at hE
    cases ha : xs.any (fun z => !(withinB z 0 1000000)) with
    | false => rfl
    | true => rw [ha] at hE; cases hE
  have hxs : ∀ z ∈ xs, 0 ≤ z ∧ z ≤ 1000000 := fun z hz => by
    have := List.any_eq_false.1 hany z hz
    have h2 : withinB z 0 1000000 = true := by simpa using this
    exact (withinB_iff _ _ _).1 h2
  have hsubs : ∀ (i : Nat) (r : Rk), l[i]? = some r → ∀ s, r.left = s ∨ r.right = s → ∀ x ∈ below_ l s, x ∈ ps := fun i r hr s hs x hx => by
    rw [← points_below h0 hp]
    exact below_side h0 hr hs x hx
  have harms := arms_of h0
  have H0 := Lib.hid h0
  have HP := Lib.hid hp
  have HMN := Lib.hid hmn
  have HSUBS := Lib.hid hsubs
  have HI0 := Lib.hid hi0
  have HZ0 := Lib.hid hz0
  have HZ1 := Lib.hid hz1
  have HZ2 := Lib.hid hz2
  have HLN := Lib.hid hln
  have hne : ((m : Int) != (ps.length : Int)) = false := by rw [hmn]; simp
  have HXL := Lib.hid hxl
  clear hp h0 hE hany hmn hi0 hz0 hz1 hz2 hxl hln hsubs
  go_enter Try.func69, Try.ntmps69
  have R0_0 := Lib.hid hx
  clear hx
  have R1_0 := Lib.hid hy
  clear hy
  go_wp2_with fail
  refine (rpoints_any l hfits A n c _ _ R0_0.out (Nat.le_refl _) (by omega) H0.out ps HP.out hps).mono ?_
  rintro e w1 ⟨hb, A1, c1, rfl, -⟩
  have HB1 := Lib.hid (show Below w.heap.size w w1 from step_below hb (by repeat' (first | exact Below.refl _ _ | exact HB0.out | refine below_drewN ?_ _ | refine Below.drew ?_ | refine Below.alloc ?_ (by first | omega | (simp; done) | (simp; omega) | (simp [World.setCell]; omega)) _ | refine Below.setCell ?_ (by first | omega | (simp; done) | (simp; omega)) _ | assumption)))
  have hL1 := Lib.hid (show Below w.heap.size w _ from reads_mid hb (by repeat' (first | exact Below.refl _ _ | refine below_drewN ?_ _ | refine Below.drew ?_ | refine Below.alloc ?_ (by first | omega | (simp; done) | (simp; omega) | (simp [World.setCell]; omega)) _ | refine Below.setCell ?_ (by first | omega | (simp; done) | (simp; omega)) _)))
  have R0_1 := Lib.hid (reads_lay hb hL1.out R0_0.out)
  have R1_1 := Lib.hid (reads_lay hb hL1.out R1_0.out)
  clear hL1 R0_0 R1_0
  have hz1 := hb.size
  try simp only [World.size_alloc, World.drewN, World.drew] at hz1
  clear hb
  go_wp2
  go_loop [6] (fun i => ∃ k : Nat, k ≤ m ∧ i = .int .i64 k) (fun i => m - (intOf i).toNat)
  case atStart => exact ⟨0, by omega, rfl⟩
  case round =>
    obtain ⟨k, hk, rfl⟩ := hrel
    by_cases hlt : k < m
    · obtain ⟨yb, yo, z, rfl, hyb, hz, d0⟩ := int_at R1_1.out hlt
      have hzb := hxs z (List.mem_of_getElem? hz)
      have htz : withinB z 0 1000000 = true := (withinB_iff _ _ _).2 hzb
      have HTZ := Lib.hid htz
      clear hz htz
      go_wp2_with fail
      refine (withinref_is _ _ _ true HTZ.out _).mono ?_
      rintro e w' ⟨rfl, rfl⟩
      go_wp2
      go_round
      case rel => exact ⟨k + 1, by omega, by go_num⟩
      case measure => simp [intOf]; omega
    have hb1s := HB1.out.size
    go_wp2
    go_loopw [7, 8] (fun o i wr => ∃ k : Nat, k ≤ n ∧ i = .int .i64 k ∧ Below w1.heap.size w1 wr ∧ wr.ownsRow w1.heap.size 3 1 o (unbTo l (sidesOf l ps xs) k).length ((unbTo l (sidesOf l ps xs) k).map (.int .i64))) (fun _ i _ => n - (intOf i).toNat)
    case atStart => exact ⟨0, by omega, rfl, Below.refl _ _, World.ownsRow_nil _ _ _ _⟩
    case round =>
      obtain ⟨k, hk, rfl, hb, ho⟩ := hrel
      have HO := Lib.hid ho
      have HBR := Lib.hid hb
      clear ho hb
      have hbr := HBR.out.size
      by_cases hlt : k < n
      · obtain ⟨zb, zo, r, rfl, hzb, hr, -, c1', c2', c3', c4'⟩ := R0_1.out.rk hlt
        have hp : (sidesOf l ps xs)[k]? = some (underI l ps xs r.left, underI l ps xs r.right) := by
          unfold sidesOf; rw [List.getElem?_map, hr]; rfl
        have HU := Lib.hid (unbB_at hr hp)
        have HSU := Lib.hid (unbTo_succ l (sidesOf l ps xs) k)
        have hle := unbTo_le l (sidesOf l ps xs) k
        obtain ⟨a1, a2, a3, a4⟩ := harms r (List.mem_of_getElem? hr)
        have hs1 := sumF_bound (g := loadOf ps xs) (b := 1000000) (below_ l r.left) (fun s _ => loadOf_bound (by omega) hxs s)
        have hs2 := sumF_bound (g := loadOf ps xs) (b := 1000000) (below_ l r.right) (fun s _ => loadOf_bound (by omega) hxs s)
        have hs3 := hbl r.left
        have hs4 := hbl r.right
        have HSL := Lib.hid (HSUBS.out k r hr r.left (.inl rfl))
        have HSR := Lib.hid (HSUBS.out k r hr r.right (.inr rfl))
        obtain ⟨p1, hp1⟩ : ∃ z, underI l ps xs r.left = z := ⟨_, rfl⟩
        obtain ⟨p2, hp2⟩ : ∃ z, underI l ps xs r.right = z := ⟨_, rfl⟩
        have hu1 := hp1
        have hu2 := hp2
        unfold underI at hu1 hu2
        rw [hu1] at hs1
        rw [hu2] at hs2
        simp only [hp1, hp2] at HU
        have HP1 := Lib.hid hp1
        have HP2 := Lib.hid hp2
        have b1 : 0 ≤ p1 ∧ p1 ≤ 1000000000000 := by omega
        have b2 : 0 ≤ p2 ∧ p2 ≤ 1000000000000 := by omega
        have m1 : 0 ≤ r.al * p1 := Int.mul_nonneg (by omega) b1.1
        have m2 : r.al * p1 ≤ 10000 * 1000000000000 := Int.mul_le_mul a2 b1.2 b1.1 (by omega)
        have m3 : 0 ≤ r.ar * p2 := Int.mul_nonneg (by omega) b2.1
        have m4 : r.ar * p2 ≤ 10000 * 1000000000000 := Int.mul_le_mul a4 b2.2 b2.1 (by omega)
        have q1 : IntKind.i64.wrap (r.al * p1) = r.al * p1 := IntWalk.i64_in _ ⟨by omega, by omega⟩
        have q2 : IntKind.i64.wrap (r.ar * p2) = r.ar * p2 := IntWalk.i64_in _ ⟨by omega, by omega⟩
        have f1 := (HBR.out.cell (p := ⟨zb, zo + k * 5 + 1, none⟩) hzb).trans c1'
        have f2 := (HBR.out.cell (p := ⟨zb, zo + k * 5 + 2, none⟩) hzb).trans c2'
        have f3 := (HBR.out.cell (p := ⟨zb, zo + k * 5 + 3, none⟩) hzb).trans c3'
        have f4 := (HBR.out.cell (p := ⟨zb, zo + k * 5 + 4, none⟩) hzb).trans c4'
        have hzr : zb < wr.heap.size := by omega
        have HXR := Lib.hid ((R0_1.out.below HBR.out).more hbr)
        have HYR := Lib.hid ((R1_1.out.below HBR.out).more hbr)
        clear hr hp hp1 hp2 hu1 hu2 c1' c2' c3' c4' hs1 hs2
        obtain ⟨bq, hq⟩ : ∃ b, (r.al * p1 != r.ar * p2) = b := ⟨_, rfl⟩
        go_wp2
        cases bq
        all_goals
          refine Fx.regionW (fun W f w' => Below W.heap.size W w') (by kernel_rfl) (by kernel_rfl) ?_ ?_
          · intro f hf0
            exact below_drewN (Below.refl _ _) 1
          repeat (first
            | (refine Fx.skip_ (by rfl) (fun f w h => h) ?_; simp only [Act.put, List.setIfInBounds_toArray, List.set_cons_zero, List.set_cons_succ])
            | (refine Fx.val_ ?_ (by rfl) ?_ (fun f w h => h) ?_
               rotate_left
               · intro f w' hD hk
                 have hb := hD
                 have g1 := (hb.cell (p := ⟨zb, zo + k * 5 + 1, none⟩) hzr).trans f1
                 have g2 := (hb.cell (p := ⟨zb, zo + k * 5 + 2, none⟩) hzr).trans f2
                 have g3 := (hb.cell (p := ⟨zb, zo + k * 5 + 3, none⟩) hzr).trans f3
                 have g4 := (hb.cell (p := ⟨zb, zo + k * 5 + 4, none⟩) hzr).trans f4
                 clear hk hD hb
                 go_simp
                 try rfl
               simp only [Act.put, List.setIfInBounds_toArray, List.set_cons_zero, List.set_cons_succ]))
          refine Fx.call_ (.int .i64 p1) ?_ ?_ (by rfl) ?_ ?_ ?_
          rotate_left 2
          · intro w'
            go_simp
            refine ⟨?_, ?_⟩ <;> rfl
          · intro f w' hD hk
            exact (under_is l hfits _ n c B m cb xs r.left p1 _ ps HP1.out ((HXR.out.below hD).more hD.size) (by omega) ((HYR.out.below hD).more hD.size) H0.out HP.out hps HMN.out hxs hs3 HSL.out).mono fun e w'' ⟨he, hw⟩ => ⟨he, step_below hw hD⟩
          simp only [Act.put, List.setIfInBounds_toArray, List.set_cons_zero, List.set_cons_succ]
          repeat (first
            | (refine Fx.skip_ (by rfl) (fun f w h => h) ?_; simp only [Act.put, List.setIfInBounds_toArray, List.set_cons_zero, List.set_cons_succ])
            | (refine Fx.val_ ?_ (by rfl) ?_ (fun f w h => h) ?_
               rotate_left
               · intro f w' hD hk
                 have hb := hD
                 have g1 := (hb.cell (p := ⟨zb, zo + k * 5 + 1, none⟩) hzr).trans f1
                 have g2 := (hb.cell (p := ⟨zb, zo + k * 5 + 2, none⟩) hzr).trans f2
                 have g3 := (hb.cell (p := ⟨zb, zo + k * 5 + 3, none⟩) hzr).trans f3
                 have g4 := (hb.cell (p := ⟨zb, zo + k * 5 + 4, none⟩) hzr).trans f4
                 clear hk hD hb
                 go_simp
                 try rfl
               simp only [Act.put, List.setIfInBounds_toArray, List.set_cons_zero, List.set_cons_succ]))
          refine Fx.call_ (.int .i64 p2) ?_ ?_ (by rfl) ?_ ?_ ?_
          rotate_left 2
          · intro w'
            go_simp
            refine ⟨?_, ?_⟩ <;> rfl
          · intro f w' hD hk
            exact (under_is l hfits _ n c B m cb xs r.right p2 _ ps HP2.out ((HXR.out.below hD).more hD.size) (by omega) ((HYR.out.below hD).more hD.size) H0.out HP.out hps HMN.out hxs hs4 HSR.out).mono fun e w'' ⟨he, hw⟩ => ⟨he, step_below hw hD⟩
          simp only [Act.put, List.setIfInBounds_toArray, List.set_cons_zero, List.set_cons_succ]
          repeat (first
            | (refine Fx.skip_ (by rfl) (fun f w h => h) ?_; simp only [Act.put, List.setIfInBounds_toArray, List.set_cons_zero, List.set_cons_succ])
            | (refine Fx.val_ ?_ (by rfl) ?_ (fun f w h => h) ?_
               rotate_left
               · intro f w' hD hk
                 have hb := hD
                 have g1 := (hb.cell (p := ⟨zb, zo + k * 5 + 1, none⟩) hzr).trans f1
                 have g2 := (hb.cell (p := ⟨zb, zo + k * 5 + 2, none⟩) hzr).trans f2
                 have g3 := (hb.cell (p := ⟨zb, zo + k * 5 + 3, none⟩) hzr).trans f3
                 have g4 := (hb.cell (p := ⟨zb, zo + k * 5 + 4, none⟩) hzr).trans f4
                 clear hk hD hb
                 go_simp
                 try rfl
               simp only [Act.put, List.setIfInBounds_toArray, List.set_cons_zero, List.set_cons_succ]))
          refine Fx.nil_ ?_
          intro f w5 hall hb5
          clear hall q1 q2
          have HB5 := Lib.hid (HBR.out.trans (hb5.mono hbr))
          have HOX := Lib.hid (own_below HO.out hb5 (Nat.le_refl _))
          have hb5s := HB5.out.size
          clear hb5
        · have HE : Hid (unbTo l (sidesOf l ps xs) (k + 1) = unbTo l (sidesOf l ps xs) k) := by show _ = _; rw [HSU.out, HU.out, hq]; simp
          go_wp2
          go_roundw
          case rel => exact ⟨k + 1, by omega, by go_num, HB5.out, by rw [HE.out]; exact HOX.out⟩
          case measure => simp [intOf]; omega
        · have HE : Hid (unbTo l (sidesOf l ps xs) (k + 1) = unbTo l (sidesOf l ps xs) k ++ [(k : Int)]) := by show _ = _; rw [HSU.out, HU.out, hq]; simp
          obtain ⟨W, hW⟩ : ∃ W, W = w5.alloc (.cells #[.int .i64 (k : Int)] 3) := ⟨_, rfl⟩
          have ho1 : W.ownsRow w1.heap.size 3 1 u7 (unbTo l (sidesOf l ps xs) k).length ((unbTo l (sidesOf l ps xs) k).map (.int .i64)) := by rw [hW]; exact HOX.out.alloc _
          have hnb : Blk W w5.heap.size 3 #[.int .i64 (k : Int)] := by rw [hW]; exact Blk.new _ _ _
          have hsz : W.heap.size = w5.heap.size + 1 := by rw [hW]; simp
          obtain ⟨v', W2, hrun, o2', hg2, hrow⟩ := run_append_any (P := Try.prog) W w1.heap.size 62 62 3 i0 _ 1 8 Try.underlying62 HI0.out HZ0.out HZ1.out HZ2.out rfl (by omega) u7 (unbTo l (sidesOf l ps xs) k).length _ ho1 W.heap.size (some ⟨w5.heap.size, 0, none⟩) 1 1 [.int .i64 (k : Int)] (Blk.reads hnb rfl) (by simp [Value.oneCell']) (by unfold maxLen; omega) (by omega) (by omega)
          rw [hW] at hrun
          have HRUN := Lib.hid hrun
          have hb2 : Below w1.heap.size w1 W2 := (show Below w1.heap.size w1 W by rw [hW]; exact HB5.out.alloc (by omega) _).grown hg2 (by omega) (fun g hg => (own_lt ho1 hg).1)
          have HB2' := Lib.hid hb2
          have HO2 : Hid (W2.ownsRow w1.heap.size 3 1 v' (unbTo l (sidesOf l ps xs) (k + 1)).length ((unbTo l (sidesOf l ps xs) (k + 1)).map (.int .i64))) := by
            show World.ownsRow _ _ _ _ _ _ _
            rw [HE.out, List.length_append, List.map_append]
            exact o2'
          clear hrun hg2 hrow hnb ho1 hW hsz hb2 o2'
          go_wp2_with (first | (at_builtin; refine wpList_app _ W2 v' rfl _ _ _ rfl _ _ rfl rfl HRUN.out ?_))
          go_roundw
          case rel => exact ⟨k + 1, by omega, by go_num, HB2'.out, HO2.out⟩
          case measure => simp [intOf]; omega
      · have hkn : k = n := by omega
        rw [hkn] at HO
        clear hkn
        obtain ⟨A3, c3, rfl, hr3⟩ := own_reads HO.out
        have HRR := Lib.hid hr3
        have HBE := Lib.hid (HB1.out.trans (HBR.out.mono hb1s))
        clear hr3
        go_wp2
        go_ret2
        exact ⟨HBE.out, A3, c3, rfl, HRR.out⟩

end Go.Proofs.Ytmioamcgbihhjaa

end
